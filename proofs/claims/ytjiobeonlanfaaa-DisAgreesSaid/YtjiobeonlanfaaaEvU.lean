import Derived.Test.YtjiobeonlanfaaaEvT
namespace Go.Ev
set_option linter.unusedSimpArgs false
set_option linter.unusedVariables false
open Go.RowKit

variable {P : Program} {ty : TypeId → Option Ty} {c : Cx} {B : Nat} {w0 : World} {h : Hp}

theorem load_cells (hty : ∀ t y, ty t = some y → TyOk P t y) {ad : Addr} {cs : List V} {cv : Nat → Value} (hc : ∀ j, j < cs.length → c.w.cell? (ad.add j) = some (cv j))
    (hr : ∀ (j : Nat) d, cs[j]? = some d → R c (cv j) d) {t : TypeId} {off : Nat} {d : V} (hp : partV ty t cs off = some d) : ∃ v, (loadVar t (ad.add off)).run P c.w = .ok v c.w ∧ R c v d := by
  unfold partV at hp
  split at hp
  · rename_i y hy
    have T := hty t y hy
    unfold loadVar
    rw [Sem.run_bind, T.agg c.w]
    simp only [Result.andThen_ok]
    cases ha : y.isAgg with
    | true =>
      simp only [ha] at hp
      split at hp
      · rename_i hb
        have hb := nble hb
        cases hp
        have hl := run_loadCells (P := P) c.w (ad.add off) y.size (fun j => cv (off + j)) (fun j hj => by rw [add_add]; exact hc _ (by omega))
        refine ⟨.agg (List.map (fun j => cv (off + j)) (List.range y.size)).toArray, by simp only [if_true, Sem.run_bind, T.sizeOf c.w, Result.andThen_ok, hl, Sem.run_pure], .agg _ _ (by simp; omega) (fun j v d hv hd => ?_)⟩
        have hj : j < y.size := by
          have := (List.getElem?_eq_some_iff.1 hd).1
          simp at this; omega
        simp [hj] at hv
        rw [List.getElem?_take_of_lt hj, List.getElem?_drop] at hd
        subst hv
        exact hr _ d hd
      · cases hp
    | false =>
      simp only [ha, nthL_eq] at hp
      have hlt := (List.getElem?_eq_some_iff.1 hp).1
      exact ⟨cv off, by simp [hc off hlt], hr off d hp⟩
  · cases hp

theorem load_ok (hty : ∀ t y, ty t = some y → TyOk P t y) (hm : HM B w0 c h) {t : TypeId} {x : V} {v : Value} (hv : R c v x) {p : Rq} {d : V} (hl : loadV ty t h x = some (p, d)) (hp : p.holds) :
    ∃ u, (Instr.loadAt t v).run P c.w = .ok u c.w ∧ R c u d := by
  unfold loadV at hl
  split at hl
  · rename_i id off
    obtain ⟨b, rfl, hρ⟩ := hv.ptrI
    split at hl
    · rename_i cs ho
      split at hl
      · rename_i d' hd
        obtain ⟨rfl, rfl⟩ := ok_inj hl
        obtain ⟨b', arr, T, hρ', hg, hs, hal, hr⟩ := hm.ob id _ ho
        rw [hρ] at hρ'
        cases hρ'
        obtain ⟨u, hu, hR⟩ := load_cells (P := P) hty (ad := ⟨b, 0, none⟩) (cs := cs) (cv := fun j => arr[j]?.getD undef) (fun j hj => by
          rw [add_lit, Nat.zero_add, cell_of_row c.w b j arr T (0, 0) hg]
          simp [show j < arr.size by omega]) (fun j d hd => by
          have hj := (List.getElem?_eq_some_iff.1 hd).1
          exact hr j _ d (by simp [show j < arr.size by omega]) hd) hd
        refine ⟨u, ?_, hR⟩
        rw [add_lit, Nat.zero_add] at hu
        simp [Instr.loadAt, Instr.sureAddr, hu]
      · cases hl
    · cases hl
  · rename_i id sz i k
    obtain ⟨b, cap, rfl, hρ⟩ := hv.eptrI
    split at hl
    · rename_i E sz' L g ho
      split at hl
      · rename_i d' hs hd
        have hs := nbeq hs
        subst hs
        obtain ⟨rfl, rfl⟩ := ok_inj hl
        obtain ⟨a, cap', hρ', h1, h2, h3, h4⟩ := hm.ob id _ ho
        rw [hρ] at hρ'
        cases hρ'
        have hi : i < L := hp
        rcases h4 with ⟨h4, _⟩ | ⟨b', arr, hb, hg, hsz, hk⟩
        · cases h4
        · cases hb
          have hk' := hk i hi
          obtain ⟨u, hu, hR⟩ := load_cells (P := P) hty (ad := ⟨b, i * sz, none⟩) (cs := g i) (cv := fun j => arr[i * sz + j]?.getD undef) (fun j hj => by
            have hj' := hj
            rw [h3 i hi] at hj'
            obtain ⟨v, x, _⟩ := hk' j ((g i)[j]) (by simp)
            rw [add_lit, cell_of_row c.w b _ arr E (0, 0) hg, x]
            rfl) (fun j d hd => by
            obtain ⟨v, x, y, _⟩ := hk' j d hd
            rw [x]
            exact .pure y) hd
          refine ⟨u, ?_, hR⟩
          rw [add_lit] at hu
          simp [Instr.loadAt, Instr.sureAddr, hu]
      · cases hl
    · cases hl
  · rename_i cs
    obtain ⟨ad, cv, rfl, hc, hr⟩ := hv.iptrI
    split at hl
    · rename_i d' hd
      obtain ⟨rfl, rfl⟩ := ok_inj hl
      obtain ⟨u, hu, hR⟩ := load_cells (P := P) hty (ad := ad) (cs := cs) (cv := cv) (fun j hj => (hc j hj).2.1) (fun j d hd => .pure (hr j d hd)) hd
      refine ⟨u, ?_, hR⟩
      have : ad.add 0 = ad := by simp [Addr.add]
      rw [this] at hu
      simp [Instr.loadAt, Instr.sureAddr, hu]
    · cases hl
  · cases hl

/-- a slice's elements in memory -/
structure CV (c : Cx) (v : Value) (sz n : Nat) (g : Nat → List V) : Prop where
  len : ∀ i, i < n → (g i).length = sz
  isS : ∃ a cap, v = .slice a n cap ∧ n ≤ cap ∧ (a = none → n = 0) ∧ ∀ ad, a = some ad → ∀ i, i < n → ∀ (j : Nat) d, (g i)[j]? = some d →
    ∃ x, c.w.cell? (ad.add (i * sz + j)) = some x ∧ RP c.F c.w x d ∧ x.oneCell' = true
theorem cont_ok (hm : HM B w0 c h) {sz0 : Nat} {x : V} {v : Value} (hv : R c v x) {p : Rq} {n : Nat} {g : Nat → List V} (hc : contV h sz0 x = some (p, n, g)) (hp : p.holds) :
    (∃ s, x = .str s ∧ v = .string s ∧ sz0 = 1 ∧ n = s.size ∧ g = strG s) ∨ CV c v sz0 n g := by
  unfold contV at hc
  split at hc
  · simp only [Option.some.injEq, Prod.mk.injEq] at hc
    obtain ⟨rfl, rfl, rfl⟩ := hc
    have := hv.nslI; subst this
    exact .inr ⟨fun i hi => absurd hi (by omega), none, 0, rfl, Nat.le_refl _, fun _ => rfl, fun ad ha => by cases ha⟩
  · rename_i n' sz g'
    split at hc
    · rename_i hs
      have hs := nbeq hs
      subst hs
      simp only [Option.some.injEq, Prod.mk.injEq] at hc
      obtain ⟨rfl, rfl, rfl⟩ := hc
      obtain ⟨a, cap, cv, rfl, q1, q2, q3, ql, qc, qr⟩ := hv.immI
      refine .inr ⟨ql, a, cap, rfl, q1, q3, fun ad ha i hi j d hd => ?_⟩
      have hj : j < sz := by have := (List.getElem?_eq_some_iff.1 hd).1; rw [ql i hi] at this; exact this
      obtain ⟨f1, f2, f3⟩ := qc ad ha i hi j hj
      exact ⟨_, f2, qr i hi j d hd, f3⟩
    · cases hc
  · rename_i id sz off n'
    split at hc
    · rename_i E sz' L g' ho
      split at hc
      · rename_i hs
        simp only [andB_eq, Bool.and_eq_true] at hs
        have h1 := nbeq hs.1
        have h2 := nbeq hs.2
        subst h1; subst h2
        simp only [Option.some.injEq, Prod.mk.injEq] at hc
        obtain ⟨rfl, rfl, rfl⟩ := hc
        have hp : off + n' ≤ L := hp
        obtain ⟨a, cap, hρ, a', rfl, q1, q2, q3, q4⟩ := hv.ownI
        obtain ⟨a1, cap1, hρ', e1, e2, e3, e4⟩ := hm.ob id _ ho
        rw [hρ] at hρ'
        cases hρ'
        refine .inr ⟨fun i hi => e3 _ (by omega), a', cap - off, rfl, by omega, q4, fun ad ha i hi j d hd => ?_⟩
        obtain ⟨b, rfl, hb⟩ := q2 (by omega)
        rw [ha] at hb
        cases hb
        rcases e4 with ⟨e4, _⟩ | ⟨b', arr, hb, hg, hsz, hk⟩
        · cases e4
        · cases hb
          obtain ⟨v, x, y, z⟩ := hk (i + off) (by omega) j d hd
          refine ⟨v, ?_, y, z⟩
          rw [add_lit, cell_of_row c.w b _ arr E (0, 0) hg, ← x]
          congr 1
          rw [Nat.add_mul]; omega
      · cases hc
    · cases hc
  · rename_i id sz co n'
    split at hc
    · rename_i cs ho
      split at hc
      · rename_i hs
        simp only [andB_eq, Bool.and_eq_true] at hs
        have h1 := nbeq hs.1
        subst h1
        simp only [Option.some.injEq, Prod.mk.injEq] at hc
        obtain ⟨rfl, rfl, rfl⟩ := hc
        have hp : co + n' * sz ≤ cs.length := hp
        obtain ⟨b, a', cap', rfl, hρ, q1, q2, q3, q4⟩ := hv.arrI
        obtain ⟨b', arr, T, hρ', hg, hsz, hal, hr⟩ := hm.ob id _ ho
        rw [hρ] at hρ'
        cases hρ'
        have hlen : ∀ i, i < n' → i * sz + sz ≤ n' * sz := fun i hi => by
          have := Nat.mul_le_mul_right sz (show i + 1 ≤ n' by omega)
          rw [Nat.add_mul, Nat.one_mul] at this
          exact this
        refine .inr ⟨fun i hi => ?_, a', cap', rfl, q1, q4, fun ad ha i hi j d hd => ?_⟩
        · have := hlen i hi
          simp [litG]; omega
        · have := hlen i hi
          have e := q3 (by omega)
          rw [ha] at e
          cases e
          have hj : j < sz := by have := (List.getElem?_eq_some_iff.1 hd).1; simp [litG] at this; omega
          simp only [litG] at hd
          rw [List.getElem?_take_of_lt hj, List.getElem?_drop, List.getElem?_drop] at hd
          have hlt : co + (i * sz + j) < arr.size := by omega
          have hpd : pureC d = true := by
            have : ∀ (l : List V), allP l = true → ∀ d ∈ l, pureC d = true := by
              intro l
              induction l with
              | nil => intro _ d hd; cases hd
              | cons x l ih =>
                intro hl d hd
                simp only [allP, andB_eq, Bool.and_eq_true] at hl
                cases hd with
                | head => exact hl.1
                | tail _ hd => exact ih hl.2 d hd
            exact this cs hs.2 d (List.mem_of_getElem? hd)
          have hR := hr (co + (i * sz + j)) arr[co + (i * sz + j)] d (by simp [hlt]) hd
          refine ⟨_, ?_, hR.toRP hpd, hR.one (pureC_cellB hpd)⟩
          rw [add_lit, cell_of_row c.w b _ arr T (0, 0) hg]
          simp [hlt]
      · cases hc
    · cases hc
  · rename_i s
    split at hc
    · simp only [Option.some.injEq, Prod.mk.injEq] at hc
      obtain ⟨rfl, rfl, rfl⟩ := hc
      exact .inl ⟨s, rfl, hv.strI, rfl, rfl, rfl⟩
    · cases hc
  · cases hc

theorem foldl_push : ∀ (l : List Int) (acc : ByteArray), l.foldl (fun r n => r.push (UInt8.ofNat n.toNat)) acc = ⟨acc.data ++ (l.map fun n => UInt8.ofNat n.toNat).toArray⟩
  | [], acc => by simp
  | n :: l, acc => by
    simp only [List.foldl_cons, foldl_push l]
    simp [ByteArray.push]
theorem str_ok2 (hty : ∀ t y, ty t = some y → TyOk P t y) {s u : TypeId} {S D z : Ty} (hS : ty s = some S) (hD : ty u = some D) {e : TypeId} (hk : S.kind = .slice e) (hk2 : D.kind = .str) (hz : ty e = some z) (hzk : z.kind = .int .u8)
    {v : Value} {n : Nat} {g : Nat → List V} (hcv : CV c v 1 n g) (hb : bytesG n g) : (convert s u v).run P c.w = .ok (.string (strOf n g)) c.w := by
  obtain ⟨a, cap, rfl, h1, h3, hx⟩ := hcv.isS
  have hs := (hty _ _ hS).slice hk
  have hd := (hty _ _ hD).str hk2
  have he := (hty _ _ hz).int hzk
  cases a with
  | none =>
    have := h3 rfl
    subst this
    simp [convert, run_underlying hs, run_underlying hd, run_underlying he, Conv.bytesToString, strOf]
    rfl
  | some ad =>
    have key : ∀ i, i < n → ∃ b : Nat, b < 256 ∧ g i = [.int .u8 (b : Int)] ∧ c.w.cell? (ad.add i) = some (.int .u8 (b : Int)) := by
      intro i hi
      obtain ⟨b, hb1, hb2⟩ := hb i hi
      obtain ⟨x, hx1, hx2, _⟩ := hx ad rfl i hi 0 (.int .u8 (b : Int)) (by rw [hb2]; rfl)
      refine ⟨b, hb1, hb2, ?_⟩
      cases hx2
      simpa using hx1
    have hl : (loadCells ad n).run P c.w = .ok (((List.range n).map fun i => byteI (g i)).map (Value.int .u8)).toArray c.w := by
      rw [run_loadCells (P := P) c.w ad n (fun j => .int .u8 (byteI (g j))) (fun j hj => by
        obtain ⟨b, _, h2, h3⟩ := key j hj
        rw [h3, h2]; rfl)]
      simp
    rw [run_convert_bytes_string c.w s u e _ n cap hs he hd, run_bytesToString c.w ad n cap _ hl, foldl_push]
    simp [strOf, ByteArray.empty, ByteArray.emptyWithCapacity]
    rfl

theorem read_ok (hty : ∀ t y, ty t = some y → TyOk P t y) (hm : HM B w0 c h) {e : Operand → Value} {ev : Operand → Option V} (hev : EvR c e ev) (o : Oper) {p : Rq} {d : V}
    (hr : readV ty ev h o.op = some (p, d)) (hp : p.holds) : ∃ v, (execOp e o).run P c.w = .ok (.value v) c.w ∧ R c v d := by
  unfold execOp
  cases ho : o.op with
  | load t x =>
    simp only [ho, readV] at hr
    split at hr
    · rename_i v hx
      obtain ⟨u, hu, hR⟩ := load_ok (P := P) hty hm (hev x _ hx) hr hp
      exact ⟨u, by simp [hu], hR⟩
    · cases hr
  | convert s t x =>
    simp only [ho, readV] at hr
    split at hr
    · cases hr
    · rename_i S D v hn hS hD hx
      split at hr
      · rename_i e' hk hk2
        split at hr
        · rename_i z q n g hz hc
          split at hr
          · rename_i hzk
            obtain ⟨rfl, rfl⟩ := ok_inj hr
            have hp' := (rqA_iff _ _).1 hp
            rcases cont_ok hm (hev x _ hx) hc hp'.1 with ⟨s', rfl, hs', _, _, _⟩ | hcv
            · exact (hn s' rfl).elim
            · exact ⟨_, by simp [str_ok2 hty hS hD hk hk2 hz hzk hcv hp'.2], .mkStr _⟩
          · cases hr
        · cases hr
      · cases hr
    · cases hr
  | slice t x lo hi mx =>
    cases mx with
    | some m => simp [ho, readV] at hr
    | none =>
      simp only [ho, readV] at hr
      split at hr
      · rename_i id sz off n l u hx hl hu
        split at hr
        · rename_i E sz' L g z hob hz
          split at hr
          · rename_i q a b hs hb
            split at hr
            · rename_i k' b' k a' h1 h2
              simp only [andB_eq, Bool.and_eq_true] at hs
              have e1 := nbeq hs.1
              have e2 := nbeq hs.2
              subst e1
              obtain ⟨rfl, rfl⟩ := ok_inj hr
              obtain ⟨r1, r2, r3⟩ := hp
              obtain ⟨aa, cap, hρ, ad, hv, q1, q2, q3, q4⟩ := (hev x _ hx).ownI
              obtain ⟨aa', cap', hρ', f1, f2, f3, f4⟩ := hm.ob id _ hob
              rw [hρ] at hρ'
              cases hρ'
              obtain ⟨y, e', hy, hk, hz'⟩ := elK_spec hz
              have hbd := bounds_core (P := P) hev hl hu h1 h2 r1 r2 (show b' ≤ ((cap - off : Nat) : Int) by omega) true c.w
              have hab : a = a'.toNat ∧ b = b'.toNat := by
                unfold bnds at hb
                rw [h1, h2] at hb
                simp only [Option.some.injEq, Prod.mk.injEq] at hb
                exact ⟨hb.2.1.symm, hb.2.2.symm⟩
              obtain ⟨rfl, rfl⟩ := hab
              refine ⟨.slice (if cap - off = a'.toNat then ad else ad.map (·.add (a'.toNat * z.size))) (b'.toNat - a'.toNat) (cap - off - a'.toNat), ?_, ?_⟩
              · simp [hv, Instr.sliceAt, Instr.slice, run_underlying ((hty _ _ hy).slice hk), hbd, (hty _ _ hz').sizeOf c.w]
              · refine .own id sz _ _ aa cap _ hρ ⟨_, by rw [show cap - off - a'.toNat = cap - (off + a'.toNat) by omega], by omega, fun hlt => ?_, fun h0 => ?_, fun hn => ?_⟩
                · obtain ⟨bb, rfl, rfl⟩ := q2 (by omega)
                  refine ⟨bb, rfl, ?_⟩
                  rw [if_neg (by omega)]
                  simp [add_lit, e2, Nat.add_mul]
                · have hoff : off = 0 := by omega
                  have ha0 : a'.toNat = 0 := by omega
                  rw [ha0]
                  rw [q3 hoff]
                  split
                  · rfl
                  · cases aa <;> simp [Addr.add]
                · by_cases hc : cap - off = a'.toNat
                  · omega
                  · rw [if_neg hc] at hn
                    cases ad with
                    | none => have := q4 rfl; obtain ⟨bb, _, hbb⟩ := q2 (by omega); cases hbb
                    | some ad => cases hn
            · cases hr
          · cases hr
        · cases hr
      · cases hr
  | _ => simp [ho, readV] at hr
end Go.Ev
