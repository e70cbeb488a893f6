import Derived.Test.YtjiobeonlanfaaaEvS
namespace Go.Ev
set_option linter.unusedSimpArgs false
set_option linter.unusedVariables false
open Go.RowKit

variable {P : Program} {ty : TypeId → Option Ty} {c : Cx}

theorem ok_inj {p q : Rq} {a b : V} (h : okS p a = some (q, b)) : p = q ∧ a = b := by
  simpa only [okS, Option.some.injEq, Prod.mk.injEq] using h
theorem byte_at (s : ByteArray) (n : Int) (h0 : 0 ≤ n) (h1 : n < s.size) : (if 0 ≤ n then s[n.toNat]? else none) = some (s.data.toList.getD n.toNat 0) := by
  rw [if_pos h0]
  have hl : n.toNat < s.size := by omega
  have hl' : n.toNat < s.data.size := hl
  rw [getElem?_pos s n.toNat hl]
  simp only [Option.some.injEq]
  rw [List.getD_eq_getElem?_getD, Array.getElem?_toList, Array.getElem?_eq_getElem hl']
  rfl

theorem indexAddr_ok (hty : ∀ t y, ty t = some y → TyOk P t y) {t : TypeId} {x i : Operand} {e : Operand → Value} {ev : Operand → Option V} (hev : EvR c e ev) {p : Rq} {d : V}
    (h : pureV ty ev (.indexAddr t x i) = some (p, d)) (hp : p.holds) : ∃ v, (Instr.indexAt t (e x) (e i)).run P c.w = .ok v c.w ∧ R c v d := by
  simp only [pureV] at h
  split at h
  · rename_i y v k n hy hx hi
    have hn := (hev i _ hi).intI
    have hX := hev x _ hx
    split at h
    · rename_i l el id o hk
      split at h
      · rename_i z hz
        obtain ⟨rfl, rfl⟩ := ok_inj h
        obtain ⟨b, hb, hr⟩ := hX.ptrI
        refine ⟨.pointer (some ⟨b, o + n.toNat * z.size, none⟩), ?_, .ptr _ _ _ hr⟩
        simp [Instr.indexAt, hn, hb, asIntOf, run_underlying ((hty _ _ hy).array hk), Instr.sureAddr, hp.1, hp.2, (hty _ _ hz).sizeOf c.w, add_lit]
      · cases h
    · rename_i el l sz g hk
      split at h
      · rename_i z hz
        split at h
        · rename_i hs
          have hs := nbeq hs
          obtain ⟨rfl, rfl⟩ := ok_inj h
          obtain ⟨a, cap, cv, hv, q1, q2, q3, ql, qc, qr⟩ := hX.immI
          have hlt : n.toNat < l := by have := hp.2; have := hp.1; omega
          cases a with
          | none => have := q3 rfl; omega
          | some ad =>
            refine ⟨.pointer (some (ad.add (n.toNat * z.size))), ?_, .iptr _ _ (fun j => cv n.toNat j) (fun j hj => ?_) (fun j d hd => qr _ hlt j d hd)⟩
            · simp [Instr.indexAt, hn, hv, asIntOf, run_underlying ((hty _ _ hy).slice hk), hp.1, hp.2, (hty _ _ hz).sizeOf c.w]
            · rw [ql _ hlt] at hj
              obtain ⟨f1, f2, f3⟩ := qc ad rfl n.toNat hlt j hj
              exact ⟨by rw [add_block]; exact f1, by rw [add_add, hs]; exact f2, f3⟩
        · cases h
      · cases h
    · rename_i el id sz off l hk
      split at h
      · rename_i z hz
        split at h
        · rename_i hs
          have hs := nbeq hs
          obtain ⟨rfl, rfl⟩ := ok_inj h
          obtain ⟨a, cap, hr, a', hv, q1, q2, q3, q4⟩ := hX.ownI
          have hlt : n.toNat < l := by have := hp.2; have := hp.1; omega
          obtain ⟨b, rfl, rfl⟩ := q2 (by omega)
          refine ⟨.pointer (some ⟨b, (n.toNat + off) * sz + 0, none⟩), ?_, .eptr _ _ _ _ b cap hr⟩
          simp [Instr.indexAt, hn, hv, asIntOf, run_underlying ((hty _ _ hy).slice hk), hp.1, hp.2, (hty _ _ hz).sizeOf c.w, add_lit, hs, Nat.add_mul]
        · cases h
      · cases h
    · rename_i el id sz co l hk
      split at h
      · rename_i z hz
        split at h
        · rename_i hs
          have hs := nbeq hs
          obtain ⟨rfl, rfl⟩ := ok_inj h
          obtain ⟨b, a', cap', hv, hr, q1, q2, q3, q4⟩ := hX.arrI
          have hlt : n.toNat < l := by have := hp.2; have := hp.1; omega
          have := q3 (by omega)
          subst this
          refine ⟨.pointer (some ⟨b, co + n.toNat * sz, none⟩), ?_, .ptr _ _ _ hr⟩
          simp [Instr.indexAt, hn, hv, asIntOf, run_underlying ((hty _ _ hy).slice hk), hp.1, hp.2, (hty _ _ hz).sizeOf c.w, add_lit, hs]
        · cases h
      · cases h
    · cases h
  · cases h

theorem index_ok (hty : ∀ t y, ty t = some y → TyOk P t y) {t : TypeId} {x i : Operand} {e : Operand → Value} {ev : Operand → Option V} (hev : EvR c e ev) {p : Rq} {d : V}
    (h : pureV ty ev (.index t x i) = some (p, d)) (hp : p.holds) : ∃ v, (Instr.index t (e x) (e i)).run P c.w = .ok v c.w ∧ R c v d := by
  simp only [pureV] at h
  split at h
  · rename_i y v k n hy hx hi
    have hn := (hev i _ hi).intI
    have hX := hev x _ hx
    split at h
    · rename_i l el cs hk
      split at h
      · rename_i z hz
        split at h
        · rename_i r hr
          obtain ⟨rfl, rfl⟩ := ok_inj h
          obtain ⟨vs, hv, hl, hR⟩ := hX.aggI
          obtain ⟨u, hu, hRu⟩ := part_ok (P := P) hty hl hR hr (w := c.w)
          refine ⟨u, ?_, hRu⟩
          simp [Instr.index, hn, hv, asIntOf, run_underlying ((hty _ _ hy).array hk), hp.1, hp.2, (hty _ _ hz).sizeOf c.w, hu]
        · cases h
      · cases h
    · rename_i s hk
      obtain ⟨rfl, rfl⟩ := ok_inj h
      have hv := hX.strI
      refine ⟨_, ?_, .mkInt _ _⟩
      have hb := byte_at s n hp.1 hp.2
      simp only [Instr.index, hn, hv, asIntOf, run_underlying ((hty _ _ hy).str hk), Sem.run_bind, Sem.run_pure, Result.andThen_ok, hb]
    · cases h
  · cases h

theorem len_ok (hty : ∀ t y, ty t = some y → TyOk P t y) {t T : TypeId} {x : V} {v : Value} (hv : R c v x) {n : Nat} (h : lenV ty t x = some n) (w : World) :
    (Builtin.len_ #[t] T #[v]).run P w = .ok (.int .i64 n) w := by
  unfold lenV at h
  split at h
  · rename_i y hy
    have Y := hty _ _ hy
    split at h <;> simp only [Option.some.injEq, reduceCtorEq] at h
    · rename_i e hk
      subst h
      have := hv.nslI; subst this
      simp [Builtin.len_, run_underlying (Y.slice hk), goInt]
    · rename_i e n' sz g hk
      subst h
      obtain ⟨a, cap, cv, rfl, _⟩ := hv.immI
      simp [Builtin.len_, run_underlying (Y.slice hk), goInt]
    · rename_i e id sz off n' hk
      subst h
      obtain ⟨a, cap, _, a', rfl, _⟩ := hv.ownI
      simp [Builtin.len_, run_underlying (Y.slice hk), goInt]
    · rename_i e id sz off n' hk
      subst h
      obtain ⟨b, a', cap', rfl, _⟩ := hv.arrI
      simp [Builtin.len_, run_underlying (Y.slice hk), goInt]
    · rename_i s hk
      subst h
      have := hv.strI; subst this
      simp [Builtin.len_, run_underlying (Y.str hk), goInt]
    · rename_i n' e hk
      subst h
      have hu := Y.array hk
      simp only [Builtin.len_, run_underlying hu, Sem.run_bind, Result.andThen_ok]
      simp [run_underlying hu, goInt]
  · cases h
theorem minI_ok {k k' : IntKind} {a b : Int} (w : World) (ts : Array TypeId) (T : TypeId) : (Builtin.min_ ts T #[.int k a, .int k' b]).run P w = .ok (.int k (if b < a then b else a)) w := by
  simp [Builtin.min_, Builtin.min2]
theorem maxI_ok {k k' : IntKind} {a b : Int} (w : World) (ts : Array TypeId) (T : TypeId) : (Builtin.max_ ts T #[.int k a, .int k' b]).run P w = .ok (.int k (if b > a then b else a)) w := by
  simp [Builtin.max_, Builtin.max2]

theorem un_ok {op : UnOp} {x d : V} {v : Value} {p : Rq} (h : unV op x = some (p, d)) (hv : R c v x) (w : World) : ∃ u, (Op.unary op v).run P w = .ok u w ∧ R c u d := by
  unfold unV at h
  split at h
  · obtain ⟨rfl, rfl⟩ := ok_inj h
    have := hv.intI; subst this
    exact ⟨_, rfl, .mkInt _ _⟩
  · obtain ⟨rfl, rfl⟩ := ok_inj h
    have := hv.intI; subst this
    exact ⟨_, rfl, .mkInt _ _⟩
  · obtain ⟨rfl, rfl⟩ := ok_inj h
    have := hv.boolI; subst this
    exact ⟨_, rfl, .mkBool _⟩
  · cases h

theorem cv_int {P : Program} {t u : TypeId} {S : Ty} (hs : TyOk P t S) {k k' : IntKind} (hu : P.underlying u = some (.int k)) (n : Int) (w : World) : (convert t u (.int k' n)).run P w = .ok (.int k (k.wrap n)) w := by
  obtain ⟨d, hd, _⟩ := hs.under
  simp only [convert, Sem.run_bind, run_underlying hd, run_underlying hu, Result.andThen_ok]
  cases d <;> rfl
theorem cv_str {P : Program} {t u : TypeId} {S : Ty} (hs : TyOk P t S) (hu : P.underlying u = some .string) (s : ByteArray) (w : World) : (convert t u (.string s)).run P w = .ok (.string s) w := by
  obtain ⟨d, hd, _⟩ := hs.under
  simp only [convert, Sem.run_bind, run_underlying hd, run_underlying hu, Result.andThen_ok]
  cases d <;> rfl

theorem pure_ok (hty : ∀ t y, ty t = some y → TyOk P t y) (heq : EqOk P ty) {e : Operand → Value} {ev : Operand → Option V} (hev : EvR c e ev) (o : Oper) {p : Rq} {d : V}
    (h : pureV ty ev o.op = some (p, d)) (hp : p.holds) : ∃ v, (execOp e o).run P c.w = .ok (.value v) c.w ∧ R c v d := by
  unfold execOp
  cases ho : o.op with
  | move x =>
    simp only [ho, pureV] at h
    split at h
    · rename_i v hx
      obtain ⟨rfl, rfl⟩ := ok_inj h
      exact ⟨e x, rfl, hev x _ hx⟩
    · cases h
  | assign x =>
    simp only [ho, pureV] at h
    split at h
    · rename_i v hx
      obtain ⟨rfl, rfl⟩ := ok_inj h
      exact ⟨e x, rfl, hev x _ hx⟩
    · cases h
  | pick q a b =>
    simp only [ho, pureV] at h
    split at h
    · rename_i hq
      have hq := (hev q _ hq).boolI
      split at h
      · rename_i v hx
        obtain ⟨rfl, rfl⟩ := ok_inj h
        exact ⟨e a, by simp [hq, asBool], hev a _ hx⟩
      · cases h
    · rename_i hq
      have hq := (hev q _ hq).boolI
      split at h
      · rename_i v hx
        obtain ⟨rfl, rfl⟩ := ok_inj h
        exact ⟨e b, by simp [hq, asBool], hev b _ hx⟩
      · cases h
    · cases h
  | build t parts =>
    rw [ho] at h
    obtain ⟨v, hr, hR⟩ := build_ok hty hev h c.w
    exact ⟨v, by simp [hr], hR⟩
  | nilCheck x =>
    simp only [ho, pureV] at h
    split at h
    · rename_i i k hx
      obtain ⟨rfl, rfl⟩ := ok_inj h
      obtain ⟨b, hb, hr⟩ := (hev x _ hx).ptrI
      exact ⟨e x, by simp [hb], hev x _ hx⟩
    · rename_i i s j k hx
      obtain ⟨rfl, rfl⟩ := ok_inj h
      obtain ⟨b, cap, hb, hr⟩ := (hev x _ hx).eptrI
      exact ⟨e x, by simp [hb], hev x _ hx⟩
    · rename_i cs hx
      obtain ⟨rfl, rfl⟩ := ok_inj h
      obtain ⟨ad, cv, hb, _⟩ := (hev x _ hx).iptrI
      exact ⟨e x, by simp [hb], hev x _ hx⟩
    · cases h
  | binOp op t x y t' =>
    simp only [ho, pureV] at h
    split at h
    · rename_i a b hx hy
      obtain ⟨v, hr, hR⟩ := bin_ok hty heq x y h hp (hev x _ hx) (hev y _ hy) c.w
      exact ⟨v, by simp only [Sem.run_bind, hr, Result.andThen_ok, Sem.run_pure], hR⟩
    · cases h
  | unOp op t x =>
    simp only [ho, pureV] at h
    split at h
    · rename_i a hx
      obtain ⟨v, hr, hR⟩ := un_ok (P := P) h (hev x _ hx) c.w
      exact ⟨v, by simp only [Sem.run_bind, hr, Result.andThen_ok, Sem.run_pure], hR⟩
    · cases h
  | convert s t x =>
    simp only [ho, pureV] at h
    split at h
    · rename_i S D k n hS hD hx
      split at h
      · rename_i k' hk
        obtain ⟨rfl, rfl⟩ := ok_inj h
        have hv := (hev x _ hx).intI
        refine ⟨_, ?_, .mkInt _ _⟩
        simp only [hv, Sem.run_bind, cv_int (hty _ _ hS) ((hty _ _ hD).int hk) n c.w, Result.andThen_ok, Sem.run_pure]
      · cases h
    · rename_i S D s hS hD hx
      split at h
      · rename_i hk
        obtain ⟨rfl, rfl⟩ := ok_inj h
        have hv := (hev x _ hx).strI
        refine ⟨_, ?_, .mkStr _⟩
        simp only [hv, Sem.run_bind, cv_str (hty _ _ hS) ((hty _ _ hD).str hk) s c.w, Result.andThen_ok, Sem.run_pure]
      · cases h
    · cases h
  | makeInterface t x =>
    simp only [ho, pureV] at h
    split at h
    · rename_i y v hy hx
      obtain ⟨rfl, rfl⟩ := ok_inj h
      obtain ⟨d', hd, hb⟩ := (hty _ _ hy).noIface
      refine ⟨.iface t (e x), ?_, .ifc _ _ _ (hev x _ hx)⟩
      simp only [Instr.makeInterface, Sem.run_bind, run_underlying hd, Result.andThen_ok]
      cases d' <;> first | rfl | exact absurd rfl (hb _)
    · cases h
  | makeFunc fn first caps =>
    cases fn with
    | func f =>
      simp only [ho, pureV] at h
      split at h
      · rename_i a b ha hb
        obtain ⟨rfl, rfl⟩ := ok_inj h
        obtain ⟨l1, r1⟩ := evL_ok hev _ _ ha
        obtain ⟨l2, r2⟩ := evL_ok hev _ _ hb
        refine ⟨.func (.func f) (first.map e) (caps.map e), by simp [Instr.makeFunc], .clo f _ _ a b (by simpa using l1) (by simpa using l2) ?_ ?_⟩
        · intro j v d hv hd
          rw [Array.getElem?_map] at hv
          cases hx : first[j]? with
          | none => simp [hx] at hv
          | some x => simp [hx] at hv; subst hv; exact r1 j x d (by simpa using hx) hd
        · intro j v d hv hd
          rw [Array.getElem?_map] at hv
          cases hx : caps[j]? with
          | none => simp [hx] at hv
          | some x => simp [hx] at hv; subst hv; exact r2 j x d (by simpa using hx) hd
      · cases h
    | _ => simp [ho, pureV] at h
  | slice t x lo hi mx =>
    cases mx with
    | some m => simp [ho, pureV] at h
    | none =>
      simp only [ho, pureV] at h
      split at h
      · cases h
      · rename_i v l u hn hx hl hu
        obtain ⟨v', hr, hR⟩ := slice_pure hty (hev x _ hx) hev hl hu h hp
        exact ⟨v', by simp only [Option.map_none, Sem.run_bind, hr, Result.andThen_ok, Sem.run_pure], hR⟩
      · cases h
  | fieldAddr t x f =>
    simp only [ho, pureV] at h
    split at h
    · rename_i y v hy hx
      split at h
      · rename_i fs hk
        split at h
        · rename_i off n id o' hf
          obtain ⟨rfl, rfl⟩ := ok_inj h
          obtain ⟨b, hb, hr⟩ := (hev x _ hx).ptrI
          refine ⟨.pointer (some ⟨b, o' + off, none⟩), ?_, .ptr _ _ _ hr⟩
          simp only [hb, Sem.run_bind, field_ok hty hy hk hf, Result.andThen_ok, Sem.run_pure, add_lit]
        · rename_i off n id sz i k hf
          obtain ⟨rfl, rfl⟩ := ok_inj h
          obtain ⟨b, cap, hb, hr⟩ := (hev x _ hx).eptrI
          refine ⟨.pointer (some ⟨b, i * sz + (k + off), none⟩), ?_, .eptr _ _ _ _ _ _ hr⟩
          simp only [hb, Sem.run_bind, field_ok hty hy hk hf, Result.andThen_ok, Sem.run_pure, add_lit, Nat.add_assoc]
        · rename_i off n cs hf
          obtain ⟨rfl, rfl⟩ := ok_inj h
          obtain ⟨ad, cv, hb, hc, hr⟩ := (hev x _ hx).iptrI
          refine ⟨.pointer (some (ad.add off)), ?_, .iptr _ _ (fun j => cv (off + j)) (fun j hj => ?_) (fun j d hd => ?_)⟩
          · simp only [hb, Sem.run_bind, field_ok hty hy hk hf, Result.andThen_ok, Sem.run_pure]
          · simp at hj
            obtain ⟨f1, f2, f3⟩ := hc (off + j) (by omega)
            exact ⟨by rw [add_block]; exact f1, by rw [add_add]; exact f2, f3⟩
          · rw [List.getElem?_drop] at hd
            exact hr _ d hd
        · cases h
      · cases h
    · cases h
  | field t x f =>
    simp only [ho, pureV] at h
    split at h
    · rename_i y cs hy hx
      split at h
      · rename_i fs hk
        split at h
        · rename_i off ft hf
          split at h
          · rename_i v hv
            obtain ⟨rfl, rfl⟩ := ok_inj h
            obtain ⟨vs, he, hl, hR⟩ := (hev x _ hx).aggI
            obtain ⟨F, hF, hfs⟩ := (hty _ _ hy).struct hk
            obtain ⟨u, hu, hRu⟩ := part_ok (P := P) hty hl hR hv (w := c.w)
            rw [nthL_eq, ← hfs, List.getElem?_map] at hf
            cases hg : F.toList[f]? with
            | none => simp [hg] at hf
            | some fd =>
              simp only [hg, Option.map_some, Option.some.injEq, Prod.mk.injEq] at hf
              obtain ⟨rfl, rfl⟩ := hf
              have hg' : F[f]? = some fd := by simpa using hg
              refine ⟨u, ?_, hRu⟩
              simp [Instr.field, he, run_underlying hF, hg', asAgg, hu]
          · cases h
        · cases h
      · cases h
    · cases h
  | indexAddr t x i =>
    rw [ho] at h
    obtain ⟨v, hr, hR⟩ := indexAddr_ok hty hev h hp
    exact ⟨v, by simp [hr], hR⟩
  | index t x i =>
    rw [ho] at h
    obtain ⟨v, hr, hR⟩ := index_ok hty hev h hp
    exact ⟨v, by simp [hr], hR⟩
  | extract x i =>
    simp only [ho, pureV] at h
    split at h
    · rename_i vs hx
      split at h
      · rename_i v hv
        obtain ⟨rfl, rfl⟩ := ok_inj h
        obtain ⟨us, he, hl, hR⟩ := (hev x _ hx).tupI
        rw [nthL_eq] at hv
        have hlt := (List.getElem?_eq_some_iff.1 hv).1
        have hu : us[i]? = some us[i] := by simp
        exact ⟨us[i], by simp [Instr.extract, he, hu], hR i _ _ hu hv⟩
      · cases h
    · cases h
  | call cl =>
    simp only [ho, pureV] at h
    obtain ⟨callee, args, argTypes⟩ := cl
    simp only at h
    unfold pureB at h
    split at h
    · rename_i x t hA hT
      have hA : args = #[x] := by rw [← Array.toArray_toList (xs := args), hA]
      have hT : argTypes = #[t] := by rw [← Array.toArray_toList (xs := argTypes), hT]
      subst hA; subst hT
      split at h
      · rename_i v hx
        split at h
        · rename_i n hn
          obtain ⟨rfl, rfl⟩ := ok_inj h
          refine ⟨_, ?_, .mkInt _ _⟩
          simp [resolve, invoke, builtin, len_ok hty (hev x _ hx) hn c.w]
        · cases h
      · cases h
    · rename_i x y hA
      have hA : args = #[x, y] := by rw [← Array.toArray_toList (xs := args), hA]
      subst hA
      split at h
      · rename_i k a k' b hx hy
        cases hk : kEq k k' with
        | false => simp [hk] at h
        | true =>
          simp only [hk, cond_true] at h
          obtain ⟨rfl, rfl⟩ := ok_inj h
          refine ⟨_, ?_, .mkInt _ _⟩
          simp only [resolve, invoke, builtin, Sem.run_bind, Sem.run_pure, Result.andThen_ok, List.map_toArray, List.map_cons, List.map_nil, (hev x _ hx).intI, (hev y _ hy).intI, minI_ok]
      · cases h
    · rename_i x y hA
      have hA : args = #[x, y] := by rw [← Array.toArray_toList (xs := args), hA]
      subst hA
      split at h
      · rename_i k a k' b hx hy
        cases hk : kEq k k' with
        | false => simp [hk] at h
        | true =>
          simp only [hk, cond_true] at h
          obtain ⟨rfl, rfl⟩ := ok_inj h
          refine ⟨_, ?_, .mkInt _ _⟩
          simp only [resolve, invoke, builtin, Sem.run_bind, Sem.run_pure, Result.andThen_ok, List.map_toArray, List.map_cons, List.map_nil, (hev x _ hx).intI, (hev y _ hy).intI, maxI_ok]
      · cases h
    · cases h
  | _ => simp [ho, pureV] at h
end Go.Ev
