import Derived.Test.YtjiobeonlanfaaaEvZ
namespace Go.Ev
set_option linter.unusedSimpArgs false
set_option linter.unusedVariables false
open Go.RowKit

variable {P : Program} {ty : TypeId → Option Ty} {c : Cx} {B : Nat} {w0 : World} {h : Hp}

theorem frz_allC : ∀ {cs cs' : List V} {h h1 : Hp} {p : Rq}, frz cs h = some (p, cs', h1) → allC cs = true
  | [], _, _, _, _, _ => rfl
  | d0 :: l, cs', h, h1, p, hf => by
    by_cases ho : ∃ id sz off n, d0 = .own id sz off n
    · obtain ⟨id, sz, off, n, rfl⟩ := ho
      simp only [frz] at hf
      split at hf
      · split at hf
        · split at hf
          · rename_i q l' h' hf'
            simp only [allC, cellB, andB]
            exact frz_allC hf'
          · cases hf
        · cases hf
      · cases hf
    · have hf' : (match pureC d0 with
        | true => (match frz l h with | some (p, l', h') => some (p, d0 :: l', h') | none => none)
        | false => none) = some (p, cs', h1) := by
        unfold frz at hf
        split at hf
        · rename_i x; cases x
        · rename_i id sz off n l2 h2 hx
          cases hx
          exact absurd ⟨_, _, _, _, rfl⟩ ho
        · rename_i hq; cases hq; exact hf
      split at hf'
      · rename_i hpc
        split at hf'
        · rename_i q l' h' hfl
          simp only [allC, pureC_cellB hpc, andB]
          exact frz_allC hfl
        · cases hf'
      · cases hf'

theorem storeVar_run {P : Program} {t : TypeId} {y : Ty} (T : TyOk P t y) {v : Value} (hs : v.cells.size = y.size) (a : Addr) (w : World) : (Instr.storeAt t (.pointer (some a)) v).run P w = (storeCells a v.cells.toList).run P w := by
  simp only [Instr.storeAt, Instr.sureAddr, Sem.run_bind, Sem.run_pure, Result.andThen_ok, storeVar, T.sizeOf w]
  rw [if_neg (by simp [hs])]

theorem undefR (c : Cx) : R c undef (.tup []) := .tup #[] [] rfl (by simp)

theorem store_ptr (hty : ∀ t y, ty t = some y → TyOk P t y) (hm : HM B w0 c h) {t : TypeId} {y : Ty} (hy : ty t = some y) {id off : Nat} {d : V} {va v : Value} (ha : R c va (.ptr id off)) (hv : R c v d) {cs : List V} (hi : getF h id = some (.box cs))
    (hc : andB (Nat.beq (cellsV d).length y.size) (andB (Nat.ble (off + y.size) cs.length) (allC (cellsV d))) = true) {K : V → Hp → Prop} (hK : K (.tup []) (setF h id (some (.box (putL cs off (cellsV d)))))) :
    ∃ w', (Instr.storeAt t va v).run P c.w = .ok () w' ∧ Aft c B w0 K undef w' := by
  simp only [andB_eq, Bool.and_eq_true] at hc
  have h1 := nbeq hc.1
  have h2 := nble hc.2.1
  obtain ⟨b, rfl, hρ⟩ := ha.ptrI
  obtain ⟨s1, s2⟩ := cellsV_ok hv hc.2.2
  obtain ⟨w', hr, A⟩ := write_box (P := P) hm hi hρ (off := off) (ds := cellsV d) (vs := v.cells.toList) (by simpa using s1) (by omega) hc.2.2 (fun j x y hx hy => s2 j x y (by simpa using hx) hy) (fun c' _ => undefR c') hK
  exact ⟨w', by rw [storeVar_run (hty _ _ hy) (by omega)]; exact hr, A⟩

theorem setG_len {i k : Nat} {ds : List V} {g : Nat → List V} {sz L : Nat} (hg : ∀ j, j < L → (g j).length = sz) : ∀ j, j < L → (setG i k ds g j).length = sz := by
  intro j hj
  unfold setG
  split
  · rw [putL_len]; exact hg j hj
  · exact hg j hj
theorem store_eptr (hty : ∀ t y, ty t = some y → TyOk P t y) (hm : HM B w0 c h) {t : TypeId} {y : Ty} (hy : ty t = some y) {id sz i k : Nat} {d : V} {va v : Value} (ha : R c va (.eptr id sz i k)) (hv : R c v d) {ds : List V} {h1 : Hp} {p : Rq}
    (hf : frz (cellsV d) h = some (p, ds, h1)) {E sz' L : Nat} {g : Nat → List V} (hi : getF h1 id = some (.seq E sz' L g))
    (hc : andB (Nat.beq sz sz') (andB (Nat.beq (cellsV d).length y.size) (Nat.ble (k + y.size) sz)) = true) (hp : p.holds) (hL : i < L) {K : V → Hp → Prop} (hK : K (.tup []) (setF h1 id (some (.seq E sz' L (setG i k ds g))))) :
    ∃ w', (Instr.storeAt t va v).run P c.w = .ok () w' ∧ Aft c B w0 K undef w' := by
  simp only [andB_eq, Bool.and_eq_true] at hc
  have e1 := nbeq hc.1
  have e2 := nbeq hc.2.1
  have e3 := nble hc.2.2
  subst e1
  obtain ⟨b, cap, rfl, hρ⟩ := ha.eptrI
  have hal := frz_allC hf
  obtain ⟨s1, s2⟩ := cellsV_ok hv hal
  obtain ⟨c1, g1, g2, g3, g4, g5, g6, g7, g8⟩ := frz_ok _ c h ds h1 p hm hf hp
  have hρ1 : c1.ρ id = some (.row (some b) cap) := by rw [g3]; exact hρ
  obtain ⟨a1, cap1, e, f1, f2, f3, f4⟩ := g4.ob id _ hi
  rw [hρ1] at e; cases e
  have hle := Nat.mul_le_mul_right sz (show i + 1 ≤ cap by omega)
  rw [Nat.add_mul, Nat.one_mul] at hle
  have hvl : v.cells.toList.length = y.size := by simp; omega
  have hds : ds.length = y.size := by omega
  have hpair : ∀ (j : Nat) x dd, v.cells[j]? = some x → ds[j]? = some dd → RP c1.F c1.w x dd ∧ x.oneCell' = true := by
    intro j x dd hx hd
    have hj := (List.getElem?_eq_some_iff.1 hd).1
    have hc' : (cellsV d)[j]? = some ((cellsV d)[j]'(by omega)) := by simp
    exact g8 j x _ dd (s2 j x _ hx hc') hc' hd
  obtain ⟨w', hr, A⟩ := write_seq (P := P) g4 hi hρ1 (g' := setG i k ds g) (off := i * sz + k) (vs := v.cells.toList) (by omega)
    (fun x hx => by
      obtain ⟨j, hj⟩ := List.getElem?_of_mem hx
      have hlt := (List.getElem?_eq_some_iff.1 hj).1
      exact (hpair j x (ds[j]'(by omega)) (by simpa using hj) (by simp)).2)
    (setG_len f3)
    (fun q hq j dd hd => by
      unfold setG at hd
      by_cases hqi : q = i
      · subst hqi
        rw [if_pos rfl, putL_get _ _ _ (by rw [f3 q hq]; omega)] at hd
        by_cases hin : k ≤ j ∧ j < k + ds.length
        · rw [if_pos hin] at hd
          refine .inl ⟨by omega, by omega, fun x hx => ?_⟩
          rw [show q * sz + j - (q * sz + k) = j - k by omega] at hx
          exact (hpair _ x dd (by simpa using hx) hd).1
        · rw [if_neg hin] at hd
          exact .inr ⟨by omega, hd⟩
      · rw [if_neg hqi] at hd
        refine .inr ⟨?_, hd⟩
        have hj : j < sz := by have := (List.getElem?_eq_some_iff.1 hd).1; rw [f3 q hq] at this; exact this
        rcases Nat.lt_or_ge q i with hlt | hge
        · have := Nat.mul_le_mul_right sz (show q + 1 ≤ i by omega)
          rw [Nat.add_mul, Nat.one_mul] at this
          omega
        · have := Nat.mul_le_mul_right sz (show i + 1 ≤ q by omega)
          rw [Nat.add_mul, Nat.one_mul] at this
          omega)
    (fun c' _ => undefR c') hK
  refine ⟨w', ?_, Aft.le g1 A⟩
  rw [storeVar_run (hty _ _ hy) (by omega), ← g2]
  exact hr

/-- what is appended: not zeros of a make -/
structure Src (P : Program) (w : World) (t2 : TypeId) (x : Value) (size m : Nat) (news : List Value) : Prop where
  ty : (∃ e2, P.underlying t2 = some (.slice e2)) ∨ P.underlying t2 = some .string
  len : ∀ w', (Builtin.lenOf x).run P w' = .ok m w'
  cells : ∀ w', w'.heap = w.heap → (Builtin.firstCells size m x).run P w' = .ok news.toArray w'
theorem run_app_room {w : World} {t t2 T e : TypeId} {i : TypeInfo} (ht : P.underlying t = some (.slice e)) (hi : P.info? e = some i) {x : Value} {m : Nat} {news : List Value} (s : Src P w t2 x i.size m news)
    (a : Addr) (sLen sCap : Nat) (hroom : sLen + m ≤ sCap) {w' : World} (hst : (storeCells (a.add (sLen * i.size)) news).run P w = .ok () w') :
    (Builtin.append_ #[t, t2] T #[.slice (some a) sLen sCap, x]).run P w = .ok (.slice (some a) (sLen + m) sCap) w' := by
  have hl := s.len w
  have hc := s.cells w rfl
  rcases s.ty with ⟨e2, hd⟩ | hd <;> simp [Builtin.append_, run_underlying ht, run_underlying hd, sizeOf, typeInfo, hi, hl, hc, hroom, hst]
theorem run_app_room0 {w : World} {t t2 T e : TypeId} {i : TypeInfo} (ht : P.underlying t = some (.slice e)) (hi : P.info? e = some i) {x : Value} {news : List Value} (s : Src P w t2 x i.size 0 news) :
    (Builtin.append_ #[t, t2] T #[.slice none 0 0, x]).run P w = .ok (.slice none 0 0) w := by
  have hl := s.len w
  have hc := s.cells w rfl
  rcases s.ty with ⟨e2, hd⟩ | hd <;> simp [Builtin.append_, run_underlying ht, run_underlying hd, sizeOf, typeInfo, hi, hl, hc]
theorem run_app_grow {w : World} {t t2 T e : TypeId} {i : TypeInfo} {z : Value} (ht : P.underlying t = some (.slice e)) (hi : P.info? e = some i) (hzv : i.zero = some z) {x : Value} {m : Nat} {news : List Value} (s : Src P w t2 x i.size m news)
    (base : Option Addr) (sLen sCap : Nat) (olds : List Value) (hold : ∀ w', w'.heap = w.heap → (Builtin.firstCells i.size sLen (.slice base sLen sCap)).run P w' = .ok olds.toArray w')
    (hg : sCap < sLen + m) (h63 : sLen + m ≤ maxL) (hb : (sLen + m) * i.bytes ≤ bigB) :
    (Builtin.append_ #[t, t2] T #[.slice base sLen sCap, x]).run P w = .ok (.slice (some ⟨w.heap.size, 0, none⟩) (sLen + m) (grownCap w (sLen + m) sCap e))
      (w.drew.alloc (.cells (olds.toArray ++ news.toArray ++ Builtin.zeroCells z.cells (grownCap w (sLen + m) sCap e - (sLen + m))) e)) := by
  have hl := s.len w
  have hc := s.cells w.drew rfl
  have ho := hold w.drew rfl
  have hn : ¬ (sLen + m ≤ sCap) := by omega
  have hfit := growslice_fits (old := sCap) hg (show (sLen + m) * i.bytes ≤ 140737488355328 from hb)
  have h63' : ¬ (9223372036854775807 < ((sLen : Int) + (m : Int))) := by unfold maxL at h63; omega
  have h48' : ¬ (281474976710656 < Builtin.nextslicecap (sLen + m) sCap * i.bytes) := by omega
  rcases s.ty with ⟨e2, hd⟩ | hd <;> simp [Builtin.append_, run_underlying ht, run_underlying hd, sizeOf, typeInfo, zeroValue, hi, hzv, hl, hn, h63', h48', Question.forced, hc, ho, newRow, grownCap] <;> (congr 2; apply Array.ext'; simp [List.append_assoc])

structure News (c : Cx) (sz m : Nat) (g : Nat → List V) (news : List Value) : Prop where
  len : news.length = m * sz
  gl : ∀ k, k < m → (g k).length = sz
  get : ∀ k, k < m → ∀ (j : Nat) d, (g k)[j]? = some d → ∃ x, news[k * sz + j]? = some x ∧ RP c.F c.w x d
  one : ∀ x ∈ news, x.oneCell' = true
theorem src_slice {v : Value} {sz m : Nat} {g : Nat → List V} (hc : CV c v sz m g) {t2 e2 : TypeId} (ht : P.underlying t2 = some (.slice e2)) : ∃ news, Src P c.w t2 v sz m news ∧ News c sz m g news := by
  obtain ⟨a, cap, rfl, h1, h2, h3⟩ := hc.isS
  cases a with
  | none =>
    have := h2 rfl
    subst this
    exact ⟨[], ⟨.inl ⟨e2, ht⟩, fun w' => rfl, fun w' _ => rfl⟩, ⟨by simp, hc.len, fun k hk => absurd hk (by omega), by simp⟩⟩
  | some ad =>
    have cell : ∀ q, q < m * sz → ∃ x, c.w.cell? (ad.add q) = some x ∧ x.oneCell' = true ∧ ∀ d, (g (q / sz))[q % sz]? = some d → RP c.F c.w x d := by
      intro q hq
      have hsz : 0 < sz := Nat.pos_of_mul_pos_left (Nat.lt_of_le_of_lt (Nat.zero_le _) hq)
      have hk : q / sz < m := (Nat.div_lt_iff_lt_mul hsz).2 hq
      have hj : q % sz < sz := Nat.mod_lt _ hsz
      have hl := hc.len (q / sz) hk
      obtain ⟨x, x1, x2, x3⟩ := h3 ad rfl (q / sz) hk (q % sz) ((g (q / sz))[q % sz]'(by omega)) (by simp)
      have hqe : q / sz * sz + q % sz = q := by rw [Nat.mul_comm]; exact Nat.div_add_mod q sz
      rw [hqe] at x1
      refine ⟨x, x1, x3, fun d hd => ?_⟩
      have : d = (g (q / sz))[q % sz]'(by omega) := by
        rw [List.getElem?_eq_getElem (by omega)] at hd
        exact (Option.some.inj hd).symm
      rw [this]; exact x2
    refine ⟨(List.range (m * sz)).map fun q => (c.w.cell? (ad.add q)).getD undef, ⟨.inl ⟨e2, ht⟩, fun w' => rfl, fun w' hw => ?_⟩, ⟨by simp, hc.len, fun k hk j d hd => ?_, fun x hx => ?_⟩⟩
    · exact run_firstCells_some (P := P) w' sz m ad m cap _ (by simp) (fun j v hv => by
        have hj : j < m * sz := by have := (List.getElem?_eq_some_iff.1 hv).1; simpa using this
        simp [hj] at hv
        obtain ⟨x, x1, _⟩ := cell j hj
        rw [x1] at hv
        have : w'.cell? (ad.add j) = c.w.cell? (ad.add j) := by simp [World.cell?, hw]
        rw [this, x1]
        exact congrArg some hv)
    · have hj : j < sz := by have := (List.getElem?_eq_some_iff.1 hd).1; rw [hc.len k hk] at this; exact this
      have hle := Nat.mul_le_mul_right sz (show k + 1 ≤ m by omega)
      rw [Nat.add_mul, Nat.one_mul] at hle
      obtain ⟨x, x1, x2, x3⟩ := h3 ad rfl k hk j d hd
      refine ⟨x, ?_, x2⟩
      simp only [List.getElem?_map, List.getElem?_range (show k * sz + j < m * sz by omega), Option.map_some, x1]
      rfl
    · obtain ⟨q, hq, rfl⟩ := List.mem_map.1 hx
      obtain ⟨x, x1, x2, _⟩ := cell q (by simpa using hq)
      rw [x1]; exact x2
theorem src_str {s : ByteArray} {t2 : TypeId} (ht : P.underlying t2 = some .string) : ∃ news, Src P c.w t2 (.string s) 1 s.size news ∧ News c 1 s.size (strG s) news := by
  refine ⟨s.data.toList.map fun b => .int .u8 (b.toNat : Int), ⟨.inr ht, fun w' => rfl, fun w' _ => ?_⟩, ⟨?_, fun k hk => rfl, fun k hk j d hd => ?_, fun x hx => ?_⟩⟩
  · have hx : (Array.map (fun b : UInt8 => Value.int IntKind.u8 (b.toNat : Int)) s.data).extract 0 s.size = Array.map (fun b : UInt8 => Value.int IntKind.u8 (b.toNat : Int)) s.data := by
      have hs : s.size = (Array.map (fun b : UInt8 => Value.int IntKind.u8 (b.toNat : Int)) s.data).size := by rw [Array.size_map]; rfl
      rw [hs]; exact Array.extract_size
    have he : s.extract 0 s.size = s := ByteArray.extract_zero_size
    simp only [Builtin.firstCells, he, Sem.run_pure]
    congr 1
    apply Array.ext'
    rw [Array.toList_map]
  · rw [List.length_map, Nat.mul_one]; exact Array.length_toList
  · cases j with
    | zero =>
      simp only [strG, List.getElem?_cons_zero, Option.some.injEq] at hd
      subst hd
      have hk' : k < s.data.toList.length := by rw [Array.length_toList]; exact hk
      refine ⟨_, ?_, .int _ _⟩
      simp only [Nat.mul_one, Nat.add_zero, List.getElem?_map, List.getElem?_eq_getElem hk', Option.map_some, List.getD_eq_getElem?_getD, Option.getD_some]
    | succ j => cases hd
  · obtain ⟨b, hb, rfl⟩ := List.mem_map.1 hx
    rfl
end Go.Ev
