import Derived.Test.YtjiobeonlanfaaaEvX
namespace Go.Ev
set_option linter.unusedSimpArgs false
set_option linter.unusedVariables false
open Go.RowKit

variable {P : Program} {ty : TypeId → Option Ty} {c : Cx} {B : Nat} {w0 : World} {h : Hp}

theorem own_let {i : Nat} {E sz L : Nat} {g : Nat → List V} (hm : HM B w0 c h) (hi : getF h i = some (.seq E sz L g)) {l : Loc} (hl : c.ρ i = some l) {off n : Nat} {v : Value} (hv : R c v (.own i sz off n)) (hp : off + n ≤ L) :
    RP (c.let l).F (c.let l).w v (.imm n sz (subG off g)) := by
  obtain ⟨a, cap, hρ, a', rfl, q1, q2, q3, q4⟩ := hv.ownI
  obtain ⟨a1, cap1, hρ', e1, e2, e3, e4⟩ := hm.ob i _ hi
  rw [hρ] at hρ'; cases hρ'
  rw [hρ] at hl; cases hl
  by_cases hn : n = 0
  · subst hn
    exact .imm _ 0 _ _ _ (fun _ _ => undef) (by omega) (by omega) (fun _ => rfl) (fun i hi => by omega) (fun _ _ i hi => by omega) (fun i hi => by omega)
  obtain ⟨b, rfl, rfl⟩ := q2 (by omega)
  rcases e4 with ⟨e4, _⟩ | ⟨b', arr, hb, hg, hs, hk⟩
  · cases e4
  cases hb
  refine .imm _ n _ sz _ (fun i j => arr[(i + off) * sz + j]?.getD undef) (by omega) (by omega) (fun h => by cases h) (fun i hi => e3 _ (by omega)) ?_ ?_
  · intro ad had i hi j hj
    cases had
    have hlen := e3 (i + off) (by omega)
    obtain ⟨v, x, y, z⟩ := hk (i + off) (by omega) j ((g (i + off))[j]'(by omega)) (by simp)
    refine ⟨.inr rfl, ?_, by rw [x]; exact z⟩
    rw [add_lit]
    show c.w.cell? _ = _
    rw [cell_of_row c.w b _ arr E (0, 0) hg, show off * sz + (i * sz + j) = (i + off) * sz + j by rw [Nat.add_mul]; omega, x]
    rfl
  · intro i hi j d hd
    obtain ⟨v, x, y, z⟩ := hk (i + off) (by omega) j d hd
    rw [x]
    exact y.mono (fun _ h => .inl h) (fun _ _ => rfl)

theorem frz_ok : ∀ (cs : List V) (c : Cx) (h : Hp) (cs' : List V) (h1 : Hp) (p : Rq), HM B w0 c h → frz cs h = some (p, cs', h1) → p.holds →
    ∃ c1, c.le c1 ∧ c1.w = c.w ∧ c1.ρ = c.ρ ∧ HM B w0 c1 h1 ∧ h1.length = h.length ∧ (∀ i o, getF h1 i = some o → getF h i = some o) ∧ cs'.length = cs.length ∧
      ∀ (j : Nat) v d d', R c v d → cs[j]? = some d → cs'[j]? = some d' → RP c1.F c1.w v d' ∧ v.oneCell' = true
  | [], c, h, cs', h1, p, hm, hf, hp => by
    simp only [frz, Option.some.injEq, Prod.mk.injEq] at hf
    obtain ⟨rfl, rfl, rfl⟩ := hf
    exact ⟨c, Cx.le_refl c, rfl, rfl, hm, rfl, fun _ _ x => x, rfl, fun j v d d' _ hd => by simp at hd⟩
  | d0 :: l, c, h, cs', h1, p, hm, hf, hp => by
    by_cases ho : ∃ id sz off n, d0 = .own id sz off n
    · obtain ⟨id, sz, off, n, rfl⟩ := ho
      simp only [frz] at hf
      split at hf
      · rename_i E sz' L g hi
        split at hf
        · rename_i hs
          have hs := nbeq hs
          subst hs
          split at hf
          · rename_i q l' h' hf'
            simp only [Option.some.injEq, Prod.mk.injEq] at hf
            obtain ⟨rfl, rfl, rfl⟩ := hf
            obtain ⟨p1, p2⟩ := (rqA_iff _ _).1 hp
            obtain ⟨lo, hlo⟩ := (hm.ob id _ hi).loc
            obtain ⟨hm', le'⟩ := hm.letGo hi hlo
            obtain ⟨c1, g1, g2, g3, g4, g5, g6, g7, g8⟩ := frz_ok l (c.let lo) _ l' h' q hm' hf' p2
            refine ⟨c1, Cx.le_trans le' g1, g2, g3, g4, by rw [g5, len_set], fun i o hx => ?_, by simp [g7], fun j v d d' hR hd hd' => ?_⟩
            · have := g6 i o hx
              rw [getF_set] at this
              split at this
              · cases this
              · exact this
            · cases j with
              | zero =>
                simp at hd hd'
                subst hd; subst hd'
                refine ⟨(own_let hm hi hlo hR p1).le g1, ?_⟩
                exact hR.one rfl
              | succ j =>
                simp at hd hd'
                exact g8 j v d d' (hR.mono le') hd hd'
          · cases hf
        · cases hf
      · cases hf
    · have hf' : (match pureC d0 with
        | true => (match frz l h with | some (p, l', h') => some (p, d0 :: l', h') | none => none)
        | false => none) = some (p, cs', h1) := by
        unfold frz at hf
        split at hf
        · rename_i x; cases x
        · rename_i id sz off n l2 h2 hx
          cases hx
          exact absurd ⟨_, _, _, _, rfl⟩ ho
        · rename_i hq; cases hq; exact hf
      split at hf'
      · rename_i hpc
        split at hf'
        · rename_i q l' h' hfl
          simp only [Option.some.injEq, Prod.mk.injEq] at hf'
          obtain ⟨rfl, rfl, rfl⟩ := hf'
          obtain ⟨c1, g1, g2, g3, g4, g5, g6, g7, g8⟩ := frz_ok l c h l' _ _ hm hfl hp
          refine ⟨c1, g1, g2, g3, g4, g5, g6, by simp [g7], fun j v d d' hR hd hd' => ?_⟩
          cases j with
          | zero =>
            simp at hd hd'
            subst hd; subst hd'
            exact ⟨(hR.toRP hpc).le g1, hR.one (pureC_cellB hpc)⟩
          | succ j =>
            simp at hd hd'
            exact g8 j v d d' hR hd hd'
        · cases hf'
      · cases hf'

theorem NidOk.of {c c1 : Cx} {h h1 : Hp} {nid : Option Nat} (hn : NidOk c h nid) (hr : c1.ρ = c.ρ) (hl : h1.length = h.length) (hg : ∀ i o, getF h1 i = some o → getF h i = some o) : NidOk c1 h1 nid := by
  intro i hi
  obtain ⟨a1, a2, a3⟩ := hn i hi
  refine ⟨by rw [hl]; exact a1, ?_, by rw [hr]; exact a3⟩
  cases hx : getF h1 i with
  | none => rfl
  | some o => have := hg i o hx; rw [a2] at this; cases this

/-- rows made of so many equal elements -/
theorem rep_get (cs : List V) (sz : Nat) (hcs : cs.length = sz) : ∀ n, (repL n cs).length = n * sz ∧ ∀ j, j < n * sz → (repL n cs)[j]? = cs[j % sz]?
  | 0 => ⟨by simp [repL], fun j hj => by omega⟩
  | n + 1 => by
    obtain ⟨h1, h2⟩ := rep_get cs sz hcs n
    refine ⟨by simp [repL, h1, hcs, Nat.add_mul]; omega, fun j hj => ?_⟩
    simp only [repL]
    by_cases hlt : j < sz
    · rw [List.getElem?_append_left (by omega), Nat.mod_eq_of_lt hlt]
    · have he : (n + 1) * sz = n * sz + sz := by rw [Nat.add_mul, Nat.one_mul]
      rw [List.getElem?_append_right (by omega), hcs, h2 (j - sz) (by omega)]
      have hm := Nat.mod_eq_sub_mod (a := j) (b := sz) (by omega)
      rw [hm]
theorem litG_len {cs : List V} {sz n : Nat} (h : cs.length = n * sz) : ∀ k, k < n → (litG sz cs k).length = sz := by
  intro k hk
  have := Nat.mul_le_mul_right sz (show k + 1 ≤ n by omega)
  rw [Nat.add_mul, Nat.one_mul] at this
  simp [litG]; omega
theorem litG_get {cs : List V} {sz k j : Nat} {d : V} (h : (litG sz cs k)[j]? = some d) : cs[k * sz + j]? = some d := by
  have hj : j < sz := by have := (List.getElem?_eq_some_iff.1 h).1; simp [litG] at this; omega
  simp only [litG] at h
  rw [List.getElem?_take_of_lt hj, List.getElem?_drop] at h
  exact h

theorem bslice_ok (hty : ∀ t y, ty t = some y → TyOk P t y) (hm : HM B w0 c h) {nid : Option Nat} (hn : NidOk c h nid) {e : Operand → Value} {ev : Operand → Option V} (hev : EvR c e ev) {t e' : TypeId} {len : Nat} {parts : Array (Nat × Operand)}
    {y u : Ty} (hy : ty t = some y) (hk : y.kind = .slice e') (hu : ty e' = some u) {cs cs' : List V} {h1 h' : Hp} {i : Nat} {p : Rq}
    (hl : andB (Nat.ble (len * u.size) 1000) (andB (Nat.ble len 1000) (Nat.ble 1 u.size)) = true) (hfl : fillV (fun i => some (i * u.size, u.size)) ev parts.toList (repL len (u.zero.map Ev.ofC1)) = some cs) (hz : frz cs h = some (p, cs', h1)) (hp : p.holds)
    (hnw : newH nid h1 (.seq e' u.size len (litG u.size cs')) = (i, h')) {K : V → Hp → Prop} (hK : K (.own i u.size 0 len) h') :
    ∃ v w', (Instr.buildSlice t len (parts.map fun (i, x) => (i, e x))).run P c.w = .ok v w' ∧ Aft c B w0 K v w' := by
  have T := hty _ _ hy
  have U := hty _ _ hu
  obtain ⟨ti, z, hi, hsz, hby, hzz, hzc⟩ := U.info
  simp only [andB_eq, Bool.and_eq_true] at hl
  have hl1 := nble hl.1
  have hl2 := nble hl.2.1
  have hl3 := nble hl.2.2
  have hzl : (u.zero.map Ev.ofC1).length = u.size := by rw [List.length_map, U.zlen]
  obtain ⟨r1, r2⟩ := rep_get (u.zero.map Ev.ofC1) u.size hzl len
  have hzs : z.cells.size = u.size := by rw [← U.zlen, ← hzc]; simp
  obtain ⟨us, f1, f2, f3, f4⟩ := fill_ok hev _ parts.toList _ cs ((Array.range (len * u.size)).map (z.cells[· % z.cells.size]!)) hfl (by simp [r1]) (fun j v d hv hd => by
    have hj : j < len * u.size := by have := (List.getElem?_eq_some_iff.1 hd).1; omega
    rw [r2 j hj] at hd
    simp [hj] at hv
    refine zeroR (c := c) u hzc (j % u.size) v d ?_ hd
    have hpos : 0 < u.size := Nat.pos_of_mul_pos_left (Nat.lt_of_le_of_lt (Nat.zero_le _) hj)
    have hmd : j % u.size < z.cells.size := by rw [hzs]; exact Nat.mod_lt _ hpos
    rw [hzs] at hv
    rw [getElem!_pos z.cells (j % u.size) hmd] at hv
    rw [Array.getElem?_eq_getElem hmd, hv])
  obtain ⟨c1, g1, g2, g3, g4, g5, g6, g7, g8⟩ := frz_ok cs c h cs' h1 p hm hz hp
  have hcl : cs.length = len * u.size := by rw [← f3, r1]
  have hcl' : cs'.length = len * u.size := by rw [g7, hcl]
  have A := new_seq g4 (hn.of g3 g5 g6) hnw c1.w rfl g4.below us len (Nat.le_refl _) (by unfold maxL; omega) (by rw [f2, hcl]) (litG_len hcl') (fun k hk j d hd => by
    have hd' := litG_get hd
    have hlt := (List.getElem?_eq_some_iff.1 hd').1
    have h2 : cs[k * u.size + j]? = some (cs[k * u.size + j]'(by omega)) := by simp
    have h3 : us[k * u.size + j]? = some (us[k * u.size + j]'(by omega)) := by simp
    obtain ⟨x1, x2⟩ := g8 _ _ _ d (f4 _ _ _ h3 h2) h2 hd'
    exact ⟨_, h3, x1, x2⟩) hK
  refine ⟨_, _, ?_, Aft.le g1 A⟩
  have hmp : (Array.map (fun x => (x.1, e x.2)) parts).toList = parts.toList.map fun p => (p.1, e p.2) := by simp
  unfold Instr.buildSlice
  simp only [Sem.run_bind, run_underlying (T.slice hk), Result.andThen_ok, U.sizeOf c.w]
  rw [if_neg (by omega)]
  by_cases h0 : len * u.size = 0
  · simp only [h0, if_true, Sem.run_pure, Result.andThen_ok, hmp]
    simp only [h0] at f1
    have e1 : (Array.range 0).map (z.cells[· % z.cells.size]!) = (Array.range 0).map ((#[] : Array Value)[· % (#[] : Array Value).size]!) := by simp
    rw [e1] at f1
    simp only [f1, newRow, run_newObj, Sem.run_bind, Result.andThen_ok, Sem.run_pure]
    rw [← g2]
    rfl
  · have hzv : (zeroValue e').run P c.w = .ok z c.w := by simp [zeroValue, typeInfo, hi, hzz]
    simp only [if_neg h0, Sem.run_bind, hzv, Sem.run_pure, Result.andThen_ok, hmp, f1, newRow, run_newObj]
    rw [← g2]
    rfl
end Go.Ev
