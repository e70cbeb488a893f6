import Derived.Test.YtjiobeonlanfaaaEvB
namespace Go.Ev
set_option linter.unusedSimpArgs false
set_option linter.unusedVariables false
open Go.RowKit

variable {P : Program} {ty : TypeId → Option Ty} {c : Cx} {B : Nat} {w0 : World} {h : Hp}

theorem src_prefix {t e : TypeId} (ht : P.underlying t = some (.slice e)) {v : Value} {sz m q : Nat} {g : Nat → List V} (hc : CV c v sz m g) (hq : q ≤ m) : ∃ news, (Builtin.firstCells sz q v).run P c.w = .ok news.toArray c.w ∧ (Builtin.lenOf v).run P c.w = .ok m c.w ∧ News c sz q g news := by
  obtain ⟨a, cap, rfl, h1, h2, h3⟩ := hc.isS
  cases a with
  | none =>
    have := h2 rfl
    have : q = 0 := by omega
    subst this
    exact ⟨[], rfl, rfl, ⟨by simp, fun k hk => absurd hk (by omega), fun k hk => absurd hk (by omega), by simp⟩⟩
  | some ad =>
    have hc' : CV c (.slice (some ad) q cap) sz q g := ⟨fun i hi => hc.len i (by omega), some ad, cap, rfl, by omega, (fun h => by cases h), fun ad' e i hi j d hd => h3 ad' e i (by omega) j d hd⟩
    obtain ⟨news, s1, s2⟩ : ∃ news, (Builtin.firstCells sz q (.slice (some ad) q cap)).run P c.w = .ok news.toArray c.w ∧ News c sz q g news := by
      obtain ⟨news, s1, s2⟩ := src_slice (P := P) hc' ht
      exact ⟨news, s1.cells c.w rfl, s2⟩
    exact ⟨news, s1, rfl, s2⟩

theorem copG_len {off q sz L : Nat} {g g' : Nat → List V} (h1 : ∀ k, k < L → (g k).length = sz) (h2 : ∀ k, k < q → (g' k).length = sz) : ∀ k, k < L → (copG off q g' g k).length = sz := by
  intro k hk
  unfold copG
  split
  · exact h2 _ (by omega)
  · exact h1 k hk

theorem store_nil (a : Addr) (w : World) : (storeCells a []).run P w = .ok () w := rfl
theorem aft_same (hm : HM B w0 c h) {K : V → Hp → Prop} {d : V} {v : Value} (hd : R c v d) (hK : K d h) : Aft c B w0 K v c.w := ⟨d, c, h, rfl, Cx.le_refl c, hm, hd, hK⟩

theorem copy_run {t t2 T e : TypeId} {u : Ty} (ht : P.underlying t = some (.slice e)) (hu : TyOk P e u) (a : Option Addr) (n cap m : Nat) {vs : Value} {news : List Value} (hl : (Builtin.lenOf vs).run P c.w = .ok m c.w)
    (hf : (Builtin.firstCells u.size (min m n) vs).run P c.w = .ok news.toArray c.w) {w' : World} (hst : match a with | some ad => (storeCells ad news).run P c.w = .ok () w' | none => w' = c.w) :
    (Builtin.copy_ #[t, t2] T #[.slice a n cap, vs]).run P c.w = .ok (.int .i64 ((min m n : Nat) : Int)) w' := by
  have hf' : (Builtin.firstCells u.size (Nat.min m n) vs).run P c.w = .ok news.toArray c.w := hf
  cases a with
  | none =>
    simp only at hst
    subst hst
    simp [Builtin.copy_, run_underlying ht, hl, hu.sizeOf c.w, hf', goInt]
  | some ad =>
    simp only at hst
    simp [Builtin.copy_, run_underlying ht, hl, hu.sizeOf c.w, hf', hst, goInt]

theorem iteC_spec {b : Bool} {x y u : V} (h : iteC b x y = some u) : u = if b then x else y := by
  unfold iteC at h
  split at h
  · rename_i k a k' a'
    cases hk : kEq k k' with
    | false => simp [hk] at h
    | true =>
      have := kEq_iff.1 hk
      subst this
      simp only [hk, cond_true, Option.some.injEq] at h
      subst h
      cases b <;> rfl
  · simp only [Option.some.injEq] at h
    subst h
    cases b <;> rfl
  · cases h
theorem cpBox_get (g : Nat → List V) (m : Nat) : ∀ (cs : List V) (j0 : Nat) (l : List V), cpBox g m j0 cs = some l →
    l.length = cs.length ∧ ∀ i, i < cs.length → l[i]? = if j0 + i < m then (g (j0 + i))[0]? else cs[i]?
  | [], j0, l, hl => by simp only [cpBox, Option.some.injEq] at hl; subst hl; exact ⟨rfl, fun i hi => by simp at hi⟩
  | x :: cs, j0, l, hl => by
    simp only [cpBox] at hl
    split at hl
    · rename_i v l' hv hl'
      split at hl
      · rename_i u hu
        simp only [Option.some.injEq] at hl
        subst hl
        obtain ⟨h1, h2⟩ := cpBox_get g m cs (j0 + 1) l' hl'
        refine ⟨by simp [h1], fun i hi => ?_⟩
        cases i with
        | zero =>
          have := iteC_spec hu
          simp only [List.getElem?_cons_zero, Nat.add_zero, hv]
          by_cases hj : j0 < m
          · rw [if_pos hj]; simp [this, hj]
          · rw [if_neg hj]; simp [this, hj]
        | succ i =>
          simp only [List.getElem?_cons_succ]
          rw [h2 i (by simpa using hi), show j0 + 1 + i = j0 + (i + 1) by omega]
      · cases hl
    · cases hl

theorem copy_ok (hty : ∀ t y, ty t = some y → TyOk P t y) (hm : HM B w0 c h) {t t2 T : TypeId} {vd vs : Value} {d s : V} (hd : R c vd d) (hs : R c vs s) {K : V → Hp → Prop} (hK : copyW ty t d s h K) :
    ∃ v w', (Builtin.copy_ #[t, t2] T #[vd, vs]).run P c.w = .ok v w' ∧ Aft c B w0 K v w' := by
  unfold copyW at hK
  split at hK
  · rename_i y hy
    cases hstr : isStr s with
    | true => simp [hstr] at hy
    | false =>
      simp only [hstr] at hy
      split at hK
      · rename_i e hk
        split at hK
        · rename_i u hu
          have Y := hty _ _ hy
          have U := hty _ _ hu
          have ht := Y.slice hk
          split at hK
          · rename_i p m g' id sz off n hc
            split at hK
            · rename_i E sz' L g hi
              split at hK
              · rename_i hsz
                simp only [andB_eq, Bool.and_eq_true] at hsz
                have e1 := nbeq hsz.1
                have e2 := nbeq hsz.2
                subst e1; subst e2
                obtain ⟨hp, hK⟩ := (rqW_iff _ _).1 hK
                obtain ⟨p1, p2⟩ := (rqA_iff _ _).1 hp
                have p2 : off + n ≤ L := p2
                rcases cont_ok hm hs hc p1 with ⟨s', rfl, _⟩ | hcv
                · cases hstr
                obtain ⟨a, cap, hρ, a', rfl, q1, q2, q3, q4⟩ := hd.ownI
                obtain ⟨a1, cap1, e0, f1, f2, f3, f4⟩ := hm.ob id _ hi
                rw [hρ] at e0; cases e0
                obtain ⟨news, n1, n2, n3⟩ := src_prefix (P := P) ht hcv (show min m n ≤ m by omega)
                by_cases h0 : min m n = 0
                · have hn0 : news = [] := List.eq_nil_of_length_eq_zero (by rw [n3.len, h0, Nat.zero_mul])
                  subst hn0
                  refine ⟨_, _, copy_run ht U a' n (cap - off) m n2 n1 (w' := c.w) (by cases a' <;> rfl), ?_⟩
                  obtain ⟨mm, le⟩ := hm.upd (i := id) (o := .seq E u.size L (copG off (min m n) g' g)) (l := .row a cap) (w := c.w) (h' := setF h id (some (.seq E u.size L (copG off (min m n) g' g)))) (.inr hρ)
                    (by rw [getF_set, if_pos ⟨rfl, getF_lt hi⟩]) (fun j o hj ho => by rw [getF_set, if_neg (fun x => hj x.1.symm)] at ho; exact ho) (by rw [len_set]; exact Nat.le_refl _)
                    (fun k _ _ => rfl) (Nat.le_refl _) hm.below (fun b hb => by
                      have hfr := hm.fresh id _ _ b hi hρ hb
                      exact ⟨hfr.1, hfr.2, fun j o' l' hj hj' hl' ha => hj (hm.inj j id o' _ b l' _ hj' hi hl' hρ ha hb)⟩)
                    (fun le => by
                      have hcg : ∀ k, copG off (min m n) g' g k = g k := fun k => by unfold copG; rw [h0, if_neg (by omega)]
                      refine ⟨a, cap, by simp [Cx.upd], f1, f2, fun k hk => by rw [hcg]; exact f3 k hk, f4.imp (fun x => x) ?_⟩
                      rintro ⟨b, arr, hb, hg, hs', hkk⟩
                      refine ⟨b, arr, hb, hg, hs', fun k hk j d hd => ?_⟩
                      rw [hcg] at hd
                      obtain ⟨v, x, y, z⟩ := hkk k hk j d hd
                      exact ⟨v, x, y.le le, z⟩)
                  exact ⟨_, c.upd id (.row a cap) c.w, _, rfl, le, mm, .mkInt _ _, hK⟩
                · have hlt : off < cap := by omega
                  obtain ⟨b, rfl, rfl⟩ := q2 hlt
                  have hfit := Nat.mul_le_mul_right u.size (show off + min m n ≤ cap by omega)
                  rw [Nat.add_mul] at hfit
                  obtain ⟨w', hst, A⟩ := write_seq (P := P) hm hi hρ (g' := copG off (min m n) g' g) (off := off * u.size) (vs := news) (by rw [n3.len]; exact hfit) n3.one (copG_len f3 n3.gl)
                    (fun q hq j dd hdd => by
                      unfold copG at hdd
                      split at hdd
                      · rename_i hin
                        have hj : j < u.size := by have := (List.getElem?_eq_some_iff.1 hdd).1; rw [n3.gl _ (by omega)] at this; exact this
                        have hle := Nat.mul_le_mul_right u.size (show (q - off) + 1 ≤ min m n by omega)
                        rw [Nat.add_mul, Nat.one_mul] at hle
                        have hqe : q * u.size = off * u.size + (q - off) * u.size := by rw [← Nat.add_mul, show off + (q - off) = q by omega]
                        obtain ⟨x, x1, x2⟩ := n3.get (q - off) (by omega) j dd hdd
                        refine .inl ⟨by omega, by rw [n3.len]; omega, fun v hv => ?_⟩
                        rw [show q * u.size + j - off * u.size = (q - off) * u.size + j by omega, x1] at hv
                        cases hv
                        exact x2
                      · rename_i hin
                        refine .inr ⟨?_, hdd⟩
                        have hj : j < u.size := by have := (List.getElem?_eq_some_iff.1 hdd).1; rw [f3 _ hq] at this; exact this
                        rw [n3.len]
                        rcases Nat.lt_or_ge q off with hlt | hge
                        · have := Nat.mul_le_mul_right u.size (show q + 1 ≤ off by omega)
                          rw [Nat.add_mul, Nat.one_mul] at this
                          omega
                        · have := Nat.mul_le_mul_right u.size (show off + min m n ≤ q by omega)
                          rw [Nat.add_mul] at this
                          omega)
                    (v := .int .i64 ((min m n : Nat) : Int)) (fun c' _ => .mkInt _ _) hK
                  exact ⟨_, w', copy_run ht U _ n _ m n2 n1 hst, A⟩
              · exact hK.elim
            · exact hK.elim
          · rename_i p m g' id co n hc
            split at hK
            · rename_i cs hi hsz
              split at hK
              · rename_i l hl
                obtain ⟨hp, hK⟩ := (rqW_iff _ _).1 hK
                obtain ⟨p1, p2⟩ := (rqA_iff _ _).1 hp
                have p2 : co + n ≤ cs.length := p2
                rcases cont_ok hm hs hc p1 with ⟨s', rfl, _⟩ | hcv
                · cases hstr
                obtain ⟨b, a', cap', rfl, hρ, r1, r2, r3, r4⟩ := hd.arrI
                obtain ⟨news, n1, n2, n3⟩ := src_prefix (P := P) ht hcv (show min m n ≤ m by omega)
                rw [hsz] at n3
                obtain ⟨c1, c2⟩ := cpBox_get g' m _ 0 l hl
                have hln : ((cs.drop co).take n).length = n := by rw [List.length_take, List.length_drop]; omega
                rw [hln] at c1 c2
                have hbox : putL cs co (l.take (min m n)) = putL cs co l := by
                  apply List.ext_getElem?
                  intro j
                  rw [putL_get _ _ _ (by rw [List.length_take]; omega), putL_get _ _ _ (by omega)]
                  by_cases h1 : co ≤ j ∧ j < co + n
                  · rw [if_pos (show co ≤ j ∧ j < co + l.length by omega)]
                    by_cases h2 : j < co + min m n
                    · rw [if_pos (by rw [List.length_take]; omega), List.getElem?_take_of_lt (by omega)]
                    · rw [if_neg (by rw [List.length_take]; omega), c2 _ (by omega), if_neg (by omega), List.getElem?_take_of_lt (by omega), List.getElem?_drop]
                      congr 1; omega
                  · rw [if_neg (by rw [List.length_take]; omega), if_neg (by omega)]
                have hnl : news.length = min m n := by rw [n3.len, Nat.mul_one]
                by_cases h0 : n = 0
                · subst h0
                  have hn0 : news = [] := List.eq_nil_of_length_eq_zero (by omega)
                  subst hn0
                  have hl0 : l = [] := List.eq_nil_of_length_eq_zero c1
                  subst hl0
                  refine ⟨_, _, copy_run ht U a' 0 cap' m n2 n1 (w' := c.w) (by cases a' <;> rfl), ?_⟩
                  have : putL cs co [] = cs := by cases cs <;> cases co <;> rfl
                  rw [this, setF_self hi] at hK
                  exact aft_same hm (.mkInt _ _) hK
                · have := r3 (by omega)
                  subst this
                  obtain ⟨w', hst, A⟩ := write_box (P := P) hm hi hρ (off := co) (ds := l.take (min m n)) (vs := news) (by rw [hnl, List.length_take]; omega) (by rw [List.length_take]; omega)
                    (by
                      have : ∀ (q : List V), (∀ d ∈ q, cellB d = true) → allC q = true := by
                        intro q
                        induction q with
                        | nil => intro _; rfl
                        | cons x q ih =>
                          intro hq
                          simp only [allC, andB_eq, Bool.and_eq_true]
                          exact ⟨hq x (by simp), ih fun d hd => hq d (by simp [hd])⟩
                      apply this
                      intro d hd
                      obtain ⟨j, hj⟩ := List.getElem?_of_mem hd
                      have hjl := (List.getElem?_eq_some_iff.1 hj).1
                      rw [List.length_take] at hjl
                      rw [List.getElem?_take_of_lt (by omega), c2 j (by omega), if_pos (by omega)] at hj
                      have := n3.get j (by omega) 0 d (by simpa using hj)
                      obtain ⟨x, x1, x2⟩ := this
                      cases x2 <;> first | rfl | (have := n3.one _ (List.mem_of_getElem? x1); simpa [cellB, oneB_eq] using this))
                    (fun j v d hv hd => by
                      have hjl := (List.getElem?_eq_some_iff.1 hd).1
                      rw [List.length_take] at hjl
                      rw [List.getElem?_take_of_lt (by omega), c2 j (by omega), if_pos (by omega)] at hd
                      obtain ⟨x, x1, x2⟩ := n3.get j (by omega) 0 d (by simpa using hd)
                      rw [Nat.mul_one, Nat.add_zero, hv] at x1
                      cases x1
                      exact .pure x2)
                    (v := .int .i64 ((min m n : Nat) : Int)) (fun c' _ => .mkInt _ _) (by rw [hbox]; exact hK)
                  exact ⟨_, w', copy_run ht U _ n _ m n2 n1 hst, A⟩
              · exact hK.elim
            · exact hK.elim
          · exact hK.elim
        · exact hK.elim
      · exact hK.elim
  · exact hK.elim
end Go.Ev
