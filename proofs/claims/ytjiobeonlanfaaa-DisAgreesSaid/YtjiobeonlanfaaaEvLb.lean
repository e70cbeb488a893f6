import Derived.Test.YtjiobeonlanfaaaEvXt
namespace Go.Ev
set_option linter.unusedSimpArgs false
set_option linter.unusedVariables false
open Go.RowKit

variable {P : Program}

/-- many ways to one end: the end is shown once -/
theorem oneEnd {G : Prop} (h : ∃ X : Prop, X ∧ ((Unit → X) → G)) : G := h.elim fun _ hx => hx.2 fun _ => hx.1
/-! ### Loops that leave memory behind -/
mutual
def idB (n : Nat) : V → Bool
  | .ptr id _ => Nat.blt id n
  | .eptr id _ _ _ => Nat.blt id n
  | .own id _ _ _ => Nat.blt id n
  | .arr id _ _ _ => Nat.blt id n
  | .agg cs => idLB n cs
  | .tup cs => idLB n cs
  | .clo _ a b => andB (idLB n a) (idLB n b)
  | .ifc _ v => idB n v
  | _ => true
def idLB (n : Nat) : List V → Bool
  | [] => true
  | d :: l => andB (idB n d) (idLB n l)
end
def idFB (n : Nat) : Fr → Bool
  | [] => true
  | none :: l => idFB n l
  | some v :: l => andB (idB n v) (idFB n l)
def idHB (n : Nat) : Hp → Bool
  | [] => true
  | some (.box cs) :: l => andB (idLB n cs) (idHB n l)
  | _ :: l => idHB n l
mutual
theorem idB_ok (n : Nat) : ∀ v : V, idB n v = true → idsB n v
  | .ptr id o, h => by simpa [idB, idsB, Nat.blt_eq] using h
  | .eptr id a b c, h => by simpa [idB, idsB, Nat.blt_eq] using h
  | .own id a b c, h => by simpa [idB, idsB, Nat.blt_eq] using h
  | .arr id a b c, h => by simpa [idB, idsB, Nat.blt_eq] using h
  | .agg cs, h => by simp only [idsB]; exact idLB_ok n cs (by simpa [idB] using h)
  | .tup cs, h => by simp only [idsB]; exact idLB_ok n cs (by simpa [idB] using h)
  | .clo f a b, h => by
    simp only [idB, andB_eq, Bool.and_eq_true] at h
    simp only [idsB]
    exact ⟨idLB_ok n a h.1, idLB_ok n b h.2⟩
  | .ifc t v, h => by simp only [idsB]; exact idB_ok n v (by simpa [idB] using h)
  | .bool _, _ => by simp [idsB]
  | .int _ _, _ => by simp [idsB]
  | .str _, _ => by simp [idsB]
  | .nsl, _ => by simp [idsB]
  | .cst _, _ => by simp [idsB]
  | .iptr _, _ => by simp [idsB]
  | .imm _ _ _, _ => by simp [idsB]
theorem idLB_ok (n : Nat) : ∀ l : List V, idLB n l = true → idsL n l
  | [], _ => by simp [idsL]
  | d :: l, h => by
    simp only [idLB, andB_eq, Bool.and_eq_true] at h
    simp only [idsL]
    exact ⟨idB_ok n d h.1, idLB_ok n l h.2⟩
end
theorem wkF_keep {n : Nat} {ks : List Nat} : ∀ (fr : Fr) (p : Nat), idFB n (keepF ks p fr) = true → wkF n fr (keepF ks p fr)
  | [], _, _ => trivial
  | x :: l, p, h => by
    cases e : inN p ks with
    | true =>
      simp only [keepF, e] at h ⊢
      cases x with
      | none => exact wkF_keep l (p + 1) h
      | some v =>
        simp only [idFB, andB_eq, Bool.and_eq_true] at h
        exact ⟨vle_refl v, idB_ok n v h.1, wkF_keep l (p + 1) h.2⟩
    | false =>
      simp only [keepF, e] at h ⊢
      cases x with
      | none => exact wkF_keep l (p + 1) h
      | some v => exact wkF_keep l (p + 1) h
theorem wkL_refl {n : Nat} : ∀ (l : List V), idLB n l = true → wkL n l l
  | [], _ => trivial
  | v :: l, h => by
    simp only [idLB, andB_eq, Bool.and_eq_true] at h
    exact ⟨vle_refl v, idB_ok n v h.1, wkL_refl l h.2⟩
theorem wkH_take {n : Nat} : ∀ (k : Nat) (h : Hp), idHB n (h.take k) = true → wkH n h (h.take k)
  | 0, h, _ => by cases h <;> trivial
  | k + 1, [], _ => trivial
  | k + 1, none :: l, h => wkH_take k l h
  | k + 1, some (.box cs) :: l, h => by
    simp only [List.take_succ_cons, idHB, andB_eq, Bool.and_eq_true] at h
    exact ⟨wkL_refl cs h.1, wkH_take k l h.2⟩
  | k + 1, some (.seq a b c g) :: l, h => ⟨⟨rfl, rfl, rfl, fun _ _ => rfl⟩, wkH_take k l h⟩
/-- as loopA; what a round leaves behind is let go -/
theorem loopB {E : Env} (o : EnvOk P E) {m lo : Nat} {code : Code} {Q : Post} {fr : Fr} {h : Hp} {α : Type} (ks : List Nat) (F : α → Fr) (H : α → Hp) (inv : α → Prop) (μ : α → Nat) (x0 : α) (hF : keepF ks 0 fr = F x0) (hH : h.take (H x0).length = H x0) (h0 : inv x0)
    (hid : ∀ x, inv x → lo ≤ (H x).length ∧ idFB (H x).length (F x) = true ∧ idHB (H x).length (H x) = true)
    (hr : ∀ x, inv x → AWP E.ty E.quiet (callW E m) lo code (thenQ (fun fr1 h1 => ∃ y, keepF ks 0 fr1 = F y ∧ h1.take (H y).length = H y ∧ inv y ∧ μ y < μ x) Q) (F x) (H x)) : LoopW lo (AWP E.ty E.quiet (callW E m) lo code) Q fr h := by
  have key : ∀ {fr h x}, keepF ks 0 fr = F x → h.take (H x).length = H x → inv x → wk lo fr h (F x) (H x) := fun {fr h x} e1 e2 hi => by
    obtain ⟨i1, i2, i3⟩ := hid x hi
    refine .inr (.inl ⟨i1, ?_, by rw [← e1]; exact wkF_keep fr 0 (by rw [e1]; exact i2), ?_⟩)
    · have := congrArg List.length e2
      rw [List.length_take] at this
      omega
    · have := wkH_take (n := (H x).length) (H x).length h (by rw [e2]; exact i3)
      rw [e2] at this
      exact this
  unfold LoopW
  refine ⟨fun n fr h => ∃ x, fr = F x ∧ h = H x ∧ inv x ∧ μ x = n, ⟨μ x0, F x0, H x0, key hF hH h0, x0, rfl, rfl, h0, rfl⟩, ?_⟩
  rintro n fr h ⟨x, rfl, rfl, hi, rfl⟩
  exact awp_mono (callW_mono o.mono o.quiet m) (callW_quiet o.quiet m) lo code _ _ (thenQ_mono (fun fr1 h1 ⟨y, e1, e2, e3, e4⟩ => ⟨μ y, F y, H y, e4, key e1 e2 e3, y, rfl, rfl, e3, rfl⟩) (fun _ _ _ x => x)) _ _ (hr x hi)
/-! ### Loops that lay things anew -/
def atN : List Nat → Nat → Nat
  | [], _ => 0
  | x :: _, 0 => x
  | _ :: l, n + 1 => atN l n
def renFr (s : Nat → Nat) : Fr → Fr
  | [] => []
  | none :: l => none :: renFr s l
  | some v :: l => some (mapS s v) :: renFr s l
def renHp (s : Nat → Nat) : Hp → Hp
  | [] => []
  | some (.box cs) :: l => some (.box (mapSL s cs)) :: renHp s l
  | o :: l => o :: renHp s l
def pickH (h : Hp) : List Nat → Hp
  | [] => []
  | i :: l => getF h i :: pickH h l
def nodupB : List Nat → Bool
  | [] => true
  | x :: l => match inN x l with | true => false | false => nodupB l
def preB : Nat → Nat → List Nat → Bool
  | _, 0, _ => true
  | i, n + 1, x :: l => andB (Nat.beq x i) (preB (i + 1) n l)
  | _, _ + 1, [] => false
theorem inNm {k : Nat} : ∀ {l : List Nat}, inN k l = true ↔ k ∈ l
  | [] => by simp [inN]
  | j :: l => by
    have ih := inNm (k := k) (l := l)
    simp only [inN]
    cases e : Nat.beq k j with
    | true => simp [nbeq e]
    | false =>
      have : k ≠ j := fun h => by subst h; simp at e
      simp [ih, this]
theorem atN_eq : ∀ (l : List Nat) (i : Nat), atN l i = (l[i]?).getD 0
  | [], i => by simp [atN]
  | x :: l, 0 => by simp [atN]
  | x :: l, i + 1 => by simp [atN, atN_eq l i]
theorem nodupB_inj : ∀ {l : List Nat}, nodupB l = true → ∀ i j, i < l.length → j < l.length → atN l i = atN l j → i = j
  | [], _, i, j, hi, _, _ => by simp at hi
  | x :: l, h, i, j, hi, hj, e => by
    simp only [nodupB] at h
    split at h
    · cases h
    · rename_i hx
      have hmem : ∀ k, k < l.length → atN l k ≠ x := fun k hk he => by
        have : x ∈ l := by
          rw [atN_eq] at he
          have : l[k]? = some l[k] := by simp [hk]
          rw [this] at he
          simp at he
          exact List.mem_of_getElem? (by rw [this, he])
        rw [inNm.2 this] at hx
        cases hx
      cases i with
      | zero =>
        cases j with
        | zero => rfl
        | succ j => exact absurd e.symm (hmem j (by simpa using hj))
      | succ i =>
        cases j with
        | zero => exact absurd e (hmem i (by simpa using hi))
        | succ j => rw [nodupB_inj h i j (by simpa using hi) (by simpa using hj) e]
theorem preB_at : ∀ {l : List Nat} {i n : Nat}, preB i n l = true → ∀ k, k < n → atN l k = i + k
  | _, _, 0, _, k, hk => by omega
  | [], _, n + 1, h, k, hk => by simp [preB] at h
  | x :: l, i, n + 1, h, k, hk => by
    simp only [preB, andB_eq, Bool.and_eq_true] at h
    cases k with
    | zero => exact nbeq h.1
    | succ k =>
      have := preB_at h.2 k (by omega)
      simp only [atN]
      omega
theorem renFr_get (s : Nat → Nat) : ∀ (fr : Fr) (p : Nat), getF (renFr s fr) p = (getF fr p).map (mapS s)
  | [], p => by simp [renFr, getF]
  | none :: l, 0 => by simp [renFr, getF]
  | some v :: l, 0 => by simp [renFr, getF]
  | none :: l, p + 1 => by simp only [renFr, getF]; exact renFr_get s l p
  | some v :: l, p + 1 => by simp only [renFr, getF]; exact renFr_get s l p
theorem renFr_len (s : Nat → Nat) : ∀ (fr : Fr), (renFr s fr).length = fr.length
  | [] => rfl
  | none :: l => by simp [renFr, renFr_len s l]
  | some v :: l => by simp [renFr, renFr_len s l]
theorem renHp_get (s : Nat → Nat) : ∀ (h : Hp) (i : Nat), getF (renHp s h) i = match getF h i with | some (.box cs) => some (.box (mapSL s cs)) | o => o
  | [], i => by simp [renHp, getF]
  | none :: l, 0 => by simp [renHp, getF]
  | some (.box cs) :: l, 0 => by simp [renHp, getF]
  | some (.seq a b c g) :: l, 0 => by simp [renHp, getF]
  | none :: l, i + 1 => by simp only [renHp, getF]; exact renHp_get s l i
  | some (.box cs) :: l, i + 1 => by simp only [renHp, getF]; exact renHp_get s l i
  | some (.seq a b c g) :: l, i + 1 => by simp only [renHp, getF]; exact renHp_get s l i
theorem pickH_get (h : Hp) : ∀ (l : List Nat) (i : Nat), i < l.length → getF (pickH h l) i = getF h (atN l i)
  | [], i, hi => by simp at hi
  | x :: l, 0, _ => by simp [pickH, getF, atN]
  | x :: l, i + 1, hi => by simp only [pickH, getF, atN]; exact pickH_get h l i (by simpa using hi)
theorem keepF_some {ks : List Nat} : ∀ {fr : Fr} {p q : Nat} {d : V}, getF (keepF ks p fr) q = some d → getF fr q = some d
  | [], _, _, _, h => by simp [keepF, getF] at h
  | x :: l, p, 0, d, h => by
    simp only [keepF, getF] at h ⊢
    split at h
    · exact h
    · cases h
  | x :: l, p, q + 1, d, h => by
    simp only [keepF, getF] at h ⊢
    exact keepF_some h
theorem keepF_len (ks : List Nat) : ∀ (fr : Fr) (p : Nat), (keepF ks p fr).length = fr.length
  | [], _ => rfl
  | x :: l, p => by simp [keepF, keepF_len ks l (p + 1)]
theorem idFB_get {n : Nat} : ∀ {fr : Fr} {p : Nat} {d : V}, idFB n fr = true → getF fr p = some d → idsB n d
  | [], _, _, _, h => by simp [getF] at h
  | none :: l, 0, _, _, h => by simp [getF] at h
  | none :: l, p + 1, d, hi, h => idFB_get (fr := l) (by simpa [idFB] using hi) (by simpa [getF] using h)
  | some v :: l, p, d, hi, h => by
    simp only [idFB, andB_eq, Bool.and_eq_true] at hi
    cases p with
    | zero => simp only [getF, Option.some.injEq] at h; subst h; exact idB_ok n _ hi.1
    | succ p => exact idFB_get hi.2 (by simpa [getF] using h)
theorem idHB_get {n : Nat} : ∀ {h : Hp} {i : Nat} {cs : List V}, idHB n h = true → getF h i = some (.box cs) → idsL n cs
  | [], _, _, _, h => by simp [getF] at h
  | none :: l, 0, _, _, h => by simp [getF] at h
  | none :: l, p + 1, d, hi, h => idHB_get (h := l) (by simpa [idHB] using hi) (by simpa [getF] using h)
  | some (.seq a b c g) :: l, 0, _, _, h => by simp [getF] at h
  | some (.seq a b c g) :: l, p + 1, d, hi, h => idHB_get (h := l) (by simpa [idHB] using hi) (by simpa [getF] using h)
  | some (.box cs) :: l, p, d, hi, h => by
    simp only [idHB, andB_eq, Bool.and_eq_true] at hi
    cases p with
    | zero => simp only [getF, Option.some.injEq, Ob.box.injEq] at h; subst h; exact idLB_ok n _ hi.1
    | succ p => exact idHB_get hi.2 (by simpa [getF] using h)
/-- fr, h are told as F, H, whose number i is σ's i-th -/
def TellC (ks : List Nat) (lo : Nat) (fr : Fr) (h : Hp) (F : Fr) (H : Hp) (σ : List Nat) : Prop :=
  keepF ks 0 fr = renFr (atN σ) F ∧ pickH h σ = renHp (atN σ) H ∧ andB (Nat.beq σ.length H.length) (andB (nodupB σ) (preB 0 lo σ)) = true
theorem loopC {E : Env} (o : EnvOk P E) {m lo : Nat} {code : Code} {Q : Post} {fr : Fr} {h : Hp} {α : Type} (ks : List Nat) (F : α → Fr) (H : α → Hp) (inv : α → Prop) (μ : α → Nat) (x0 : α) (σ0 : List Nat) (hF : TellC ks lo fr h (F x0) (H x0) σ0) (h0 : inv x0)
    (hid : ∀ x, inv x → Nat.ble lo (H x).length = true ∧ idFB (H x).length (F x) = true ∧ idHB (H x).length (H x) = true)
    (hr : ∀ x, inv x → AWP E.ty E.quiet (callW E m) lo code (thenQ (fun fr1 h1 => ∃ y σ, TellC ks lo fr1 h1 (F y) (H y) σ ∧ inv y ∧ μ y < μ x) Q) (F x) (H x)) : LoopW lo (AWP E.ty E.quiet (callW E m) lo code) Q fr h := by
  have key : ∀ {fr h x σ}, TellC ks lo fr h (F x) (H x) σ → inv x → wk lo fr h (F x) (H x) := fun {fr h x σ} e hi => by
    obtain ⟨e1, e2, e3⟩ := e
    obtain ⟨i1, i2, i3⟩ := hid x hi
    simp only [andB_eq, Bool.and_eq_true] at e3
    obtain ⟨l1, l2, l3⟩ := e3
    have l1 := nbeq l1
    refine .inr (.inr ⟨atN σ, nble i1, fun i hi => by have := preB_at l3 i hi; omega, fun i j hi hj => nodupB_inj l2 i j (by omega) (by omega), ?_, fun p d' hd => ⟨idFB_get i2 hd, ?_⟩, fun i cs' hc => ⟨idHB_get i3 hc, ?_⟩, fun i E' sz n g hc => ?_⟩)
    · have := congrArg List.length e1
      rw [keepF_len, renFr_len] at this
      exact this
    · refine keepF_some (ks := ks) (p := 0) ?_
      rw [e1, renFr_get, hd]
      rfl
    · have hlt := getF_lt hc
      rw [← pickH_get h σ i (by omega), e2, renHp_get, hc]
    · have hlt := getF_lt hc
      rw [← pickH_get h σ i (by omega), e2, renHp_get, hc]
  unfold LoopW
  refine ⟨fun n fr h => ∃ x, fr = F x ∧ h = H x ∧ inv x ∧ μ x = n, ⟨μ x0, F x0, H x0, key hF h0, x0, rfl, rfl, h0, rfl⟩, ?_⟩
  rintro n fr h ⟨x, rfl, rfl, hi, rfl⟩
  exact awp_mono (callW_mono o.mono o.quiet m) (callW_quiet o.quiet m) lo code _ _ (thenQ_mono (fun fr1 h1 ⟨y, σ, e1, e3, e4⟩ => ⟨μ y, F y, H y, e4, key e1 e3, y, rfl, rfl, e3, rfl⟩) (fun _ _ _ x => x)) _ _ (hr x hi)
/-! ### Arguments, taken apart -/
theorem okArgs1 {a : Bool × List Sh} : ∀ {us : List V}, okArgs [a] us → ∃ u, us = [u] ∧ okArg a u
  | [], h => h.elim
  | [u], h => ⟨u, rfl, h.1⟩
  | _ :: _ :: _, h => h.2.elim
theorem okArgsC {a : Bool × List Sh} {l : List (Bool × List Sh)} : ∀ {us : List V}, okArgs (a :: l) us → ∃ u r, us = u :: r ∧ okArg a u ∧ okArgs l r
  | [], h => h.elim
  | u :: r, h => ⟨u, r, rfl, h.1, h.2⟩
theorem okArgs2 {a b : Bool × List Sh} {us : List V} (h : okArgs [a, b] us) : ∃ u v, us = [u, v] ∧ okArg a u ∧ okArg b v := by
  obtain ⟨u, r, rfl, h1, h2⟩ := okArgsC h
  obtain ⟨v, rfl, h3⟩ := okArgs1 h2
  exact ⟨u, v, rfl, h1, h3⟩
theorem okArgs3 {a b c : Bool × List Sh} {us : List V} (h : okArgs [a, b, c] us) : ∃ u v w, us = [u, v, w] ∧ okArg a u ∧ okArg b v ∧ okArg c w := by
  obtain ⟨u, r, rfl, h1, h2⟩ := okArgsC h
  obtain ⟨v, w, rfl, h3, h4⟩ := okArgs2 h2
  exact ⟨u, v, w, rfl, h1, h3, h4⟩
theorem okArgs4 {a b c d : Bool × List Sh} {us : List V} (h : okArgs [a, b, c, d] us) : ∃ u v w x, us = [u, v, w, x] ∧ okArg a u ∧ okArg b v ∧ okArg c w ∧ okArg d x := by
  obtain ⟨u, r, rfl, h1, h2⟩ := okArgsC h
  obtain ⟨v, w, x, rfl, h3, h4, h5⟩ := okArgs3 h2
  exact ⟨u, v, w, x, rfl, h1, h3, h4, h5⟩
theorem okArgs5 {a b c d e : Bool × List Sh} {us : List V} (h : okArgs [a, b, c, d, e] us) : ∃ u v w x y, us = [u, v, w, x, y] ∧ okArg a u ∧ okArg b v ∧ okArg c w ∧ okArg d x ∧ okArg e y := by
  obtain ⟨u, r, rfl, h1, h2⟩ := okArgsC h
  obtain ⟨v, w, x, y, rfl, h3, h4, h5, h6⟩ := okArgs4 h2
  exact ⟨u, v, w, x, y, rfl, h1, h3, h4, h5, h6⟩
end Go.Ev
