import Derived.Test.YtjiobeonlanfaaaEvI
namespace Go.Ev
set_option linter.unusedSimpArgs false
set_option linter.unusedVariables false
open Go.RowKit

/-! ### What is asked of more, is asked of less -/
def MonoC (cw : CallW) : Prop := ∀ f args h K K' Kp Kp', (∀ v h', K v h' → K' v h') → (∀ v h', Kp v h' → Kp' v h') → cw f args h K Kp → cw f args h K' Kp'
/-- boxes stay as they are -/
def Bx (h h' : Hp) : Prop := ∀ i cs, getF h i = some (.box cs) → getF h' i = some (.box cs)
def QuietOk (quiet : FuncId → Bool) (cw : CallW) : Prop := ∀ f, quiet f = true → ∀ args h K K' Kp Kp', (∀ v h', Bx h h' → K v h' → K' v h') → (∀ v h', Kp v h' → Kp' v h') → cw f args h K Kp → cw f args h K' Kp'
/-- how a class may turn memory -/
def Tr : Cl → Hp → Hp → Prop
  | .pure, h, h' => h' = h
  | .read, h, h' => h' = h
  | .other, _, _ => True
  | _, h, h' => Bx h h'
theorem Tr.same (c : Cl) (h : Hp) : Tr c h h := by cases c <;> first | trivial | rfl | exact fun _ _ x => x
theorem Bx.refl (h : Hp) : Bx h h := fun _ _ x => x
theorem Bx.snoc (h : Hp) (o : Ob) : Bx h (h ++ [some o]) := fun i cs hi => by
  have := getF_lt hi
  rw [getF_snoc, if_neg (by omega)]; exact hi
theorem Bx.kill {h : Hp} {i : Nat} {E sz L : Nat} {g : Nat → List V} (hi : getF h i = some (.seq E sz L g)) : Bx h (setF h i none) := fun j cs hj => by
  rw [getF_set]
  split
  · rename_i e; rw [← e.1, hi] at hj; cases hj
  · exact hj
theorem Bx.trans {a b c : Hp} (h : Bx a b) (k : Bx b c) : Bx a c := fun i cs x => k i cs (h i cs x)
theorem frz_bx : ∀ {l : List V} {h : Hp} {p : Rq} {l' : List V} {h' : Hp}, frz l h = some (p, l', h') → Bx h h'
  | [], h, p, l', h', e => by simp only [frz, Option.some.injEq, Prod.mk.injEq] at e; obtain ⟨_, _, rfl⟩ := e; exact Bx.refl h
  | v :: l, h, p, l', h', e => by
    unfold frz at e
    split at e
    · rename_i heq; cases heq
    · rename_i heq
      cases heq
      split at e
      · rename_i hg
        split at e
        · split at e
          · rename_i hf
            simp only [Option.some.injEq, Prod.mk.injEq] at e; obtain ⟨_, _, rfl⟩ := e
            exact (Bx.kill hg).trans (frz_bx hf)
          · cases e
        · cases e
      · cases e
    · rename_i heq
      cases heq
      split at e
      · split at e
        · rename_i hf
          simp only [Option.some.injEq, Prod.mk.injEq] at e; obtain ⟨_, _, rfl⟩ := e
          exact frz_bx hf
        · cases e
      · cases e
theorem rqW_mono {p : Rq} {k k' : Prop} (h : k → k') (hr : rqW p k) : rqW p k' := by
  rw [rqW_iff] at *
  exact ⟨hr.1, h hr.2⟩

variable {P : Program} {ty : TypeId → Option Ty} {quiet : FuncId → Bool} {cw : CallW}

theorem appW_mono {t : TypeId} {d s : V} {h : Hp} {K K' : V → Hp → Prop} (hK : ∀ v h', Bx h h' → K v h' → K' v h') (hA : appW ty t d s h K) : appW ty t d s h K' := by
  unfold appW at hA
  split at hA
  · rename_i y hy
    split at hA
    · rename_i e hk
      split at hA
      · rename_i u hu
        split at hA
        · rename_i p m g' hc
          split at hA
          · unfold appW
            simp only [hy, hk, hu, hc]
            exact rqW_mono (hK _ _ (Bx.snoc _ _)) hA
          · split at hA
            · rename_i hg
              split at hA
              · rename_i hb
                unfold appW
                simp only [hy, hk, hu, hc, hg, hb]
                exact rqW_mono (hK _ _ ((Bx.kill hg).trans (Bx.snoc _ _))) hA
              · exact hA.elim
            · exact hA.elim
          · exact hA.elim
        · exact hA.elim
      · exact hA.elim
    · exact hA.elim
  · exact hA.elim
theorem copyW_mono {t : TypeId} {d s : V} {h : Hp} {K K' : V → Hp → Prop} (hK : ∀ v h', K v h' → K' v h') (hA : copyW ty t d s h K) : copyW ty t d s h K' := by
  unfold copyW at hA
  split at hA
  · rename_i y hy
    split at hA
    · rename_i e hk
      split at hA
      · rename_i u hu
        split at hA
        · rename_i p m g' id sz off n hc
          split at hA
          · rename_i hg
            split at hA
            · rename_i hb
              unfold copyW
              simp only [hy, hk, hu, hc, hg, hb]
              exact rqW_mono (hK _ _) hA
            · exact hA.elim
          · exact hA.elim
        · rename_i p m g' id co n hc
          split at hA
          · rename_i hg hu1
            split at hA
            · rename_i l hl
              unfold copyW
              rw [hu1] at hc
              simp only [hy, hk, hu, hu1, hc, hg, hl]
              exact rqW_mono (hK _ _) hA
            · exact hA.elim
          · exact hA.elim
        · exact hA.elim
      · exact hA.elim
    · exact hA.elim
  · exact hA.elim
theorem callE_mono (hcw : MonoC cw) (hq : QuietOk quiet cw) {ev : Operand → Option V} (hev : ∀ f, ev (.func f) = some (.clo f [] [])) {h : Hp} {K K' Kp Kp' : V → Hp → Prop} {cl : Callee} {args : List Operand} {ts : List TypeId}
    (hK : ∀ v h', Tr (clOf ty quiet (.call ⟨cl, args.toArray, ts.toArray⟩)) h h' → K v h' → K' v h') (hKp : ∀ v h', Kp v h' → Kp' v h') (hA : callE ty cw ev h K Kp cl args ts) : callE ty cw ev h K' Kp' cl args ts := by
  unfold callE at hA
  split at hA
  · rename_i d s t t'
    unfold callE
    simp only [clOf, Tr] at hK
    split at hA
    · rename_i a b T ha hb hT
      split at hA
      · rename_i h1 h2
        simp only [ha, hb, hT, h1, h2]
        exact appW_mono hK hA
      · rename_i h1 h2
        simp only [ha, hb, hT, h1, h2]
        exact appW_mono hK hA
      · exact hA.elim
    · exact hA.elim
  · rename_i d s t t'
    unfold callE
    simp only [clOf, Tr, true_implies] at hK
    split at hA
    · rename_i a b ha hb
      simp only [ha, hb]
      exact copyW_mono hK hA
    · exact hA.elim
  · rename_i f
    unfold callE
    split at hA
    · rename_i g first caps vs hf hv
      simp only [hf, hv]
      cases f with
      | func f =>
        simp only [clOf] at hK
        cases hqf : quiet f with
        | true =>
          simp only [hqf, cond_true, Tr] at hK
          rw [hev] at hf
          cases hf
          exact hq _ hqf _ _ _ _ _ _ hK hKp hA
        | false =>
          simp only [hqf, cond_false, Tr, true_implies] at hK
          exact hcw _ _ _ _ _ _ _ hK hKp hA
      | _ => exact hcw _ _ _ _ _ _ _ (fun v h' x => hK v h' trivial x) hKp hA
    · exact hA.elim
  · exact hA.elim
theorem opE_mono (hcw : MonoC cw) (hq : QuietOk quiet cw) {ev : Operand → Option V} (hev : ∀ f, ev (.func f) = some (.clo f [] [])) {h : Hp} {K K' Kp Kp' : V → Hp → Prop} {op : Op}
    (hK : ∀ v h', Tr (clOf ty quiet op) h h' → K v h' → K' v h') (hKp : ∀ v h', Kp v h' → Kp' v h') (hA : opE ty cw op ev none h K Kp) : opE ty cw op ev none h K' Kp' := by
  cases op with
  | alloc t =>
    simp only [opE, newH] at hA ⊢
    split at hA
    · exact hK _ _ (Bx.snoc _ _) hA
    · exact hA
  | box t x =>
    simp only [opE, newH] at hA ⊢
    split at hA
    · split at hA
      · rename_i hb hp
        cases hp
        try simp only [hb]
        exact hK _ _ (Bx.snoc _ _) hA
      · exact hA.elim
    · exact hA
  | buildSlice t n parts =>
    simp only [opE, newH] at hA ⊢
    split at hA
    · rename_i y hy
      split at hA
      · rename_i e hk
        split at hA
        · rename_i u hu
          split at hA
          · rename_i cs hb hf
            try simp only [hy, hk, hu, hb, hf]
            split at hA
            · rename_i hfz
              exact rqW_mono (hK _ _ ((frz_bx hfz).trans (Bx.snoc _ _))) hA
            · exact hA
          · exact hA.elim
        · exact hA.elim
      · exact hA.elim
    · exact hA
  | makeSlice t l cp =>
    simp only [opE, newH] at hA ⊢
    split at hA
    · rename_i y k1 l k2 c hy hl hc
      split at hA
      · rename_i e hk
        split at hA
        · rename_i u hu
          try simp only [hy, hk, hu, hl, hc]
          exact ⟨hA.1, hA.2.1, hA.2.2.1, hA.2.2.2.1, hK _ _ (Bx.snoc _ _) hA.2.2.2.2⟩
        · exact hA.elim
      · exact hA.elim
    · exact hA.elim
  | store t x v =>
    simp only [opE] at hA ⊢
    simp only [clOf, Tr, true_implies] at hK
    split at hA
    · split at hA
      · split at hA
        · exact hK _ _ hA
        · exact hA
      · exact hA
    · split at hA
      · split at hA
        · split at hA
          · rename_i hb
            exact rqW_mono (hK _ _) hA
          · exact hA
        · exact hA
      · exact hA
    · exact hA
  | convert s t x =>
    simp only [opE] at hA ⊢
    split at hA
    · rename_i S D b hS hD hx
      split at hA
      · rename_i e hk1 hk2
        try simp only [hk1, hk2]
        have hc : clOf ty quiet (.convert s t x) = .other := by
          have : isSl ty t = true := by unfold isSl; rw [hD]; simp only [hk2]
          simp [clOf, this]
        rw [hc] at hK
        split at hA
        · split at hA
          · exact rqW_mono (hK _ _ trivial) hA
          · exact hA
        · exact hA
      · exact hA.elim
    · exact hA
  | panic x =>
    simp only [opE] at hA ⊢
    split at hA
    · exact hKp _ _ hA
    · exact hA
  | call cl =>
    simp only [opE] at hA ⊢
    refine callE_mono hcw hq hev ?_ hKp hA
    exact hK
  | _ => exact hA
theorem opW_mono (hcw : MonoC cw) (hq : QuietOk quiet cw) {ev : Operand → Option V} (hev : ∀ f, ev (.func f) = some (.clo f [] [])) {h : Hp} {K K' Kp Kp' : V → Hp → Prop} {op : Op}
    (hK : ∀ v h', Tr (clOf ty quiet op) h h' → K v h' → K' v h') (hKp : ∀ v h', Kp v h' → Kp' v h') (hA : opW ty cw op ev none h K Kp) : opW ty cw op ev none h K' Kp' := by
  unfold opW at hA ⊢
  split
  · rename_i p v hp
    simp only [hp] at hA
    exact rqW_mono (hK _ _ (Tr.same _ _)) hA
  · rename_i hp
    simp only [hp] at hA
    split
    · rename_i p v hr
      simp only [hr] at hA
      exact rqW_mono (hK _ _ (Tr.same _ _)) hA
    · rename_i hr
      simp only [hr] at hA
      refine opE_mono (quiet := quiet) hcw hq hev ?_ hKp hA
      intro v h' ht hk
      rw [forceH_eq] at hk ⊢
      exact hK v h' ht hk

/-! ### A step, plainly -/
def wantA (ops : List Oper) (o : Oper) (fr : Fr) : Option Bool :=
  match o.guard with
  | none => some true
  | some (g, want) => match gslot ops g with
    | some s => (match getF fr s with | some (.bool b) => some (b == want) | some (.tup []) => some false | _ => none)
    | none => none
theorem stepW_eq (ops : List Oper) (o : Oper) (nid : Option Nat) (fr : Fr) (h : Hp) (K : Fr → Hp → Prop) (Kp : V → Hp → Prop) :
    stepW ty cw ops o nid fr h K Kp = match wantA ops o fr with
      | some true => opW ty cw o.op (evO fr) nid h (fun v h' => K (putF fr o.dst (some v)) h') Kp
      | some false => K (putF fr o.dst (some (.tup []))) h
      | none => False := by
  unfold stepW wantA
  cases hg : o.guard with
  | none => simp only [forceV_eq, putK_eq]
  | some gw =>
    obtain ⟨g, want⟩ := gw
    simp only
    cases hs : gslot ops g with
    | none => rfl
    | some s =>
      simp only
      split
      · rename_i b hb
        rw [splitB_eq, setK_eq, setF_self hb]
        cases b <;> cases want <;> simp [hb, forceV_eq, putK_eq]
      · rename_i hb
        simp [hb, putK_eq]
      · rename_i hn hn2
        split
        · rename_i heq
          split at heq
          · rename_i b hb; exact absurd hb (hn b)
          · cases heq
          · cases heq
        · rename_i heq
          split at heq
          · rename_i b hb; exact absurd hb (hn b)
          · rename_i hb; exact absurd hb hn2
          · cases heq
        · rfl
theorem evO_func (fr : Fr) : ∀ f, evO fr (.func f) = some (.clo f [] []) := fun _ => rfl
theorem stepW_mono (hcw : MonoC cw) (hq : QuietOk quiet cw) {ops : List Oper} {o : Oper} {fr : Fr} {h : Hp} {K K' : Fr → Hp → Prop} {Kp Kp' : V → Hp → Prop}
    (hK : ∀ u h', Tr (clOf ty quiet o.op) h h' → K (putF fr o.dst u) h' → K' (putF fr o.dst u) h') (hKp : ∀ v h', Kp v h' → Kp' v h') (hA : stepW ty cw ops o none fr h K Kp) : stepW ty cw ops o none fr h K' Kp' := by
  rw [stepW_eq] at hA ⊢
  split at hA
  · exact opW_mono hcw hq (evO_func fr) (fun v h' ht hk => hK _ _ ht hk) hKp hA
  · exact hK _ _ (Tr.same _ _) hA
  · exact hA.elim
end Go.Ev
