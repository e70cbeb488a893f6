import Derived.Test.YtjiobeonlanfaaaEvK
namespace Go.Ev
set_option linter.unusedSimpArgs false
set_option linter.unusedVariables false
open Go.RowKit

variable {P : Program} {ty : TypeId → Option Ty} {quiet : FuncId → Bool} {cw : CallW}

theorem any_ok {B : Nat} {w0 : World} (hty : ∀ t y, ty t = some y → TyOk P t y) (heq : EqOk P ty) (hcw : CallOk P cw) {opsA : Array Oper} {K : Fr → Hp → Prop} {Kp : V → Hp → Prop} {Q : Exit → Act → World → Prop} {frc : Fr} (hclr : Clr frc opsA.toList) :
    ∀ (n : Nat) (listed : Array Bool) (c : Cx) (a : Act) (fr : Fr) (h : Hp), SM B w0 c a fr h → FM c a frc → PanAll c B w0 a.defers frc Kp Q →
      (∀ a' w', StPost c B w0 a.defers K a' w' → Q .normal a' w') → anyW ty cw opsA K Kp n listed fr h → wpAny P .any opsA Q n listed a c.w := by
  intro n
  induction n with
  | zero =>
    intro listed c a fr h s hfc hp hn hA
    exact ⟨hA.1, hn _ _ ⟨c, fr, h, rfl, Cx.le_refl c, s, rfl, hA.2⟩⟩
  | succ n ih =>
    intro listed c a fr h s hfc hp hn hA
    refine ⟨fun he => hn _ _ ⟨c, fr, h, rfl, Cx.le_refl c, s, rfl, hA.1 he⟩, fun i hi => ?_⟩
    obtain ⟨_, o, ho, _⟩ := mem_ready.1 hi
    have hmem : o ∈ opsA.toList := List.mem_of_getElem? (by simpa using ho)
    have st := step_ok hty heq hcw s rfl (nid := none) (fun i hi => by cases hi) (hp c a (Cx.le_refl c) hfc rfl) (hA.2 i hi o ho)
      (next := wpAny P .any opsA Q n (listed.setIfInBounds i true)) ?_
    · unfold wpOp
      simp only [ho]
      split
      · rename_i hw; rw [if_pos hw] at st; exact .inl st
      · rename_i hw; rw [if_neg hw] at st; exact st
    · intro v c' fr' h' le s' hk'
      refine ih _ c' _ fr' h' s' (hfc.putClr le (hclr o hmem) v) ?_ ?_ hk'
      · rw [put_defers]; exact hp.le le
      · rw [put_defers]; exact fun a' w' hs => hn a' w' (hs.le le)
theorem draw_ok (hty : ∀ t y, ty t = some y → TyOk P t y) (heq : EqOk P ty) (hcw : CallOk P cw) (hmo : MonoC cw) (hq : QuietOk quiet cw) (hfo : P.follows .mixedOrders = true) : DrawOk P ty quiet cw := by
  intro c B w0 h id opsA K Kp Q a fr s hp hn hA
  refine wp_region_any hfo ?_
  obtain ⟨m, hle⟩ := s.hm.world { c.w with drawn := c.w.drawn + 1 } rfl (Below.drew s.hm.below)
  have s' : SM B w0 { c with w := { c.w with drawn := c.w.drawn + 1 } } a fr h := ⟨s.fm.mono hle, m⟩
  exact any_ok hty heq hcw (clearD_spec opsA.toList fr).2.2 opsA.size _ { c with w := { c.w with drawn := c.w.drawn + 1 } } a fr h s' (s'.fm.clearD _) (hp.le hle) (fun a' w' hs => hn a' w' (hs.le hle))
    (drawN_any hmo hq _ _ _ fr h (Left.start opsA) hA)

/-! ### Code and calls ask no less of less -/
theorem drawN_mono (hcw : MonoC cw) (hq : QuietOk quiet cw) {opsA : Array Oper} {K K' : Fr → Hp → Prop} {Kp Kp' : V → Hp → Prop} (hK : ∀ fr h, K fr h → K' fr h) (hKp : ∀ v h, Kp v h → Kp' v h) : ∀ (n : Nat) (rem : Rem) (fr : Fr) (h : Hp),
    drawN ty quiet cw opsA K Kp n rem fr h → drawN ty quiet cw opsA K' Kp' n rem fr h
  | n, [], fr, h, hd => by cases n <;> exact hK _ _ hd
  | 0, _ :: _, fr, h, hd => hd
  | n + 1, r :: l, fr, h, hd => by
    simp only [drawN] at hd ⊢
    split at hd
    · exact stepW_mono hcw hq (fun u h' _ hk => drawN_mono hcw hq hK hKp n _ _ _ hk) hKp hd
    · have : ∀ q : Rem, conjL (fun i o => stepW ty cw opsA.toList o none fr h (fun fr' h' => drawN ty quiet cw opsA K Kp n (delN i (r :: l)) fr' h') Kp) q → conjL (fun i o => stepW ty cw opsA.toList o none fr h (fun fr' h' => drawN ty quiet cw opsA K' Kp' n (delN i (r :: l)) fr' h') Kp') q := by
        intro q
        induction q with
        | nil => exact fun x => x
        | cons x q ih =>
          obtain ⟨i, o⟩ := x
          cases q with
          | nil => exact fun hx => stepW_mono hcw hq (fun u h' _ hk => drawN_mono hcw hq hK hKp n _ _ _ hk) hKp hx
          | cons y q => exact fun hx => ⟨stepW_mono hcw hq (fun u h' _ hk => drawN_mono hcw hq hK hKp n _ _ _ hk) hKp hx.1, ih hx.2⟩
      exact this _ hd
theorem runW_mono (hcw : MonoC cw) (hq : QuietOk quiet cw) {ops : List Oper} {K K' : Fr → Hp → Prop} {Kp Kp' : V → Hp → Prop} (hK : ∀ fr h, K fr h → K' fr h) (hKp : ∀ v h, Kp v h → Kp' v h) : ∀ (l : List Oper) (fr : Fr) (h : Hp),
    runW ty cw ops K Kp l fr h → runW ty cw ops K' Kp' l fr h
  | [], fr, h, hd => hK _ _ hd
  | o :: l, fr, h, hd => stepW_mono hcw hq (fun u h' _ hk => runW_mono hcw hq hK hKp l _ _ hk) hKp hd
theorem thenQ_mono {next next' : Fr → Hp → Prop} {Q Q' : Post} (hn : ∀ fr h, next fr h → next' fr h) (hQ : ∀ e fr h, Q e fr h → Q' e fr h) : ∀ e fr h, thenQ next Q e fr h → thenQ next' Q' e fr h := by
  intro e fr h
  cases e <;> first | exact hn _ _ | exact hQ _ _ _
theorem blockQ_mono {id : Nat} {Q Q' : Post} (hQ : ∀ e fr h, Q e fr h → Q' e fr h) : ∀ e fr h, blockQ id Q e fr h → blockQ id Q' e fr h := by
  intro e fr h
  cases e <;> simp only [blockQ] <;> first | exact hQ _ _ _ | (split <;> exact hQ _ _ _)
theorem LoopW_mono {lo : Nat} {body : Post → Fr → Hp → Prop} (hb : ∀ Q Q' : Post, (∀ e fr h, Q e fr h → Q' e fr h) → ∀ fr h, body Q fr h → body Q' fr h) {Q Q' : Post} (hQ : ∀ e fr h, Q e fr h → Q' e fr h) {fr : Fr} {h : Hp} (hl : LoopW lo body Q fr h) : LoopW lo body Q' fr h := by
  unfold LoopW at hl ⊢
  obtain ⟨I, h0, hr⟩ := hl
  exact ⟨I, h0, fun n fr h hi => hb _ _ (thenQ_mono (fun _ _ x => x) hQ) _ _ (hr n fr h hi)⟩
theorem litK_mono {fr : Fr} {x : Operand} {b : Bool} {k k' : Fr → Prop} (h : ∀ fr, k fr → k' fr) (hl : litK fr x b k) : litK fr x b k' := by
  unfold litK at hl ⊢
  split
  · simp only [setK_eq] at hl ⊢; exact h _ hl
  · exact h _ (by cases x <;> first | exact hl | (rename_i hn; exact absurd rfl (hn _)))
theorem awp_mono (hcw : MonoC cw) (hq : QuietOk quiet cw) (lo : Nat) : ∀ (code : Code) (Q Q' : Post), (∀ e fr h, Q e fr h → Q' e fr h) → ∀ (fr : Fr) (h : Hp), AWP ty quiet cw lo code Q fr h → AWP ty quiet cw lo code Q' fr h := by
  intro code
  induction code with
  | skip => exact fun Q Q' hQ fr h hA => hQ _ _ _ hA
  | label l => exact fun Q Q' hQ fr h hA => hQ _ _ _ hA
  | exit id => exact fun Q Q' hQ fr h hA => hQ _ _ _ hA
  | ret => exact fun Q Q' hQ fr h hA => hQ _ _ _ hA
  | region id ops draw =>
    intro Q Q' hQ fr h hA
    cases draw with
    | false => exact runW_mono hcw hq (hQ _) (fun v h => hQ _ _ _) _ _ _ hA
    | true => exact drawN_mono hcw hq (hQ _) (fun v h => hQ _ _ _) _ _ _ _ hA
  | seq x y ihx ihy => exact fun Q Q' hQ fr h hA => ihx _ _ (thenQ_mono (fun fr h => ihy _ _ hQ fr h) hQ) fr h hA
  | cond x y z ihx ihy =>
    intro Q Q' hQ fr h hA
    simp only [AWP] at hA ⊢
    split at hA
    · rename_i b hb
      rw [splitB_eq] at hA ⊢
      cases b with
      | true => exact litK_mono (fun fr => ihx _ _ hQ fr h) hA
      | false => exact litK_mono (fun fr => ihy _ _ hQ fr h) hA
    · exact hA.elim
  | block id x ih => exact fun Q Q' hQ fr h hA => ih _ _ (blockQ_mono hQ) fr h hA
  | loop x ih => exact fun Q Q' hQ fr h hA => LoopW_mono ih hQ hA
  | _ => intro Q Q' hQ fr h hA; exact (hA : False).elim
/-- a contract asks no less of less -/
def MonoK (c : List V → Hp → (V → Hp → Prop) → (V → Hp → Prop) → Prop) : Prop := ∀ args h K K' Kp Kp', (∀ v h', K v h' → K' v h') → (∀ v h', Kp v h' → Kp' v h') → c args h K Kp → c args h K' Kp'
/-- and turns no box -/
def QuietK (c : List V → Hp → (V → Hp → Prop) → (V → Hp → Prop) → Prop) : Prop := ∀ args h K K' Kp Kp', (∀ v h', Bx h h' → K v h' → K' v h') → (∀ v h', Kp v h' → Kp' v h') → c args h K Kp → c args h K' Kp'
theorem retQ_mono {rs : List ResultVar} {K K' Kp Kp' : V → Hp → Prop} (hK : ∀ v h', K v h' → K' v h') (hKp : ∀ v h', Kp v h' → Kp' v h') : ∀ e fr h, retQ ty rs K Kp e fr h → retQ ty rs K' Kp' e fr h := by
  intro e fr h hr
  cases e with
  | exit i => exact hr
  | panic v => exact hKp _ _ hr
  | _ =>
    simp only [retQ] at hr ⊢
    split at hr
    · exact rqW_mono (hK _ _) hr
    · exact rqW_mono (hK _ _) hr
    · exact hr.elim

structure EnvOk (P : Program) (E : Env) : Prop where
  ty : ∀ t y, E.ty t = some y → TyOk P t y
  eq : EqOk P E.ty
  fn : ∀ f fn, E.fn f = some fn → FnOk P f fn
  ct : CtOk P E.ct
  mono : ∀ f c, E.ct f = some c → MonoK c
  quiet : ∀ f, E.quiet f = true → ∃ c, E.ct f = some c ∧ QuietK c
  orders : P.follows .mixedOrders = true
theorem callW_quiet {E : Env} (hq : ∀ f, E.quiet f = true → ∃ c, E.ct f = some c ∧ QuietK c) : ∀ n, QuietOk E.quiet (callW E n)
  | 0 => fun f _ args h K K' Kp Kp' _ _ hc => hc.elim
  | n + 1 => fun f hf args h K K' Kp Kp' hK hKp hc => by
    obtain ⟨c, h1, h2⟩ := hq f hf
    simp only [callW, h1] at hc ⊢
    exact h2 _ _ _ _ _ _ hK hKp hc
theorem callW_mono {E : Env} (hm : ∀ f c, E.ct f = some c → MonoK c) (hq : ∀ f, E.quiet f = true → ∃ c, E.ct f = some c ∧ QuietK c) : ∀ n, MonoC (callW E n)
  | 0 => fun f args h K K' Kp Kp' _ _ hc => hc.elim
  | n + 1 => fun f args h K K' Kp Kp' hK hKp hc => by
    simp only [callW] at hc ⊢
    split at hc
    · rename_i c h1
      exact hm f c h1 _ _ _ _ _ _ hK hKp hc
    · split at hc
      · unfold bodyW at hc ⊢
        split at hc
        · rw [forceF_eq] at hc ⊢
          exact awp_mono (callW_mono hm hq n) (callW_quiet hq n) _ _ _ _ (retQ_mono hK hKp) _ _ hc
        · exact hc.elim
      · exact hc.elim
theorem EnvOk.draw {E : Env} (o : EnvOk P E) (n : Nat) (hc : CallOk P (callW E n)) : DrawOk P E.ty E.quiet (callW E n) := draw_ok o.ty o.eq hc (callW_mono o.mono o.quiet n) (callW_quiet o.quiet n) o.orders
theorem EnvOk.call {E : Env} (o : EnvOk P E) (n : Nat) : CallOk P (callW E n) := call_ok o.ty o.eq o.fn o.ct o.draw n
theorem EnvOk.law {E : Env} (o : EnvOk P E) {n : Nat} {f : FuncId} {args : List V} (hc : callW E n f args [] (fun d _ => d = .bool true) (fun _ _ => False)) (hfb : ∃ fn, FnOk P f fn ∧ fn.body.isSome = true) {w : World} {vs : Array Value} (hl : vs.size = args.length)
    (hr : ∀ (j : Nat) v d, vs[j]? = some v → args[j]? = some d → R ⟨fun _ => none, fun b => b < w.heap.size, w⟩ v d) :
    Calls P f vs w fun e w' => e = .returned (.bool true) ∧ Below w.heap.size w w' := law_of o.ty o.eq o.fn o.ct o.draw hc hfb hl hr
/-- one more contract -/
def Env.add (E : Env) (f : FuncId) (c : List V → Hp → (V → Hp → Prop) → (V → Hp → Prop) → Prop) (q : Bool) : Env :=
  { E with ct := fun g => match Nat.beq g f with | true => some c | false => E.ct g, quiet := fun g => match Nat.beq g f with | true => q | false => E.quiet g }
theorem EnvOk.add {E : Env} (o : EnvOk P E) {f : FuncId} {c : List V → Hp → (V → Hp → Prop) → (V → Hp → Prop) → Prop} {q : Bool} (n : Nat) (hc : ∀ args h K Kp, c args h K Kp → callW E n f args h K Kp) (hm : MonoK c) (hq : q = true → QuietK c) : EnvOk P (E.add f c q) where
  ty := o.ty
  eq := o.eq
  fn := o.fn
  ct := fun g k hg args h K Kp hk cx B w0 vs m hl hr => by
    simp only [Env.add] at hg
    split at hg
    · rename_i e
      cases hg
      rw [nbeq e]
      exact o.call n f args h K Kp (hc _ _ _ _ hk) cx B w0 vs m hl hr
    · exact o.ct g k hg args h K Kp hk cx B w0 vs m hl hr
  mono := fun g k hg => by
    simp only [Env.add] at hg
    split at hg
    · cases hg; exact hm
    · exact o.mono g k hg
  quiet := fun g hg => by
    simp only [Env.add] at hg ⊢
    split at hg
    · exact ⟨c, rfl, hq hg⟩
    · exact o.quiet g hg
  orders := o.orders
end Go.Ev
