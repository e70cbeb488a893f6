/- The document's examples of layer 1 are met: the law's own question 'awake' answers true; it is taken as a contract by all laws of this layer. -/
import Derived.Test.YtldoaopkpoojfaaEvTab
namespace Go.Proofs.Ytldoaopkpoojfaa
open Go.Ev
set_option linter.unusedVariables false
set_option linter.unusedSimpArgs false
set_option maxRecDepth 100000
set_option maxHeartbeats 1000000
theorem awake0 : callW E0 5 12 [] [] (fun d' _ => d' = .bool true) (fun _ _ => False) := by
  conv => whnf
  repeat first
    | (refine loopN ok0 20 ?_; conv => whnf)
    | (refine And.intro (by decide) ?_; conv => whnf)
    | (refine And.intro (And.intro (by decide) (bytesB_of (by kernel_rfl))) ?_; conv => whnf)
    | (with_reducible rfl)
    | (exact congrArg V.bool (by kernel_rfl))
def spAwake : List V → V → Prop := fun us d => us = [] ∧ d = .bool true
noncomputable def E1 : Env := E0.add 12 (pcon spAwake) true
theorem ok1 : EnvOk Try.prog E1 := ok0.pcon (fn := Try.f12) rfl (by kernel_rfl) 5 (fun us d h => by obtain ⟨rfl, rfl⟩ := h; rfl) (fun us d h => by obtain ⟨rfl, rfl⟩ := h; exact awake0)
end Go.Proofs.Ytldoaopkpoojfaa
