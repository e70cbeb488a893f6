/- Of metrics: what Plus of the program and Plus of the document's answer compute, as contracts. -/
import Derived.Test.YtldoaopkpoojfaaOAwake
namespace Go.Proofs.Ytldoaopkpoojfaa
open Go.Ev
set_option linter.unusedVariables false
set_option linter.unusedSimpArgs false
set_option maxRecDepth 100000
set_option maxHeartbeats 1000000
def spPlus : List V → V → Prop := fun us d => ∃ a b : Int, us = [.int .u32 a, .int .u32 b] ∧ 0 ≤ a ∧ a ≤ 4294967295 ∧ 0 ≤ b ∧ b ≤ 4294967295 ∧ d = .int .u32 (min (a + b) 4261412864)
theorem plus14 (a b : Int) (h1 : 0 ≤ a) (h2 : a ≤ 4294967295) (h3 : 0 ≤ b) (h4 : b ≤ 4294967295) : callW E1 3 14 [.int .u32 a, .int .u32 b] [] (fun d _ => d = .int .u32 (min (a + b) 4261412864)) (fun _ _ => False) := by
  conv => whnf
  refine congrArg (V.int .u32) ?_
  simp only [wrapU32, wrapU64]
  split <;> omega
noncomputable def E2 : Env := E1.add 14 (pcon spPlus) true
theorem ok2 : EnvOk Try.prog E2 := ok1.pcon (fn := Try.f14) rfl (by kernel_rfl) 3 (fun us d ⟨a, b, h, _, _, _, _, e⟩ => by rw [e]; rfl) (fun us d ⟨a, b, h, h1, h2, h3, h4, e⟩ => by rw [h, e]; exact plus14 a b h1 h2 h3 h4)
theorem plus15 (a b : Int) (h1 : 0 ≤ a) (h2 : a ≤ 4294967295) (h3 : 0 ≤ b) (h4 : b ≤ 4294967295) : callW E2 3 15 [.int .u32 a, .int .u32 b] [] (fun d _ => d = .int .u32 (min (a + b) 4261412864)) (fun _ _ => False) := by
  conv => whnf
  repeat' first
    | (split <;> (conv => whnf))
  all_goals (refine congrArg (V.int .u32) ?_; simp only [wrapU32, decide_eq_true_eq, decide_eq_false_iff_not] at *; omega)
noncomputable def E3 : Env := E2.add 15 (pcon spPlus) true
theorem ok3 : EnvOk Try.prog E3 := ok2.pcon (fn := Try.f15) rfl (by kernel_rfl) 3 (fun us d ⟨a, b, h, _, _, _, _, e⟩ => by rw [e]; rfl) (fun us d ⟨a, b, h, h1, h2, h3, h4, e⟩ => by rw [h, e]; exact plus15 a b h1 h2 h3 h4)
theorem adds (a : Int) (ha : 0 ≤ a ∧ a ≤ 4294967295) (b : Int) (hb : 0 ≤ b ∧ b ≤ 4294967295) (c : Int) (hc : 0 ≤ c ∧ c ≤ 4294967295) :
    callW E3 3 4 [.int .u32 a, .int .u32 b, .int .u32 c] [] (fun d _ => d = .bool true) (fun _ _ => False) := by
  conv => whnf
  refine ⟨.bool true, ⟨rfl, rfl⟩, ?_⟩
  conv => whnf
  repeat' first
    | (refine ⟨_, ⟨_, _, rfl, ?_, ?_, ?_, ?_, rfl⟩, ?_⟩ <;> first | omega | (conv => whnf))
    | (split <;> (conv => whnf))
  all_goals (simp only [V.bool.injEq, bne_iff_ne, beq_iff_eq, bne_eq_false_iff_eq, beq_eq_false_iff_ne, decide_eq_true_eq, decide_eq_false_iff_not, ne_eq, Bool.false_eq_true] at * <;> first | omega | simp_all)
theorem grows (a : Int) (ha : 0 ≤ a ∧ a ≤ 4294967295) (b : Int) (hb : 0 ≤ b ∧ b ≤ 4294967295) (c : Int) (hc : 0 ≤ c ∧ c ≤ 4294967295) :
    callW E3 3 5 [.int .u32 a, .int .u32 b, .int .u32 c] [] (fun d _ => d = .bool true) (fun _ _ => False) := by
  conv => whnf
  refine ⟨.bool true, ⟨rfl, rfl⟩, ?_⟩
  conv => whnf
  repeat' first
    | (refine ⟨_, ⟨_, _, rfl, ?_, ?_, ?_, ?_, rfl⟩, ?_⟩ <;> first | (split <;> omega) | omega | (conv => whnf))
    | (split <;> (conv => whnf))
  all_goals (simp only [iteMin, iteMax, wrapU32, V.bool.injEq, bne_iff_ne, beq_iff_eq, bne_eq_false_iff_eq, beq_eq_false_iff_ne, decide_eq_true_eq, decide_eq_false_iff_not, ne_eq, Bool.false_eq_true] at * <;> first | omega | simp_all)
end Go.Proofs.Ytldoaopkpoojfaa
