/- Copies, copies with marked room behind, and whether such room is kept, as contracts. -/
import Derived.Test.YtldoaopkpoojfaaLibPut
namespace Go.Proofs.Ytldoaopkpoojfaa
open Go.Ev
set_option linter.unusedVariables false
set_option linter.unusedSimpArgs false
set_option maxRecDepth 100000
set_option maxHeartbeats 1000000
/-- the bytes with marked room behind -/
def spB (B : Nat → Int) (n : Nat) : Nat → Int := fun i => if i < n then B i else if i = n then 165 else if i = n + 1 then 90 else 165
def spTwin : List V → V → List Nw → Prop := fun us d obs => ∃ (B : Nat → Int) (n : Nat), us = [.imm n 1 fun i => [.int .u8 (B i)]] ∧ n ≤ 140737488351232 ∧ d = .own 0 1 0 n ∧ obs = [⟨5, 1, n, fun j => [.int .u8 (B j)]⟩]
theorem twinT (B : Nat → Int) (n : Nat) (hn : n ≤ 140737488351232) :
    callW E0 3 22 [.imm n 1 fun i => [.int .u8 (B i)]] [] (fun d' h' => NwPost (.own 0 1 0 n) [⟨5, 1, n, fun j => [.int .u8 (B j)]⟩] d' h') (fun _ _ => False) := by
  conv => whnf
  repeat first
    | (refine And.intro (by first | exact trivial | omega | (simp [ty5, bigV, maxLV]; omega)) ?_; conv => whnf)
  refine NwPost.one 1 (appG 0 (litG ty5.size []) fun i => [.int .u8 (B i)]) (by rw [Nat.zero_add]; rfl) (by rw [Nat.zero_add]; rfl) (fun j hj => by simp [appG])
noncomputable def EL6 : Env := ELp.add 22 (ncon (vcn spTwin)) true
theorem okL6 : EnvOk Try.prog EL6 := ok0.ncon okLp (fn := Try.f22) rfl (by kernel_rfl) 3
  (fun us d obs ⟨B, n, _, _, e1, e2⟩ => by subst e1; subst e2; exact ⟨rfl, sc1'⟩)
  (fun us d obs ⟨B, n, h1, h2, e1, e2⟩ => by rw [h1, e1, e2]; exact twinT B n h2)
def spSpare : List V → V → List Nw → Prop := fun us d obs => ∃ (B : Nat → Int) (n : Nat), us = [.imm n 1 fun i => [.int .u8 (B i)]] ∧ n ≤ 140737488351232 ∧ d = .tup [.own 0 1 0 n, .own 0 1 0 (n + 3)] ∧ obs = [⟨5, 1, n + 3, fun j => [.int .u8 (spB B n j)]⟩]
theorem spareT (B : Nat → Int) (n : Nat) (hn : n ≤ 140737488351232) :
    callW E0 3 16 [.imm n 1 fun i => [.int .u8 (B i)]] [] (fun d' h' => NwPost (.tup [.own 0 1 0 n, .own 0 1 0 (n + 3)]) [⟨5, 1, n + 3, fun j => [.int .u8 (spB B n j)]⟩] d' h') (fun _ _ => False) := by
  conv => whnf
  repeat first
    | (refine And.intro (by first | exact trivial | omega | (simp [ty5, bigV, maxLV]; omega)) ?_; conv => whnf)
  refine NwPost.one 3 (appG (0 + n) (appG 0 (litG ty5.size []) fun i => [.int .u8 (B i)]) (subG 0 (litG ty5.size [ofConst (Value.int .u8 165), ofConst (Value.int .u8 90), ofConst (Value.int .u8 165)]))) ?_ (by rw [Nat.zero_add]; rfl) ?_
  · rw [show 0 + n + 3 = n + 3 by omega, show (n : Int).toNat - Int.toNat 0 = n by omega]; rfl
  · intro j hj
    simp only [appG, subG, litG, ty5, spB, Nat.zero_add, Nat.mul_one]
    simp only [] at hj
    by_cases h1 : j < n
    · rw [if_pos h1, if_neg (by omega), if_pos h1]; rfl
    · rw [if_neg h1, if_neg h1]
      rcases (by omega : j = n ∨ j = n + 1 ∨ j = n + 2) with e | e | e
      · subst e; rw [if_pos rfl, Nat.sub_self]; rfl
      · subst e; rw [if_neg (by omega), if_pos rfl, show n + 1 - n = 1 by omega]; rfl
      · subst e; rw [if_neg (by omega), if_neg (by omega), show n + 2 - n = 2 by omega]; rfl
noncomputable def EL7 : Env := EL6.add 16 (ncon (vcn spSpare)) true
theorem okL7 : EnvOk Try.prog EL7 := ok0.ncon okL6 (fn := Try.f16) rfl (by kernel_rfl) 3
  (fun us d obs ⟨B, n, _, _, e1, e2⟩ => by subst e1; subst e2; exact ⟨rfl, sc1'⟩)
  (fun us d obs ⟨B, n, h1, h2, e1, e2⟩ => by rw [h1, e1, e2]; exact spareT B n h2)
def spKept : List V → V → Prop := fun us d => ∃ (n : Nat) (g f : Nat → List V), us = [.imm (n + 3) 1 g, .imm n 1 f] ∧ n + 3 ≤ maxL ∧ (∀ i, i < n → ∃ b : Int, g i = [.int .u8 b] ∧ f i = [.int .u8 b]) ∧ g n = [.int .u8 165] ∧ g (n + 1) = [.int .u8 90] ∧ g (n + 2) = [.int .u8 165] ∧ d = .bool true
theorem keptT (n : Nat) (hn : n + 3 ≤ maxL) (g f : Nat → List V) (hg : ∀ i, i < n → ∃ b : Int, g i = [.int .u8 b] ∧ f i = [.int .u8 b]) (h0 : g n = [.int .u8 165]) (h1 : g (n + 1) = [.int .u8 90]) (h2 : g (n + 2) = [.int .u8 165]) :
    callW EL1 3 21 [.imm (n + 3) 1 g, .imm n 1 f] [] (fun d _ => d = .bool true) (fun _ _ => False) := by
  have hn' := hn
  rw [maxLV] at hn
  have w3 : IntKind.i64.wrap ((n : Int) + 3) = ((n + 3 : Nat) : Int) := by rw [wrapI64_of (by omega) (by omega)]; rfl
  have w1 : IntKind.i64.wrap ((n : Int) + 1) = ((n + 1 : Nat) : Int) := by rw [wrapI64_of (by omega) (by omega)]; rfl
  have w2 : IntKind.i64.wrap ((n : Int) + 2) = ((n + 2 : Nat) : Int) := by rw [wrapI64_of (by omega) (by omega)]; rfl
  conv => whnf
  rw [show (((n + 3 : Nat) : Int) == IntKind.i64.wrap ((n : Int) + 3)) = true by rw [w3]; simp]
  conv => whnf
  repeat first
    | (refine And.intro (by first | exact trivial | omega) ?_; conv => whnf)
  refine ⟨_, ⟨[.imm n 1 g, .imm n 1 f], ⟨⟨by simp, rfl, fun i _ => by rw [show Int.toNat 0 = 0 from rfl, subG0]⟩, ⟨rfl, rfl, fun _ _ => rfl⟩, trivial⟩, n, g, f, rfl, by rw [maxLV]; omega, hg, rfl⟩, ?_⟩
  conv => whnf
  have h0' : g (n : Int).toNat = [.int .u8 165] := by rw [Int.toNat_natCast]; exact h0
  have h1' : g (IntKind.i64.wrap ((n : Int) + 1)).toNat = [.int .u8 90] := by rw [w1, Int.toNat_natCast]; exact h1
  have h2' : g (IntKind.i64.wrap ((n : Int) + 2)).toNat = [.int .u8 165] := by rw [w2, Int.toNat_natCast]; exact h2
  repeat first
    | (refine And.intro (by first | exact trivial | omega | (rw [w1]; omega) | (rw [w2]; omega)) ?_; conv => whnf)
    | (rw [h0']; conv => whnf)
    | (rw [h1']; conv => whnf)
    | (rw [h2']; conv => whnf)
  rfl
noncomputable def EL8 : Env := EL7.add 21 (pcon (vcl spKept)) true
theorem okL8 : EnvOk Try.prog EL8 := okL1.pconV okL7 (fn := Try.f21) rfl (by kernel_rfl) 3 (fun us d ⟨n, g, f, _, _, _, _, _, _, e⟩ => by rw [e]; rfl) (fun us d ⟨n, g, f, h1, h2, h3, h4, h5, h6, e⟩ => by rw [h1, e]; exact keptT n h2 g f h3 h4 h5 h6)
end Go.Proofs.Ytldoaopkpoojfaa
