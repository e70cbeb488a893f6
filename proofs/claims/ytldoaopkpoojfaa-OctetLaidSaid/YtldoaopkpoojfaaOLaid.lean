/- The check sum: check bytes may stand anywhere. -/
import Derived.Test.YtldoaopkpoojfaaOTurn
namespace Go.Proofs.Ytldoaopkpoojfaa
open Go.Ev
set_option linter.unusedVariables false
set_option linter.unusedSimpArgs false
set_option maxRecDepth 100000
set_option maxHeartbeats 1000000
theorem laidG {G : Nat → List V} {B : Nat → Int} {m : Nat} (hG : ∀ i, i < m → G i = [V.int .u8 (B i)]) (A : Nat) : ∀ i, i < m → setG (0 + (((A + 1 : Nat) : Int)).toNat) 0 [V.int .u8 (cY B m A)] (setG (0 + (A : Int).toNat) 0 [V.int .u8 (cX B m A)] G) i = [V.int .u8 (laidB B m A i)] := by
  intro i hi
  unfold setG laidB
  simp only [Int.toNat_natCast, Nat.zero_add]
  split
  · rw [if_neg (by omega), hG i hi]; rfl
  · split
    · rw [hG i hi]; rfl
    · exact hG i hi
theorem laid (z : List Int) (n : Nat) (hn : n ≤ z.length) (hl : z.length ≤ maxL) (hz : ∀ n ∈ z, (Lit.int .u8 n).wf = true) (hs : z.length ≤ 140737488351232) (a : Int) (ha : 0 ≤ a ∧ a ≤ 65535) (b : Int) (hb : 0 ≤ b ∧ b ≤ 65535) :
    callW ES9 6 8 [.imm n 1 fun i => [.int .u8 (z.getD i 0)], .int .u16 a, .int .u16 b] [] (fun d _ => d = .bool true) (fun _ _ => False) := by
  rw [maxLV] at hl
  have hB : ∀ i, 0 ≤ z.getD i 0 ∧ z.getD i 0 ≤ 255 := by
    intro i
    rcases Nat.lt_or_ge i z.length with h | h
    · have := rngU8 (hz (z.getD i 0) (by simp [h]))
      exact this
    · simp [h]
  conv => whnf
  refine ⟨.bool true, ⟨rfl, rfl⟩, ?_⟩
  conv => whnf
  have hm : ∃ m : Nat, (if 400 < (n : Int) then 400 else (n : Int)) = (m : Int) ∧ m ≤ 400 ∧ m ≤ n := ⟨min n 400, by split <;> omega, by omega, by omega⟩
  obtain ⟨m, hm, hm1, hm2⟩ := hm
  rw [hm]
  repeat first
    | (refine And.intro (by first | exact trivial | omega | decide | (simp [ty5, bigB, maxLV]; omega)) ?_; conv => whnf)
  rw [show (m : Int).toNat - Int.toNat 0 = m by omega]
  repeat first
    | (refine And.intro (by first | exact trivial | omega | decide | (simp [ty5, bigB, maxLV]; omega)) ?_; conv => whnf)
  split
  · conv => whnf
  rename_i hq
  simp only [decide_eq_false_iff_not] at hq
  have hG0 : ∀ i, i < m → (appG 0 (litG ty5.size []) (subG (Int.toNat 0) fun i => [V.int IntKind.u8 (z.getD i 0)])) i = [V.int .u8 (z.getD i 0)] := by
    intro i hi
    simp [appG, subG]
  rw [Nat.zero_add] at hq ⊢
  generalize (appG 0 (litG ty5.size []) (subG (Int.toNat 0) fun i => [V.int IntKind.u8 (z.getD i 0)])) = G at *
  conv => whnf
  repeat first
    | (refine And.intro (by first | exact trivial | omega | decide | (simp [ty5, bigB, maxLV]; omega)) ?_; conv => whnf)
  have hne : IntKind.i64.wrap ((m : Int) - 1) ≠ 0 := by rw [wrapI64_of (by omega) (by omega)]; omega
  have modw : ∀ x : Int, 0 ≤ x ∧ x ≤ 65535 → ∃ A : Nat, (IntKind.i64.wrap x).tmod (IntKind.i64.wrap ((m : Int) - 1)) = (A : Int) ∧ A + 2 ≤ m := by
    intro x hx
    rw [wrapI64_of (n := (m : Int) - 1) (by omega) (by omega), wrapI64_of (n := x) (by omega) (by omega), Int.tmod_eq_emod_of_nonneg hx.1]
    have h1 := Int.emod_lt_of_pos x (by omega : (0 : Int) < (m : Int) - 1)
    have h2 := Int.emod_nonneg x (by omega : ((m : Int) - 1) ≠ 0)
    exact ⟨(x % ((m : Int) - 1)).toNat, by omega, by omega⟩
  obtain ⟨A1, hA1, hA2⟩ := modw a ha
  obtain ⟨A3, hA3, hA4⟩ := modw b hb
  refine And.intro hne ?_
  conv => whnf
  refine And.intro hne ?_
  conv => whnf
  rw [hA1, hA3]
  repeat first
    | (refine And.intro (by first | exact trivial | omega | decide | (simp [ty5, bigB, maxLV]; omega)) ?_; conv => whnf)
  refine loopN okS9 3 ?_
  conv => whnf
  repeat first
    | (refine And.intro (by first | exact trivial | omega | decide | (simp [ty5, bigB, maxLV]; omega)) ?_; conv => whnf)
  have hsub : ∀ (g : Nat → List V) i, subG 0 g i = g i := fun g i => by simp [subG]
  refine ⟨_, ⟨[.imm m 1 fun i => [.int .u8 (z.getD i 0)], .int .i64 A1], ⟨⟨rfl, rfl, fun i hi => by rw [hsub]; exact hG0 i hi⟩, rfl, trivial⟩, fun i => z.getD i 0, m, A1, hB, rfl, by rw [maxLV]; omega, rfl⟩, ?_⟩
  conv => whnf
  have he1 : errS m (A1 : Int) = 0 := errS_0 (by omega) (by omega) (by omega)
  have hw1 : IntKind.i64.wrap ((A1 : Int) + 1) = ((A1 + 1 : Nat) : Int) := by rw [wrapI64_of (by omega) (by omega)]; rfl
  rw [sumS_1 he1, he1]
  repeat first
    | (refine And.intro (by first | exact trivial | omega | decide | (simp [ty5, bigB, maxLV]; omega)) ?_; conv => whnf)
  rw [hiB _ _ (cX_rng _ _ _) (cY_rng _ _ _), loB _ _ (cX_rng _ _ _) (cY_rng _ _ _), hw1]
  repeat first
    | (refine And.intro (by first | exact trivial | omega | decide | (simp [ty5, bigB, maxLV]; omega)) ?_; conv => whnf)
  have hl1 := laidG hG0 A1 
  generalize hC1 : laidB (fun i => z.getD i 0) m A1 = C1 at *
  have hCB1 : ∀ i, 0 ≤ C1 i ∧ C1 i ≤ 255 := by rw [← hC1]; exact laidB_rng hB m A1
  have hR1 : rightS C1 m (A1 : Int) = true := by rw [← hC1]; exact rightS_laid _ _ _ he1
  generalize (setG (0 + (((A1 + 1 : Nat) : Int)).toNat) 0 [V.int .u8 (cY (fun i => z.getD i 0) m A1)] (setG (0 + (A1 : Int).toNat) 0 [V.int .u8 (cX (fun i => z.getD i 0) m A1)] G)) = G1 at *
  refine ⟨_, ⟨[.imm m 1 fun i => [.int .u8 (C1 i)], .int .i64 A1], ⟨⟨rfl, rfl, fun i hi => by rw [hsub]; exact hl1 i hi⟩, rfl, trivial⟩, C1, m, A1, hCB1, rfl, by rw [maxLV]; omega, rfl⟩, ?_⟩
  conv => whnf
  rw [he1, hR1]
  conv => whnf
  repeat first
    | (refine And.intro (by first | exact trivial | omega | decide | (simp [ty5, bigB, maxLV]; omega)) ?_; conv => whnf)
  refine ⟨_, ⟨[.imm m 1 fun i => [.int .u8 (C1 i)], .int .i64 A3], ⟨⟨rfl, rfl, fun i hi => by rw [hsub]; exact hl1 i hi⟩, rfl, trivial⟩, C1, m, A3, hCB1, rfl, by rw [maxLV]; omega, rfl⟩, ?_⟩
  conv => whnf
  have he2 : errS m (A3 : Int) = 0 := errS_0 (by omega) (by omega) (by omega)
  have hw2 : IntKind.i64.wrap ((A3 : Int) + 1) = ((A3 + 1 : Nat) : Int) := by rw [wrapI64_of (by omega) (by omega)]; rfl
  rw [sumS_1 he2, he2]
  repeat first
    | (refine And.intro (by first | exact trivial | omega | decide | (simp [ty5, bigB, maxLV]; omega)) ?_; conv => whnf)
  rw [hiB _ _ (cX_rng _ _ _) (cY_rng _ _ _), loB _ _ (cX_rng _ _ _) (cY_rng _ _ _), hw2]
  repeat first
    | (refine And.intro (by first | exact trivial | omega | decide | (simp [ty5, bigB, maxLV]; omega)) ?_; conv => whnf)
  have hl2 := laidG hl1 A3 
  generalize hC2 : laidB (C1) m A3 = C2 at *
  have hCB2 : ∀ i, 0 ≤ C2 i ∧ C2 i ≤ 255 := by rw [← hC2]; exact laidB_rng hCB1 m A3
  have hR2 : rightS C2 m (A3 : Int) = true := by rw [← hC2]; exact rightS_laid _ _ _ he2
  generalize (setG (0 + (((A3 + 1 : Nat) : Int)).toNat) 0 [V.int .u8 (cY (C1) m A3)] (setG (0 + (A3 : Int).toNat) 0 [V.int .u8 (cX (C1) m A3)] G1)) = G2 at *
  refine ⟨_, ⟨[.imm m 1 fun i => [.int .u8 (C2 i)], .int .i64 A3], ⟨⟨rfl, rfl, fun i hi => by rw [hsub]; exact hl2 i hi⟩, rfl, trivial⟩, C2, m, A3, hCB2, rfl, by rw [maxLV]; omega, rfl⟩, ?_⟩
  conv => whnf
  rw [he2, hR2]
  conv => whnf
  repeat first
    | (refine And.intro (by first | exact trivial | omega | decide | (simp [ty5, bigB, maxLV]; omega)) ?_; conv => whnf)
end Go.Proofs.Ytldoaopkpoojfaa
