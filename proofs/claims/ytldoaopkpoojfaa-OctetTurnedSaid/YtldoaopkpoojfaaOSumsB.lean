/- The check sum: Sum, Right, DocSum and DocRight with their errors, as contracts. -/
import Derived.Test.YtldoaopkpoojfaaOSums
namespace Go.Proofs.Ytldoaopkpoojfaa
open Go.Ev
set_option linter.unusedVariables false
set_option linter.unusedSimpArgs false
set_option maxRecDepth 100000
set_option maxHeartbeats 1000000
theorem maxLV : maxL = 9223372036854775807 := rfl
def errS (n : Nat) (a : Int) : Int := if a < 0 then 1 else if 1492 < n then 2 else if (n : Int) - 2 < a then 3 else 0
def sumS (B : Nat → Int) (n : Nat) (a : Int) : Int := if errS n a = 0 then cX B n a * 256 + cY B n a else 0
theorem errS_0 {n : Nat} {a : Int} (h1 : 0 ≤ a) (h2 : a + 2 ≤ n) (hn : n ≤ 1492) : errS n a = 0 := by unfold errS; rw [if_neg (by omega), if_neg (by omega), if_neg (by omega)]
theorem errS_1 {n : Nat} {a : Int} (h : a < 0) : errS n a = 1 := by unfold errS; rw [if_pos h]
theorem errS_2 {n : Nat} {a : Int} (h : 0 ≤ a) (hn : 1492 < n) : errS n a = 2 := by unfold errS; rw [if_neg (by omega), if_pos hn]
theorem errS_3 {n : Nat} {a : Int} (h : 0 ≤ a) (hn : n ≤ 1492) (h2 : (n : Int) < a + 2) : errS n a = 3 := by unfold errS; rw [if_neg (by omega), if_neg (by omega), if_pos (by omega)]
theorem errS_cases (n : Nat) (a : Int) : (a < 0 ∧ errS n a = 1) ∨ (0 ≤ a ∧ 1492 < n ∧ errS n a = 2) ∨ (0 ≤ a ∧ n ≤ 1492 ∧ (n : Int) < a + 2 ∧ errS n a = 3) ∨ (0 ≤ a ∧ a + 2 ≤ n ∧ n ≤ 1492 ∧ errS n a = 0) := by
  rcases Int.lt_or_le a 0 with h | h
  · exact .inl ⟨h, errS_1 h⟩
  · rcases Nat.lt_or_ge 1492 n with hn | hn
    · exact .inr (.inl ⟨h, hn, errS_2 h hn⟩)
    · rcases Int.lt_or_le (n : Int) (a + 2) with h2 | h2
      · exact .inr (.inr (.inl ⟨h, hn, h2, errS_3 h hn h2⟩))
      · exact .inr (.inr (.inr ⟨h, h2, hn, errS_0 h h2 hn⟩))
theorem sumS_0 {B : Nat → Int} {n : Nat} {a : Int} (h : errS n a ≠ 0) : sumS B n a = 0 := by unfold sumS; rw [if_neg h]
theorem sumS_1 {B : Nat → Int} {n : Nat} {a : Int} (h : errS n a = 0) : sumS B n a = cX B n a * 256 + cY B n a := by unfold sumS; rw [if_pos h]
def spCheck : List V → V → Prop := fun us d => ∃ (B : Nat → Int) (n : Nat) (a : Int), (∀ i, 0 ≤ B i ∧ B i ≤ 255) ∧ us = [.imm n 1 fun i => [.int .u8 (B i)], .int .i64 a] ∧ 0 ≤ a ∧ a + 2 ≤ n ∧ n ≤ 1492 ∧ d = .tup [.int .i64 (cX B n a), .int .i64 (cY B n a)]
noncomputable def ES4 : Env := ES3.add 35 (pcon spCheck) true
theorem okS4 : EnvOk Try.prog ES4 := okS3.pcon (fn := Try.f35) rfl (by kernel_rfl) 4 (fun us d ⟨B, n, a, _, _, _, _, _, e⟩ => by rw [e]; rfl) (fun us d ⟨B, n, a, h1, h2, h3, h4, h5, e⟩ => by rw [h2, e]; exact check35 B h1 n a h3 h4 h5)
theorem sum17e (B : Nat → Int) (hB : ∀ i, 0 ≤ B i ∧ B i ≤ 255) (n : Nat) (hn : n ≤ maxL) (a : Int) : callW ES3 4 17 [.imm n 1 fun i => [.int .u8 (B i)], .int .i64 a] [] (fun d _ => d = .tup [.int .u16 (sumS B n a), .int .i64 (errS n a)]) (fun _ _ => False) := by
  rw [maxLV] at hn
  rcases errS_cases n a with ⟨h, e⟩ | ⟨h, h2, e⟩ | ⟨h, h2, h3, e⟩ | ⟨h, h2, h3, e⟩
  · rw [sumS_0 (by omega), e]
    conv => whnf
    rw [decide_eq_true h]
    conv => whnf
  · rw [sumS_0 (by omega), e]
    conv => whnf
    rw [decide_eq_false (by omega)]
    conv => whnf
    rw [decide_eq_true (by omega)]
    conv => whnf
  · rw [sumS_0 (by omega), e]
    conv => whnf
    rw [decide_eq_false (by omega)]
    conv => whnf
    rw [decide_eq_false (by omega)]
    conv => whnf
    rw [decide_eq_true (by rw [wrapI64_of (by omega) (by omega)]; omega)]
    conv => whnf
  · rw [sumS_1 e, e]
    exact sum17 B hB n a h h2 h3
theorem doc18 (B : Nat → Int) (hB : ∀ i, 0 ≤ B i ∧ B i ≤ 255) (n : Nat) (hn : n ≤ maxL) (a : Int) : callW ES4 4 18 [.imm n 1 fun i => [.int .u8 (B i)], .int .i64 a] [] (fun d _ => d = .tup [.int .u16 (sumS B n a), .int .i64 (errS n a)]) (fun _ _ => False) := by
  rw [maxLV] at hn
  have hX := with255_spec (((n : Int) - a - 1) * (S0 B a n % 255) - S1 B a n % 255)
  rw [show with255 (((n : Int) - a - 1) * (S0 B a n % 255) - S1 B a n % 255) = cX B n a from rfl] at hX
  have hY := with255_spec (0 - S0 B a n % 255 - cX B n a)
  rw [show with255 (0 - S0 B a n % 255 - cX B n a) = cY B n a from rfl] at hY
  rcases errS_cases n a with ⟨h, e⟩ | ⟨h, h2, e⟩ | ⟨h, h2, h3, e⟩ | ⟨h, h2, h3, e⟩
  · rw [sumS_0 (by omega), e]
    conv => whnf
    rw [decide_eq_true h]
    conv => whnf
  · rw [sumS_0 (by omega), e]
    conv => whnf
    rw [decide_eq_false (by omega)]
    conv => whnf
    rw [decide_eq_true (by omega)]
    conv => whnf
  · rw [sumS_0 (by omega), e]
    conv => whnf
    rw [decide_eq_false (by omega)]
    conv => whnf
    rw [decide_eq_false (by omega)]
    conv => whnf
    by_cases h4 : n < 2
    · rw [decide_eq_true (by omega)]
      conv => whnf
    · rw [decide_eq_false (by omega)]
      conv => whnf
      rw [decide_eq_true (by rw [wrapI64_of (by omega) (by omega)]; omega)]
      conv => whnf
  · rw [sumS_1 e, e]
    conv => whnf
    repeat first
      | (rw [decide_eq_false (by first | omega | (rw [wrapI64_of (by omega) (by omega)]; omega))]; conv => whnf)
    refine ⟨_, ⟨B, n, a, hB, rfl, by omega, by omega, by omega, rfl⟩, ?_⟩
    conv => whnf
    repeat (refine And.intro (by first | exact trivial | omega | decide) ?_; conv => whnf)
    rw [wrapI64_of (n := 256 * cX B n a) (by omega) (by omega), wrapI64_of (n := 256 * cX B n a + cY B n a) (by omega) (by omega), wrapU16_of (by omega) (by omega), Int.mul_comm]
theorem wB_neg (B : Nat → Int) (i : Nat) : wB B (-1) i = B i := by unfold wB; rw [if_neg (by omega)]
theorem wB_at (B : Nat → Int) (a i : Nat) : wB B (a : Int) i = if i = a ∨ i = a + 1 then 0 else B i := by
  unfold wB
  by_cases h : i = a ∨ i = a + 1
  · rw [if_pos h, if_pos (by omega)]
  · rw [if_neg h, if_neg (by omega)]
theorem S0_all (B : Nat → Int) (a : Nat) : ∀ k, S0 B (-1) k = S0 B (a : Int) k + (if a < k then B a else 0) + (if a + 1 < k then B (a + 1) else 0)
  | 0 => by simp [S0]
  | k + 1 => by
    have h := S0_all B a k
    simp only [S0, wB_neg, wB_at]
    rw [h]
    by_cases h1 : k = a
    · subst h1
      rw [if_neg (by omega), if_neg (by omega), if_pos (.inl rfl), if_pos (by omega), if_neg (by omega)]
      omega
    · by_cases h2 : k = a + 1
      · subst h2
        rw [if_pos (by omega), if_neg (by omega), if_pos (.inr rfl), if_pos (by omega), if_pos (by omega)]
        omega
      · rw [if_neg (by omega : ¬ (k = a ∨ k = a + 1))]
        rcases Nat.lt_or_ge a k with h3 | h3
        · rw [if_pos h3, if_pos (by omega), if_pos (by omega), if_pos (by omega)]
          omega
        · rw [if_neg (by omega), if_neg (by omega), if_neg (by omega), if_neg (by omega)]
          omega
theorem W1_all (B : Nat → Int) (a : Nat) (n : Nat) : ∀ k, W1 B (-1) n k = W1 B (a : Int) n k + (if a < k then B a * ((n : Int) - (a : Int)) else 0) + (if a + 1 < k then B (a + 1) * ((n : Int) - ((a + 1 : Nat) : Int)) else 0)
  | 0 => by simp [W1]
  | k + 1 => by
    have h := W1_all B a n k
    simp only [W1, wB_neg, wB_at]
    rw [h]
    by_cases h1 : k = a
    · subst h1
      rw [if_neg (by omega), if_neg (by omega), if_pos (.inl rfl), if_pos (by omega), if_neg (by omega), Int.zero_mul]
      omega
    · by_cases h2 : k = a + 1
      · subst h2
        rw [if_pos (by omega), if_neg (by omega), if_pos (.inr rfl), if_pos (by omega), if_pos (by omega), Int.zero_mul]
        omega
      · rw [if_neg (by omega : ¬ (k = a ∨ k = a + 1))]
        rcases Nat.lt_or_ge a k with h3 | h3
        · rw [if_pos h3, if_pos (by omega), if_pos (by omega), if_pos (by omega)]
          omega
        · rw [if_neg (by omega), if_neg (by omega), if_neg (by omega), if_neg (by omega)]
          omega
theorem rightLaw (B : Nat → Int) (hB : ∀ i, 0 ≤ B i ∧ B i ≤ 255) (n a : Nat) (h : a + 2 ≤ n) : (S0 B (-1) n % 255 = 0 ∧ S1 B (-1) n % 255 = 0 ∧ 0 < B a ∧ 0 < B (a + 1)) ↔ (B a = cX B n a ∧ B (a + 1) = cY B n a) := by
  have e0 := S0_all B a n
  have e1 := W1_all B a n n
  have e2 := W1_S1 B (-1) n n
  rw [show ((n : Int) - (n : Int)) = 0 by omega, Int.zero_mul, Int.add_zero] at e2
  rw [if_pos (by omega), if_pos (by omega)] at e0 e1
  rw [e2] at e1
  have hx := hB a
  have hy := hB (a + 1)
  have hX := with255_spec (((n : Int) - a - 1) * (S0 B a n % 255) - S1 B a n % 255)
  rw [show with255 (((n : Int) - a - 1) * (S0 B a n % 255) - S1 B a n % 255) = cX B n a from rfl] at hX
  have hY := cY_eq B n (a : Int)
  rw [show ((n : Int) - ((a + 1 : Nat) : Int)) = (n : Int) - (a : Int) - 1 by omega] at e1
  constructor
  · rintro ⟨q1, q2, q3, q4⟩
    have hy' : B (a + 1) = 255 - (S0 B a n + B a) % 255 := by omega
    have hxx : B a = cX B n a := (cX_iff B n a (B a) (by omega) (by omega)).1 (by rw [← hy']; rw [e1] at q2; rw [show W1 B (a : Int) n n + B a * ((n : Int) - (a : Int)) + B (a + 1) * ((n : Int) - (a : Int) - 1) = W1 B (a : Int) n n + B a * ((n : Int) - (a : Int)) + B (a + 1) * ((n : Int) - (a : Int) - 1) from rfl] at q2; exact q2)
    refine ⟨hxx, ?_⟩
    rw [← hY, ← hxx]
    exact hy'
  · rintro ⟨q1, q2⟩
    have hy' : B (a + 1) = 255 - (S0 B a n + B a) % 255 := by rw [q2, ← hY, q1]
    have hz := (cX_iff B n a (B a) (by omega) (by omega)).2 q1
    rw [← hy'] at hz
    refine ⟨by omega, ?_, by omega, by omega⟩
    rw [e1]
    exact hz
/-- are the check bytes there? -/
def rightS (B : Nat → Int) (n : Nat) (a : Int) : Bool := decide (errS n a = 0 ∧ B a.toNat = cX B n a ∧ B (a.toNat + 1) = cY B n a)
theorem rightS_0 {B : Nat → Int} {n : Nat} {a : Int} (h : errS n a ≠ 0) : rightS B n a = false := by unfold rightS; simp [h]
theorem right19 (B : Nat → Int) (hB : ∀ i, 0 ≤ B i ∧ B i ≤ 255) (n : Nat) (hn : n ≤ maxL) (a : Int) : callW ES3 4 19 [.imm n 1 fun i => [.int .u8 (B i)], .int .i64 a] [] (fun d _ => d = .tup [.bool (rightS B n a), .int .i64 (errS n a)]) (fun _ _ => False) := by
  rw [maxLV] at hn
  rcases errS_cases n a with ⟨h, e⟩ | ⟨h, h2, e⟩ | ⟨h, h2, h3, e⟩ | ⟨h, h2, h3, e⟩
  · rw [rightS_0 (by omega), e]
    conv => whnf
    rw [decide_eq_true h]
    conv => whnf
  · rw [rightS_0 (by omega), e]
    conv => whnf
    rw [decide_eq_false (by omega)]
    conv => whnf
    rw [decide_eq_true (by omega)]
    conv => whnf
  · rw [rightS_0 (by omega), e]
    conv => whnf
    rw [decide_eq_false (by omega)]
    conv => whnf
    rw [decide_eq_false (by omega)]
    conv => whnf
    rw [decide_eq_true (by rw [wrapI64_of (by omega) (by omega)]; omega)]
    conv => whnf
  · obtain ⟨a, rfl⟩ := Int.eq_ofNat_of_zero_le h
    have law := rightLaw B hB n a (by omega)
    have hR : rightS B n (a : Int) = decide (S0 B (-1) n % 255 = 0 ∧ S1 B (-1) n % 255 = 0 ∧ 0 < B a ∧ 0 < B (a + 1)) := by
      unfold rightS
      simp only [e, true_and, Int.toNat_natCast, law]
    have hw : IntKind.i64.wrap ((a : Int) + 1) = ((a + 1 : Nat) : Int) := by rw [wrapI64_of (by omega) (by omega)]; rfl
    rw [hR, e]
    conv => whnf
    rw [decide_eq_false (by omega)]
    conv => whnf
    rw [decide_eq_false (by rw [wrapI64_of (by omega) (by omega)]; omega)]
    conv => whnf
    refine ⟨_, ⟨B, n, -1, hB, rfl, by omega, by omega, by omega, rfl⟩, ?_⟩
    conv => whnf
    repeat' first
      | (refine And.intro (by first | exact trivial | omega | (rw [hw]; omega)) ?_; conv => whnf)
      | (split <;> (conv => whnf))
    all_goals (clear law hR; simp_all <;> omega)
theorem doc20 (B : Nat → Int) (hB : ∀ i, 0 ≤ B i ∧ B i ≤ 255) (n : Nat) (hn : n ≤ maxL) (a : Int) : callW ES4 4 20 [.imm n 1 fun i => [.int .u8 (B i)], .int .i64 a] [] (fun d _ => d = .tup [.bool (rightS B n a), .int .i64 (errS n a)]) (fun _ _ => False) := by
  rw [maxLV] at hn
  rcases errS_cases n a with ⟨h, e⟩ | ⟨h, h2, e⟩ | ⟨h, h2, h3, e⟩ | ⟨h, h2, h3, e⟩
  · rw [rightS_0 (by omega), e]
    conv => whnf
    rw [decide_eq_true h]
    conv => whnf
  · rw [rightS_0 (by omega), e]
    conv => whnf
    rw [decide_eq_false (by omega)]
    conv => whnf
    rw [decide_eq_true (by omega)]
    conv => whnf
  · rw [rightS_0 (by omega), e]
    conv => whnf
    rw [decide_eq_false (by omega)]
    conv => whnf
    rw [decide_eq_false (by omega)]
    conv => whnf
    by_cases h4 : n < 2
    · rw [decide_eq_true (by omega)]
      conv => whnf
    · rw [decide_eq_false (by omega)]
      conv => whnf
      rw [decide_eq_true (by rw [wrapI64_of (by omega) (by omega)]; omega)]
      conv => whnf
  · obtain ⟨a, rfl⟩ := Int.eq_ofNat_of_zero_le h
    have hR : rightS B n (a : Int) = decide (B a = cX B n a ∧ B (a + 1) = cY B n a) := by
      unfold rightS
      simp only [e, true_and, Int.toNat_natCast]
    have hw : IntKind.i64.wrap ((a : Int) + 1) = ((a + 1 : Nat) : Int) := by rw [wrapI64_of (by omega) (by omega)]; rfl
    have hb1 : IntKind.i64.wrap (B a) = B a := wrapI64_of (by have := hB a; omega) (by have := hB a; omega)
    have hb2 : IntKind.i64.wrap (B (a + 1)) = B (a + 1) := wrapI64_of (by have := hB (a + 1); omega) (by have := hB (a + 1); omega)
    rw [hR, e]
    conv => whnf
    repeat first
      | (rw [decide_eq_false (by first | omega | (rw [wrapI64_of (by omega) (by omega)]; omega))]; conv => whnf)
    refine ⟨_, ⟨B, n, a, hB, rfl, by omega, by omega, by omega, rfl⟩, ?_⟩
    conv => whnf
    repeat' first
      | (refine And.intro (by first | exact trivial | omega | (rw [hw]; omega)) ?_; conv => whnf)
      | (split <;> (conv => whnf))
    all_goals (clear hR; simp_all <;> rfl)
end Go.Proofs.Ytldoaopkpoojfaa
