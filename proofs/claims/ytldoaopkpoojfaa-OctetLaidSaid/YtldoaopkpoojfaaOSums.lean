/- The check sum: what its inner functions compute, as contracts: the sums of the program, the sums of the document's answer, and the check bytes of both. -/
import Derived.Test.YtldoaopkpoojfaaOAwake
namespace Go.Proofs.Ytldoaopkpoojfaa
open Go.Ev
set_option linter.unusedVariables false
set_option linter.unusedSimpArgs false
set_option maxRecDepth 100000
set_option maxHeartbeats 1000000
/-- a byte, or nought at the place and behind it -/
def wB (B : Nat → Int) (a : Int) (i : Nat) : Int := if 0 ≤ a ∧ ((i : Int) = a ∨ (i : Int) = a + 1) then 0 else B i
def S0 (B : Nat → Int) (a : Int) : Nat → Int
  | 0 => 0
  | k + 1 => S0 B a k + wB B a k
def S1 (B : Nat → Int) (a : Int) : Nat → Int
  | 0 => 0
  | k + 1 => S1 B a k + S0 B a (k + 1)
theorem sums32 (B : Nat → Int) (hB : ∀ i, 0 ≤ B i ∧ B i ≤ 255) (n : Nat) (a : Int) (h1 : -1 ≤ a) (h2 : a ≤ 2000) (hn : n ≤ 1492) :
    callW E1 3 32 [.imm n 1 fun i => [.int .u8 (B i)], .int .i64 a] [] (fun d _ => d = .tup [.int .i64 (S0 B a n % 255), .int .i64 (S1 B a n % 255)]) (fun _ _ => False) := by
  conv => whnf
  refine loopA ok1 [1, 6, 7, 10, 11, 12] (fun x : Int × Int × Int => mkF 42 0 [(1, .int .i64 a), (6, .int .i64 x.2.1), (7, .int .i64 x.2.2), (10, .imm n 1 fun i => [.int .u8 (B i)]), (11, .int .i64 (n : Nat)), (12, .int .i64 x.1)]) (fun _ => [])
    (fun x => ∃ k : Nat, x.1 = k ∧ k ≤ n ∧ x.2.1 = S0 B a k % 255 ∧ x.2.2 = S1 B a k % 255) (fun x => n - x.1.toNat) (0, 0, 0) rfl rfl ⟨0, rfl, by omega, rfl, rfl⟩ ?_
  rintro ⟨i, c0, c1⟩ ⟨k, rfl, hk, hc0, hc1⟩
  simp only at hc0 hc1
  conv => whnf
  split
  · rename_i hq
    simp only [decide_eq_true_eq] at hq
    conv => whnf
    repeat first
      | (refine And.intro (by first | exact trivial | omega) ?_; conv => whnf)
    have hb := hB k
    have hc : 0 ≤ c0 ∧ c0 < 255 ∧ 0 ≤ c1 ∧ c1 < 255 := by omega
    have hB1 : IntKind.i64.wrap (B k) = B k := wrapI64_of (by omega) (by omega)
    have e1 : (IntKind.i64.wrap (c0 + IntKind.i64.wrap (B k))).tmod 255 = (c0 + B k) % 255 := by
      rw [hB1, wrapI64_of (by omega) (by omega), Int.tmod_eq_emod_of_nonneg (by omega)]
    have e2 : ∀ u, 0 ≤ u → u < 255 → (IntKind.i64.wrap (c1 + u)).tmod 255 = (c1 + u) % 255 := by
      intro u hu1 hu2
      rw [wrapI64_of (by omega) (by omega), Int.tmod_eq_emod_of_nonneg (by omega)]
    have hw : IntKind.i64.wrap (a + 1) = a + 1 := wrapI64_of (by omega) (by omega)
    have hk1 : IntKind.i64.wrap ((k : Int) + 1) = ((k + 1 : Nat) : Int) := by rw [wrapI64_of (by omega) (by omega)]; rfl
    repeat' first
      | (refine And.intro (by first | exact trivial | omega | decide) ?_; conv => whnf)
      | (split <;> (conv => whnf))
    all_goals first
      | refine ⟨(IntKind.i64.wrap ((k : Int) + 1), (IntKind.i64.wrap (c0 + IntKind.i64.wrap (B (k : Int).toNat))).tmod 255, (IntKind.i64.wrap (c1 + (IntKind.i64.wrap (c0 + IntKind.i64.wrap (B (k : Int).toNat))).tmod 255)).tmod 255), rfl, rfl, ⟨k + 1, ?_, by omega, ?_, ?_⟩, ?_⟩
      | refine ⟨(IntKind.i64.wrap ((k : Int) + 1), c0, (IntKind.i64.wrap (c1 + c0)).tmod 255), rfl, rfl, ⟨k + 1, ?_, by omega, ?_, ?_⟩, ?_⟩
    all_goals first
      | exact hk1
      | (rw [hk1]; omega)
      | skip
    all_goals (simp only [decide_eq_true_eq, decide_eq_false_iff_not, bne_iff_ne, ne_eq, bne_eq_false_iff_eq, hw, S0, S1, wB, Int.toNat_natCast] at *)
    all_goals first
      | (rw [e1]; split <;> omega)
      | (rw [e1, e2 _ (by omega) (by omega)]; split <;> omega)
      | (rw [e2 _ (by omega) (by omega)]; split <;> omega)
      | (split <;> omega)
  · rename_i hq
    simp only [decide_eq_false_iff_not] at hq
    have : k = n := by omega
    subst this
    conv => whnf
    rw [hc0, hc1]
/-- each byte times how many stand from it on -/
def W1 (B : Nat → Int) (a : Int) (n : Nat) : Nat → Int
  | 0 => 0
  | k + 1 => W1 B a n k + wB B a k * ((n : Int) - (k : Int))
theorem wB_rng {B : Nat → Int} (hB : ∀ i, 0 ≤ B i ∧ B i ≤ 255) (a : Int) (i : Nat) : 0 ≤ wB B a i ∧ wB B a i ≤ 255 := by
  unfold wB
  have := hB i
  split <;> omega
theorem S0_rng {B : Nat → Int} (hB : ∀ i, 0 ≤ B i ∧ B i ≤ 255) (a : Int) : ∀ k, 0 ≤ S0 B a k ∧ S0 B a k ≤ 255 * (k : Int)
  | 0 => by simp [S0]
  | k + 1 => by
    have := S0_rng hB a k
    have := wB_rng hB a k
    simp only [S0]
    omega
theorem mul_rng {x m : Int} (h1 : 0 ≤ x) (h2 : x ≤ 255) (h3 : 0 ≤ m) (h4 : m ≤ 1492) : 0 ≤ x * m ∧ x * m ≤ 380460 := by
  refine ⟨Int.mul_nonneg h1 h3, ?_⟩
  have := Int.mul_le_mul h2 h4 h3 (by omega : (0 : Int) ≤ 255)
  omega
theorem W1_rng {B : Nat → Int} (hB : ∀ i, 0 ≤ B i ∧ B i ≤ 255) (a : Int) {n : Nat} (hn : n ≤ 1492) : ∀ k, k ≤ n → 0 ≤ W1 B a n k ∧ W1 B a n k ≤ 380460 * (k : Int)
  | 0, _ => by simp [W1]
  | k + 1, h => by
    have := W1_rng hB a hn k (by omega)
    have := wB_rng hB a k
    have := mul_rng (x := wB B a k) (m := (n : Int) - (k : Int)) (by omega) (by omega) (by omega) (by omega)
    simp only [W1]
    omega
theorem weigh39 (B : Nat → Int) (hB : ∀ i, 0 ≤ B i ∧ B i ≤ 255) (n : Nat) (a : Int) (h1 : 0 ≤ a) (h2 : a ≤ 2000) (hn : n ≤ 1492) :
    callW E1 3 39 [.imm n 1 fun i => [.int .u8 (B i)], .int .i64 a] [] (fun d _ => d = .tup [.int .i64 (S0 B a n), .int .i64 (W1 B a n n)]) (fun _ _ => False) := by
  conv => whnf
  refine loopA ok1 [0, 1, 6, 7, 10, 11] (fun x : Int × Int × Int => mkF 45 0 [(0, .imm n 1 fun i => [.int .u8 (B i)]), (1, .int .i64 a), (6, .int .i64 x.2.1), (7, .int .i64 x.2.2), (10, .int .i64 (n : Nat)), (11, .int .i64 x.1)]) (fun _ => [])
    (fun x => ∃ k : Nat, x.1 = k ∧ k ≤ n ∧ x.2.1 = S0 B a k ∧ x.2.2 = W1 B a n k) (fun x => n - x.1.toNat) (0, 0, 0) rfl rfl ⟨0, rfl, by omega, rfl, rfl⟩ ?_
  rintro ⟨i, c0, c1⟩ ⟨k, rfl, hk, hc0, hc1⟩
  simp only at hc0 hc1
  conv => whnf
  split
  · rename_i hq
    simp only [decide_eq_true_eq] at hq
    conv => whnf
    have hb := hB k
    have r0 := S0_rng hB a k
    have r1 := W1_rng hB a hn k hk
    have hm := mul_rng (x := B k) (m := (n : Int) - (k : Int)) hb.1 hb.2 (by omega) (by omega)
    have hB1 : IntKind.i64.wrap (B k) = B k := wrapI64_of (by omega) (by omega)
    have e1 : IntKind.i64.wrap (c0 + IntKind.i64.wrap (B k)) = c0 + B k := by rw [hB1, wrapI64_of (by omega) (by omega)]
    have e3 : IntKind.i64.wrap ((n : Int) - (k : Int)) = (n : Int) - (k : Int) := wrapI64_of (by omega) (by omega)
    have e2 : IntKind.i64.wrap (c1 + IntKind.i64.wrap (IntKind.i64.wrap (B k) * IntKind.i64.wrap ((n : Int) - (k : Int)))) = c1 + B k * ((n : Int) - (k : Int)) := by
      rw [hB1, e3, wrapI64_of (n := B k * ((n : Int) - (k : Int))) (by omega) (by omega), wrapI64_of (by omega) (by omega)]
    have hw : IntKind.i64.wrap (a + 1) = a + 1 := wrapI64_of (by omega) (by omega)
    have hk1 : IntKind.i64.wrap ((k : Int) + 1) = ((k + 1 : Nat) : Int) := by rw [wrapI64_of (by omega) (by omega)]; rfl
    repeat' first
      | (refine And.intro (by first | exact trivial | omega | decide) ?_; conv => whnf)
      | (split <;> (conv => whnf))
    all_goals first
      | refine ⟨(IntKind.i64.wrap ((k : Int) + 1), IntKind.i64.wrap (c0 + IntKind.i64.wrap (B (k : Int).toNat)), IntKind.i64.wrap (c1 + IntKind.i64.wrap (IntKind.i64.wrap (B (k : Int).toNat) * IntKind.i64.wrap ((n : Int) - (k : Int))))), rfl, rfl, ⟨k + 1, ?_, by omega, ?_, ?_⟩, ?_⟩
      | refine ⟨(IntKind.i64.wrap ((k : Int) + 1), c0, c1), rfl, rfl, ⟨k + 1, ?_, by omega, ?_, ?_⟩, ?_⟩
    all_goals first
      | exact hk1
      | (rw [hk1]; omega)
      | skip
    all_goals (simp only [decide_eq_true_eq, decide_eq_false_iff_not, bne_iff_ne, ne_eq, bne_eq_false_iff_eq, hw, S0, W1, wB, Int.toNat_natCast] at *)
    all_goals first
      | (rw [e1]; split <;> omega)
      | (rw [e2]; split <;> omega)
      | (split <;> omega)
  · rename_i hq
    simp only [decide_eq_false_iff_not] at hq
    have : k = n := by omega
    subst this
    conv => whnf
    rw [hc0, hc1]
/-- a number modulo 255, from 1 to 255 -/
def with255 (m : Int) : Int := (m.tmod 255 + 255 - 1).tmod 255 + 1
theorem within33 (m : Int) (h1 : -1000000000 ≤ m) (h2 : m ≤ 1000000000) : callW E1 3 33 [.int .i64 m] [] (fun d _ => d = .int .i64 (with255 m)) (fun _ _ => False) := by
  conv => whnf
  repeat (refine And.intro (by decide) ?_; conv => whnf)
  refine congrArg (V.int .i64) ?_
  have b1 : -255 < m.tmod 255 := Int.lt_tmod_of_pos m (by omega)
  have b2 : m.tmod 255 < 255 := Int.tmod_lt_of_pos m (by omega)
  unfold with255
  have b3 : 0 ≤ (m.tmod 255 + 255 - 1).tmod 255 := Int.tmod_nonneg 255 (by omega)
  have b4 : (m.tmod 255 + 255 - 1).tmod 255 < 255 := Int.tmod_lt_of_pos _ (by omega)
  rw [wrapI64_of (n := m.tmod 255 + 255) (by omega) (by omega), wrapI64_of (n := m.tmod 255 + 255 - 1) (by omega) (by omega), wrapI64_of (by omega) (by omega)]
theorem with255_spec (m : Int) : 1 ≤ with255 m ∧ with255 m ≤ 255 ∧ with255 m % 255 = m % 255 := by
  unfold with255
  have b1 : -255 < m.tmod 255 := Int.lt_tmod_of_pos m (by omega)
  have b2 : m.tmod 255 < 255 := Int.tmod_lt_of_pos m (by omega)
  have b5 : m.tmod 255 % 255 = m % 255 := by
    have := Int.mul_tdiv_add_tmod m 255
    omega
  rw [Int.tmod_eq_emod_of_nonneg (by omega)]
  omega
def spSums : List V → V → Prop := fun us d => ∃ (B : Nat → Int) (n : Nat) (a : Int), (∀ i, 0 ≤ B i ∧ B i ≤ 255) ∧ us = [.imm n 1 fun i => [.int .u8 (B i)], .int .i64 a] ∧ -1 ≤ a ∧ a ≤ 2000 ∧ n ≤ 1492 ∧ d = .tup [.int .i64 (S0 B a n % 255), .int .i64 (S1 B a n % 255)]
def spWeigh : List V → V → Prop := fun us d => ∃ (B : Nat → Int) (n : Nat) (a : Int), (∀ i, 0 ≤ B i ∧ B i ≤ 255) ∧ us = [.imm n 1 fun i => [.int .u8 (B i)], .int .i64 a] ∧ 0 ≤ a ∧ a ≤ 2000 ∧ n ≤ 1492 ∧ d = .tup [.int .i64 (S0 B a n), .int .i64 (W1 B a n n)]
def spWithin : List V → V → Prop := fun us d => ∃ m : Int, us = [.int .i64 m] ∧ -1000000000 ≤ m ∧ m ≤ 1000000000 ∧ d = .int .i64 (with255 m)
/-- the three stand for different functions, each proved over the first -/
theorem conS : ∀ us d, spSums us d → callW E1 3 32 us [] (fun d' _ => d' = d) (fun _ _ => False) := fun us d ⟨B, n, a, h1, h2, h3, h4, h5, e⟩ => by rw [h2, e]; exact sums32 B h1 n a h3 h4 h5
noncomputable def ES1 : Env := E1.add 32 (pcon spSums) true
theorem okS1 : EnvOk Try.prog ES1 := ok1.pcon (fn := Try.f32) rfl (by kernel_rfl) 3 (fun us d ⟨B, n, a, _, _, _, _, _, e⟩ => by rw [e]; rfl) conS
noncomputable def ES3 : Env := (ES1.add 39 (pcon spWeigh) true).add 33 (pcon spWithin) true
theorem okS3 : EnvOk Try.prog ES3 := ok1.pcon2 (ok1.pcon2 okS1 (fn := Try.f39) rfl (by kernel_rfl) 3 (fun us d ⟨B, n, a, _, _, _, _, _, e⟩ => by rw [e]; rfl) (sp := spWeigh) (fun us d ⟨B, n, a, h1, h2, h3, h4, h5, e⟩ => by rw [h2, e]; exact weigh39 B h1 n a h3 h4 h5))
  (fn := Try.f33) rfl (by kernel_rfl) 3 (fun us d ⟨m, _, _, _, e⟩ => by rw [e]; rfl) (sp := spWithin) (fun us d ⟨m, h1, h2, h3, e⟩ => by rw [h1, e]; exact within33 m h2 h3)
/-- the program's check bytes: where the bytes and the place are good -/
def cX (B : Nat → Int) (n : Nat) (a : Int) : Int := with255 (((n : Int) - a - 1) * (S0 B a n % 255) - S1 B a n % 255)
def cY (B : Nat → Int) (n : Nat) (a : Int) : Int := with255 (0 - S0 B a n % 255 - cX B n a)
theorem shlOr16 (x b : Int) (h1 : 0 ≤ x) (h2 : x ≤ 255) (h3 : 0 ≤ b) (h4 : b ≤ 255) : bitsOf .or .u16 (shlI .u16 (IntKind.u16.wrap x) 8) (IntKind.u16.wrap b) = x * 256 + b := by
  rw [wrapU16_of h1 (by omega), wrapU16_of h3 (by omega)]
  obtain ⟨x, rfl⟩ := Int.eq_ofNat_of_zero_le h1
  obtain ⟨b, rfl⟩ := Int.eq_ofNat_of_zero_le h3
  have e1 : shlI .u16 (x : Int) 8 = ((256 * x : Nat) : Int) := by
    have : shlI .u16 (x : Int) 8 = IntKind.u16.wrap ((x : Int) * 256) := rfl
    rw [this, wrapU16]
    omega
  rw [e1]
  have e4 : bitsOf .or .u16 ((256 * x : Nat) : Int) (b : Int) = IntKind.u16.wrap ((BitVec.ofInt 16 ((256 * x : Nat) : Int) ||| BitVec.ofInt 16 (b : Int)).toNat : Int) := rfl
  rw [e4]
  have e3 : (BitVec.ofInt 16 ((256 * x : Nat) : Int) ||| BitVec.ofInt 16 (b : Int)).toNat = 256 * x + b := by
    rw [BitVec.toNat_or]
    have t1 : (BitVec.ofInt 16 ((256 * x : Nat) : Int)).toNat = 256 * x := by rw [BitVec.toNat_ofInt]; omega
    have t2 : (BitVec.ofInt 16 (b : Int)).toNat = b := by rw [BitVec.toNat_ofInt]; omega
    rw [t1, t2]
    exact (Nat.two_pow_add_eq_or_of_lt (i := 8) (by omega) x).symm
  rw [e3, wrapU16]
  omega
theorem sum17 (B : Nat → Int) (hB : ∀ i, 0 ≤ B i ∧ B i ≤ 255) (n : Nat) (a : Int) (h1 : 0 ≤ a) (h2 : a + 2 ≤ n) (hn : n ≤ 1492) :
    callW ES3 4 17 [.imm n 1 fun i => [.int .u8 (B i)], .int .i64 a] [] (fun d _ => d = .tup [.int .u16 (cX B n a * 256 + cY B n a), .int .i64 0]) (fun _ _ => False) := by
  have b0 : 0 ≤ S0 B a n % 255 ∧ S0 B a n % 255 ≤ 255 := by omega
  have b1 : 0 ≤ S1 B a n % 255 ∧ S1 B a n % 255 ≤ 255 := by omega
  have hm := mul_rng (x := S0 B a n % 255) (m := (n : Int) - a - 1) b0.1 b0.2 (by omega) (by omega)
  rw [Int.mul_comm] at hm
  have hE : IntKind.i64.wrap (IntKind.i64.wrap (IntKind.i64.wrap (IntKind.i64.wrap ((n : Int) - a) - 1) * (S0 B a n % 255)) - S1 B a n % 255) = ((n : Int) - a - 1) * (S0 B a n % 255) - S1 B a n % 255 := by
    rw [wrapI64_of (n := (n : Int) - a) (by omega) (by omega), wrapI64_of (n := (n : Int) - a - 1) (by omega) (by omega), wrapI64_of (n := ((n : Int) - a - 1) * (S0 B a n % 255)) (by omega) (by omega), wrapI64_of (by omega) (by omega)]
  have hx := with255_spec (((n : Int) - a - 1) * (S0 B a n % 255) - S1 B a n % 255)
  have hF : IntKind.i64.wrap (IntKind.i64.wrap (0 - S0 B a n % 255) - cX B n a) = 0 - S0 B a n % 255 - cX B n a := by
    unfold cX
    rw [wrapI64_of (n := 0 - S0 B a n % 255) (by omega) (by omega), wrapI64_of (by omega) (by omega)]
  have hy := with255_spec (0 - S0 B a n % 255 - cX B n a)
  conv => whnf
  repeat first
    | (rw [decide_eq_false (by first | omega | (rw [wrapI64_of (by omega) (by omega)]; omega))]; conv => whnf)
    | (refine And.intro (by first | exact trivial | omega | decide) ?_; conv => whnf)
    | (refine ⟨_, ⟨B, n, a, hB, rfl, by omega, by omega, by omega, rfl⟩, ?_⟩; conv => whnf)
  rw [hE]
  refine ⟨_, ⟨_, rfl, by omega, by omega, rfl⟩, ?_⟩
  rw [show with255 (((n : Int) - a - 1) * (S0 B a n % 255) - S1 B a n % 255) = cX B n a from rfl]
  conv => whnf
  rw [hF]
  refine ⟨_, ⟨_, rfl, by unfold cX; omega, by unfold cX; omega, rfl⟩, ?_⟩
  conv => whnf
  repeat (refine And.intro (by first | exact trivial | omega | decide) ?_; conv => whnf)
  rw [show with255 (0 - S0 B a n % 255 - cX B n a) = cY B n a from rfl, shlOr16 _ _ (by unfold cX; omega) (by unfold cX; omega) (by unfold cY; omega) (by unfold cY; omega)]
theorem W1_S1 (B : Nat → Int) (a : Int) (m : Nat) : ∀ k, W1 B a m k = S1 B a k + ((m : Int) - (k : Int)) * S0 B a k
  | 0 => by simp [W1, S1, S0]
  | k + 1 => by
    have h := W1_S1 B a m k
    simp only [W1, S1, S0]
    rw [h]
    have e1 : ((m : Int) - ((k + 1 : Nat) : Int)) * (S0 B a k + wB B a k) = ((m : Int) - (k : Int)) * (S0 B a k + wB B a k) - (S0 B a k + wB B a k) := by
      rw [show (m : Int) - ((k + 1 : Nat) : Int) = ((m : Int) - (k : Int)) - 1 by omega, Int.sub_mul, Int.one_mul]
    rw [e1, Int.mul_add, Int.mul_comm (wB B a k)]
    omega
theorem checkLaw (s b x M : Int) : (b + x * (M + 1) + (255 - (s + x) % 255) * M) % 255 = (x - (M * (s % 255) - b % 255)) % 255 := by
  have h1 := Int.mul_ediv_add_emod (s + x) 255
  have h2 := Int.mul_ediv_add_emod s 255
  generalize (s + x) / 255 = p at *
  generalize s / 255 = q at *
  have ht : (s + x) % 255 = s + x - 255 * p := by omega
  have hr : s % 255 = s - 255 * q := by omega
  rw [ht, hr]
  have e1 : (255 - (s + x - 255 * p)) * M = 255 * M - (s * M + x * M - 255 * (p * M)) := by
    rw [Int.sub_mul, Int.sub_mul, Int.add_mul, Int.mul_assoc]
  have e2 : M * (s - 255 * q) = s * M - 255 * (q * M) := by
    rw [Int.mul_sub, Int.mul_comm M s, Int.mul_comm M (255 * q), Int.mul_assoc]
  have e3 : x * (M + 1) = x * M + x := by rw [Int.mul_add, Int.mul_one]
  rw [e1, e2, e3]
  omega
theorem cX_iff (B : Nat → Int) (n : Nat) (a : Int) (x : Int) (h1 : 1 ≤ x) (h2 : x ≤ 255) : (W1 B a n n + x * ((n : Int) - a) + (255 - (S0 B a n + x) % 255) * ((n : Int) - a - 1)) % 255 = 0 ↔ x = cX B n a := by
  have hx := with255_spec (((n : Int) - a - 1) * (S0 B a n % 255) - S1 B a n % 255)
  have hw := W1_S1 B a n n
  rw [show ((n : Int) - (n : Int)) = 0 by omega, Int.zero_mul, Int.add_zero] at hw
  have key := checkLaw (S0 B a n) (S1 B a n) x ((n : Int) - a - 1)
  rw [show (n : Int) - a - 1 + 1 = (n : Int) - a by omega] at key
  rw [hw, key]
  unfold cX
  generalize ((n : Int) - a - 1) * (S0 B a n % 255) - S1 B a n % 255 = A at *
  omega
theorem cY_eq (B : Nat → Int) (n : Nat) (a : Int) : 255 - (S0 B a n + cX B n a) % 255 = cY B n a := by
  have hy := with255_spec (0 - S0 B a n % 255 - cX B n a)
  unfold cY
  omega
theorem check35 (B : Nat → Int) (hB : ∀ i, 0 ≤ B i ∧ B i ≤ 255) (n : Nat) (a : Int) (h1 : 0 ≤ a) (h2 : a + 2 ≤ n) (hn : n ≤ 1492) :
    callW ES3 4 35 [.imm n 1 fun i => [.int .u8 (B i)], .int .i64 a] [] (fun d _ => d = .tup [.int .i64 (cX B n a), .int .i64 (cY B n a)]) (fun _ _ => False) := by
  have hX := with255_spec (((n : Int) - a - 1) * (S0 B a n % 255) - S1 B a n % 255)
  rw [show with255 (((n : Int) - a - 1) * (S0 B a n % 255) - S1 B a n % 255) = cX B n a from rfl] at hX
  have r0 := S0_rng hB a n
  have r1 := W1_rng hB a hn n (by omega)
  conv => whnf
  refine ⟨_, ⟨B, n, a, hB, rfl, by omega, by omega, by omega, rfl⟩, ?_⟩
  conv => whnf
  refine loopA okS3 [0, 1, 6, 7, 8] (fun x : Int => mkF 45 0 [(0, .imm n 1 fun i => [.int .u8 (B i)]), (1, .int .i64 a), (6, .int .i64 (S0 B a n)), (7, .int .i64 (W1 B a n n)), (8, .int .i64 x)]) (fun _ => []) (fun x => 1 ≤ x ∧ x ≤ cX B n a) (fun x => (256 - x).toNat) 1 rfl rfl ⟨by omega, by omega⟩ ?_
  rintro x ⟨hx1, hx2⟩
  have m1 := mul_rng (x := x) (m := (n : Int) - a) (by omega) (by omega) (by omega) (by omega)
  have m2 := mul_rng (x := 255 - (S0 B a n + x) % 255) (m := (n : Int) - a - 1) (by omega) (by omega) (by omega) (by omega)
  have hy : IntKind.i64.wrap (255 - (IntKind.i64.wrap (S0 B a n + x)).tmod 255) = 255 - (S0 B a n + x) % 255 := by
    rw [wrapI64_of (n := S0 B a n + x) (by omega) (by omega), Int.tmod_eq_emod_of_nonneg (by omega), wrapI64_of (by omega) (by omega)]
  have hE : (IntKind.i64.wrap (IntKind.i64.wrap (W1 B a n n + IntKind.i64.wrap (x * IntKind.i64.wrap ((n : Int) - a))) + IntKind.i64.wrap (IntKind.i64.wrap (255 - (IntKind.i64.wrap (S0 B a n + x)).tmod 255) * IntKind.i64.wrap (IntKind.i64.wrap ((n : Int) - a) - 1)))).tmod 255 = (W1 B a n n + x * ((n : Int) - a) + (255 - (S0 B a n + x) % 255) * ((n : Int) - a - 1)) % 255 := by
    rw [hy, wrapI64_of (n := (n : Int) - a) (by omega) (by omega), wrapI64_of (n := (n : Int) - a - 1) (by omega) (by omega), wrapI64_of (n := x * ((n : Int) - a)) (by omega) (by omega), wrapI64_of (n := (255 - (S0 B a n + x) % 255) * ((n : Int) - a - 1)) (by omega) (by omega), wrapI64_of (n := W1 B a n n + x * ((n : Int) - a)) (by omega) (by omega), wrapI64_of (by omega) (by omega), Int.tmod_eq_emod_of_nonneg (by omega)]
  have hiff := cX_iff B n a x (by omega) (by omega)
  conv => whnf
  rw [decide_eq_true (by omega)]
  conv => whnf
  repeat (refine And.intro (by first | exact trivial | omega | decide) ?_; conv => whnf)
  rw [hE]
  split
  · rename_i hq
    simp only [beq_iff_eq] at hq
    have hxx := hiff.1 hq
    subst hxx
    conv => whnf
    rw [hy, cY_eq]
  · rename_i hq
    simp only [beq_eq_false_iff_ne, ne_eq] at hq
    have hne : x ≠ cX B n a := fun e => hq (hiff.2 e)
    conv => whnf
    refine ⟨IntKind.i64.wrap (x + 1), rfl, rfl, ⟨?_, ?_⟩, ?_⟩ <;> rw [wrapI64_of (by omega) (by omega)] <;> omega
end Go.Proofs.Ytldoaopkpoojfaa
