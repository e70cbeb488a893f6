/- A number out of bytes: what Num of the program computes where there are enough bytes, as a contract; and the law that a number of two parts is that of its parts. -/
import Derived.Test.YtldoaopkpoojfaaOPlus
namespace Go.Proofs.Ytldoaopkpoojfaa
open Go.Ev
set_option linter.unusedVariables false
set_option maxRecDepth 100000
set_option maxHeartbeats 1000000
set_option linter.unusedSimpArgs false
def numB (B : Nat → Int) (a : Nat) : Nat → Int
  | 0 => 0
  | k + 1 => numB B a k * 256 + B (a + k)
theorem numB_rng {B : Nat → Int} (hB : ∀ i, 0 ≤ B i ∧ B i ≤ 255) (a : Nat) : ∀ k, 0 ≤ numB B a k ∧ numB B a k < 256 ^ k
  | 0 => by simp [numB]
  | k + 1 => by
    obtain ⟨h1, h2⟩ := numB_rng hB a k
    obtain ⟨h3, h4⟩ := hB (a + k)
    simp only [numB]
    rw [Int.pow_succ]
    generalize numB B a k = x at *
    generalize (256 : Int) ^ k = y at *
    omega
theorem shlOrN (x b : Int) (k : Nat) (hk : k ≤ 64) (h1 : 0 ≤ x) (h3 : 0 ≤ b) (h4 : b < 2 ^ k) (h5 : x * 2 ^ k + b < 18446744073709551616) : bitsOf .or .u64 (shlI .u64 x (k : Int)) b = x * 2 ^ k + b := by
  obtain ⟨x, rfl⟩ := Int.eq_ofNat_of_zero_le h1
  obtain ⟨b, rfl⟩ := Int.eq_ofNat_of_zero_le h3
  have c1 : ((x : Int) * 2 ^ k) = ((2 ^ k * x : Nat) : Int) := by simp [Int.mul_comm]
  have c2 : ((2 : Int) ^ k) = ((2 ^ k : Nat) : Int) := by simp
  rw [c1] at h5 ⊢
  rw [c2] at h4
  have e1 : shlI .u64 (x : Int) (k : Int) = ((2 ^ k * x : Nat) : Int) := by
    have : shlI .u64 (x : Int) (k : Int) = IntKind.u64.wrap ((x : Int) * 2 ^ k) := by
      unfold shlI
      rw [show min (k : Int).toNat IntKind.u64.bits = k by simp [IntKind.bits]; omega]
    rw [this, c1, wrapU64]
    omega
  rw [e1]
  have e4 : bitsOf .or .u64 ((2 ^ k * x : Nat) : Int) (b : Int) = IntKind.u64.wrap ((BitVec.ofInt 64 ((2 ^ k * x : Nat) : Int) ||| BitVec.ofInt 64 (b : Int)).toNat : Int) := rfl
  rw [e4]
  have e3 : (BitVec.ofInt 64 ((2 ^ k * x : Nat) : Int) ||| BitVec.ofInt 64 (b : Int)).toNat = 2 ^ k * x + b := by
    rw [BitVec.toNat_or]
    have t1 : (BitVec.ofInt 64 ((2 ^ k * x : Nat) : Int)).toNat = 2 ^ k * x := by rw [BitVec.toNat_ofInt]; omega
    have t2 : (BitVec.ofInt 64 (b : Int)).toNat = b := by rw [BitVec.toNat_ofInt]; omega
    rw [t1, t2]
    exact (Nat.two_pow_add_eq_or_of_lt (by omega) x).symm
  rw [e3, wrapU64]
  omega
theorem shlOr (x b : Int) (h1 : 0 ≤ x) (h2 : x < 72057594037927936) (h3 : 0 ≤ b) (h4 : b ≤ 255) : bitsOf .or .u64 (shlI .u64 x 8) (IntKind.u64.wrap b) = x * 256 + b := by
  rw [show IntKind.u64.wrap b = b by rw [wrapU64]; omega]
  have := shlOrN x b 8 (by omega) h1 h3 (by omega) (by omega)
  exact this
theorem maxL_val : maxL = 9223372036854775807 := rfl
theorem num13 (B : Nat → Int) (hB : ∀ i, 0 ≤ B i ∧ B i ≤ 255) (n a c : Nat) (h1 : 1 ≤ c) (h2 : c ≤ 8) (h4 : a + c ≤ n) (hn : n ≤ maxL) : callW E3 3 13 [.imm n 1 fun i => [.int .u8 (B i)], .int .i64 (a : Nat), .int .i64 (c : Nat)] [] (fun d _ => d = .tup [.int .u64 (numB B a c), .int .i64 0]) (fun _ _ => False) := by
  rw [maxL_val] at hn
  conv => whnf
  repeat first
    | (rw [decide_eq_false (by first | omega | (simp only [wrapI64]; omega))]; conv => whnf)
    | (refine And.intro (by first | omega | (simp only [wrapI64]; omega)) ?_; conv => whnf)
  rw [show (IntKind.i64.wrap ((a : Int) + (c : Int))).toNat - (a : Int).toNat = c by simp only [wrapI64]; omega]
  refine loopA ok3 [8, 32, 33, 34] (fun i : Nat => mkF 45 0 [(8, .int .u64 (numB B a i)), (32, .imm c 1 (subG (a : Int).toNat fun i => [.int .u8 (B i)])), (33, .int .i64 (c : Nat)), (34, .int .i64 (i : Nat))]) (fun _ => []) (fun i => i ≤ c) (fun i => c - i) 0 rfl rfl (by omega) ?_
  intro i hi
  conv => whnf
  split
  · rename_i hq
    simp only [decide_eq_true_eq] at hq
    conv => whnf
    repeat (refine And.intro (by first | exact trivial | omega) ?_; conv => whnf)
    have hx := numB_rng hB a i
    have hb := hB (a + i)
    have hp : (256 : Int) ^ i ≤ 72057594037927936 := by
      rcases (by omega : i = 0 ∨ i = 1 ∨ i = 2 ∨ i = 3 ∨ i = 4 ∨ i = 5 ∨ i = 6 ∨ i = 7) with e | e | e | e | e | e | e | e <;> subst e <;> decide
    rw [show bitsOf .or .u64 (shlI .u64 (numB B a i) 8) (IntKind.u64.wrap (B ((a : Int).toNat + (i : Int).toNat))) = numB B a (i + 1) from shlOr _ _ hx.1 (by omega) hb.1 hb.2, show IntKind.i64.wrap ((i : Int) + 1) = ((i + 1 : Nat) : Int) by simp only [wrapI64]; omega]
    exact ⟨i + 1, rfl, rfl, by omega, by omega⟩
  · rename_i hq
    simp only [decide_eq_false_iff_not] at hq
    have : i = c := by omega
    subst this
    conv => whnf
def spNum : List V → V → Prop := fun us d => ∃ (B : Nat → Int) (n : Nat) (a c : Int), (∀ i, 0 ≤ B i ∧ B i ≤ 255) ∧ us = [.imm n 1 fun i => [.int .u8 (B i)], .int .i64 a, .int .i64 c] ∧ 1 ≤ c ∧ c ≤ 8 ∧ 0 ≤ a ∧ a + c ≤ n ∧ n ≤ maxL ∧ d = .tup [.int .u64 (numB B a.toNat c.toNat), .int .i64 0]
noncomputable def E4 : Env := E3.add 13 (pcon spNum) true
theorem ok4 : EnvOk Try.prog E4 := ok3.pcon (fn := Try.f13) rfl (by kernel_rfl) 3 (fun us d ⟨B, n, a, c, _, _, _, _, _, _, _, e⟩ => by rw [e]; rfl) (fun us d ⟨B, n, a, c, h1, h2, h3, h4, h5, h6, h7, e⟩ => by
  obtain ⟨a, rfl⟩ := Int.eq_ofNat_of_zero_le h5
  obtain ⟨c, rfl⟩ := Int.eq_ofNat_of_zero_le (by omega : 0 ≤ c)
  rw [h2, e]
  exact num13 B h1 n a c (by omega) (by omega) (by omega) h7)
theorem numB_add (B : Nat → Int) (a x : Nat) : ∀ y, numB B a (x + y) = numB B a x * 256 ^ y + numB B (a + x) y
  | 0 => by simp [numB]
  | y + 1 => by
    have := numB_add B a x y
    rw [← Nat.add_assoc]
    simp only [numB]
    rw [this, Int.pow_succ, Int.add_mul, Int.mul_assoc, ← Nat.add_assoc]
    omega
theorem partsLaw {B : Nat → Int} (hB : ∀ i, 0 ≤ B i ∧ B i ≤ 255) (x y : Nat) (hx1 : 1 ≤ x) (hx2 : x ≤ 4) (hy1 : 1 ≤ y) (hy2 : y ≤ 4) : bitsOf .or .u64 (shlI .u64 (numB B 0 x) ((8 * y : Nat) : Int)) (numB B x y) = numB B 0 (x + y) := by
  have r1 := numB_rng hB 0 x
  have r2 := numB_rng hB x y
  have r3 := numB_add B 0 x y
  rw [Nat.zero_add] at r3
  have e : (2 : Int) ^ (8 * y) = 256 ^ y := by
    rw [Int.pow_mul]
    rfl
  have hm : numB B 0 x < 4294967296 := by
    have : (256 : Int) ^ x ≤ 4294967296 := by
      rcases (by omega : x = 1 ∨ x = 2 ∨ x = 3 ∨ x = 4) with h | h | h | h <;> subst h <;> decide
    omega
  have hp : numB B 0 x * 256 ^ y + numB B x y < 18446744073709551616 := by
    rcases (by omega : y = 1 ∨ y = 2 ∨ y = 3 ∨ y = 4) with h | h | h | h <;> subst h <;> simp only [show (256 : Int) ^ 1 = 256 from rfl, show (256 : Int) ^ 2 = 65536 from rfl, show (256 : Int) ^ 3 = 16777216 from rfl, show (256 : Int) ^ 4 = 4294967296 from rfl] at r2 ⊢ <;> omega
  have := shlOrN (numB B 0 x) (numB B x y) (8 * y) (by omega) r1.1 r2.1 (by rw [e]; exact r2.2) (by rw [e]; exact hp)
  rw [this, e, r3]
theorem parts (z : List Int) (n : Nat) (hn : n ≤ z.length) (hl : z.length ≤ maxL) (hz : ∀ n ∈ z, (Lit.int .u8 n).wf = true) (a : Int) (ha : 0 ≤ a ∧ a ≤ 255) (b : Int) (hb : 0 ≤ b ∧ b ≤ 255) :
    callW E4 3 3 [.imm n 1 fun i => [.int .u8 (z.getD i 0)], .int .u8 a, .int .u8 b] [] (fun d _ => d = .bool true) (fun _ _ => False) := by
  have hB : ∀ i, 0 ≤ z.getD i 0 ∧ z.getD i 0 ≤ 255 := by
    intro i
    rcases Nat.lt_or_ge i z.length with h | h
    · have := rngU8 (hz (z.getD i 0) (by simp [h]))
      exact this
    · simp [h]
  conv => whnf
  refine ⟨.bool true, ⟨rfl, rfl⟩, ?_⟩
  conv => whnf
  repeat first
    | (refine And.intro (by first | exact trivial | omega | decide) ?_; conv => whnf)
  rw [Int.tmod_eq_emod_of_nonneg ha.1, Int.tmod_eq_emod_of_nonneg hb.1]
  have hX : 1 ≤ IntKind.i64.wrap (1 + IntKind.i64.wrap (a % 4)) ∧ IntKind.i64.wrap (1 + IntKind.i64.wrap (a % 4)) ≤ 4 := by simp only [wrapI64]; omega
  have hY : 1 ≤ IntKind.i64.wrap (1 + IntKind.i64.wrap (b % 4)) ∧ IntKind.i64.wrap (1 + IntKind.i64.wrap (b % 4)) ≤ 4 := by simp only [wrapI64]; omega
  generalize IntKind.i64.wrap (1 + IntKind.i64.wrap (a % 4)) = X at *
  generalize IntKind.i64.wrap (1 + IntKind.i64.wrap (b % 4)) = Y at *
  have hXY : IntKind.i64.wrap (X + Y) = X + Y := by simp only [wrapI64]; omega
  rw [hXY]
  split
  · conv => whnf
  rename_i hq
  simp only [decide_eq_false_iff_not] at hq
  conv => whnf
  refine ⟨_, ⟨fun i => z.getD i 0, n, 0, X + Y, hB, by rw [hXY], by omega, by omega, by omega, by omega, by omega, rfl⟩, ?_⟩
  conv => whnf
  repeat first
    | (refine And.intro (by first | exact trivial | omega | decide) ?_; conv => whnf)
  refine ⟨_, ⟨_, n, 0, X, hB, rfl, by omega, by omega, by omega, by omega, by omega, rfl⟩, ?_⟩
  conv => whnf
  repeat first
    | (refine And.intro (by first | exact trivial | omega | decide) ?_; conv => whnf)
  refine ⟨_, ⟨_, n, X, Y, hB, rfl, by omega, by omega, by omega, by omega, by omega, rfl⟩, ?_⟩
  conv => whnf
  repeat first
    | (refine And.intro (by first | exact trivial | omega | (simp only [wrapI64]; omega)) ?_; conv => whnf)
  obtain ⟨x, rfl⟩ := Int.eq_ofNat_of_zero_le (by omega : 0 ≤ X)
  obtain ⟨y, rfl⟩ := Int.eq_ofNat_of_zero_le (by omega : 0 ≤ Y)
  have key := partsLaw hB x y (by omega) (by omega) (by omega) (by omega)
  rw [show IntKind.i64.wrap (8 * (y : Int)) = ((8 * y : Nat) : Int) by simp only [wrapI64]; omega, show ((x : Int) + (y : Int)).toNat = x + y by omega, show (x : Int).toNat = x by omega, show (y : Int).toNat = y by omega, show Int.toNat 0 = 0 from rfl, key]
  simp
end Go.Proofs.Ytldoaopkpoojfaa
