/- Numbers and bytes: what Num, Put and their answers in the document compute, as contracts; two lists alike. -/
import Derived.Test.YtldoaopkpoojfaaEvTab
namespace Go.Proofs.Ytldoaopkpoojfaa
open Go.Ev
set_option linter.unusedVariables false
set_option linter.unusedSimpArgs false
set_option maxRecDepth 100000
set_option maxHeartbeats 1000000
theorem maxLV : maxL = 9223372036854775807 := rfl
theorem bigV : bigB = 140737488355328 := rfl
theorem w1i {k : Nat} (h : k < 9223372036854775807) : IntKind.i64.wrap ((k : Int) + 1) = ((k + 1 : Nat) : Int) := by rw [wrapI64_of (by omega) (by omega)]; rfl
theorem subG0 (g : Nat → List V) (i : Nat) : subG 0 g i = g i := by simp [subG]
/-! ### Two lists alike -/
def spSame : List V → V → Prop := fun us d => ∃ (n : Nat) (g f : Nat → List V), us = [.imm n 1 g, .imm n 1 f] ∧ n ≤ maxL ∧ (∀ i, i < n → ∃ b : Int, g i = [.int .u8 b] ∧ f i = [.int .u8 b]) ∧ d = .bool true
theorem sameT (n : Nat) (hn : n ≤ maxL) (g f : Nat → List V) (hg : ∀ i, i < n → ∃ b : Int, g i = [.int .u8 b] ∧ f i = [.int .u8 b]) : callW E0 3 26 [.imm n 1 g, .imm n 1 f] [] (fun d _ => d = .bool true) (fun _ _ => False) := by
  rw [maxLV] at hn
  conv => whnf
  rw [show ((n : Int) != (n : Int)) = false by simp]
  conv => whnf
  refine loopA ok0 [0, 1, 12, 13] (fun x : Int => mkF 26 0 [(0, .imm n 1 g), (1, .imm n 1 f), (12, .int .i64 (n : Nat)), (13, .int .i64 x)]) (fun _ => []) (fun x => ∃ k : Nat, x = k ∧ k ≤ n) (fun x => n - x.toNat) 0 rfl rfl ⟨0, rfl, by omega⟩ ?_
  rintro x ⟨k, rfl, hk⟩
  conv => whnf
  split
  · rename_i hq
    simp only [decide_eq_true_eq] at hq
    obtain ⟨b, e1, e2⟩ := hg k (by omega)
    have hk1 := w1i (k := k) (by omega)
    have e1' : g (k : Int).toNat = [.int .u8 b] := by rw [Int.toNat_natCast]; exact e1
    have e2' : f (k : Int).toNat = [.int .u8 b] := by rw [Int.toNat_natCast]; exact e2
    have hbb : (b != b) = false := by simp
    conv => whnf
    repeat first
      | (refine And.intro (by first | exact trivial | omega) ?_; conv => whnf)
      | (rw [e1']; conv => whnf)
      | (rw [e2']; conv => whnf)
      | (rw [hbb]; conv => whnf)
    refine ⟨IntKind.i64.wrap ((k : Int) + 1), rfl, rfl, ⟨k + 1, hk1, by omega⟩, ?_⟩
    rw [hk1]
    omega
  · conv => whnf
noncomputable def EL1 : Env := E0.add 26 (pcon (vcl spSame)) true
theorem okL1 : EnvOk Try.prog EL1 := ok0.pconV ok0 (fn := Try.f26) rfl (by kernel_rfl) 3 (fun us d ⟨n, g, f, _, _, _, e⟩ => by rw [e]; rfl) (fun us d ⟨n, g, f, h1, h2, h3, e⟩ => by rw [h1, e]; exact sameT n h2 g f h3)
/-! ### A number out of bytes -/
def numB (B : Nat → Int) (a : Nat) : Nat → Int
  | 0 => 0
  | k + 1 => numB B a k * 256 + B (a + k)
theorem numB_rng {B : Nat → Int} (hB : ∀ i, 0 ≤ B i ∧ B i ≤ 255) (a : Nat) : ∀ k, 0 ≤ numB B a k ∧ numB B a k < 256 ^ k
  | 0 => by simp [numB]
  | k + 1 => by
    obtain ⟨h1, h2⟩ := numB_rng hB a k
    obtain ⟨h3, h4⟩ := hB (a + k)
    simp only [numB]
    rw [Int.pow_succ]
    generalize numB B a k = x at *
    generalize (256 : Int) ^ k = y at *
    omega
theorem numB_sub (B : Nat → Int) (a : Nat) : ∀ k, numB (fun i => B (a + i)) 0 k = numB B a k
  | 0 => rfl
  | k + 1 => by simp only [numB]; rw [numB_sub B a k, Nat.zero_add]
theorem numB_eq {B C : Nat → Int} (a : Nat) : ∀ {k : Nat}, (∀ i, i < k → B (a + i) = C (a + i)) → numB B a k = numB C a k
  | 0, _ => rfl
  | k + 1, h => by simp only [numB]; rw [numB_eq a (k := k) (fun i hi => h i (by omega)), h k (by omega)]
theorem pow256 {k : Nat} (h : k ≤ 7) : (256 : Int) ^ k ≤ 72057594037927936 := by
  rcases (by omega : k = 0 ∨ k = 1 ∨ k = 2 ∨ k = 3 ∨ k = 4 ∨ k = 5 ∨ k = 6 ∨ k = 7) with e | e | e | e | e | e | e | e <;> subst e <;> decide
theorem pow256' {k : Nat} (h : k ≤ 8) : (256 : Int) ^ k ≤ 18446744073709551616 := by
  rcases (by omega : k = 0 ∨ k = 1 ∨ k = 2 ∨ k = 3 ∨ k = 4 ∨ k = 5 ∨ k = 6 ∨ k = 7 ∨ k = 8) with e | e | e | e | e | e | e | e | e <;> subst e <;> decide
theorem shlOrN (x b : Int) (k : Nat) (hk : k ≤ 64) (h1 : 0 ≤ x) (h3 : 0 ≤ b) (h4 : b < 2 ^ k) (h5 : x * 2 ^ k + b < 18446744073709551616) : bitsOf .or .u64 (shlI .u64 x (k : Int)) b = x * 2 ^ k + b := by
  obtain ⟨x, rfl⟩ := Int.eq_ofNat_of_zero_le h1
  obtain ⟨b, rfl⟩ := Int.eq_ofNat_of_zero_le h3
  have c1 : ((x : Int) * 2 ^ k) = ((2 ^ k * x : Nat) : Int) := by simp [Int.mul_comm]
  have c2 : ((2 : Int) ^ k) = ((2 ^ k : Nat) : Int) := by simp
  rw [c1] at h5 ⊢
  rw [c2] at h4
  have e1 : shlI .u64 (x : Int) (k : Int) = ((2 ^ k * x : Nat) : Int) := by
    have : shlI .u64 (x : Int) (k : Int) = IntKind.u64.wrap ((x : Int) * 2 ^ k) := by
      unfold shlI
      rw [show min (k : Int).toNat IntKind.u64.bits = k by simp [IntKind.bits]; omega]
    rw [this, c1, wrapU64]
    omega
  rw [e1]
  have e4 : bitsOf .or .u64 ((2 ^ k * x : Nat) : Int) (b : Int) = IntKind.u64.wrap ((BitVec.ofInt 64 ((2 ^ k * x : Nat) : Int) ||| BitVec.ofInt 64 (b : Int)).toNat : Int) := rfl
  rw [e4]
  have e3 : (BitVec.ofInt 64 ((2 ^ k * x : Nat) : Int) ||| BitVec.ofInt 64 (b : Int)).toNat = 2 ^ k * x + b := by
    rw [BitVec.toNat_or]
    have t1 : (BitVec.ofInt 64 ((2 ^ k * x : Nat) : Int)).toNat = 2 ^ k * x := by rw [BitVec.toNat_ofInt]; omega
    have t2 : (BitVec.ofInt 64 (b : Int)).toNat = b := by rw [BitVec.toNat_ofInt]; omega
    rw [t1, t2]
    exact (Nat.two_pow_add_eq_or_of_lt (by omega) x).symm
  rw [e3, wrapU64]
  omega
theorem shlOr (x b : Int) (h1 : 0 ≤ x) (h2 : x < 72057594037927936) (h3 : 0 ≤ b) (h4 : b ≤ 255) : bitsOf .or .u64 (shlI .u64 x 8) (IntKind.u64.wrap b) = x * 256 + b := by
  rw [show IntKind.u64.wrap b = b by rw [wrapU64]; omega]
  have := shlOrN x b 8 (by omega) h1 h3 (by omega) (by omega)
  exact this
def errN (n : Nat) (a c : Int) : Int := if c < 1 ∨ 8 < c ∨ a < 0 then 1 else if (n : Int) - c < a then 3 else 0
def numE (B : Nat → Int) (n : Nat) (a c : Int) : Int := if errN n a c = 0 then numB B a.toNat c.toNat else 0
theorem errN_cases (n : Nat) (a c : Int) : ((c < 1 ∨ 8 < c ∨ a < 0) ∧ errN n a c = 1) ∨ (1 ≤ c ∧ c ≤ 8 ∧ 0 ≤ a ∧ (n : Int) < a + c ∧ errN n a c = 3) ∨ (1 ≤ c ∧ c ≤ 8 ∧ 0 ≤ a ∧ a + c ≤ n ∧ errN n a c = 0) := by
  unfold errN
  by_cases h : c < 1 ∨ 8 < c ∨ a < 0
  · rw [if_pos h]; exact .inl ⟨h, rfl⟩
  · rw [if_neg h]
    by_cases h2 : (n : Int) - c < a
    · rw [if_pos h2]; exact .inr (.inl ⟨by omega, by omega, by omega, by omega, rfl⟩)
    · rw [if_neg h2]; exact .inr (.inr ⟨by omega, by omega, by omega, by omega, rfl⟩)
theorem numE_0 {B : Nat → Int} {n : Nat} {a c : Int} (h : errN n a c ≠ 0) : numE B n a c = 0 := by unfold numE; rw [if_neg h]
theorem numE_1 {B : Nat → Int} {n : Nat} {a c : Int} (h : errN n a c = 0) : numE B n a c = numB B a.toNat c.toNat := by unfold numE; rw [if_pos h]
def spNum : List V → V → Prop := fun us d => ∃ (B : Nat → Int) (n : Nat) (a c : Int), (∀ i, 0 ≤ B i ∧ B i ≤ 255) ∧ us = [.imm n 1 fun i => [.int .u8 (B i)], .int .i64 a, .int .i64 c] ∧ n ≤ maxL ∧ -9223372036854775808 ≤ a ∧ a ≤ 9223372036854775807 ∧ -9223372036854775808 ≤ c ∧ c ≤ 9223372036854775807 ∧ d = .tup [.int .u64 (numE B n a c), .int .i64 (errN n a c)]
theorem numT (B : Nat → Int) (hB : ∀ i, 0 ≤ B i ∧ B i ≤ 255) (n : Nat) (hn : n ≤ maxL) (a c : Int) (a1 : -9223372036854775808 ≤ a) (a2 : a ≤ 9223372036854775807) (c1 : -9223372036854775808 ≤ c) (c2 : c ≤ 9223372036854775807) :
    callW E0 3 13 [.imm n 1 fun i => [.int .u8 (B i)], .int .i64 a, .int .i64 c] [] (fun d _ => d = .tup [.int .u64 (numE B n a c), .int .i64 (errN n a c)]) (fun _ _ => False) := by
  rw [maxLV] at hn
  rcases errN_cases n a c with ⟨h, e⟩ | ⟨h1, h2, h3, h4, e⟩ | ⟨h1, h2, h3, h4, e⟩
  · rw [numE_0 (by omega), e]
    conv => whnf
    repeat' first
      | (split <;> (conv => whnf))
    all_goals (simp only [decide_eq_true_eq, decide_eq_false_iff_not] at *; omega)
  · rw [numE_0 (by omega), e]
    conv => whnf
    repeat first
      | (rw [decide_eq_false (by omega)]; conv => whnf)
    rw [decide_eq_true (by rw [wrapI64_of (by omega) (by omega)]; omega)]
    conv => whnf
  · rw [numE_1 e, e]
    obtain ⟨a, rfl⟩ := Int.eq_ofNat_of_zero_le h3
    obtain ⟨c, rfl⟩ := Int.eq_ofNat_of_zero_le (by omega : 0 ≤ c)
    conv => whnf
    repeat first
      | (rw [decide_eq_false (by first | omega | (simp only [wrapI64]; omega))]; conv => whnf)
      | (refine And.intro (by first | omega | (simp only [wrapI64]; omega)) ?_; conv => whnf)
    rw [show (IntKind.i64.wrap ((a : Int) + (c : Int))).toNat - (a : Int).toNat = c by simp only [wrapI64]; omega]
    refine loopA ok0 [8, 32, 33, 34] (fun i : Nat => mkF 45 0 [(8, .int .u64 (numB B a i)), (32, .imm c 1 (subG (a : Int).toNat fun i => [.int .u8 (B i)])), (33, .int .i64 (c : Nat)), (34, .int .i64 (i : Nat))]) (fun _ => []) (fun i => i ≤ c) (fun i => c - i) 0 rfl rfl (by omega) ?_
    intro i hi
    conv => whnf
    split
    · rename_i hq
      simp only [decide_eq_true_eq] at hq
      conv => whnf
      repeat (refine And.intro (by first | exact trivial | omega) ?_; conv => whnf)
      have hx := numB_rng hB a i
      have hb := hB (a + i)
      have hp := pow256 (k := i) (by omega)
      rw [show bitsOf .or .u64 (shlI .u64 (numB B a i) 8) (IntKind.u64.wrap (B ((a : Int).toNat + (i : Int).toNat))) = numB B a (i + 1) from shlOr _ _ hx.1 (by omega) hb.1 hb.2, w1i (k := i) (by omega)]
      exact ⟨i + 1, rfl, rfl, by omega, by omega⟩
    · rename_i hq
      simp only [decide_eq_false_iff_not] at hq
      have : i = c := by omega
      subst this
      conv => whnf
      simp only [Int.toNat_natCast]
noncomputable def EL2 : Env := EL1.add 13 (pcon (vcl spNum)) true
theorem okL2 : EnvOk Try.prog EL2 := ok0.pconV okL1 (fn := Try.f13) rfl (by kernel_rfl) 3 (fun us d ⟨B, n, a, c, _, _, _, _, _, _, _, e⟩ => by rw [e]; rfl) (fun us d ⟨B, n, a, c, h1, h2, h3, h4, h5, h6, h7, e⟩ => by rw [h2, e]; exact numT B h1 n h3 a c h4 h5 h6 h7)
/-! ### Number and DocNum -/
def spNumber : List V → V → Prop := fun us d => ∃ (B : Nat → Int) (n : Nat), (∀ i, 0 ≤ B i ∧ B i ≤ 255) ∧ us = [.imm n 1 fun i => [.int .u8 (B i)]] ∧ n ≤ 8 ∧ d = .int .u64 (numB B 0 n)
theorem numberT (B : Nat → Int) (hB : ∀ i, 0 ≤ B i ∧ B i ≤ 255) (n : Nat) (hn : n ≤ 8) : callW E0 3 36 [.imm n 1 fun i => [.int .u8 (B i)]] [] (fun d _ => d = .int .u64 (numB B 0 n)) (fun _ _ => False) := by
  conv => whnf
  refine loopA ok0 [0, 3, 4] (fun i : Nat => mkF 20 0 [(0, .imm n 1 fun i => [.int .u8 (B i)]), (3, .int .u64 (numB B 0 i)), (4, .int .i64 (i : Nat))]) (fun _ => []) (fun i => i ≤ n) (fun i => n - i) 0 rfl rfl (by omega) ?_
  intro i hi
  conv => whnf
  split
  · rename_i hq
    simp only [decide_eq_true_eq] at hq
    conv => whnf
    repeat (refine And.intro (by first | exact trivial | omega) ?_; conv => whnf)
    have hx := numB_rng hB 0 i
    have hb := hB i
    have hp := pow256 (k := i) (by omega)
    have e : IntKind.u64.wrap (IntKind.u64.wrap (numB B 0 i * 256) + IntKind.u64.wrap (B (i : Int).toNat)) = numB B 0 (i + 1) := by
      rw [Int.toNat_natCast, wrapU64_of (n := B i) (by omega) (by omega), wrapU64_of (n := numB B 0 i * 256) (by omega) (by omega), wrapU64_of (by omega) (by omega)]
      simp only [numB, Nat.zero_add]
    rw [e, w1i (k := i) (by omega)]
    exact ⟨i + 1, rfl, rfl, by omega, by omega⟩
  · rename_i hq
    simp only [decide_eq_false_iff_not] at hq
    have : i = n := by omega
    subst this
    conv => whnf
noncomputable def EL3 : Env := EL2.add 36 (pcon (vcl spNumber)) true
theorem okL3 : EnvOk Try.prog EL3 := ok0.pconV okL2 (fn := Try.f36) rfl (by kernel_rfl) 3 (fun us d ⟨B, n, _, _, _, e⟩ => by rw [e]; rfl) (fun us d ⟨B, n, h1, h2, h3, e⟩ => by rw [h2, e]; exact numberT B h1 n h3)
theorem docNumT (B : Nat → Int) (hB : ∀ i, 0 ≤ B i ∧ B i ≤ 255) (n : Nat) (hn : n ≤ maxL) (a c : Int) (a1 : -9223372036854775808 ≤ a) (a2 : a ≤ 9223372036854775807) (c1 : -9223372036854775808 ≤ c) (c2 : c ≤ 9223372036854775807) :
    callW EL3 3 23 [.imm n 1 fun i => [.int .u8 (B i)], .int .i64 a, .int .i64 c] [] (fun d _ => d = .tup [.int .u64 (numE B n a c), .int .i64 (errN n a c)]) (fun _ _ => False) := by
  rw [maxLV] at hn
  rcases errN_cases n a c with ⟨h, e⟩ | ⟨h1, h2, h3, h4, e⟩ | ⟨h1, h2, h3, h4, e⟩
  · rw [numE_0 (by omega), e]
    conv => whnf
    repeat' first
      | (split <;> (conv => whnf))
      | (refine And.intro (by simp only [decide_eq_true_eq, decide_eq_false_iff_not] at *; omega) ?_; conv => whnf)
    all_goals (simp only [decide_eq_true_eq, decide_eq_false_iff_not] at *; omega)
  · rw [numE_0 (by omega), e]
    conv => whnf
    repeat first
      | (rw [decide_eq_false (by omega)]; conv => whnf)
    by_cases h5 : (n : Int) < c
    · rw [decide_eq_true h5]
      conv => whnf
    · rw [decide_eq_false h5]
      conv => whnf
      rw [decide_eq_true (by rw [wrapI64_of (by omega) (by omega)]; omega)]
      conv => whnf
  · rw [numE_1 e, e]
    obtain ⟨a, rfl⟩ := Int.eq_ofNat_of_zero_le h3
    obtain ⟨c, rfl⟩ := Int.eq_ofNat_of_zero_le (by omega : 0 ≤ c)
    conv => whnf
    repeat first
      | (rw [decide_eq_false (by first | omega | (simp only [wrapI64]; omega))]; conv => whnf)
      | (refine And.intro (by first | omega | (simp only [wrapI64]; omega)) ?_; conv => whnf)
    rw [show (IntKind.i64.wrap ((a : Int) + (c : Int))).toNat - (a : Int).toNat = c by simp only [wrapI64]; omega]
    refine ⟨_, ⟨[.imm c 1 fun i => [.int .u8 (B (a + i))]], ⟨⟨rfl, rfl, fun i _ => by simp [subG]⟩, trivial⟩, fun i => B (a + i), c, fun i => hB _, rfl, by omega, rfl⟩, ?_⟩
    conv => whnf
    rw [numB_sub, Int.toNat_natCast, Int.toNat_natCast]
end Go.Proofs.Ytldoaopkpoojfaa
