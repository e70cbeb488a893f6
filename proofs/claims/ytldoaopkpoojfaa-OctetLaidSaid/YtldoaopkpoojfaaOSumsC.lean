/- The check sum: the contracts of all that the laws of the check sum call; two lists alike; a row that is kept. -/
import Derived.Test.YtldoaopkpoojfaaOSumsB
namespace Go.Proofs.Ytldoaopkpoojfaa
open Go.Ev
set_option linter.unusedVariables false
set_option linter.unusedSimpArgs false
set_option maxRecDepth 100000
set_option maxHeartbeats 1000000
def spSum : List V → V → Prop := fun us d => ∃ (B : Nat → Int) (n : Nat) (a : Int), (∀ i, 0 ≤ B i ∧ B i ≤ 255) ∧ us = [.imm n 1 fun i => [.int .u8 (B i)], .int .i64 a] ∧ n ≤ maxL ∧ d = .tup [.int .u16 (sumS B n a), .int .i64 (errS n a)]
def spRight : List V → V → Prop := fun us d => ∃ (B : Nat → Int) (n : Nat) (a : Int), (∀ i, 0 ≤ B i ∧ B i ≤ 255) ∧ us = [.imm n 1 fun i => [.int .u8 (B i)], .int .i64 a] ∧ n ≤ maxL ∧ d = .tup [.bool (rightS B n a), .int .i64 (errS n a)]
def spSame : List V → V → Prop := fun us d => ∃ (n : Nat) (g f : Nat → List V), us = [.imm n 1 g, .imm n 1 f] ∧ n ≤ maxL ∧ (∀ i, i < n → ∃ b : Int, g i = [.int .u8 b] ∧ f i = [.int .u8 b]) ∧ d = .bool true
theorem same26 (n : Nat) (hn : n ≤ maxL) (g f : Nat → List V) (hg : ∀ i, i < n → ∃ b : Int, g i = [.int .u8 b] ∧ f i = [.int .u8 b]) : callW ES4 3 26 [.imm n 1 g, .imm n 1 f] [] (fun d _ => d = .bool true) (fun _ _ => False) := by
  rw [maxLV] at hn
  conv => whnf
  rw [show ((n : Int) != (n : Int)) = false by simp]
  conv => whnf
  refine loopA okS4 [0, 1, 12, 13] (fun x : Int => mkF 26 0 [(0, .imm n 1 g), (1, .imm n 1 f), (12, .int .i64 (n : Nat)), (13, .int .i64 x)]) (fun _ => []) (fun x => ∃ k : Nat, x = k ∧ k ≤ n) (fun x => n - x.toNat) 0 rfl rfl ⟨0, rfl, by omega⟩ ?_
  rintro x ⟨k, rfl, hk⟩
  conv => whnf
  split
  · rename_i hq
    simp only [decide_eq_true_eq] at hq
    obtain ⟨b, e1, e2⟩ := hg k (by omega)
    have hk1 : IntKind.i64.wrap ((k : Int) + 1) = ((k + 1 : Nat) : Int) := by rw [wrapI64_of (by omega) (by omega)]; rfl
    have e1' : g (k : Int).toNat = [.int .u8 b] := by rw [Int.toNat_natCast]; exact e1
    have e2' : f (k : Int).toNat = [.int .u8 b] := by rw [Int.toNat_natCast]; exact e2
    have hbb : (b != b) = false := by simp
    conv => whnf
    repeat first
      | (refine And.intro (by first | exact trivial | omega) ?_; conv => whnf)
      | (rw [e1']; conv => whnf)
      | (rw [e2']; conv => whnf)
      | (rw [hbb]; conv => whnf)
    refine ⟨IntKind.i64.wrap ((k : Int) + 1), rfl, rfl, ⟨k + 1, hk1, by omega⟩, ?_⟩
    rw [hk1]
    omega
  · conv => whnf
noncomputable def ES5 : Env := ES4.add 26 (pcon spSame) true
theorem okS5 : EnvOk Try.prog ES5 := okS4.pcon (fn := Try.f26) rfl (by kernel_rfl) 3 (fun us d ⟨n, g, f, _, _, _, e⟩ => by rw [e]; rfl) (fun us d ⟨n, g, f, h1, h2, h3, e⟩ => by rw [h1, e]; exact same26 n h2 g f h3)
def spKept : List V → V → Prop := fun us d => ∃ (n : Nat) (g f : Nat → List V), us = [.imm (n + 3) 1 g, .imm n 1 f] ∧ n + 3 ≤ maxL ∧ (∀ i, i < n → ∃ b : Int, g i = [.int .u8 b] ∧ f i = [.int .u8 b]) ∧ g n = [.int .u8 165] ∧ g (n + 1) = [.int .u8 90] ∧ g (n + 2) = [.int .u8 165] ∧ d = .bool true
theorem kept21 (n : Nat) (hn : n + 3 ≤ maxL) (g f : Nat → List V) (hg : ∀ i, i < n → ∃ b : Int, g i = [.int .u8 b] ∧ f i = [.int .u8 b]) (h0 : g n = [.int .u8 165]) (h1 : g (n + 1) = [.int .u8 90]) (h2 : g (n + 2) = [.int .u8 165]) :
    callW ES5 3 21 [.imm (n + 3) 1 g, .imm n 1 f] [] (fun d _ => d = .bool true) (fun _ _ => False) := by
  have hn' := hn
  rw [maxLV] at hn
  have w3 : IntKind.i64.wrap ((n : Int) + 3) = ((n + 3 : Nat) : Int) := by rw [wrapI64_of (by omega) (by omega)]; rfl
  have w1 : IntKind.i64.wrap ((n : Int) + 1) = ((n + 1 : Nat) : Int) := by rw [wrapI64_of (by omega) (by omega)]; rfl
  have w2 : IntKind.i64.wrap ((n : Int) + 2) = ((n + 2 : Nat) : Int) := by rw [wrapI64_of (by omega) (by omega)]; rfl
  conv => whnf
  rw [show (((n + 3 : Nat) : Int) == IntKind.i64.wrap ((n : Int) + 3)) = true by rw [w3]; simp]
  conv => whnf
  repeat first
    | (refine And.intro (by first | exact trivial | omega) ?_; conv => whnf)
  have hsub : subG (Int.toNat 0) g = g := by funext i; simp [subG]
  refine ⟨_, ⟨n, g, f, by rw [hsub]; simp, by rw [maxLV]; omega, hg, rfl⟩, ?_⟩
  conv => whnf
  have h0' : g (n : Int).toNat = [.int .u8 165] := by rw [Int.toNat_natCast]; exact h0
  have h1' : g (IntKind.i64.wrap ((n : Int) + 1)).toNat = [.int .u8 90] := by rw [w1, Int.toNat_natCast]; exact h1
  have h2' : g (IntKind.i64.wrap ((n : Int) + 2)).toNat = [.int .u8 165] := by rw [w2, Int.toNat_natCast]; exact h2
  repeat first
    | (refine And.intro (by first | exact trivial | omega | (rw [w1]; omega) | (rw [w2]; omega)) ?_; conv => whnf)
    | (rw [h0']; conv => whnf)
    | (rw [h1']; conv => whnf)
    | (rw [h2']; conv => whnf)
  rfl
noncomputable def ES9 : Env := ((((ES5.add 21 (pcon spKept) true).add 17 (pcon (vcl spSum)) true).add 19 (pcon (vcl spRight)) true).add 18 (pcon (vcl spSum)) true).add 20 (pcon (vcl spRight)) true
theorem okS9 : EnvOk Try.prog ES9 :=
  okS4.pconV (okS4.pconV (okS3.pconV (okS3.pconV (okS5.pcon (fn := Try.f21) rfl (by kernel_rfl) 3 (fun us d ⟨n, g, f, _, _, _, _, _, _, e⟩ => by rw [e]; rfl) (fun us d ⟨n, g, f, h1, h2, h3, h4, h5, h6, e⟩ => by rw [h1, e]; exact kept21 n h2 g f h3 h4 h5 h6))
    (fn := Try.f17) rfl (by kernel_rfl) 4 (fun us d ⟨B, n, a, _, _, _, e⟩ => by rw [e]; rfl) (fun us d ⟨B, n, a, h1, h2, h3, e⟩ => by rw [h2, e]; exact sum17e B h1 n h3 a))
    (fn := Try.f19) rfl (by kernel_rfl) 4 (fun us d ⟨B, n, a, _, _, _, e⟩ => by rw [e]; rfl) (fun us d ⟨B, n, a, h1, h2, h3, e⟩ => by rw [h2, e]; exact right19 B h1 n h3 a))
    (fn := Try.f18) rfl (by kernel_rfl) 4 (fun us d ⟨B, n, a, _, _, _, e⟩ => by rw [e]; rfl) (fun us d ⟨B, n, a, h1, h2, h3, e⟩ => by rw [h2, e]; exact doc18 B h1 n h3 a))
    (fn := Try.f20) rfl (by kernel_rfl) 4 (fun us d ⟨B, n, a, _, _, _, e⟩ => by rw [e]; rfl) (fun us d ⟨B, n, a, h1, h2, h3, e⟩ => by rw [h2, e]; exact doc20 B h1 n h3 a)
/-- the check bytes laid at their place -/
def laidB (B : Nat → Int) (n a : Nat) : Nat → Int := fun i => if i = a + 1 then cY B n a else if i = a then cX B n a else B i
theorem wB_laid (B : Nat → Int) (n a : Nat) (i : Nat) : wB (laidB B n a) (a : Int) i = wB B (a : Int) i := by
  rw [wB_at, wB_at]
  unfold laidB
  split
  · rfl
  · rename_i h
    rw [if_neg (by omega), if_neg (by omega)]
theorem S0_laid (B : Nat → Int) (n a : Nat) : ∀ k, S0 (laidB B n a) (a : Int) k = S0 B (a : Int) k
  | 0 => rfl
  | k + 1 => by simp only [S0]; rw [S0_laid B n a k, wB_laid]
theorem S1_laid (B : Nat → Int) (n a : Nat) : ∀ k, S1 (laidB B n a) (a : Int) k = S1 B (a : Int) k
  | 0 => rfl
  | k + 1 => by simp only [S1]; rw [S1_laid B n a k, S0_laid]
theorem cX_laid (B : Nat → Int) (n a : Nat) : cX (laidB B n a) n (a : Int) = cX B n (a : Int) := by unfold cX; rw [S0_laid, S1_laid]
theorem cY_laid (B : Nat → Int) (n a : Nat) : cY (laidB B n a) n (a : Int) = cY B n (a : Int) := by unfold cY; rw [cX_laid, S0_laid]
theorem cX_rng (B : Nat → Int) (n : Nat) (a : Int) : 1 ≤ cX B n a ∧ cX B n a ≤ 255 := by
  have := with255_spec (((n : Int) - a - 1) * (S0 B a n % 255) - S1 B a n % 255)
  unfold cX; omega
theorem cY_rng (B : Nat → Int) (n : Nat) (a : Int) : 1 ≤ cY B n a ∧ cY B n a ≤ 255 := by
  have := with255_spec (0 - S0 B a n % 255 - cX B n a)
  unfold cY; omega
theorem laidB_rng {B : Nat → Int} (hB : ∀ i, 0 ≤ B i ∧ B i ≤ 255) (n a : Nat) (i : Nat) : 0 ≤ laidB B n a i ∧ laidB B n a i ≤ 255 := by
  have := hB i
  have := cX_rng B n a
  have := cY_rng B n a
  unfold laidB
  split
  · omega
  · split <;> omega
theorem sumS_laid (B : Nat → Int) (n a : Nat) : sumS (laidB B n a) n (a : Int) = sumS B n (a : Int) := by unfold sumS; rw [cX_laid, cY_laid]
theorem rightS_laid (B : Nat → Int) (n a : Nat) (h : errS n (a : Int) = 0) : rightS (laidB B n a) n (a : Int) = true := by
  unfold rightS
  simp only [h, cX_laid, cY_laid, Int.toNat_natCast, true_and, decide_eq_true_eq]
  unfold laidB
  simp
theorem hiB (x y : Int) (h1 : 1 ≤ x ∧ x ≤ 255) (h2 : 1 ≤ y ∧ y ≤ 255) : IntKind.u8.wrap (shrI .u16 (x * 256 + y) 8) = x := by
  have : shrI .u16 (x * 256 + y) 8 = x := by
    show (x * 256 + y).fdiv (2 ^ (min (8 : Int).toNat 16)) = x
    rw [show (2 : Int) ^ (min (8 : Int).toNat 16) = 256 by decide, Int.fdiv_eq_ediv_of_nonneg _ (by omega)]
    omega
  rw [this, wrapU8_of (by omega) (by omega)]
theorem loB (x y : Int) (h1 : 1 ≤ x ∧ x ≤ 255) (h2 : 1 ≤ y ∧ y ≤ 255) : IntKind.u8.wrap (x * 256 + y) = y := by rw [wrapU8]; omega
theorem sums (z : List Int) (n : Nat) (hn : n ≤ z.length) (hl : z.length ≤ maxL) (hz : ∀ n ∈ z, (Lit.int .u8 n).wf = true) (hs : z.length ≤ 140737488351232) (a : Int) (ha : -9223372036854775808 ≤ a ∧ a ≤ 9223372036854775807) :
    callW ES9 6 6 [.imm n 1 fun i => [.int .u8 (z.getD i 0)], .int .i64 a] [] (fun d _ => d = .bool true) (fun _ _ => False) := by
  rw [maxLV] at hl
  have hB : ∀ i, 0 ≤ z.getD i 0 ∧ z.getD i 0 ≤ 255 := by
    intro i
    rcases Nat.lt_or_ge i z.length with h | h
    · have := rngU8 (hz (z.getD i 0) (by simp [h]))
      exact this
    · simp [h]
  conv => whnf
  refine ⟨.bool true, ⟨rfl, rfl⟩, ?_⟩
  conv => whnf
  repeat first
    | (refine And.intro (by first | exact trivial | omega | (simp [ty5, bigB, maxLV]; omega)) ?_; conv => whnf)
  refine ⟨_, ⟨[.imm n 1 fun i => [.int .u8 (z.getD i 0)], .int .i64 a], ⟨⟨by simp, rfl, ?_⟩, rfl, trivial⟩, fun i => z.getD i 0, n, a, hB, rfl, by rw [maxLV]; omega, rfl⟩, ?_⟩
  · intro i hi
    have hi' : i < n := by simpa using hi
    simp [subG, appG, hi']
  conv => whnf
  refine ⟨_, ⟨[.imm n 1 fun i => [.int .u8 (z.getD i 0)], .int .i64 a], ⟨⟨rfl, rfl, fun _ _ => rfl⟩, rfl, trivial⟩, fun i => z.getD i 0, n, a, hB, rfl, by rw [maxLV]; omega, rfl⟩, ?_⟩
  conv => whnf
  repeat first
    | (refine And.intro (by first | exact trivial | omega | (simp [ty5, bigB, maxLV]; omega)) ?_; conv => whnf)
  refine ⟨_, ⟨[.imm n 1 fun i => [.int .u8 (z.getD i 0)], .int .i64 a], ⟨⟨by simp, rfl, ?_⟩, rfl, trivial⟩, fun i => z.getD i 0, n, a, hB, rfl, by rw [maxLV]; omega, rfl⟩, ?_⟩
  · intro i hi
    have hi' : i < n := by simpa using hi
    simp [subG, appG, hi']
  conv => whnf
  repeat first
    | (refine And.intro (by first | exact trivial | omega | (simp [ty5, bigB, maxLV]; omega)) ?_; conv => whnf)
  refine ⟨_, ⟨[.imm n 1 fun i => [.int .u8 (z.getD i 0)], .int .i64 a], ⟨⟨rfl, rfl, fun _ _ => rfl⟩, rfl, trivial⟩, fun i => z.getD i 0, n, a, hB, rfl, by rw [maxLV]; omega, rfl⟩, ?_⟩
  conv => whnf
  repeat first
    | (refine And.intro (by first | exact trivial | omega | (simp [ty5, bigB, maxLV]; omega)) ?_; conv => whnf)
  have q1 : ∀ x : Int, (!(x == x)) = false := fun x => by simp
  have q2 : ∀ x : Bool, (!(x == x)) = false := fun x => by cases x <;> rfl
  have q3 : ∀ x : Int, (x != x) = false := fun x => by simp
  have q4 : ∀ x : Bool, (x != x) = false := fun x => by cases x <;> rfl
  have w5 : ∀ x : Int, IntKind.i64.wrap (errS n a) = errS n a := fun x => by rcases errS_cases n a with ⟨h, e⟩ | ⟨h, h2, e⟩ | ⟨h, h2, h3, e⟩ | ⟨h, h2, h3, e⟩ <;> rw [e] <;> rfl
  repeat first
    | (rw [q1]; conv => whnf)
    | (rw [q2]; conv => whnf)
    | (rw [q3]; conv => whnf)
    | (rw [q4]; conv => whnf)
    | (refine And.intro (by first | exact trivial | omega | (simp [ty5, bigB, maxLV]; omega)) ?_; conv => whnf)
  refine ⟨_, ⟨n, _, _, by rw [show 0 + n + 3 = n + 3 by omega]; rfl, by rw [maxLV]; omega, ?_, ?_, ?_, ?_, rfl⟩, ?_⟩
  · intro i hi
    exact ⟨z.getD i 0, by simp [subG, appG, hi], rfl⟩
  · simp [subG, appG, litG, ty5, ofConst, ofC1]
  · simp only [subG, appG, litG, ty5]; rw [if_neg (by omega), show 0 + (0 + (n + 1) - (0 + n)) = 1 by omega]; rfl
  · simp only [subG, appG, litG, ty5]; rw [if_neg (by omega), show 0 + (0 + (n + 2) - (0 + n)) = 2 by omega]; rfl
  conv => whnf
  have hErr := errS_cases n a
  by_cases he : errS n a = 0
  rotate_left
  · rw [show (errS n a != 0) = true by simpa using he]
    conv => whnf
  have hA : 0 ≤ a ∧ a + 2 ≤ n ∧ n ≤ 1492 := by omega
  rw [show (errS n a != 0) = false by simpa using he]
  conv => whnf
  repeat first
    | (refine And.intro (by first | exact trivial | omega | (simp [ty5, bigB, maxLV]; omega)) ?_; conv => whnf)
  obtain ⟨a, rfl⟩ := Int.eq_ofNat_of_zero_le hA.1
  have hw : IntKind.i64.wrap ((a : Int) + 1) = ((a + 1 : Nat) : Int) := by rw [wrapI64_of (by omega) (by omega)]; rfl
  rw [sumS_1 he, hiB _ _ (cX_rng _ _ _) (cY_rng _ _ _), loB _ _ (cX_rng _ _ _) (cY_rng _ _ _), hw]
  repeat first
    | (refine And.intro (by first | exact trivial | omega | (simp [ty5, bigB, maxLV]; omega)) ?_; conv => whnf)
  have hlaid : ∀ i, i < n → setG (0 + (((a + 1 : Nat) : Int)).toNat) 0 [V.int .u8 (cY (fun i => z.getD i 0) n a)] (setG (0 + (a : Int).toNat) 0 [V.int .u8 (cX (fun i => z.getD i 0) n a)] (appG 0 (litG ty5.size []) fun i => [V.int IntKind.u8 (z.getD i 0)])) i = [V.int .u8 (laidB (fun i => z.getD i 0) n a i)] := by
    intro i hi
    unfold setG laidB appG
    simp only [Int.toNat_natCast, Nat.zero_add]
    split
    · rw [if_neg (by omega), if_neg (by omega)]; rfl
    · split
      · rw [if_neg (by omega)]; rfl
      · rw [if_neg (by omega)]; rfl
  refine ⟨_, ⟨[.imm n 1 fun i => [.int .u8 (laidB (fun i => z.getD i 0) n a i)], .int .i64 a], ⟨⟨by simp, rfl, ?_⟩, rfl, trivial⟩, laidB (fun i => z.getD i 0) n a, n, a, laidB_rng hB n a, rfl, by rw [maxLV]; omega, rfl⟩, ?_⟩
  · intro i hi
    have hi' : i < n := by simpa using hi
    rw [show ∀ g : Nat → List V, subG 0 g i = g i from fun g => by simp [subG]]
    exact hlaid i hi'
  conv => whnf
  repeat first
    | (refine And.intro (by first | exact trivial | omega | (simp [ty5, bigB, maxLV]; omega)) ?_; conv => whnf)
  refine ⟨_, ⟨[.imm n 1 fun i => [.int .u8 (laidB (fun i => z.getD i 0) n a i)], .int .i64 a], ⟨⟨by simp, rfl, ?_⟩, rfl, trivial⟩, laidB (fun i => z.getD i 0) n a, n, a, laidB_rng hB n a, rfl, by rw [maxLV]; omega, rfl⟩, ?_⟩
  · intro i hi
    have hi' : i < n := by simpa using hi
    rw [show ∀ g : Nat → List V, subG 0 g i = g i from fun g => by simp [subG]]
    exact hlaid i hi'
  conv => whnf
  rw [sumS_laid, rightS_laid _ _ _ he, he, sumS_1 he]
  conv => whnf
  rw [show ∀ x : Int, (x == x) = true from fun x => by simp]
end Go.Proofs.Ytldoaopkpoojfaa
