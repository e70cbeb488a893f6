/- Every number is read out of bytes, and written as bytes, or it is said why not. -/
import Derived.Test.YtldoaopkpoojfaaLibCopy
import Derived.Test.YtldoaopkpoojfaaOAwake
namespace Go.Proofs.Ytldoaopkpoojfaa
open Go.Ev
set_option linter.unusedVariables false
set_option linter.unusedSimpArgs false
set_option maxRecDepth 100000
set_option maxHeartbeats 1000000
noncomputable def EO1 : Env := (EL8.add 23 (pcon (vcl spNum)) true).add 12 (pcon spAwake) true
theorem okO1 : EnvOk Try.prog EO1 := ok0.pcon2 (okL3.pconV okL8 (fn := Try.f23) rfl (by kernel_rfl) 3 (fun us d ⟨B, n, a, c, _, _, _, _, _, _, _, e⟩ => by rw [e]; rfl) (fun us d ⟨B, n, a, c, h1, h2, h3, h4, h5, h6, h7, e⟩ => by rw [h2, e]; exact docNumT B h1 n h3 a c h4 h5 h6 h7))
  (fn := Try.f12) rfl (by kernel_rfl) 5 (fun us d h => by obtain ⟨rfl, rfl⟩ := h; rfl) (fun us d h => by obtain ⟨rfl, rfl⟩ := h; exact awake0)
theorem numbersB (B : Nat → Int) (hB : ∀ i, 0 ≤ B i ∧ B i ≤ 255) (n : Nat) (hn : n ≤ 140737488351232) (a : Int) (ha : -9223372036854775808 ≤ a ∧ a ≤ 9223372036854775807) (c : Int) (hc : -9223372036854775808 ≤ c ∧ c ≤ 9223372036854775807) (N : Nat) (hN : N ≤ 18446744073709551615) :
    callW EO1 6 9 [.imm n 1 fun i => [.int .u8 (B i)], .int .i64 a, .int .i64 c, .int .u64 (N : Nat)] [] (fun d _ => d = .bool true) (fun _ _ => False) := by
  conv => whnf
  refine ⟨.bool true, ⟨rfl, rfl⟩, ?_⟩
  conv => whnf
  refine ⟨_, _, ⟨[.imm n 1 fun i => [.int .u8 (B i)]], ⟨⟨rfl, rfl, fun _ _ => rfl⟩, trivial⟩, B, n, rfl, by omega, rfl, rfl⟩, ?_⟩
  conv => whnf
  have hsp : ∀ i, i < n → (fun j => [V.int .u8 (spB B n j)]) i = [V.int .u8 (B i)] := fun i hi => by simp only [spB]; rw [if_pos hi]
  repeat first
    | (refine And.intro (by first | exact trivial | omega) ?_; conv => whnf)
  refine ⟨_, ⟨[.imm n 1 fun i => [.int .u8 (B i)], .int .i64 a, .int .i64 c], ⟨⟨rfl, rfl, fun i hi => by rw [subG0]; exact hsp i hi⟩, rfl, rfl, trivial⟩, B, n, a, c, hB, rfl, by rw [maxLV]; omega, ha.1, ha.2, hc.1, hc.2, rfl⟩, ?_⟩
  conv => whnf
  refine ⟨_, ⟨[.imm n 1 fun i => [.int .u8 (B i)], .int .i64 a, .int .i64 c], ⟨⟨rfl, rfl, fun i hi => rfl⟩, rfl, rfl, trivial⟩, B, n, a, c, hB, rfl, by rw [maxLV]; omega, ha.1, ha.2, hc.1, hc.2, rfl⟩, ?_⟩
  conv => whnf
  have k0 : spB B n n = 165 := by unfold spB; rw [if_neg (by omega), if_pos rfl]
  have k1 : spB B n (n + 1) = 90 := by unfold spB; rw [if_neg (by omega), if_neg (by omega), if_pos rfl]
  have k2 : spB B n (n + 2) = 165 := by unfold spB; rw [if_neg (by omega), if_neg (by omega), if_neg (by omega)]
  have q1 : ∀ x : Int, (x != x) = false := fun x => by simp
  have q1' : ∀ x : Int, (!(x == x)) = false := fun x => by simp
  by_cases he : errP N c = 0
  · refine ⟨.tup [.own 0 1 0 c.toNat, .int .i64 0], [⟨5, 1, c.toNat, fun j => [.int .u8 (pB N c.toNat j)]⟩], ⟨[.int .u64 (N : Nat), .int .i64 c], ⟨rfl, rfl, trivial⟩, N, c, rfl, by omega, .inr ⟨he, rfl, rfl⟩⟩, ?_⟩
    conv => whnf
    refine ⟨.tup [.own 0 1 0 c.toNat, .int .i64 0], [⟨5, 1, c.toNat, fun j => [.int .u8 (pB N c.toNat j)]⟩], ⟨[.int .u64 (N : Nat), .int .i64 c], ⟨rfl, rfl, trivial⟩, N, c, rfl, by omega, .inr ⟨he, rfl, rfl⟩⟩, ?_⟩
    conv => whnf
    repeat first
      | (rw [q1]; conv => whnf)
      | (rw [q1']; conv => whnf)
      | (refine And.intro (by first | exact trivial | omega) ?_; conv => whnf)
    rcases errP_cases N c with ⟨_, e⟩ | ⟨k, rfl, h1, h2, h3, e⟩ | ⟨k, rfl, h1, h2, h3, e⟩
    · omega
    · omega
    rw [Int.toNat_natCast]
    refine ⟨_, ⟨[.imm k 1 fun j => [.int .u8 (pB N k j)], .imm k 1 fun j => [.int .u8 (pB N k j)]], ⟨⟨rfl, rfl, fun i _ => by rw [subG0]⟩, ⟨rfl, rfl, fun i _ => by rw [subG0]⟩, trivial⟩, k, _, _, rfl, by rw [maxLV]; omega, fun i hi => ⟨_, rfl, rfl⟩, rfl⟩, ?_⟩
    conv => whnf
    repeat first
      | (rw [q1]; conv => whnf)
      | (rw [q1']; conv => whnf)
      | (refine And.intro (by first | exact trivial | omega) ?_; conv => whnf)
    refine ⟨_, ⟨[.imm (n + 3) 1 fun j => [.int .u8 (spB B n j)], .imm n 1 fun i => [.int .u8 (B i)]], ⟨⟨rfl, rfl, fun i _ => by rw [subG0]⟩, ⟨rfl, rfl, fun i _ => rfl⟩, trivial⟩, n, _, _, rfl, by rw [maxLV]; omega, fun i hi => ⟨_, hsp i hi, rfl⟩, by simp only [k0], by simp only [k1], by simp only [k2], rfl⟩, ?_⟩
    conv => whnf
    repeat first
      | (rw [q1]; conv => whnf)
      | (rw [q1']; conv => whnf)
      | (refine And.intro (by first | exact trivial | omega) ?_; conv => whnf)
    have hN0 : errN k 0 (k : Int) = 0 := by
      rcases errN_cases k 0 (k : Int) with ⟨h, _⟩ | ⟨_, _, _, h, _⟩ | ⟨_, _, _, _, h⟩ <;> omega
    refine ⟨_, ⟨[.imm k 1 fun j => [.int .u8 (pB N k j)], .int .i64 0, .int .i64 (k : Nat)], ⟨⟨rfl, rfl, fun i _ => by rw [subG0]⟩, rfl, rfl, trivial⟩, pB N k, k, 0, k, pB_rng N k, rfl, by rw [maxLV]; omega, by omega, by omega, by omega, by omega, rfl⟩, ?_⟩
    rw [numE_1 hN0, hN0, Int.toNat_natCast, show Int.toNat 0 = 0 from rfl, numB_pB, Nat.mod_eq_of_lt h3]
    conv => whnf
    rw [show ((N : Int) == (N : Int)) = true by simp]
  · refine ⟨.tup [.nsl, .int .i64 (errP N c)], [], ⟨[.int .u64 (N : Nat), .int .i64 c], ⟨rfl, rfl, trivial⟩, N, c, rfl, by omega, .inl ⟨he, rfl, rfl⟩⟩, ?_⟩
    conv => whnf
    refine ⟨.tup [.nsl, .int .i64 (errP N c)], [], ⟨[.int .u64 (N : Nat), .int .i64 c], ⟨rfl, rfl, trivial⟩, N, c, rfl, by omega, .inl ⟨he, rfl, rfl⟩⟩, ?_⟩
    conv => whnf
    repeat first
      | (rw [q1]; conv => whnf)
      | (rw [q1']; conv => whnf)
      | (refine And.intro (by first | exact trivial | omega) ?_; conv => whnf)
    refine ⟨_, ⟨[.imm 0 1 fun _ => [], .imm 0 1 fun _ => []], ⟨rfl, rfl, trivial⟩, 0, _, _, rfl, by rw [maxLV]; omega, fun i hi => absurd hi (by omega), rfl⟩, ?_⟩
    conv => whnf
    repeat first
      | (rw [q1]; conv => whnf)
      | (rw [q1']; conv => whnf)
      | (refine And.intro (by first | exact trivial | omega) ?_; conv => whnf)
    refine ⟨_, ⟨[.imm (n + 3) 1 fun j => [.int .u8 (spB B n j)], .imm n 1 fun i => [.int .u8 (B i)]], ⟨⟨rfl, rfl, fun i _ => by rw [subG0]⟩, ⟨rfl, rfl, fun i _ => rfl⟩, trivial⟩, n, _, _, rfl, by rw [maxLV]; omega, fun i hi => ⟨_, hsp i hi, rfl⟩, by simp only [k0], by simp only [k1], by simp only [k2], rfl⟩, ?_⟩
    conv => whnf
    rw [show (errP N c != 0) = true by simpa using he]
    conv => whnf
theorem getD_rng {z : List Int} (hz : ∀ n ∈ z, (Lit.int .u8 n).wf = true) : ∀ i, 0 ≤ z.getD i 0 ∧ z.getD i 0 ≤ 255 := by
  intro i
  rcases Nat.lt_or_ge i z.length with h | h
  · have := rngU8 (hz (z.getD i 0) (by simp [h]))
    exact this
  · simp [h]
theorem numbers (z : List Int) (n : Nat) (hn : n ≤ z.length) (hl : z.length ≤ maxL) (hz : ∀ n ∈ z, (Lit.int .u8 n).wf = true) (hs : z.length ≤ 140737488351232) (a : Int) (ha : -9223372036854775808 ≤ a ∧ a ≤ 9223372036854775807) (c : Int) (hc : -9223372036854775808 ≤ c ∧ c ≤ 9223372036854775807) (N' : Int) (hN' : 0 ≤ N' ∧ N' ≤ 18446744073709551615) :
    callW EO1 6 9 [.imm n 1 fun i => [.int .u8 (z.getD i 0)], .int .i64 a, .int .i64 c, .int .u64 N'] [] (fun d _ => d = .bool true) (fun _ _ => False) := by
  obtain ⟨N, rfl⟩ := Int.eq_ofNat_of_zero_le hN'.1
  exact numbersB (fun i => z.getD i 0) (getD_rng hz) n (by omega) a ha c hc N (by omega)
end Go.Proofs.Ytldoaopkpoojfaa
