import Derived.Test.YtjiobeonlanfaaaEvM
namespace Go.Ev
set_option linter.unusedSimpArgs false
set_option linter.unusedVariables false
open Go.RowKit

theorem wrapU8 (n : Int) : IntKind.u8.wrap n = n % 256 := by simp [IntKind.wrap, IntKind.signed, IntKind.bits]
theorem wrapU16 (n : Int) : IntKind.u16.wrap n = n % 65536 := by simp [IntKind.wrap, IntKind.signed, IntKind.bits]
theorem wrapU32 (n : Int) : IntKind.u32.wrap n = n % 4294967296 := by simp [IntKind.wrap, IntKind.signed, IntKind.bits]
theorem wrapU64 (n : Int) : IntKind.u64.wrap n = n % 18446744073709551616 := by simp [IntKind.wrap, IntKind.signed, IntKind.bits]
theorem wrapI64 (n : Int) : IntKind.i64.wrap n = (n + 9223372036854775808) % 18446744073709551616 - 9223372036854775808 := by
  have h1 : (2 : Int) ^ 64 = 18446744073709551616 := by decide
  have h2 : (2 : Int) ^ (64 - 1) = 9223372036854775808 := by decide
  simp only [IntKind.wrap, IntKind.signed, IntKind.bits, Bool.true_and, decide_eq_true_eq, h1, h2]
  split <;> omega
theorem wrapI32 (n : Int) : IntKind.i32.wrap n = (n + 2147483648) % 4294967296 - 2147483648 := by
  have h1 : (2 : Int) ^ 32 = 4294967296 := by decide
  have h2 : (2 : Int) ^ (32 - 1) = 2147483648 := by decide
  simp only [IntKind.wrap, IntKind.signed, IntKind.bits, Bool.true_and, decide_eq_true_eq, h1, h2]
  split <;> omega
theorem wrapI64_of {n : Int} (h1 : -9223372036854775808 ≤ n) (h2 : n ≤ 9223372036854775807) : IntKind.i64.wrap n = n := by rw [wrapI64]; omega
theorem wrapU64_of {n : Int} (h1 : 0 ≤ n) (h2 : n ≤ 18446744073709551615) : IntKind.u64.wrap n = n := by rw [wrapU64]; omega
theorem wrapU32_of {n : Int} (h1 : 0 ≤ n) (h2 : n ≤ 4294967295) : IntKind.u32.wrap n = n := by rw [wrapU32]; omega
theorem wrapU16_of {n : Int} (h1 : 0 ≤ n) (h2 : n ≤ 65535) : IntKind.u16.wrap n = n := by rw [wrapU16]; omega
theorem wrapU8_of {n : Int} (h1 : 0 ≤ n) (h2 : n ≤ 255) : IntKind.u8.wrap n = n := by rw [wrapU8]; omega
theorem iteMin (a b : Int) : (if b < a then b else a) = min a b := by split <;> omega
theorem iteMax (a b : Int) : (if b > a then b else a) = max a b := by split <;> omega
theorem rngU8 {n : Int} (h : (Lit.int .u8 n).wf = true) : 0 ≤ n ∧ n ≤ 255 := by simpa [Lit.wf, IntKind.min, IntKind.max, IntKind.signed, IntKind.bits] using h
theorem rngU16 {n : Int} (h : (Lit.int .u16 n).wf = true) : 0 ≤ n ∧ n ≤ 65535 := by simpa [Lit.wf, IntKind.min, IntKind.max, IntKind.signed, IntKind.bits] using h
theorem rngU32 {n : Int} (h : (Lit.int .u32 n).wf = true) : 0 ≤ n ∧ n ≤ 4294967295 := by simpa [Lit.wf, IntKind.min, IntKind.max, IntKind.signed, IntKind.bits] using h
theorem rngU64 {n : Int} (h : (Lit.int .u64 n).wf = true) : 0 ≤ n ∧ n ≤ 18446744073709551615 := by simpa [Lit.wf, IntKind.min, IntKind.max, IntKind.signed, IntKind.bits] using h
theorem rngI64 {n : Int} (h : (Lit.int .i64 n).wf = true) : -9223372036854775808 ≤ n ∧ n ≤ 9223372036854775807 := by simpa [Lit.wf, IntKind.min, IntKind.max, IntKind.signed, IntKind.bits] using h

/-- a slice of integers that came in, as the rows' shells have it -/
theorem rowR {k : IntKind} {w : World} {a : Option Addr} {len cap : Nat} {zs : List Int}
    (h : (a = none ∧ len = 0 ∧ cap = 0 ∧ zs = []) ∨ ∃ x, a = some x ∧ len ≤ cap ∧ cap ≤ maxLen ∧ zs.length = cap ∧ (∀ i, i < zs.length → w.cell? (x.add i) = some (.int k (zs.getD i 0))) ∧ ∀ n ∈ zs, (Lit.int k n).wf = true) :
    R ⟨fun _ => none, fun b => b < w.heap.size, w⟩ (.slice a len cap) (.imm len 1 fun i => [.int k (zs.getD i 0)]) ∧ len ≤ zs.length ∧ zs.length ≤ maxL ∧ ∀ n ∈ zs, (Lit.int k n).wf = true := by
  rcases h with ⟨rfl, rfl, rfl, rfl⟩ | ⟨x, rfl, h1, h2, h3, h4, h5⟩
  · refine ⟨.pure (.imm none 0 0 1 _ (fun _ _ => undef) (Nat.le_refl _) (by simp [maxL]) (fun _ => rfl) (fun _ _ => rfl) (fun ad h => by cases h) (fun i hi => absurd hi (by omega))), Nat.le_refl _, by simp [maxL], by simp⟩
  · refine ⟨.pure (.imm (some x) len cap 1 _ (fun i _ => .int k (zs.getD i 0)) h1 h2 (fun h => by cases h) (fun _ _ => rfl) ?_ ?_), by omega, by rw [h3]; exact h2, h5⟩
    · intro ad had i hi j hj
      obtain rfl : x = ad := by simpa using had
      have hj0 : j = 0 := by omega
      subst hj0
      have hc := h4 i (by omega)
      rw [Nat.mul_one, Nat.add_zero]
      refine ⟨?_, hc, rfl⟩
      show x.block < w.heap.size
      rw [← add_block x i]
      unfold World.cell? at hc
      rcases Nat.lt_or_ge (x.add i).block w.heap.size with hlt | hge
      · exact hlt
      · rw [Array.getElem?_eq_none (by omega)] at hc; cases hc
    · intro i hi j d hd
      cases j with
      | zero => simp at hd; subst hd; exact .int _ _
      | succ j => simp at hd
/-- arguments, one by one -/
inductive RL (c : Cx) : List Value → List V → Prop
  | nil : RL c [] []
  | cons {v : Value} {d : V} {vs : List Value} {ds : List V} (h : R c v d) (r : RL c vs ds) : RL c (v :: vs) (d :: ds)
theorem RL.get {c : Cx} {vs : List Value} {ds : List V} (h : RL c vs ds) : ∀ (j : Nat) v d, vs.toArray[j]? = some v → ds[j]? = some d → R c v d := by
  induction h with
  | nil => intro j v d hv; simp at hv
  | cons h r ih =>
    intro j v d hv hd
    cases j with
    | zero => simp at hv hd; subst hv; subst hd; exact h
    | succ j => exact ih j v d (by simpa using hv) (by simpa using hd)
end Go.Ev
