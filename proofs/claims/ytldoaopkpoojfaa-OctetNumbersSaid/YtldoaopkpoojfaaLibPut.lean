/- Numbers as bytes: what Put and its answer in the document compute, as contracts; copies, and copies with marked room behind. -/
import Derived.Test.YtldoaopkpoojfaaLibNum
namespace Go.Proofs.Ytldoaopkpoojfaa
open Go.Ev
set_option linter.unusedVariables false
set_option linter.unusedSimpArgs false
set_option maxRecDepth 100000
set_option maxHeartbeats 1000000
/-- the bytes of a number -/
def pB (N c : Nat) : Nat → Int := fun j => ((N / 256 ^ (c - 1 - j) % 256 : Nat) : Int)
theorem pB_rng (N c i : Nat) : 0 ≤ pB N c i ∧ pB N c i ≤ 255 := by unfold pB; omega
theorem numB_pB' (N c : Nat) : ∀ k, k ≤ c → numB (pB N c) 0 k = ((N / 256 ^ (c - k) % 256 ^ k : Nat) : Int)
  | 0, _ => by simp [numB, Nat.mod_one]
  | k + 1, h => by
    have ih := numB_pB' N c k (by omega)
    simp only [numB, Nat.zero_add]
    rw [ih]
    unfold pB
    have e1 : c - k = (c - (k + 1)) + 1 := by omega
    have e2 : c - 1 - k = c - (k + 1) := by omega
    rw [e2, e1, Nat.pow_succ, ← Nat.div_div_eq_div_mul]
    generalize N / 256 ^ (c - (k + 1)) = x
    rw [show 256 ^ (k + 1) = 256 * 256 ^ k by rw [Nat.pow_succ, Nat.mul_comm], Nat.mod_mul]
    omega
theorem numB_pB (N c : Nat) : numB (pB N c) 0 c = ((N % 256 ^ c : Nat) : Int) := by
  have := numB_pB' N c c (Nat.le_refl _)
  rw [Nat.sub_self, Nat.pow_zero, Nat.div_one] at this
  exact this
theorem shr8 (m : Nat) : shrI .u64 (m : Int) 8 = ((m / 256 : Nat) : Int) := by
  show (m : Int).fdiv (2 ^ (min (8 : Int).toNat 64)) = _
  rw [show (2 : Int) ^ (min (8 : Int).toNat 64) = 256 by decide, Int.fdiv_eq_ediv_of_nonneg _ (by omega)]
  omega
theorem wrapU8n (m : Nat) : IntKind.u8.wrap (m : Int) = ((m % 256 : Nat) : Int) := by rw [wrapU8]; omega
def errP (N : Nat) (c : Int) : Int := if c < 1 ∨ 8 < c then 1 else if 256 ^ c.toNat ≤ N then 4 else 0
theorem errP_cases (N : Nat) (c : Int) : ((c < 1 ∨ 8 < c) ∧ errP N c = 1) ∨ (∃ k : Nat, c = k ∧ 1 ≤ k ∧ k ≤ 8 ∧ 256 ^ k ≤ N ∧ errP N c = 4) ∨ (∃ k : Nat, c = k ∧ 1 ≤ k ∧ k ≤ 8 ∧ N < 256 ^ k ∧ errP N c = 0) := by
  unfold errP
  by_cases h : c < 1 ∨ 8 < c
  · rw [if_pos h]; exact .inl ⟨h, rfl⟩
  · rw [if_neg h]
    by_cases h2 : 256 ^ c.toNat ≤ N
    · rw [if_pos h2]; exact .inr (.inl ⟨c.toNat, by omega, by omega, by omega, h2, rfl⟩)
    · rw [if_neg h2]; exact .inr (.inr ⟨c.toNat, by omega, by omega, by omega, by omega, rfl⟩)
def spPut : List V → V → List Nw → Prop := fun us d obs => ∃ (N : Nat) (c : Int), us = [.int .u64 (N : Nat), .int .i64 c] ∧ N < 18446744073709551616 ∧
  ((errP N c ≠ 0 ∧ d = .tup [.nsl, .int .i64 (errP N c)] ∧ obs = []) ∨ (errP N c = 0 ∧ d = .tup [.own 0 1 0 c.toNat, .int .i64 0] ∧ obs = [⟨5, 1, c.toNat, fun j => [.int .u8 (pB N c.toNat j)]⟩]))
theorem putT (N : Nat) (hN : N < 18446744073709551616) (c : Int) (d : V) (obs : List Nw) (h : (errP N c ≠ 0 ∧ d = .tup [.nsl, .int .i64 (errP N c)] ∧ obs = []) ∨ (errP N c = 0 ∧ d = .tup [.own 0 1 0 c.toNat, .int .i64 0] ∧ obs = [⟨5, 1, c.toNat, fun j => [.int .u8 (pB N c.toNat j)]⟩])) :
    callW E0 3 24 [.int .u64 (N : Nat), .int .i64 c] [] (fun d' h' => NwPost d obs d' h') (fun _ _ => False) := by
  by_cases h0 : c < 1 ∨ 8 < c
  · have e : errP N c = 1 := by unfold errP; rw [if_pos h0]
    rcases h with ⟨_, rfl, rfl⟩ | ⟨x, _⟩
    · rw [e]
      conv => whnf
      repeat' first
        | (split <;> (conv => whnf))
      all_goals first
        | exact ⟨[], rfl, List.nodup_nil, rfl, fun i o j hi => by simp at hi⟩
        | (simp only [decide_eq_true_eq, decide_eq_false_iff_not] at *; omega)
    · omega
  · obtain ⟨c, rfl⟩ := Int.eq_ofNat_of_zero_le (by omega : 0 ≤ c)
    have h1 : 1 ≤ c := by omega
    have h2 : c ≤ 8 := by omega
    have he : errP N (c : Int) = if 256 ^ c ≤ N then 4 else 0 := by unfold errP; rw [if_neg h0, Int.toNat_natCast]
    rw [he] at h
    clear he
    conv => whnf
    repeat first
      | (rw [decide_eq_false (by omega)]; conv => whnf)
      | (refine And.intro (by first | omega | (simp [ty5]; omega)) ?_; conv => whnf)
    refine loopA ok0 [0, 6, 7] (fun x : Int × Int × (Nat → List V) => mkF 32 0 [(0, .int .u64 x.2.1), (6, .own 0 1 0 c), (7, .int .i64 x.1)]) (fun x => [some (.seq 5 1 c x.2.2)])
      (fun x => ∃ k : Nat, k ≤ c ∧ x.1 = (c : Int) - 1 - (k : Int) ∧ x.2.1 = ((N / 256 ^ k : Nat) : Int) ∧ ∀ j, j < c → x.2.2 j = [.int .u8 (if c ≤ j + k then pB N c j else 0)]) (fun x => (x.1 + 1).toNat)
      (IntKind.i64.wrap ((c : Int) - 1), ((N : Nat) : Int), conG (ty5.zero.map ofC1)) rfl rfl ⟨0, by omega, ?_, by simp, fun j hj => by rw [if_neg (by omega)]; rfl⟩ ?_
    · simp only; rw [wrapI64_of (by omega) (by omega)]; omega
    rintro ⟨i, n, g⟩ ⟨k, hk, rfl, rfl, hg⟩
    simp only at hg
    conv => whnf
    split
    · rename_i hq
      simp only [decide_eq_true_eq] at hq
      conv => whnf
      repeat first
        | (refine And.intro (by first | exact trivial | omega) ?_; conv => whnf)
      have hN2 : N / 256 ^ k < 18446744073709551616 := Nat.lt_of_le_of_lt (Nat.div_le_self _ _) hN
      have hM1 : N / 256 ^ (k + 1) = N / 256 ^ k / 256 := by rw [Nat.pow_succ, ← Nat.div_div_eq_div_mul]
      have hM2 : pB N c (c - 1 - k) = ((N / 256 ^ k % 256 : Nat) : Int) := by unfold pB; rw [show c - 1 - (c - 1 - k) = k by omega]
      generalize N / 256 ^ k = M at *
      refine ⟨(IntKind.i64.wrap ((c : Int) - 1 - (k : Int) - 1), shrI .u64 ((M : Nat) : Int) 8, setG (0 + ((c : Int) - 1 - (k : Int)).toNat) 0 [.int .u8 (IntKind.u8.wrap ((M : Nat) : Int))] g), rfl, rfl, ⟨k + 1, by omega, ?_, ?_, ?_⟩, ?_⟩
      · simp only; rw [wrapI64_of (by omega) (by omega)]; omega
      · simp only; rw [shr8, hM1]
      · intro j hj
        simp only [setG, Nat.zero_add]
        by_cases hjj : j = ((c : Int) - 1 - (k : Int)).toNat
        · rw [if_pos hjj, hg j hj, if_pos (show c ≤ j + (k + 1) by omega), wrapU8n, show j = c - 1 - k by omega, hM2]
          rfl
        · rw [if_neg hjj, hg j hj]
          by_cases h5 : c ≤ j + k
          · rw [if_pos h5, if_pos (by omega)]
          · rw [if_neg h5, if_neg (by omega)]
      · simp only; rw [wrapI64_of (by omega) (by omega)]; omega
    · rename_i hq
      simp only [decide_eq_false_iff_not] at hq
      have : k = c := by omega
      subst this
      conv => whnf
      rcases Nat.lt_or_ge N (256 ^ k) with hl | hl
      · rw [if_neg (by omega)] at h
        rw [decide_eq_false (by rw [Nat.div_eq_of_lt hl]; simp)]
        rcases h with ⟨x, _⟩ | ⟨_, rfl, rfl⟩
        · omega
        conv => whnf
        refine ⟨[0], rfl, by simp, rfl, fun i o j hi hj => ?_⟩
        have : i = 0 := by have := (List.getElem?_eq_some_iff.1 hi).1; simpa using this
        subst this
        simp at hi hj
        subst hi hj
        exact ⟨g, rfl, fun j hj => by rw [hg j hj, if_pos (by omega)]⟩
      · rw [if_pos hl] at h
        have : 0 < N / 256 ^ k := Nat.div_pos hl (Nat.pow_pos (by omega))
        rw [decide_eq_true (by simp only; omega)]
        rcases h with ⟨_, rfl, rfl⟩ | ⟨x, _⟩
        · conv => whnf
          exact ⟨[], rfl, List.nodup_nil, rfl, fun i o j hi => by simp at hi⟩
        · omega

theorem nwT0 {d : V} (h : nwT 0 d = true) : nwT ([] : List Nw).length d = true ∧ ∀ q ∈ ([] : List Nw), q.sc := ⟨h, fun q hq => by cases hq⟩
theorem sc1 (E n : Nat) (k : IntKind) (f : Nat → Int) : Nw.sc ⟨E, 1, n, fun j => [.int k (f j)]⟩ := fun i _ => rfl
theorem sc1' {E n : Nat} {k : IntKind} {f : Nat → Int} : ∀ q ∈ [(⟨E, 1, n, fun j => [.int k (f j)]⟩ : Nw)], q.sc := fun q hq => by
  rcases List.mem_cons.1 hq with rfl | h
  · exact sc1 _ _ _ _
  · cases h
noncomputable def EL4 : Env := EL3.add 24 (ncon (vcn spPut)) true
theorem okL4 : EnvOk Try.prog EL4 := ok0.ncon okL3 (fn := Try.f24) rfl (by kernel_rfl) 3
  (fun us d obs ⟨N, c, _, _, h⟩ => by rcases h with ⟨_, rfl, rfl⟩ | ⟨_, rfl, rfl⟩ <;> first | exact nwT0 rfl | exact ⟨rfl, sc1'⟩)
  (fun us d obs ⟨N, c, h1, h2, h3⟩ => by rw [h1]; exact putT N h2 c d obs h3)
/-! ### Bytes -/
def spBytes : List V → V → List Nw → Prop := fun us d obs => ∃ (N : Nat) (c : Nat), us = [.int .u64 (N : Nat), .int .i64 (c : Nat)] ∧ N < 18446744073709551616 ∧ c ≤ 8 ∧ d = .own 0 1 0 c ∧ obs = [⟨5, 1, c, fun j => [.int .u8 (pB N c j)]⟩]
theorem bytesT (N : Nat) (hN : N < 18446744073709551616) (c : Nat) (hc : c ≤ 8) :
    callW E0 3 37 [.int .u64 (N : Nat), .int .i64 (c : Nat)] [] (fun d' h' => NwPost (.own 0 1 0 c) [⟨5, 1, c, fun j => [.int .u8 (pB N c j)]⟩] d' h') (fun _ _ => False) := by
  conv => whnf
  repeat first
    | (refine And.intro (by first | omega | (simp [ty5]; omega)) ?_; conv => whnf)
  refine loopA ok0 [0, 1, 5, 10, 11] (fun x : Int × Int × (Nat → List V) => mkF 27 0 [(0, .int .u64 x.2.1), (1, .int .i64 (c : Nat)), (5, .own 0 1 0 c), (10, .int .i64 (c : Nat)), (11, .int .i64 x.1)]) (fun x => [some (.seq 5 1 c x.2.2)])
    (fun x => ∃ k : Nat, k ≤ c ∧ x.1 = (k : Int) ∧ x.2.1 = ((N / 256 ^ k : Nat) : Int) ∧ ∀ j, j < c → x.2.2 j = [.int .u8 (if c ≤ j + k then pB N c j else 0)]) (fun x => c - x.1.toNat)
    (0, ((N : Nat) : Int), conG (ty5.zero.map ofC1)) rfl rfl ⟨0, by omega, rfl, by simp, fun j hj => by rw [if_neg (by omega)]; rfl⟩ ?_
  rintro ⟨i, n, g⟩ ⟨k, hk, rfl, rfl, hg⟩
  simp only at hg
  conv => whnf
  split
  · rename_i hq
    simp only [decide_eq_true_eq] at hq
    have hN2 : N / 256 ^ k < 18446744073709551616 := Nat.lt_of_le_of_lt (Nat.div_le_self _ _) hN
    have hM1 : N / 256 ^ (k + 1) = N / 256 ^ k / 256 := by rw [Nat.pow_succ, ← Nat.div_div_eq_div_mul]
    have hM2 : pB N c (c - 1 - k) = ((N / 256 ^ k % 256 : Nat) : Int) := by unfold pB; rw [show c - 1 - (c - 1 - k) = k by omega]
    generalize N / 256 ^ k = M at *
    have hI : IntKind.i64.wrap (IntKind.i64.wrap ((c : Int) - 1) - (k : Int)) = ((c - 1 - k : Nat) : Int) := by
      rw [wrapI64_of (n := (c : Int) - 1) (by omega) (by omega), wrapI64_of (by omega) (by omega)]; omega
    conv => whnf
    repeat first
      | (refine And.intro (by first | exact trivial | omega | decide | (rw [hI]; omega)) ?_; conv => whnf)
    refine ⟨(IntKind.i64.wrap ((k : Int) + 1), IntKind.u64.wrap (((M : Nat) : Int).tdiv 256), setG (0 + (IntKind.i64.wrap (IntKind.i64.wrap ((c : Int) - 1) - (k : Int))).toNat) 0 [.int .u8 (IntKind.u8.wrap (((M : Nat) : Int).tmod 256))] g), rfl, rfl, ⟨k + 1, by omega, ?_, ?_, ?_⟩, ?_⟩
    · exact w1i (by omega)
    · simp only
      rw [Int.tdiv_eq_ediv_of_nonneg (by omega), wrapU64_of (by omega) (by omega), hM1]
      omega
    · intro j hj
      simp only [setG, Nat.zero_add, hI, Int.toNat_natCast]
      by_cases hjj : j = c - 1 - k
      · rw [if_pos hjj, hg j hj, if_pos (show c ≤ j + (k + 1) by omega), Int.tmod_eq_emod_of_nonneg (by omega), show ((M : Nat) : Int) % 256 = ((M % 256 : Nat) : Int) by omega, wrapU8n, show j = c - 1 - k by omega, hM2, Nat.mod_mod]
        rfl
      · rw [if_neg hjj, hg j hj]
        by_cases h5 : c ≤ j + k
        · rw [if_pos h5, if_pos (by omega)]
        · rw [if_neg h5, if_neg (by omega)]
    · simp only; rw [w1i (by omega)]; omega
  · rename_i hq
    simp only [decide_eq_false_iff_not] at hq
    have : k = c := by omega
    subst this
    conv => whnf
    refine ⟨[0], rfl, by simp, rfl, fun i o j hi hj => ?_⟩
    have : i = 0 := by have := (List.getElem?_eq_some_iff.1 hi).1; simpa using this
    subst this
    simp at hi hj
    subst hi hj
    exact ⟨g, rfl, fun j hj => by rw [hg j hj, if_pos (by omega)]⟩
noncomputable def EL5 : Env := EL4.add 37 (ncon (vcn spBytes)) true
theorem okL5 : EnvOk Try.prog EL5 := ok0.ncon okL4 (fn := Try.f37) rfl (by kernel_rfl) 3
  (fun us d obs ⟨N, c, _, _, _, e1, e2⟩ => by subst e1; subst e2; exact ⟨rfl, sc1'⟩)
  (fun us d obs ⟨N, c, h1, h2, h3, e1, e2⟩ => by rw [h1, e1, e2]; exact bytesT N h2 c h3)
def ddPut (N : Nat) (c : Int) : V × List Nw := if errP N c = 0 then (.tup [.own 0 1 0 c.toNat, .int .i64 0], [⟨5, 1, c.toNat, fun j => [.int .u8 (pB N c.toNat j)]⟩]) else (.tup [.nsl, .int .i64 (errP N c)], [])
theorem docPutT (N : Nat) (hN : N < 18446744073709551616) (c : Int) (d : V) (obs : List Nw) (h : (errP N c ≠ 0 ∧ d = .tup [.nsl, .int .i64 (errP N c)] ∧ obs = []) ∨ (errP N c = 0 ∧ d = .tup [.own 0 1 0 c.toNat, .int .i64 0] ∧ obs = [⟨5, 1, c.toNat, fun j => [.int .u8 (pB N c.toNat j)]⟩])) :
    callW EL5 3 25 [.int .u64 (N : Nat), .int .i64 c] [] (fun d' h' => NwPost d obs d' h') (fun _ _ => False) := by
  by_cases h0 : c < 1 ∨ 8 < c
  · have e : errP N c = 1 := by unfold errP; rw [if_pos h0]
    rcases h with ⟨_, rfl, rfl⟩ | ⟨x, _⟩
    · rw [e]
      conv => whnf
      repeat' first
        | (split <;> (conv => whnf))
      all_goals first
        | exact ⟨[], rfl, List.nodup_nil, rfl, fun i o j hi => by simp at hi⟩
        | (simp only [decide_eq_true_eq, decide_eq_false_iff_not] at *; omega)
    · omega
  · obtain ⟨c, rfl⟩ := Int.eq_ofNat_of_zero_le (by omega : 0 ≤ c)
    have h1 : 1 ≤ c := by omega
    have h2 : c ≤ 8 := by omega
    have he : errP N (c : Int) = if 256 ^ c ≤ N then 4 else 0 := by unfold errP; rw [if_neg h0, Int.toNat_natCast]
    rw [he] at h
    clear he
    conv => whnf
    repeat first
      | (rw [decide_eq_false (by omega)]; conv => whnf)
      | (refine And.intro (by first | omega | (simp [ty5]; omega)) ?_; conv => whnf)
    refine ⟨_, _, ⟨[.int .u64 (N : Nat), .int .i64 (c : Nat)], ⟨rfl, rfl, trivial⟩, N, c, rfl, hN, h2, rfl, rfl⟩, ?_⟩
    conv => whnf
    repeat first
      | (refine And.intro (by first | exact trivial | omega) ?_; conv => whnf)
    refine ⟨_, ⟨[.imm c 1 fun j => [.int .u8 (pB N c j)]], ⟨⟨rfl, rfl, fun i _ => by rw [subG0]⟩, trivial⟩, pB N c, c, pB_rng N c, rfl, h2, rfl⟩, ?_⟩
    conv => whnf
    rw [numB_pB]
    rcases Nat.lt_or_ge N (256 ^ c) with hl | hl
    · rw [if_neg (by omega)] at h
      rw [Nat.mod_eq_of_lt hl, show ((N : Int) != (N : Int)) = false by simp]
      rcases h with ⟨x, _⟩ | ⟨_, rfl, rfl⟩
      · omega
      conv => whnf
      refine ⟨[0], rfl, by simp, rfl, fun i o j hi hj => ?_⟩
      have : i = 0 := by have := (List.getElem?_eq_some_iff.1 hi).1; simpa using this
      subst this
      simp at hi hj
      subst hi hj
      exact ⟨_, rfl, fun j hj => rfl⟩
    · rw [if_pos hl] at h
      have hlt : N % 256 ^ c < 256 ^ c := Nat.mod_lt _ (Nat.pow_pos (by omega))
      rw [show (((N % 256 ^ c : Nat) : Int) != (N : Int)) = true by
        rw [bne_iff_ne]; intro hx; have := Int.ofNat.inj hx; omega]
      rcases h with ⟨_, rfl, rfl⟩ | ⟨x, _⟩
      · conv => whnf
        exact ⟨[], rfl, List.nodup_nil, rfl, fun i o j hi => by simp at hi⟩
      · omega
noncomputable def EL5b : Env := EL5.add 25 (ncon (vcn spPut)) true
theorem okL5b : EnvOk Try.prog EL5b := okL5.ncon okL5 (fn := Try.f25) rfl (by kernel_rfl) 3
  (fun us d obs ⟨N, c, _, _, h⟩ => by rcases h with ⟨_, rfl, rfl⟩ | ⟨_, rfl, rfl⟩ <;> first | exact nwT0 rfl | exact ⟨rfl, sc1'⟩)
  (fun us d obs ⟨N, c, h1, h2, h3⟩ => by rw [h1]; exact docPutT N h2 c d obs h3)
noncomputable def ELp : Env := EL5b
theorem okLp : EnvOk Try.prog ELp := okL5b
end Go.Proofs.Ytldoaopkpoojfaa
