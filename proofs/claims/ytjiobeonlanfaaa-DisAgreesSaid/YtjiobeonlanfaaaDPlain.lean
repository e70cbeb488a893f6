/- LANs: what the one who speaks is: the greatest, by priority and MAC, of those that are up. -/
import Derived.Test.YtjiobeonlanfaaaDElect
namespace Go.Proofs.Ytjiobeonlanfaaa
open Go.Ev
set_option linter.unusedVariables false
set_option linter.unusedSimpArgs false
/-- some bytes as a number -/
def val (A : Nat → Int) : Nat → Nat → Int
  | _, 0 => 0
  | i, k + 1 => A i * 256 ^ k + val A (i + 1) k
theorem val_rng {A : Nat → Int} (hA : ∀ i, 0 ≤ A i ∧ A i ≤ 255) : ∀ k i, 0 ≤ val A i k ∧ val A i k < 256 ^ k
  | 0, i => by simp [val]
  | k + 1, i => by
    have h := val_rng hA k (i + 1)
    have ha := hA i
    simp only [val]
    rw [Int.pow_succ]
    have h1 : 0 ≤ A i * 256 ^ k := Int.mul_nonneg ha.1 (Int.le_of_lt (Int.pow_pos (by decide)))
    have h2 : A i * 256 ^ k ≤ 255 * 256 ^ k := Int.mul_le_mul_of_nonneg_right ha.2 (Int.le_of_lt (Int.pow_pos (by decide)))
    omega
theorem val_inj {A B : Nat → Int} (hA : ∀ i, 0 ≤ A i ∧ A i ≤ 255) (hB : ∀ i, 0 ≤ B i ∧ B i ≤ 255) : ∀ k i, val A i k = val B i k → ∀ j, j < k → A (i + j) = B (i + j)
  | 0, i, _, j, hj => by omega
  | k + 1, i, h, j, hj => by
    have r1 := val_rng hA k (i + 1)
    have r2 := val_rng hB k (i + 1)
    simp only [val] at h
    have heq : A i = B i := by
      rcases Int.lt_trichotomy (A i) (B i) with hl | he | hl
      · have := Int.mul_le_mul_of_nonneg_right (by omega : A i + 1 ≤ B i) (Int.le_of_lt (Int.pow_pos (n := 256) (m := k) (by decide)))
        rw [Int.add_mul, Int.one_mul] at this
        omega
      · exact he
      · have := Int.mul_le_mul_of_nonneg_right (by omega : B i + 1 ≤ A i) (Int.le_of_lt (Int.pow_pos (n := 256) (m := k) (by decide)))
        rw [Int.add_mul, Int.one_mul] at this
        omega
    cases j with
    | zero => exact heq
    | succ j =>
      rw [heq] at h
      have := val_inj hA hB k (i + 1) (by omega) j (by omega)
      rw [show i + (j + 1) = i + 1 + j by omega]
      exact this
theorem cmpF_val {A B : Nat → Int} (hA : ∀ i, 0 ≤ A i ∧ A i ≤ 255) (hB : ∀ i, 0 ≤ B i ∧ B i ≤ 255) : ∀ k i, (0 < cmpF A B 0 k i ↔ val B i k < val A i k) ∧ (cmpF A B 0 k i = 0 ↔ val A i k = val B i k)
  | 0, i => by simp [cmpF, val]
  | k + 1, i => by
    have h := cmpF_val hA hB k (i + 1)
    have r1 := val_rng hA k (i + 1)
    have r2 := val_rng hB k (i + 1)
    simp only [cmpF, val]
    by_cases he : A i = B i
    · rw [if_pos he, he]
      omega
    · rw [if_neg he]
      by_cases hl : A i < B i
      · rw [if_pos hl]
        have := Int.mul_le_mul_of_nonneg_right (by omega : A i + 1 ≤ B i) (Int.le_of_lt (Int.pow_pos (n := 256) (m := k) (by decide)))
        rw [Int.add_mul, Int.one_mul] at this
        omega
      · rw [if_neg hl]
        have := Int.mul_le_mul_of_nonneg_right (by omega : B i + 1 ≤ A i) (Int.le_of_lt (Int.pow_pos (n := 256) (m := k) (by decide)))
        rw [Int.add_mul, Int.one_mul] at this
        omega
def key (x : Mem) : Int := x.p * 281474976710656 + val x.m 0 6
theorem val6_rng {A : Nat → Int} (hA : ∀ i, 0 ≤ A i ∧ A i ≤ 255) : 0 ≤ val A 0 6 ∧ val A 0 6 < 281474976710656 := by
  have := val_rng hA 6 0
  rwa [show (256 : Int) ^ 6 = 281474976710656 by decide] at this
theorem better_key {x y : Mem} (hx : x.wf) (hy : y.wf) : 0 < betterI x y ↔ key y < key x := by
  have h := cmpF_val hx.m hy.m 6 0
  have r1 := val6_rng hx.m
  have r2 := val6_rng hy.m
  have hc : cmpB x.m 6 y.m 6 = cmpF x.m y.m 0 6 0 := rfl
  unfold betterI key cmpI
  rw [hc]
  by_cases h1 : x.p < y.p
  · rw [if_pos h1, if_neg (by omega)]; omega
  · rw [if_neg h1]
    by_cases h2 : y.p < x.p
    · rw [if_pos h2, if_neg (by omega)]; omega
    · rw [if_neg h2, if_pos rfl]
      have : x.p = y.p := by omega
      rw [this]
      omega
theorem key_inj {x y : Mem} (hx : x.wf) (hy : y.wf) (h : key x = key y) : x.p = y.p ∧ ∀ j, j < 6 → x.m j = y.m j := by
  have r1 := val6_rng hx.m
  have r2 := val6_rng hy.m
  unfold key at h
  have hp : x.p = y.p := by omega
  refine ⟨hp, fun j hj => ?_⟩
  have := val_inj hx.m hy.m 6 0 (by omega) j hj
  simpa using this
/-- the one who speaks: one that is up, none greater; none, if nobody is up -/
theorem bestF_spec {L : Nat → Mem} (hL : ∀ i, (L i).wf) : ∀ n, (bestF L n = -1 ∧ ∀ j, j < n → (L j).u = false) ∨
    ∃ b : Nat, bestF L n = b ∧ b < n ∧ (L b).u = true ∧ ∀ j, j < n → (L j).u = true → key (L j) ≤ key (L b)
  | 0 => .inl ⟨rfl, fun j hj => by omega⟩
  | n + 1 => by
    have ih := bestF_spec hL n
    simp only [bestF]
    cases hu : (L n).u with
    | false =>
      rw [if_pos rfl]
      rcases ih with ⟨h1, h2⟩ | ⟨b, h1, h2, h3, h4⟩
      · refine .inl ⟨h1, fun j hj => ?_⟩
        rcases (by omega : j < n ∨ j = n) with h | h
        · exact h2 j h
        · subst h; exact hu
      · refine .inr ⟨b, h1, by omega, h3, fun j hj hju => ?_⟩
        rcases (by omega : j < n ∨ j = n) with h | h
        · exact h4 j h hju
        · subst h; rw [hu] at hju; cases hju
    | true =>
      rw [if_neg (by simp)]
      rcases ih with ⟨h1, h2⟩ | ⟨b, h1, h2, h3, h4⟩
      · rw [if_pos (by omega)]
        refine .inr ⟨n, rfl, by omega, hu, fun j hj hju => ?_⟩
        rcases (by omega : j < n ∨ j = n) with h | h
        · rw [h2 j h] at hju; cases hju
        · subst h; exact Int.le_refl _
      · rw [h1, if_neg (by omega), Int.toNat_natCast]
        have hbk := better_key (hL n) (hL b)
        by_cases hb : 0 < betterI (L n) (L b)
        · rw [if_pos hb]
          have := hbk.1 hb
          refine .inr ⟨n, rfl, by omega, hu, fun j hj hju => ?_⟩
          rcases (by omega : j < n ∨ j = n) with h | h
          · have := h4 j h hju; omega
          · subst h; exact Int.le_refl _
        · rw [if_neg hb]
          have : ¬ key (L b) < key (L n) := fun h => hb (hbk.2 h)
          refine .inr ⟨b, rfl, by omega, h3, fun j hj hju => ?_⟩
          rcases (by omega : j < n ∨ j = n) with h | h
          · exact h4 j h hju
          · subst h; omega
def same6 (x y : Mem) : Prop := x.p = y.p ∧ ∀ j, j < 6 → x.m j = y.m j
/-- turned, the same one speaks -/
theorem turn_best {L : Nat → Mem} (hL : ∀ i, (L i).wf) {n k : Nat} (hn : 0 < n) (hk : k < n) (hd : ∀ i j, i < n → j < n → i ≠ j → ¬ same6 (L i) (L j)) :
    (bestF L n = -1 ∧ bestF (fun i => L ((i + k) % n)) n = -1) ∨ ∃ a b : Nat, bestF L n = a ∧ bestF (fun i => L ((i + k) % n)) n = b ∧ a < n ∧ b < n ∧ (b + k) % n = a := by
  have h1 := bestF_spec hL n
  have h2 := bestF_spec (L := fun i => L ((i + k) % n)) (fun i => hL _) n
  have back : ∀ j, j < n → ∃ i, i < n ∧ (i + k) % n = j := fun j hj => by
    rcases Nat.lt_or_ge j k with h | h
    · exact ⟨j + n - k, by omega, by rw [show j + n - k + k = j + n by omega, Nat.add_mod_right, Nat.mod_eq_of_lt hj]⟩
    · exact ⟨j - k, by omega, by rw [show j - k + k = j by omega, Nat.mod_eq_of_lt hj]⟩
  rcases h1 with ⟨a1, a2⟩ | ⟨a, a1, a2, a3, a4⟩ <;> rcases h2 with ⟨b1, b2⟩ | ⟨b, b1, b2, b3, b4⟩
  · exact .inl ⟨a1, b1⟩
  · have hm : (b + k) % n < n := Nat.mod_lt _ hn
    have := a2 _ hm
    rw [this] at b3; cases b3
  · obtain ⟨i, hi, he⟩ := back a a2
    have := b2 i hi
    simp only [he] at this
    rw [this] at a3; cases a3
  · refine .inr ⟨a, b, a1, b1, a2, b2, ?_⟩
    have hm : (b + k) % n < n := Nat.mod_lt _ hn
    have k1 := a4 _ hm b3
    obtain ⟨i, hi, he⟩ := back a a2
    have k2 := b4 i hi (by simp only [he]; exact a3)
    simp only [he] at k2
    by_cases hne : (b + k) % n = a
    · exact hne
    · exact absurd (key_inj (hL _) (hL _) (by omega)) (hd _ _ hm a2 hne)
/-- whoever alone is greatest speaks -/
theorem top_best {L : Nat → Mem} (hL : ∀ i, (L i).wf) {n t : Nat} (ht : t < n) (hu : (L t).u = true) (hp : (L t).p = 127) (ho : ∀ i, i < n → i ≠ t → (L i).p ≤ 126) : bestF L n = t := by
  rcases bestF_spec hL n with ⟨a1, a2⟩ | ⟨a, a1, a2, a3, a4⟩
  · rw [a2 t ht] at hu; cases hu
  · by_cases he : a = t
    · rw [a1, he]
    · have := a4 t ht hu
      have h1 := ho a a2 he
      have r1 := val6_rng (hL a).m
      have r2 := val6_rng (hL t).m
      unfold key at this
      omega
end Go.Proofs.Ytjiobeonlanfaaa
