/- The check sum: a byte that is turned is seen. -/
import Derived.Test.YtldoaopkpoojfaaOSumsC
namespace Go.Proofs.Ytldoaopkpoojfaa
open Go.Ev
set_option linter.unusedVariables false
set_option linter.unusedSimpArgs false
set_option maxRecDepth 100000
set_option maxHeartbeats 1000000
theorem setG_same {i : Nat} {x c : V} {g : Nat → List V} (h : g i = [c]) : setG i 0 [x] g i = [x] := by
  unfold setG
  rw [if_pos rfl, h]
  rfl
def putB (B : Nat → Int) (i : Nat) (x : Int) : Nat → Int := fun j => if j = i then x else B j
theorem putB_rng {B : Nat → Int} (hB : ∀ i, 0 ≤ B i ∧ B i ≤ 255) {x : Int} (hx : 0 ≤ x ∧ x ≤ 255) (i j : Nat) : 0 ≤ putB B i x j ∧ putB B i x j ≤ 255 := by
  have := hB j
  unfold putB
  split <;> omega
theorem S0_put (B : Nat → Int) (i : Nat) (x : Int) : ∀ k, S0 (putB B i x) (-1) k = S0 B (-1) k + (if i < k then x - B i else 0)
  | 0 => by simp [S0]
  | k + 1 => by
    simp only [S0, wB_neg]
    rw [S0_put B i x k]
    unfold putB
    by_cases h : k = i
    · subst h
      rw [if_neg (by omega), if_pos rfl, if_pos (by omega)]
      omega
    · rw [if_neg h]
      by_cases h2 : i < k
      · rw [if_pos h2, if_pos (by omega)]; omega
      · rw [if_neg h2, if_neg (by omega)]; omega
theorem putB_same {B : Nat → Int} (hB : ∀ i, 0 ≤ B i ∧ B i ≤ 255) (n a i : Nat) (he : errS n (a : Int) = 0) {X : Int} (h : X = laidB B n a i) : rightS (putB (laidB B n a) i X) n (a : Int) = true := by
  have : putB (laidB B n a) i X = laidB B n a := by
    funext j
    unfold putB
    split
    · rename_i e; rw [e, h]
    · rfl
  rw [this]
  exact rightS_laid B n a he
theorem rightS_sum {B : Nat → Int} (hB : ∀ i, 0 ≤ B i ∧ B i ≤ 255) {n a : Nat} (he : errS n (a : Int) = 0) (h : rightS B n (a : Int) = true) : S0 B (-1) n % 255 = 0 := by
  have ha : a + 2 ≤ n := by rcases errS_cases n (a : Int) with ⟨h, e⟩ | ⟨h, h2, e⟩ | ⟨h, h2, h3, e⟩ | ⟨h, h2, h3, e⟩ <;> omega
  have law := rightLaw B hB n a ha
  unfold rightS at h
  simp only [he, true_and, Int.toNat_natCast, decide_eq_true_eq] at h
  exact (law.2 h).1
theorem putB_right {B : Nat → Int} (hB : ∀ i, 0 ≤ B i ∧ B i ≤ 255) (n a i : Nat) {X : Int} (hx : 0 ≤ X ∧ X ≤ 255) (he : errS n (a : Int) = 0) (hi : i < n) (h : rightS (putB (laidB B n a) i X) n (a : Int) = true) : (X - laidB B n a i) % 255 = 0 := by
  have h1 := rightS_sum (putB_rng (laidB_rng hB n a) hx i) he h
  have h2 := rightS_sum (laidB_rng hB n a) he (rightS_laid B n a he)
  rw [S0_put, if_pos hi] at h1
  omega
theorem turned (z : List Int) (n : Nat) (hn : n ≤ z.length) (hl : z.length ≤ maxL) (hz : ∀ n ∈ z, (Lit.int .u8 n).wf = true) (hs : z.length ≤ 140737488351232) (a : Int) (ha : -9223372036854775808 ≤ a ∧ a ≤ 9223372036854775807) (wh : Int) (hwh : 0 ≤ wh ∧ wh ≤ 65535) (by' : Int) (hby : 0 ≤ by' ∧ by' ≤ 255) :
    callW ES9 6 7 [.imm n 1 fun i => [.int .u8 (z.getD i 0)], .int .i64 a, .int .u16 wh, .int .u8 by'] [] (fun d _ => d = .bool true) (fun _ _ => False) := by
  rw [maxLV] at hl
  have hB : ∀ i, 0 ≤ z.getD i 0 ∧ z.getD i 0 ≤ 255 := by
    intro i
    rcases Nat.lt_or_ge i z.length with h | h
    · have := rngU8 (hz (z.getD i 0) (by simp [h]))
      exact this
    · simp [h]
  conv => whnf
  refine ⟨.bool true, ⟨rfl, rfl⟩, ?_⟩
  conv => whnf
  have hm : ∃ m : Nat, (if 300 < (n : Int) then 300 else (n : Int)) = (m : Int) ∧ m ≤ 300 ∧ m ≤ n := ⟨min n 300, by split <;> omega, by omega, by omega⟩
  obtain ⟨m, hm, hm1, hm2⟩ := hm
  rw [hm]
  repeat first
    | (refine And.intro (by first | exact trivial | omega | (simp [ty5, bigB, maxLV]; omega)) ?_; conv => whnf)
  rw [show (m : Int).toNat - Int.toNat 0 = m by omega]
  split
  · conv => whnf
  rename_i hq
  simp only [decide_eq_false_iff_not] at hq
  conv => whnf
  obtain ⟨A, hA, hA2⟩ : ∃ A : Nat, IntKind.i64.wrap ((IntKind.u64.wrap a).tmod (IntKind.u64.wrap (IntKind.i64.wrap ((m : Int) - 1)))) = (A : Int) ∧ A + 2 ≤ m := by
    have h0 : 0 ≤ IntKind.u64.wrap a := by rw [wrapU64]; omega
    rw [wrapI64_of (n := (m : Int) - 1) (by omega) (by omega), wrapU64_of (n := (m : Int) - 1) (by omega) (by omega), Int.tmod_eq_emod_of_nonneg h0]
    have h1 := Int.emod_lt_of_pos (IntKind.u64.wrap a) (by omega : (0 : Int) < (m : Int) - 1)
    have h2 := Int.emod_nonneg (IntKind.u64.wrap a) (by omega : ((m : Int) - 1) ≠ 0)
    refine ⟨(IntKind.u64.wrap a % ((m : Int) - 1)).toNat, ?_, by omega⟩
    rw [wrapI64_of (by omega) (by omega)]
    omega
  have hne : IntKind.u64.wrap (IntKind.i64.wrap ((m : Int) - 1)) ≠ 0 := by
    rw [wrapI64_of (by omega) (by omega), wrapU64_of (by omega) (by omega)]; omega
  refine And.intro hne ?_
  conv => whnf
  rw [hA]
  repeat first
    | (refine And.intro (by first | exact trivial | omega | (simp [ty5, bigB, maxLV]; omega)) ?_; conv => whnf)
  have hG0 : ∀ i, i < m → (appG 0 (litG ty5.size []) (subG (Int.toNat 0) fun i => [V.int IntKind.u8 (z.getD i 0)])) i = [V.int .u8 (z.getD i 0)] := by
    intro i hi
    simp [appG, subG]
  generalize (appG 0 (litG ty5.size []) (subG (Int.toNat 0) fun i => [V.int IntKind.u8 (z.getD i 0)])) = G at *
  have hsub : ∀ (g : Nat → List V) i, subG 0 g i = g i := fun g i => by simp [subG]
  have he : errS m (A : Int) = 0 := errS_0 (by omega) (by omega) (by omega)
  have hw : IntKind.i64.wrap ((A : Int) + 1) = ((A + 1 : Nat) : Int) := by rw [wrapI64_of (by omega) (by omega)]; rfl
  refine ⟨_, ⟨[.imm m 1 fun i => [.int .u8 (z.getD i 0)], .int .i64 A], ⟨⟨by simp, rfl, fun i hi => by rw [hsub]; exact hG0 i (by simpa using hi)⟩, rfl, trivial⟩, fun i => z.getD i 0, m, A, hB, rfl, by rw [maxLV]; omega, rfl⟩, ?_⟩
  conv => whnf
  rw [sumS_1 he, he]
  repeat first
    | (refine And.intro (by first | exact trivial | omega | (simp [ty5, bigB, maxLV]; omega)) ?_; conv => whnf)
  rw [hiB _ _ (cX_rng _ _ _) (cY_rng _ _ _), loB _ _ (cX_rng _ _ _) (cY_rng _ _ _), hw]
  repeat first
    | (refine And.intro (by first | exact trivial | omega | (simp [ty5, bigB, maxLV]; omega)) ?_; conv => whnf)
  have hwh2 : IntKind.i64.wrap wh = wh := wrapI64_of (by omega) (by omega)
  obtain ⟨I, hI, hI2⟩ : ∃ I : Nat, (IntKind.i64.wrap wh).tmod (m : Int) = (I : Int) ∧ I < m := by
    rw [hwh2, Int.tmod_eq_emod_of_nonneg hwh.1]
    have h1 := Int.emod_lt_of_pos wh (by omega : (0 : Int) < (m : Int))
    have h2 := Int.emod_nonneg wh (by omega : (m : Int) ≠ 0)
    exact ⟨(wh % (m : Int)).toNat, by omega, by omega⟩
  rw [hI]
  have hlaid : ∀ i, i < m → setG (0 + (((A + 1 : Nat) : Int)).toNat) 0 [V.int .u8 (cY (fun i => z.getD i 0) m A)] (setG (0 + (A : Int).toNat) 0 [V.int .u8 (cX (fun i => z.getD i 0) m A)] G) i = [V.int .u8 (laidB (fun i => z.getD i 0) m A i)] := by
    intro i hi
    unfold setG laidB
    simp only [Int.toNat_natCast, Nat.zero_add]
    split
    · rw [if_neg (by omega), hG0 i hi]; rfl
    · split
      · rw [hG0 i hi]; rfl
      · exact hG0 i hi
  generalize setG (0 + (((A + 1 : Nat) : Int)).toNat) 0 [V.int .u8 (cY (fun i => z.getD i 0) m A)] (setG (0 + (A : Int).toNat) 0 [V.int .u8 (cX (fun i => z.getD i 0) m A)] G) = G1 at *
  have hG1 := hlaid I hI2
  have e1 : G1 (0 + (I : Int).toNat) = [V.int .u8 (laidB (fun i => z.getD i 0) m A I)] := by rw [Int.toNat_natCast, Nat.zero_add]; exact hG1
  refine And.intro (by omega) ?_
  conv => whnf
  conv => arg 2; whnf
  rw [e1]
  conv => whnf
  repeat first
    | (refine And.intro (by first | exact trivial | omega | (simp [ty5, bigB, maxLV]; omega)) ?_; conv => whnf)
  conv => arg 2; whnf
  rw [e1]
  conv => whnf
  repeat first
    | (refine And.intro (by first | exact trivial | omega | (simp [ty5, bigB, maxLV]; omega)) ?_; conv => whnf)
  have hx : 0 ≤ bitsOf .xor .u8 (laidB (fun i => z.getD i 0) m A I) by' ∧ bitsOf .xor .u8 (laidB (fun i => z.getD i 0) m A I) by' ≤ 255 := by
    have : bitsOf .xor .u8 (laidB (fun i => z.getD i 0) m A I) by' = IntKind.u8.wrap (BitVec.ofInt 8 (laidB (fun i => z.getD i 0) m A I) ^^^ BitVec.ofInt 8 by').toNat := rfl
    rw [this, wrapU8]
    omega
  generalize bitsOf .xor .u8 (laidB (fun i => z.getD i 0) m A I) by' = X at *
  conv => arg 2; whnf
  rw [setG_same (c := V.int .u8 (laidB (fun i => z.getD i 0) m A I)) e1]
  conv => whnf
  repeat first
    | (refine And.intro (by first | exact trivial | omega | (simp [ty5, bigB, maxLV]; omega)) ?_; conv => whnf)
  have hB1 := laidB_rng hB m A
  have hput : ∀ i, i < m → setG (0 + (I : Int).toNat) 0 [V.int .u8 X] G1 i = [V.int .u8 (putB (laidB (fun i => z.getD i 0) m A) I X i)] := by
    intro i hi
    unfold setG putB
    simp only [Int.toNat_natCast, Nat.zero_add]
    split
    · rw [hlaid i hi]; rfl
    · exact hlaid i hi
  refine ⟨_, ⟨[.imm m 1 fun i => [.int .u8 (putB (laidB (fun i => z.getD i 0) m A) I X i)], .int .i64 A], ⟨⟨by simp, rfl, fun i hi => by rw [hsub]; exact hput i (by simpa using hi)⟩, rfl, trivial⟩, _, m, A, putB_rng hB1 hx I, rfl, by rw [maxLV]; omega, rfl⟩, ?_⟩
  have law1 := putB_same hB m A I he (X := X)
  have law2 := putB_right hB m A I hx he hI2
  rw [he]
  generalize hw2 : laidB (fun i => z.getD i 0) m A I = w at *
  have hwr : 0 ≤ w ∧ w ≤ 255 := by rw [← hw2]; exact hB1 I
  generalize rightS (putB (laidB (fun i => z.getD i 0) m A) I X) m (A : Int) = r at *
  conv => whnf
  clear hB1 hput hlaid hG1 e1 hw2
  have law1' : X = w → r = true := fun h => law1 h
  repeat' first
    | (refine And.intro (by first | exact trivial | omega | decide) ?_; conv => whnf)
    | (split <;> (conv => whnf))
  all_goals (simp only [beq_iff_eq, bne_iff_ne, ne_eq, beq_eq_false_iff_ne, bne_eq_false_iff_eq, Bool.not_eq_true, Bool.not_eq_false] at *)
  all_goals first
    | omega
    | (cases r <;> simp_all <;> omega)
    | skip
end Go.Proofs.Ytldoaopkpoojfaa
