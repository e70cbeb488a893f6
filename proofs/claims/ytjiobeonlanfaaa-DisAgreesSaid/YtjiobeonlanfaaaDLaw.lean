/- LANs: all elect the same: the law. -/
import Derived.Test.YtjiobeonlanfaaaDAgrees
namespace Go.Proofs.Ytjiobeonlanfaaa
open Go.Ev
set_option linter.unusedVariables false
set_option linter.unusedSimpArgs false
set_option maxRecDepth 100000
set_option maxHeartbeats 4000000
noncomputable def ED5 : Env := (ED4.add 8 (ncon (vcn spOf)) true).add 7 (pcon spAwake) true
theorem okD5 : EnvOk Try.prog ED5 := okD4.pcon2 (okD4.ncon okD4 (fn := Try.f8) rfl (by kernel_rfl) 3
  (fun us d obs ⟨L, n, _, _, e1, e2⟩ => by
    subst e1; subst e2
    refine ⟨rfl, fun q hq => ?_⟩
    rcases List.mem_cons.1 hq with rfl | h
    · exact fun i _ => rfl
    · cases h)
  (fun us d obs ⟨L, n, h1, h2, e1, e2⟩ => by rw [h1, e1, e2]; exact of8 L n h2))
  (fn := Try.f7) rfl (by kernel_rfl) 3 (fun us d h => by obtain ⟨rfl, rfl⟩ := h; rfl) (fun us d h => by obtain ⟨rfl, rfl⟩ := h; exact awake7)
structure Mem.wf0 (x : Mem) : Prop where
  s : ∀ i, 0 ≤ x.s i ∧ x.s i ≤ 255
  m : ∀ i, 0 ≤ x.m i ∧ x.m i ≤ 255
  p : 0 ≤ x.p ∧ x.p ≤ 255
def eqM (x y : Mem) : Bool := andB (x.m 0 == y.m 0) (andB (x.m 1 == y.m 1) (andB (x.m 2 == y.m 2) (andB (x.m 3 == y.m 3) (andB (x.m 4 == y.m 4) (andB (x.m 5 == y.m 5) true)))))
theorem eqM_iff (x y : Mem) : eqM x y = true ↔ ∀ j, j < 6 → x.m j = y.m j := by
  simp only [eqM, andB_eq, Bool.and_eq_true, beq_iff_eq, and_true]
  constructor
  · rintro ⟨h0, h1, h2, h3, h4, h5⟩ j hj
    rcases (by omega : j = 0 ∨ j = 1 ∨ j = 2 ∨ j = 3 ∨ j = 4 ∨ j = 5) with h | h | h | h | h | h <;> subst h <;> assumption
  · intro h
    exact ⟨h 0 (by omega), h 1 (by omega), h 2 (by omega), h 3 (by omega), h 4 (by omega), h 5 (by omega)⟩
def lowM (x : Mem) : Mem := { x with p := if 126 < x.p then 126 else x.p }
theorem lowM_p (x : Mem) : (lowM x).p ≤ 126 := by unfold lowM; simp only; split <;> omega
theorem lowM_wf {x : Mem} (h : x.wf) : (lowM x).wf := ⟨h.s, h.m, by have := h.p; unfold lowM; simp only; split <;> omega⟩
def topM (M : Nat → Mem) (T : Nat) : Nat → Mem := fun i => if i = T then { M i with p := 127, u := true } else lowM (M i)
theorem topM_wf {M : Nat → Mem} (h : ∀ i, (M i).wf) (T i : Nat) : (topM M T i).wf := by
  unfold topM
  split
  · exact ⟨(h i).s, (h i).m, by simp⟩
  · exact lowM_wf (h i)
theorem agreesB (L : Nat → Mem) (hL : ∀ i, (L i).wf0) (N : Nat) (hN : N ≤ 140737488351232) (turn : Int) (ht : -9223372036854775808 ≤ turn ∧ turn ≤ 9223372036854775807) (top : Int) (hp : 0 ≤ top ∧ top ≤ 255) :
    callW ED5 4 3 [.imm N 14 fun i => cellsM (L i), .int .i64 turn, .int .u8 top] [] (fun d _ => d = .bool true) (fun _ _ => False) := by
  obtain ⟨n, hm, hn1, hn2⟩ : ∃ m : Nat, (if 40 < (N : Int) then 40 else (N : Int)) = (m : Int) ∧ m ≤ 40 ∧ m ≤ N := ⟨min N 40, by split <;> omega, by omega, by omega⟩
  conv => whnf
  refine ⟨.bool true, ⟨rfl, rfl⟩, ?_⟩
  conv => whnf
  rw [hm]
  repeat first
    | (refine And.intro (by first | exact trivial | omega) ?_; conv => whnf)
  rw [show (n : Int).toNat - Int.toNat 0 = n by omega]
  refine loopC okD5 [0, 1, 2, 29, 30, 31] (fun k : Nat => mkF 174 0 [(0, .imm n 14 (subG (Int.toNat 0) fun i => cellsM (L i))), (1, .int .i64 turn), (2, .int .u8 top), (29, .imm n 14 (subG (Int.toNat 0) fun i => cellsM (L i))), (30, .int .i64 (n : Nat)), (31, .int .i64 (k : Nat))]) (fun _ => [])
    (fun k => k ≤ n ∧ ∀ i j, i < k → j < i → (L i).p ≤ 127 ∧ ¬ same6 (L i) (L j)) (fun k => n - k) 0 [] ⟨rfl, rfl, rfl⟩ ⟨by omega, fun i j hi => by omega⟩ (fun _ _ => ⟨rfl, rfl, rfl⟩) ?_
  rintro k ⟨hk, hinv⟩
  conv => whnf
  split
  · rename_i hq
    simp only [decide_eq_true_eq] at hq
    conv => whnf
    repeat first
      | (refine And.intro (by first | exact trivial | omega) ?_; conv => whnf)
    refine loopC okD5 [0, 1, 2, 8, 29, 30, 31, 38, 39, 40] (fun j : Nat => mkF 174 0 [(0, .imm n 14 (subG (Int.toNat 0) fun i => cellsM (L i))), (1, .int .i64 turn), (2, .int .u8 top), (8, .ptr 0 0), (29, .imm n 14 (subG (Int.toNat 0) fun i => cellsM (L i))), (30, .int .i64 (n : Nat)), (31, .int .i64 (k : Nat)),
      (38, .imm k 14 (subG (Int.toNat 0) (subG (Int.toNat 0) fun i => cellsM (L i)))), (39, .int .i64 (k : Nat)), (40, .int .i64 (j : Nat))]) (fun _ => [some (.box (cellsM (L k)))])
      (fun j => j ≤ k ∧ ∀ j', j' < j → (L k).p ≤ 127 ∧ ¬ same6 (L k) (L j')) (fun j => k - j) 0 [0] ⟨rfl, rfl, rfl⟩ ⟨by omega, fun j hj => by omega⟩ (fun _ _ => ⟨rfl, rfl, rfl⟩) ?_
    rintro j ⟨hj, hinv2⟩
    conv => whnf
    split
    · rename_i hq2
      simp only [decide_eq_true_eq] at hq2
      conv => whnf
      repeat first
        | (refine And.intro (by first | exact trivial | omega) ?_; conv => whnf)
      rcases Int.lt_or_le 127 (L k).p with hp1 | hp1
      · rw [decide_eq_true (by exact hp1)]
        conv => whnf
      rw [decide_eq_false (by omega)]
      conv => whnf
      repeat first
        | (refine And.intro (by first | exact trivial | omega) ?_; conv => whnf)
      by_cases hpe : (L k).p = (L j).p
      · rw [show ((L k).p == (L ((j : Int).toNat + Int.toNat 0 + Int.toNat 0)).p) = true by rw [beq_iff_eq]; exact hpe]
        conv => whnf
        repeat first
          | (refine And.intro (by first | exact trivial | omega) ?_; conv => whnf)
        split
        · conv => whnf
        · rename_i hq3
          have hne : ¬ same6 (L k) (L j) := fun hs => by
            have h6 := (eqM_iff (L k) (L j)).2 hs.2
            have h7 : eqM (L k) (L j) = false := hq3
            rw [h6] at h7
            cases h7
          conv => whnf
          exact ⟨j + 1, [0], ⟨by rw [w1i (by omega)]; rfl, rfl, rfl⟩, ⟨by omega, fun j' hj' => ⟨hp1, (by
            rcases (by omega : j' < j ∨ j' = j) with h | h
            · exact (hinv2 j' h).2
            · subst h; exact hne)⟩⟩, by omega⟩
      · rw [show ((L k).p == (L ((j : Int).toNat + Int.toNat 0 + Int.toNat 0)).p) = false by rw [beq_eq_false_iff_ne]; exact hpe]
        conv => whnf
        exact ⟨j + 1, [0], ⟨by rw [w1i (by omega)]; rfl, rfl, rfl⟩, ⟨by omega, fun j' hj' => ⟨hp1, (by
          rcases (by omega : j' < j ∨ j' = j) with h | h
          · exact (hinv2 j' h).2
          · subst h; exact fun hs => hpe hs.1)⟩⟩, by omega⟩
    · rename_i hq2
      simp only [decide_eq_false_iff_not] at hq2
      have hjk : j = k := by omega
      subst hjk
      conv => whnf
      exact ⟨j + 1, [], ⟨by rw [w1i (by omega)]; rfl, rfl, rfl⟩, ⟨by omega, fun i j' hi hj' => (by
        rcases (by omega : i < j ∨ i = j) with h | h
        · exact hinv i j' h hj'
        · subst h; exact hinv2 j' hj')⟩, by omega⟩
  · rename_i hq
    simp only [decide_eq_false_iff_not] at hq
    have hkn : k = n := by omega
    subst hkn
    conv => whnf
    split
    · conv => whnf
    rename_i hn0
    have hn0 : 0 < k := by simp at hn0; omega
    conv => whnf
    repeat first
      | (refine And.intro (by first | exact trivial | omega) ?_; conv => whnf)
    rcases Int.lt_or_le 127 (L 0).p with hp0 | hp0
    · rw [show decide ((L (Int.toNat 0 + Int.toNat 0)).p > 127) = true from decide_eq_true hp0]
      conv => whnf
    rw [show decide ((L (Int.toNat 0 + Int.toNat 0)).p > 127) = false from decide_eq_false (by show ¬ ((L 0).p > 127); omega)]
    conv => whnf
    have hne : IntKind.u64.wrap (k : Int) ≠ 0 := by rw [wrapU64_of (by omega) (by omega)]; omega
    refine And.intro hne ?_
    conv => whnf
    obtain ⟨K, hK, hK2⟩ : ∃ K : Nat, IntKind.i64.wrap ((IntKind.u64.wrap turn).tmod (IntKind.u64.wrap (k : Int))) = (K : Int) ∧ K < k := by
      have h0 : 0 ≤ IntKind.u64.wrap turn := by rw [wrapU64]; omega
      rw [wrapU64_of (n := (k : Int)) (by omega) (by omega), Int.tmod_eq_emod_of_nonneg h0]
      have h1 := Int.emod_lt_of_pos (IntKind.u64.wrap turn) (by omega : (0 : Int) < (k : Int))
      have h2 := Int.emod_nonneg (IntKind.u64.wrap turn) (by omega : (k : Int) ≠ 0)
      refine ⟨(IntKind.u64.wrap turn % (k : Int)).toNat, ?_, by omega⟩
      rw [wrapI64_of (by omega) (by omega)]
      omega
    rw [hK]
    obtain ⟨M, hM, hMw⟩ : ∃ M : Nat → Mem, (∀ i, i < k → M i = L i) ∧ ∀ i, (M i).wf := by
      refine ⟨withX L k, fun i hi => by unfold withX; rw [if_pos hi], fun i => ?_⟩
      unfold withX
      split
      · rename_i hi
        refine ⟨(hL i).s, (hL i).m, (hL i).p.1, ?_⟩
        rcases Nat.eq_zero_or_pos i with h | h
        · subst h; exact hp0
        · exact (hinv i 0 hi h).1
      · exact ⟨fun _ => ⟨Int.le_refl 0, by simp [mX]⟩, fun _ => ⟨Int.le_refl 0, by simp [mX]⟩, by simp [mX]⟩
    have hdist : ∀ i j, i < k → j < k → i ≠ j → ¬ same6 (M i) (M j) := fun i j hi hj hij => by
      rw [hM i hi, hM j hj]
      rcases Nat.lt_or_gt_of_ne hij with h | h
      · exact fun hs => (hinv j i hj h).2 ⟨hs.1.symm, fun t ht => (hs.2 t ht).symm⟩
      · exact (hinv i j hi h).2
    refine ⟨_, _, ⟨[.imm k 14 fun i => cellsM (M i)], ⟨⟨rfl, rfl, fun i hi => by show cellsM (L i) = cellsM (M i); rw [hM i hi]⟩, trivial⟩, M, k, rfl, by omega, rfl, rfl⟩, ?_⟩
    conv => whnf
    repeat first
      | (refine And.intro (by first | exact trivial | omega) ?_; conv => whnf)
    have hX : ∀ i, i < k → withX M k i = M i := fun i hi => by unfold withX; rw [if_pos hi]
    refine ⟨_, ⟨[.imm k 14 fun i => cellsM (M i)], ⟨⟨rfl, rfl, fun i hi => by show cellsM (withX M k i) = cellsM (M i); rw [hX i hi]⟩, trivial⟩, M, k, rfl, by omega, hMw, rfl⟩, ?_⟩
    conv => whnf
    repeat first
      | (refine And.intro (by first | exact trivial | omega) ?_; conv => whnf)
    apply oneEnd
    apply Exists.intro
    apply And.intro
    rotate_left
    · intro way
      repeat' first
        | (refine And.intro (by first | exact trivial | omega | decide | (simp [ty34, bigV, maxLV]; omega)) ?_; conv => whnf)
        | (refine And.intro ?_ ?_ <;> (conv => whnf))
      all_goals exact way ()
    have hlen : 0 + (((((k : Nat) : Int).toNat - Int.toNat 0 : Nat) : Int).toNat - (K : Int).toNat) + ((K : Int).toNat - Int.toNat 0) = k := by
      rw [show Int.toNat 0 = 0 from rfl, Int.toNat_natCast, Int.toNat_natCast, Nat.sub_zero, Nat.sub_zero, Int.toNat_natCast]; omega
    have hturn : ∀ i, i < k → subG 0 (appG (0 + (((((k : Nat) : Int).toNat - Int.toNat 0 : Nat) : Int).toNat - (K : Int).toNat)) (appG 0 (litG ty34.size []) (subG (0 + Int.toNat 0 + (K : Int).toNat) fun i => cellsM (withX M k i))) (subG (0 + Int.toNat 0 + Int.toNat 0) fun i => cellsM (withX M k i))) i = cellsM (M ((i + K) % k)) := fun i hi => by
      rw [show Int.toNat 0 = 0 from rfl, Int.toNat_natCast, Int.toNat_natCast, Nat.sub_zero, Int.toNat_natCast, Nat.zero_add, Nat.zero_add]
      simp only [subG, appG, Nat.add_zero]
      by_cases h : i < k - K
      · rw [if_pos h, if_neg (by omega), Nat.sub_zero, hX _ (by omega), Nat.mod_eq_of_lt (by omega)]
      · rw [if_neg h, hX _ (by omega)]
        rw [show i + K = (i - (k - K)) + k by omega, Nat.add_mod_right, Nat.mod_eq_of_lt (by omega)]
    refine ⟨_, ⟨[.imm k 14 fun i => cellsM (M ((i + K) % k))], ⟨⟨hlen, rfl, fun i hi => hturn i (by rw [← hlen]; exact hi)⟩, trivial⟩, fun i => M ((i + K) % k), k, rfl, by omega, fun i => hMw _, rfl⟩, ?_⟩
    have htb := turn_best hMw hn0 hK2 hdist
    conv => whnf
    have qi : ∀ x : Int, (x == x) = true := fun x => by simp
    have qb : ∀ x : Bool, (x == x) = true := fun x => by cases x <;> rfl
    obtain ⟨T, hT, hT2⟩ : ∃ T : Nat, (IntKind.i64.wrap top).tmod (k : Int) = (T : Int) ∧ T < k := by
      rw [wrapI64_of (n := top) (by omega) (by omega), Int.tmod_eq_emod_of_nonneg hp.1]
      have h1 := Int.emod_lt_of_pos top (by omega : (0 : Int) < (k : Int))
      have h2 := Int.emod_nonneg top (by omega : (k : Int) ≠ 0)
      exact ⟨(top % (k : Int)).toNat, by omega, by omega⟩
    rcases htb with ⟨h1, h2⟩ | ⟨a, b, h1, h2, ha, hb, hab⟩
    case' inl =>
      rw [h1, h2]
      conv => whnf
      apply oneEnd
      apply Exists.intro
      apply And.intro
      rotate_left
      · intro way
        repeat' first
          | (refine And.intro (by first | exact trivial | omega | decide) ?_; conv => whnf)
          | (refine And.intro ?_ ?_ <;> (conv => whnf))
        all_goals exact way ()
    case' inr =>
      have hidx : (IntKind.i64.wrap ((b : Int) + (K : Int))).tmod (k : Int) = (a : Int) := by
        rw [wrapI64_of (by omega) (by omega), Int.tmod_eq_emod_of_nonneg (by omega), show (b : Int) + (K : Int) = ((b + K : Nat) : Int) from rfl, ← Int.natCast_emod, hab]
      rw [h1, h2, show decide ((a : Int) < 0) = false from decide_eq_false (by omega), show decide ((b : Int) < 0) = false from decide_eq_false (by omega)]
      conv => whnf
      apply oneEnd
      apply Exists.intro
      apply And.intro
      rotate_left
      · intro way
        repeat' first
          | (refine And.intro (by first | exact trivial | omega | decide | (rw [hidx]; omega)) ?_; conv => whnf)
          | (rw [hidx]; conv => whnf)
          | (rw [qi]; conv => whnf)
          | (rw [qb]; conv => whnf)
          | (refine And.intro ?_ ?_ <;> (conv => whnf))
        all_goals exact way ()
    all_goals rw [hT]
    all_goals (refine loopC okD5 [13, 18, 139, 140] (fun x : Nat × (Nat → List V) => mkF 174 0 [(13, .own 0 14 0 k), (18, .int .i64 (T : Nat)), (139, .int .i64 (k : Nat)), (140, .int .i64 (x.1 : Nat))]) (fun x => [some (.seq 34 14 (k + 1) x.2)]) (fun x => x.1 ≤ k ∧ ∀ i, i < k → x.2 i = cellsM (if i < x.1 then lowM (M i) else M i)) (fun x => k - x.1) (0, fun i => cellsM (withX M k i)) [0] ⟨rfl, rfl, rfl⟩ ⟨Nat.zero_le _, fun i hi => by simp only; rw [if_neg (by omega), hX i hi]⟩ (fun _ _ => ⟨rfl, rfl, rfl⟩) ?_)
    all_goals rintro ⟨j, g⟩ ⟨hj, hg⟩
    all_goals simp only at hj hg ⊢
    all_goals conv => whnf
    all_goals rcases Nat.lt_or_ge j k with hjk | hjk
    · rw [decide_eq_true (by omega)]
      conv => whnf
      repeat first
        | (refine And.intro (by first | exact trivial | omega | (simp only; omega)) ?_; conv => whnf)
      have hgj : g ((j : Int).toNat + 0) = cellsM (M j) := by
        rw [Int.toNat_natCast, Nat.add_zero, hg j hjk, if_neg (by omega)]
      conv => arg 2; whnf
      rw [hgj]
      conv => whnf
      repeat first
        | (refine And.intro (by first | exact trivial | omega | (simp only; omega)) ?_; conv => whnf)
      refine ⟨(j + 1, setG ((j : Int).toNat + 0) (0 + 12) [.int .u8 (if 126 < (M j).p then 126 else (M j).p)] g), [0], ⟨by rw [w1i (by omega)]; rfl, rfl, rfl⟩, ⟨by simp only; omega, fun i hi => ?_⟩, by simp only; omega⟩
      simp only [setG]
      by_cases hij : i = (j : Int).toNat + 0
      · have hij2 : i = j := by rw [Int.toNat_natCast] at hij; omega
        subst hij2
        rw [if_pos hij, hg i hi, if_neg (show ¬ i < i by omega), if_pos (show i < i + 1 by omega)]
        rfl
      · have hij2 : i ≠ j := fun e => hij (by rw [e, Int.toNat_natCast]; rfl)
        rw [if_neg hij, hg i hi]
        by_cases hlt : i < j
        · rw [if_pos hlt, if_pos (by omega)]
        · rw [if_neg hlt, if_neg (by omega)]
    · have hjk2 : j = k := by omega
      subst hjk2
      rw [decide_eq_false (by omega)]
      conv => whnf
      repeat first
        | (refine And.intro (by first | exact trivial | omega | (simp only; omega)) ?_; conv => whnf)
      have hset : ∀ i, i < j → subG 0 (setG ((T : Int).toNat + 0) (0 + 13) [ofConst (Value.bool true)] (setG ((T : Int).toNat + 0) (0 + 12) [ofConst (Value.int IntKind.u8 127)] g)) i = cellsM (topM M T i) := fun i hi => by
        simp only [subG, Nat.add_zero, setG, Int.toNat_natCast, topM]
        by_cases hiT : i = T
        · rw [if_pos hiT, if_pos hiT, if_pos hiT, hg i hi, if_pos hi]
          rfl
        · rw [if_neg hiT, if_neg hiT, if_neg hiT, hg i hi, if_pos hi]
      refine ⟨_, ⟨[.imm j 14 fun i => cellsM (topM M T i)], ⟨⟨rfl, rfl, hset⟩, trivial⟩, topM M T, j, rfl, by omega, topM_wf hMw T, rfl⟩, ?_⟩
      rw [top_best (topM_wf hMw T) hT2 (by unfold topM; rw [if_pos rfl]) (by unfold topM; rw [if_pos rfl]) (fun i _ hne => by unfold topM; rw [if_neg hne]; exact lowM_p _)]
      conv => whnf
      rw [qi]
    · rw [decide_eq_true (by omega)]
      conv => whnf
      repeat first
        | (refine And.intro (by first | exact trivial | omega | (simp only; omega)) ?_; conv => whnf)
      have hgj : g ((j : Int).toNat + 0) = cellsM (M j) := by
        rw [Int.toNat_natCast, Nat.add_zero, hg j hjk, if_neg (by omega)]
      conv => arg 2; whnf
      rw [hgj]
      conv => whnf
      repeat first
        | (refine And.intro (by first | exact trivial | omega | (simp only; omega)) ?_; conv => whnf)
      refine ⟨(j + 1, setG ((j : Int).toNat + 0) (0 + 12) [.int .u8 (if 126 < (M j).p then 126 else (M j).p)] g), [0], ⟨by rw [w1i (by omega)]; rfl, rfl, rfl⟩, ⟨by simp only; omega, fun i hi => ?_⟩, by simp only; omega⟩
      simp only [setG]
      by_cases hij : i = (j : Int).toNat + 0
      · have hij2 : i = j := by rw [Int.toNat_natCast] at hij; omega
        subst hij2
        rw [if_pos hij, hg i hi, if_neg (show ¬ i < i by omega), if_pos (show i < i + 1 by omega)]
        rfl
      · have hij2 : i ≠ j := fun e => hij (by rw [e, Int.toNat_natCast]; rfl)
        rw [if_neg hij, hg i hi]
        by_cases hlt : i < j
        · rw [if_pos hlt, if_pos (by omega)]
        · rw [if_neg hlt, if_neg (by omega)]
    · have hjk2 : j = k := by omega
      subst hjk2
      rw [decide_eq_false (by omega)]
      conv => whnf
      repeat first
        | (refine And.intro (by first | exact trivial | omega | (simp only; omega)) ?_; conv => whnf)
      have hset : ∀ i, i < j → subG 0 (setG ((T : Int).toNat + 0) (0 + 13) [ofConst (Value.bool true)] (setG ((T : Int).toNat + 0) (0 + 12) [ofConst (Value.int IntKind.u8 127)] g)) i = cellsM (topM M T i) := fun i hi => by
        simp only [subG, Nat.add_zero, setG, Int.toNat_natCast, topM]
        by_cases hiT : i = T
        · rw [if_pos hiT, if_pos hiT, if_pos hiT, hg i hi, if_pos hi]
          rfl
        · rw [if_neg hiT, if_neg hiT, if_neg hiT, hg i hi, if_pos hi]
      refine ⟨_, ⟨[.imm j 14 fun i => cellsM (topM M T i)], ⟨⟨rfl, rfl, hset⟩, trivial⟩, topM M T, j, rfl, by omega, topM_wf hMw T, rfl⟩, ?_⟩
      rw [top_best (topM_wf hMw T) hT2 (by unfold topM; rw [if_pos rfl]) (by unfold topM; rw [if_pos rfl]) (fun i _ hne => by unfold topM; rw [if_neg hne]; exact lowM_p _)]
      conv => whnf
      rw [qi]
def shM : List Sh := [.int .u8, .int .u8, .int .u8, .int .u8, .int .u8, .int .u8, .int .u8, .int .u8, .int .u8, .int .u8, .int .u8, .int .u8, .int .u8, .bool]
theorem shM_mem {l : List V} (h : okShs shM l) : ∃ x : Mem, x.wf0 ∧ l = cellsM x := by
  match l, h with
  | [s0, s1, s2, s3, s4, s5, m0, m1, m2, m3, m4, m5, p, u], h =>
    simp only [shM, okShs, okSh] at h
    obtain ⟨⟨s0, rfl, a0⟩, ⟨s1, rfl, a1⟩, ⟨s2, rfl, a2⟩, ⟨s3, rfl, a3⟩, ⟨s4, rfl, a4⟩, ⟨s5, rfl, a5⟩, ⟨m0, rfl, b0⟩, ⟨m1, rfl, b1⟩, ⟨m2, rfl, b2⟩, ⟨m3, rfl, b3⟩, ⟨m4, rfl, b4⟩, ⟨m5, rfl, b5⟩, ⟨p, rfl, c⟩, ⟨u, rfl⟩, _⟩ := h
    have a0 := rngU8 a0; have a1 := rngU8 a1; have a2 := rngU8 a2; have a3 := rngU8 a3; have a4 := rngU8 a4; have a5 := rngU8 a5
    have b0 := rngU8 b0; have b1 := rngU8 b1; have b2 := rngU8 b2; have b3 := rngU8 b3; have b4 := rngU8 b4; have b5 := rngU8 b5
    have c := rngU8 c
    refine ⟨⟨fun i => match i with | 0 => s0 | 1 => s1 | 2 => s2 | 3 => s3 | 4 => s4 | _ => s5, fun i => match i with | 0 => m0 | 1 => m1 | 2 => m2 | 3 => m3 | 4 => m4 | _ => m5, p, u⟩, ⟨fun i => ?_, fun i => ?_, c⟩, rfl⟩
    · match i with
      | 0 => exact a0
      | 1 => exact a1
      | 2 => exact a2
      | 3 => exact a3
      | 4 => exact a4
      | _ + 5 => exact a5
    · match i with
      | 0 => exact b0
      | 1 => exact b1
      | 2 => exact b2
      | 3 => exact b3
      | 4 => exact b4
      | _ + 5 => exact b5
theorem mems {n : Nat} {g : Nat → List V} (h : ∀ i, i < n → okShs shM (g i)) : ∃ L : Nat → Mem, (∀ i, (L i).wf0) ∧ ∀ i, i < n → g i = cellsM (L i) := by
  have each : ∀ i, ∃ x : Mem, x.wf0 ∧ (i < n → g i = cellsM x) := fun i => by
    by_cases hi : i < n
    · obtain ⟨x, h1, h2⟩ := shM_mem (h i hi)
      exact ⟨x, h1, fun _ => h2⟩
    · exact ⟨⟨fun _ => 0, fun _ => 0, 0, false⟩, ⟨fun _ => by simp, fun _ => by simp, by simp⟩, fun h => absurd h hi⟩
  obtain ⟨L, hL⟩ := Classical.axiomOfChoice each
  exact ⟨L, fun i => (hL i).1, fun i hi => (hL i).2 hi⟩
theorem agrees (us : List V) (hu : okArgs [(false, [.sl 14 shM]), (false, [.int .i64]), (false, [.int .u8])] us) : ∃ us', vleL us us' ∧ callW ED5 4 3 us' [] (fun d _ => d = .bool true) (fun _ _ => False) := by
  obtain ⟨u, v, w, rfl, hu, hv, hw⟩ := okArgs3 hu
  simp only [okArg, okSh] at hu hv hw
  obtain ⟨n, g, rfl, h1, _, h3⟩ := hu
  obtain ⟨t, rfl, ht⟩ := hv
  obtain ⟨p, rfl, hp⟩ := hw
  obtain ⟨L, hL, hg⟩ := mems h3
  exact ⟨[.imm n 14 fun i => cellsM (L i), .int .i64 t, .int .u8 p], ⟨⟨rfl, rfl, hg⟩, rfl, rfl, trivial⟩, agreesB L hL n (by omega) t (rngI64 ht) p (rngU8 hp)⟩
end Go.Proofs.Ytjiobeonlanfaaa
