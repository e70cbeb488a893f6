/- Names of routers: what the document's answer reads out of a text. -/
import Derived.Test.YtldoaopkpoojfaaOParse
namespace Go.Proofs.Ytldoaopkpoojfaa
open Go.Ev
set_option linter.unusedVariables false
set_option linter.unusedSimpArgs false
set_option maxRecDepth 100000
set_option maxHeartbeats 2000000
theorem w1i {k : Nat} (h : k < 9223372036854775807) : IntKind.i64.wrap ((k : Int) + 1) = ((k + 1 : Nat) : Int) := by rw [wrapI64_of (by omega) (by omega)]; rfl
theorem chW (s : ByteArray) (i : Nat) : IntKind.i64.wrap (((s.data.toList.getD ((i : Nat) : Int).toNat 0).toNat : Nat) : Int) = ch s i := by
  have := ch_rng s i
  unfold ch at *
  rw [Int.toNat_natCast, wrapI64_of (by omega) (by omega)]
theorem dgStart (c : Int) : (if dg c < ((0 : Nat) : Int) then dg c else -1) = -1 := by
  have := dg_rng c
  split <;> omega
theorem tblW {c : Int} (hc : 0 ≤ c ∧ c ≤ 255) {k : Nat} (hk : k < 16) : ((IntKind.i64.wrap ((((⟨#[48, 49, 50, 51, 52, 53, 54, 55, 56, 57, 97, 98, 99, 100, 101, 102]⟩ : ByteArray).data.toList.getD (k : Int).toNat 0).toNat : Nat) : Int) == c) = true → dg c = k) ∧ ((IntKind.i64.wrap ((((⟨#[48, 49, 50, 51, 52, 53, 54, 55, 56, 57, 97, 98, 99, 100, 101, 102]⟩ : ByteArray).data.toList.getD (k : Int).toNat 0).toNat : Nat) : Int) == c) = false → dg c ≠ k) := by
  have key : IntKind.i64.wrap ((((⟨#[48, 49, 50, 51, 52, 53, 54, 55, 56, 57, 97, 98, 99, 100, 101, 102]⟩ : ByteArray).data.toList.getD (k : Int).toNat 0).toNat : Nat) : Int) = if k < 10 then (k : Int) + 48 else (k : Int) + 87 := by
    rcases (by omega : k = 0 ∨ k = 1 ∨ k = 2 ∨ k = 3 ∨ k = 4 ∨ k = 5 ∨ k = 6 ∨ k = 7 ∨ k = 8 ∨ k = 9 ∨ k = 10 ∨ k = 11 ∨ k = 12 ∨ k = 13 ∨ k = 14 ∨ k = 15) with h | h | h | h | h | h | h | h | h | h | h | h | h | h | h | h <;> subst h <;> decide +kernel
  rw [key]
  unfold dg
  constructor
  · intro h
    rw [beq_iff_eq] at h
    split at h <;> (split <;> (try split) <;> omega)
  · intro h
    rw [beq_eq_false_iff_ne] at h
    split at h <;> (split <;> (try split) <;> omega)
theorem idxT {k : Nat} (hk : k < 16) : 0 ≤ ((k : Nat) : Int) ∧ ((k : Nat) : Int) < ((⟨#[48, 49, 50, 51, 52, 53, 54, 55, 56, 57, 97, 98, 99, 100, 101, 102]⟩ : ByteArray).size : Int) := by
  rw [show (⟨#[48, 49, 50, 51, 52, 53, 54, 55, 56, 57, 97, 98, 99, 100, 101, 102]⟩ : ByteArray).size = 16 from rfl]; omega
theorem rawD {s : ByteArray} {n : Nat} (hg : good s n) (h : 0 ≤ Ed s n) : IntKind.u8.wrap (IntKind.u8.wrap (16 * cellAt s n (n / 2)) + IntKind.u8.wrap (Ed s n)) = cellAt s (n + 1) (n / 2) := by
  have h1 := cellAt_half hg
  have h2 : Ed s n ≤ 15 := (dg_rng _).2
  rw [← cellAt_next hg, wrapU8_of (n := Ed s n) h (by omega), wrapU8_of (n := 16 * cellAt s n (n / 2)) (by omega) (by omega), wrapU8_of (by omega) (by omega)]
theorem parse29 (s : ByteArray) (hs : s.size ≤ 140737488351233) : callW EP1 3 29 [.str s] [] (fun d _ => d = parseV s) (fun _ _ => False) := by
  conv => whnf
  refine loopA okP1 [0, 2, 5, 6, 7] (fun i : Nat => mkF 75 0 [(0, .str s), (2, .ptr 0 0), (5, .ptr 1 0), (6, .int .i64 (nd i : Nat)), (7, .int .i64 (i : Nat))]) (fun i => [some (.box zer), some (.box (cellsS s (nd i)))])
    (fun i => i ≤ 14 ∧ fb s 14 0 = fb s (14 - i) i ∧ good s (nd i) ∧ i ≤ s.size) (fun i => 14 - i) 0 rfl rfl ⟨by omega, rfl, fun m hm => by simp [nd] at hm, by omega⟩ ?_
  rintro i ⟨hi, hfb, hg, hsz⟩
  rcases (by omega : (14 ≤ i ∨ s.size ≤ i) ∨ (i < 14 ∧ i < s.size)) with h14 | ⟨h14, hlt⟩
  · rcases Nat.lt_or_ge i s.size with hb | hb
    · have hi14 : i = 14 := by omega
      subst hi14
      conv => whnf
      rw [decide_eq_true (by omega)]
      conv => whnf
      rw [decide_eq_false (by omega)]
      conv => whnf
      rw [decide_eq_true (by omega)]
      conv => whnf
      repeat (refine And.intro trivial ?_; conv => whnf)
      unfold parseV
      rw [hfb, show fb s (14 - 14) 14 = some 14 by show fb s 0 14 = _; unfold fb; rw [if_pos (by omega)]]
      rfl
    · have hi2 : i = s.size := by omega
      conv => whnf
      rw [decide_eq_false (by omega)]
      conv => whnf
      rcases Nat.lt_or_ge s.size 14 with hc | hc
      · rw [decide_eq_true (by omega)]
        conv => whnf
        repeat (refine And.intro trivial ?_; conv => whnf)
        rw [show 14 - i = (13 - i) + 1 by omega] at hfb
        rw [parse_fail hfb (bad_end hi2), hi2]
        rfl
      · rw [decide_eq_false (by omega)]
        conv => whnf
        rw [decide_eq_false (by omega)]
        conv => whnf
        repeat (refine And.intro trivial ?_; conv => whnf)
        have hi14 : i = 14 := by omega
        subst hi14
        unfold parseV
        rw [hfb, show fb s (14 - 14) 14 = none by show fb s 0 14 = _; unfold fb; rw [if_neg (by omega)]]
        rfl
  · rcases (by omega : i = 0 ∨ i = 1 ∨ i = 2 ∨ i = 3 ∨ i = 4 ∨ i = 5 ∨ i = 6 ∨ i = 7 ∨ i = 8 ∨ i = 9 ∨ i = 10 ∨ i = 11 ∨ i = 12 ∨ i = 13) with h | h | h | h | h | h | h | h | h | h | h | h | h | h
    · subst h
      have hc := chW s 0
      conv => whnf
      rw [decide_eq_true (by omega)]
      conv => whnf
      repeat first
        | (refine And.intro (by first | exact trivial | decide | omega) ?_; conv => whnf)
      rw [hc]
      refine loopA okP1 [0, 2, 5, 6, 7, 8, 10, 37] (fun x : Nat × Int => mkF 75 0 [(0, .str s), (2, .ptr 0 0), (5, .ptr 1 0), (6, .int .i64 (0 : Nat)), (7, .int .i64 (0 : Nat)), (8, .int .i64 (ch s 0)), (10, .int .i64 x.2), (37, .int .i64 (x.1 : Nat))]) (fun _ => [some (.box zer), some (.box (cellsS s 0))])
        (fun x => x.1 ≤ 16 ∧ x.2 = if dg (ch s 0) < (x.1 : Int) then dg (ch s 0) else -1) (fun x => 16 - x.1) (0, -1) rfl rfl ⟨by omega, (dgStart _).symm⟩ ?_
      rintro ⟨k, dd⟩ ⟨hk, hdd⟩
      simp only at hk hdd
      conv => whnf
      split
      · rename_i hq2
        simp only [decide_eq_true_eq] at hq2
        have hk2 : k < 16 := by omega
        have ht := tblW (ch_rng s 0) hk2
        conv => whnf
        refine And.intro (idxT hk2) ?_
        conv => whnf
        split
        · rename_i hq
          have he := ht.1 hq
          conv => whnf
          refine ⟨(k + 1, (k : Int)), by rw [w1i (by omega)]; rfl, rfl, ⟨by simp only; omega, by simp only; rw [if_pos (by omega)]; omega⟩, by simp only; omega⟩
        · rename_i hq
          have he := ht.2 hq
          conv => whnf
          refine ⟨(k + 1, dd), by rw [w1i (by omega)]; rfl, rfl, ⟨by simp only; omega, by simp only; rw [hdd]; split <;> split <;> omega⟩, by simp only; omega⟩
      rename_i hq2
      simp only [decide_eq_false_iff_not] at hq2
      have hk2 : k = 16 := by omega
      subst hk2
      have hdd2 : dd = dg (ch s 0) := by have := dg_rng (ch s 0); rw [if_pos (by omega)] at hdd; exact hdd
      subst hdd2
      conv => whnf
      split
      · rename_i hq
        conv => whnf
        repeat (refine And.intro trivial ?_; conv => whnf)
        exact (parse_fail (i := 0) (k := 13) hfb (bad_dig rfl hq)).symm
      · rename_i hq
        have hq2 : 0 ≤ Ed s 0 := by simp only [decide_eq_false_iff_not] at hq; exact Int.not_lt.1 hq
        have hr := rawD hg hq2
        conv => whnf
        repeat first
          | (refine And.intro (by first | exact trivial | decide | omega) ?_; conv => whnf)
        refine ⟨1, rfl, ?_, ⟨by omega, hfb.trans (fb_ok (ok_dig hlt rfl hq)), good_next hg hq2, by omega⟩, by omega⟩
        exact congrArg (fun v => [some (Ob.box zer), some (Ob.box (putL (cellsS s 0) 0 [V.int .u8 v]))]) hr
    · subst h
      have hc := chW s 1
      conv => whnf
      rw [decide_eq_true (by omega)]
      conv => whnf
      repeat first
        | (refine And.intro (by first | exact trivial | decide | omega) ?_; conv => whnf)
      rw [hc]
      refine loopA okP1 [0, 2, 5, 6, 7, 8, 10, 37] (fun x : Nat × Int => mkF 75 0 [(0, .str s), (2, .ptr 0 0), (5, .ptr 1 0), (6, .int .i64 (1 : Nat)), (7, .int .i64 (1 : Nat)), (8, .int .i64 (ch s 1)), (10, .int .i64 x.2), (37, .int .i64 (x.1 : Nat))]) (fun _ => [some (.box zer), some (.box (cellsS s 1))])
        (fun x => x.1 ≤ 16 ∧ x.2 = if dg (ch s 1) < (x.1 : Int) then dg (ch s 1) else -1) (fun x => 16 - x.1) (0, -1) rfl rfl ⟨by omega, (dgStart _).symm⟩ ?_
      rintro ⟨k, dd⟩ ⟨hk, hdd⟩
      simp only at hk hdd
      conv => whnf
      split
      · rename_i hq2
        simp only [decide_eq_true_eq] at hq2
        have hk2 : k < 16 := by omega
        have ht := tblW (ch_rng s 1) hk2
        conv => whnf
        refine And.intro (idxT hk2) ?_
        conv => whnf
        split
        · rename_i hq
          have he := ht.1 hq
          conv => whnf
          refine ⟨(k + 1, (k : Int)), by rw [w1i (by omega)]; rfl, rfl, ⟨by simp only; omega, by simp only; rw [if_pos (by omega)]; omega⟩, by simp only; omega⟩
        · rename_i hq
          have he := ht.2 hq
          conv => whnf
          refine ⟨(k + 1, dd), by rw [w1i (by omega)]; rfl, rfl, ⟨by simp only; omega, by simp only; rw [hdd]; split <;> split <;> omega⟩, by simp only; omega⟩
      rename_i hq2
      simp only [decide_eq_false_iff_not] at hq2
      have hk2 : k = 16 := by omega
      subst hk2
      have hdd2 : dd = dg (ch s 1) := by have := dg_rng (ch s 1); rw [if_pos (by omega)] at hdd; exact hdd
      subst hdd2
      conv => whnf
      split
      · rename_i hq
        conv => whnf
        repeat (refine And.intro trivial ?_; conv => whnf)
        exact (parse_fail (i := 1) (k := 12) hfb (bad_dig rfl hq)).symm
      · rename_i hq
        have hq2 : 0 ≤ Ed s 1 := by simp only [decide_eq_false_iff_not] at hq; exact Int.not_lt.1 hq
        have hr := rawD hg hq2
        conv => whnf
        repeat first
          | (refine And.intro (by first | exact trivial | decide | omega) ?_; conv => whnf)
        refine ⟨2, rfl, ?_, ⟨by omega, hfb.trans (fb_ok (ok_dig hlt rfl hq)), good_next hg hq2, by omega⟩, by omega⟩
        exact congrArg (fun v => [some (Ob.box zer), some (Ob.box (putL (cellsS s 1) 0 [V.int .u8 v]))]) hr
    · subst h
      have hc := chW s 2
      conv => whnf
      rw [decide_eq_true (by omega)]
      conv => whnf
      repeat first
        | (refine And.intro (by first | exact trivial | decide | omega) ?_; conv => whnf)
      rw [hc]
      refine loopA okP1 [0, 2, 5, 6, 7, 8, 10, 37] (fun x : Nat × Int => mkF 75 0 [(0, .str s), (2, .ptr 0 0), (5, .ptr 1 0), (6, .int .i64 (2 : Nat)), (7, .int .i64 (2 : Nat)), (8, .int .i64 (ch s 2)), (10, .int .i64 x.2), (37, .int .i64 (x.1 : Nat))]) (fun _ => [some (.box zer), some (.box (cellsS s 2))])
        (fun x => x.1 ≤ 16 ∧ x.2 = if dg (ch s 2) < (x.1 : Int) then dg (ch s 2) else -1) (fun x => 16 - x.1) (0, -1) rfl rfl ⟨by omega, (dgStart _).symm⟩ ?_
      rintro ⟨k, dd⟩ ⟨hk, hdd⟩
      simp only at hk hdd
      conv => whnf
      split
      · rename_i hq2
        simp only [decide_eq_true_eq] at hq2
        have hk2 : k < 16 := by omega
        have ht := tblW (ch_rng s 2) hk2
        conv => whnf
        refine And.intro (idxT hk2) ?_
        conv => whnf
        split
        · rename_i hq
          have he := ht.1 hq
          conv => whnf
          refine ⟨(k + 1, (k : Int)), by rw [w1i (by omega)]; rfl, rfl, ⟨by simp only; omega, by simp only; rw [if_pos (by omega)]; omega⟩, by simp only; omega⟩
        · rename_i hq
          have he := ht.2 hq
          conv => whnf
          refine ⟨(k + 1, dd), by rw [w1i (by omega)]; rfl, rfl, ⟨by simp only; omega, by simp only; rw [hdd]; split <;> split <;> omega⟩, by simp only; omega⟩
      rename_i hq2
      simp only [decide_eq_false_iff_not] at hq2
      have hk2 : k = 16 := by omega
      subst hk2
      have hdd2 : dd = dg (ch s 2) := by have := dg_rng (ch s 2); rw [if_pos (by omega)] at hdd; exact hdd
      subst hdd2
      conv => whnf
      split
      · rename_i hq
        conv => whnf
        repeat (refine And.intro trivial ?_; conv => whnf)
        exact (parse_fail (i := 2) (k := 11) hfb (bad_dig rfl hq)).symm
      · rename_i hq
        have hq2 : 0 ≤ Ed s 2 := by simp only [decide_eq_false_iff_not] at hq; exact Int.not_lt.1 hq
        have hr := rawD hg hq2
        conv => whnf
        repeat first
          | (refine And.intro (by first | exact trivial | decide | omega) ?_; conv => whnf)
        refine ⟨3, rfl, ?_, ⟨by omega, hfb.trans (fb_ok (ok_dig hlt rfl hq)), good_next hg hq2, by omega⟩, by omega⟩
        exact congrArg (fun v => [some (Ob.box zer), some (Ob.box (putL (cellsS s 2) 1 [V.int .u8 v]))]) hr
    · subst h
      have hc := chW s 3
      conv => whnf
      rw [decide_eq_true (by omega)]
      conv => whnf
      repeat first
        | (refine And.intro (by first | exact trivial | decide | omega) ?_; conv => whnf)
      rw [hc]
      refine loopA okP1 [0, 2, 5, 6, 7, 8, 10, 37] (fun x : Nat × Int => mkF 75 0 [(0, .str s), (2, .ptr 0 0), (5, .ptr 1 0), (6, .int .i64 (3 : Nat)), (7, .int .i64 (3 : Nat)), (8, .int .i64 (ch s 3)), (10, .int .i64 x.2), (37, .int .i64 (x.1 : Nat))]) (fun _ => [some (.box zer), some (.box (cellsS s 3))])
        (fun x => x.1 ≤ 16 ∧ x.2 = if dg (ch s 3) < (x.1 : Int) then dg (ch s 3) else -1) (fun x => 16 - x.1) (0, -1) rfl rfl ⟨by omega, (dgStart _).symm⟩ ?_
      rintro ⟨k, dd⟩ ⟨hk, hdd⟩
      simp only at hk hdd
      conv => whnf
      split
      · rename_i hq2
        simp only [decide_eq_true_eq] at hq2
        have hk2 : k < 16 := by omega
        have ht := tblW (ch_rng s 3) hk2
        conv => whnf
        refine And.intro (idxT hk2) ?_
        conv => whnf
        split
        · rename_i hq
          have he := ht.1 hq
          conv => whnf
          refine ⟨(k + 1, (k : Int)), by rw [w1i (by omega)]; rfl, rfl, ⟨by simp only; omega, by simp only; rw [if_pos (by omega)]; omega⟩, by simp only; omega⟩
        · rename_i hq
          have he := ht.2 hq
          conv => whnf
          refine ⟨(k + 1, dd), by rw [w1i (by omega)]; rfl, rfl, ⟨by simp only; omega, by simp only; rw [hdd]; split <;> split <;> omega⟩, by simp only; omega⟩
      rename_i hq2
      simp only [decide_eq_false_iff_not] at hq2
      have hk2 : k = 16 := by omega
      subst hk2
      have hdd2 : dd = dg (ch s 3) := by have := dg_rng (ch s 3); rw [if_pos (by omega)] at hdd; exact hdd
      subst hdd2
      conv => whnf
      split
      · rename_i hq
        conv => whnf
        repeat (refine And.intro trivial ?_; conv => whnf)
        exact (parse_fail (i := 3) (k := 10) hfb (bad_dig rfl hq)).symm
      · rename_i hq
        have hq2 : 0 ≤ Ed s 3 := by simp only [decide_eq_false_iff_not] at hq; exact Int.not_lt.1 hq
        have hr := rawD hg hq2
        conv => whnf
        repeat first
          | (refine And.intro (by first | exact trivial | decide | omega) ?_; conv => whnf)
        refine ⟨4, rfl, ?_, ⟨by omega, hfb.trans (fb_ok (ok_dig hlt rfl hq)), good_next hg hq2, by omega⟩, by omega⟩
        exact congrArg (fun v => [some (Ob.box zer), some (Ob.box (putL (cellsS s 3) 1 [V.int .u8 v]))]) hr
    · subst h
      have hc := chW s 4
      conv => whnf
      rw [decide_eq_true (by omega)]
      conv => whnf
      repeat first
        | (refine And.intro (by first | exact trivial | decide | omega) ?_; conv => whnf)
      rw [hc]
      split
      · rename_i hq
        conv => whnf
        repeat (refine And.intro trivial ?_; conv => whnf)
        exact (parse_fail (i := 4) (k := 9) hfb (bad_dot rfl hq)).symm
      · rename_i hq
        conv => whnf
        exact ⟨5, rfl, rfl, ⟨by omega, hfb.trans (fb_ok (ok_dot hlt rfl hq)), hg, by omega⟩, by omega⟩
    · subst h
      have hc := chW s 5
      conv => whnf
      rw [decide_eq_true (by omega)]
      conv => whnf
      repeat first
        | (refine And.intro (by first | exact trivial | decide | omega) ?_; conv => whnf)
      rw [hc]
      refine loopA okP1 [0, 2, 5, 6, 7, 8, 10, 37] (fun x : Nat × Int => mkF 75 0 [(0, .str s), (2, .ptr 0 0), (5, .ptr 1 0), (6, .int .i64 (4 : Nat)), (7, .int .i64 (5 : Nat)), (8, .int .i64 (ch s 5)), (10, .int .i64 x.2), (37, .int .i64 (x.1 : Nat))]) (fun _ => [some (.box zer), some (.box (cellsS s 4))])
        (fun x => x.1 ≤ 16 ∧ x.2 = if dg (ch s 5) < (x.1 : Int) then dg (ch s 5) else -1) (fun x => 16 - x.1) (0, -1) rfl rfl ⟨by omega, (dgStart _).symm⟩ ?_
      rintro ⟨k, dd⟩ ⟨hk, hdd⟩
      simp only at hk hdd
      conv => whnf
      split
      · rename_i hq2
        simp only [decide_eq_true_eq] at hq2
        have hk2 : k < 16 := by omega
        have ht := tblW (ch_rng s 5) hk2
        conv => whnf
        refine And.intro (idxT hk2) ?_
        conv => whnf
        split
        · rename_i hq
          have he := ht.1 hq
          conv => whnf
          refine ⟨(k + 1, (k : Int)), by rw [w1i (by omega)]; rfl, rfl, ⟨by simp only; omega, by simp only; rw [if_pos (by omega)]; omega⟩, by simp only; omega⟩
        · rename_i hq
          have he := ht.2 hq
          conv => whnf
          refine ⟨(k + 1, dd), by rw [w1i (by omega)]; rfl, rfl, ⟨by simp only; omega, by simp only; rw [hdd]; split <;> split <;> omega⟩, by simp only; omega⟩
      rename_i hq2
      simp only [decide_eq_false_iff_not] at hq2
      have hk2 : k = 16 := by omega
      subst hk2
      have hdd2 : dd = dg (ch s 5) := by have := dg_rng (ch s 5); rw [if_pos (by omega)] at hdd; exact hdd
      subst hdd2
      conv => whnf
      split
      · rename_i hq
        conv => whnf
        repeat (refine And.intro trivial ?_; conv => whnf)
        exact (parse_fail (i := 5) (k := 8) hfb (bad_dig rfl hq)).symm
      · rename_i hq
        have hq2 : 0 ≤ Ed s 4 := by simp only [decide_eq_false_iff_not] at hq; exact Int.not_lt.1 hq
        have hr := rawD hg hq2
        conv => whnf
        repeat first
          | (refine And.intro (by first | exact trivial | decide | omega) ?_; conv => whnf)
        refine ⟨6, rfl, ?_, ⟨by omega, hfb.trans (fb_ok (ok_dig hlt rfl hq)), good_next hg hq2, by omega⟩, by omega⟩
        exact congrArg (fun v => [some (Ob.box zer), some (Ob.box (putL (cellsS s 4) 2 [V.int .u8 v]))]) hr
    · subst h
      have hc := chW s 6
      conv => whnf
      rw [decide_eq_true (by omega)]
      conv => whnf
      repeat first
        | (refine And.intro (by first | exact trivial | decide | omega) ?_; conv => whnf)
      rw [hc]
      refine loopA okP1 [0, 2, 5, 6, 7, 8, 10, 37] (fun x : Nat × Int => mkF 75 0 [(0, .str s), (2, .ptr 0 0), (5, .ptr 1 0), (6, .int .i64 (5 : Nat)), (7, .int .i64 (6 : Nat)), (8, .int .i64 (ch s 6)), (10, .int .i64 x.2), (37, .int .i64 (x.1 : Nat))]) (fun _ => [some (.box zer), some (.box (cellsS s 5))])
        (fun x => x.1 ≤ 16 ∧ x.2 = if dg (ch s 6) < (x.1 : Int) then dg (ch s 6) else -1) (fun x => 16 - x.1) (0, -1) rfl rfl ⟨by omega, (dgStart _).symm⟩ ?_
      rintro ⟨k, dd⟩ ⟨hk, hdd⟩
      simp only at hk hdd
      conv => whnf
      split
      · rename_i hq2
        simp only [decide_eq_true_eq] at hq2
        have hk2 : k < 16 := by omega
        have ht := tblW (ch_rng s 6) hk2
        conv => whnf
        refine And.intro (idxT hk2) ?_
        conv => whnf
        split
        · rename_i hq
          have he := ht.1 hq
          conv => whnf
          refine ⟨(k + 1, (k : Int)), by rw [w1i (by omega)]; rfl, rfl, ⟨by simp only; omega, by simp only; rw [if_pos (by omega)]; omega⟩, by simp only; omega⟩
        · rename_i hq
          have he := ht.2 hq
          conv => whnf
          refine ⟨(k + 1, dd), by rw [w1i (by omega)]; rfl, rfl, ⟨by simp only; omega, by simp only; rw [hdd]; split <;> split <;> omega⟩, by simp only; omega⟩
      rename_i hq2
      simp only [decide_eq_false_iff_not] at hq2
      have hk2 : k = 16 := by omega
      subst hk2
      have hdd2 : dd = dg (ch s 6) := by have := dg_rng (ch s 6); rw [if_pos (by omega)] at hdd; exact hdd
      subst hdd2
      conv => whnf
      split
      · rename_i hq
        conv => whnf
        repeat (refine And.intro trivial ?_; conv => whnf)
        exact (parse_fail (i := 6) (k := 7) hfb (bad_dig rfl hq)).symm
      · rename_i hq
        have hq2 : 0 ≤ Ed s 5 := by simp only [decide_eq_false_iff_not] at hq; exact Int.not_lt.1 hq
        have hr := rawD hg hq2
        conv => whnf
        repeat first
          | (refine And.intro (by first | exact trivial | decide | omega) ?_; conv => whnf)
        refine ⟨7, rfl, ?_, ⟨by omega, hfb.trans (fb_ok (ok_dig hlt rfl hq)), good_next hg hq2, by omega⟩, by omega⟩
        exact congrArg (fun v => [some (Ob.box zer), some (Ob.box (putL (cellsS s 5) 2 [V.int .u8 v]))]) hr
    · subst h
      have hc := chW s 7
      conv => whnf
      rw [decide_eq_true (by omega)]
      conv => whnf
      repeat first
        | (refine And.intro (by first | exact trivial | decide | omega) ?_; conv => whnf)
      rw [hc]
      refine loopA okP1 [0, 2, 5, 6, 7, 8, 10, 37] (fun x : Nat × Int => mkF 75 0 [(0, .str s), (2, .ptr 0 0), (5, .ptr 1 0), (6, .int .i64 (6 : Nat)), (7, .int .i64 (7 : Nat)), (8, .int .i64 (ch s 7)), (10, .int .i64 x.2), (37, .int .i64 (x.1 : Nat))]) (fun _ => [some (.box zer), some (.box (cellsS s 6))])
        (fun x => x.1 ≤ 16 ∧ x.2 = if dg (ch s 7) < (x.1 : Int) then dg (ch s 7) else -1) (fun x => 16 - x.1) (0, -1) rfl rfl ⟨by omega, (dgStart _).symm⟩ ?_
      rintro ⟨k, dd⟩ ⟨hk, hdd⟩
      simp only at hk hdd
      conv => whnf
      split
      · rename_i hq2
        simp only [decide_eq_true_eq] at hq2
        have hk2 : k < 16 := by omega
        have ht := tblW (ch_rng s 7) hk2
        conv => whnf
        refine And.intro (idxT hk2) ?_
        conv => whnf
        split
        · rename_i hq
          have he := ht.1 hq
          conv => whnf
          refine ⟨(k + 1, (k : Int)), by rw [w1i (by omega)]; rfl, rfl, ⟨by simp only; omega, by simp only; rw [if_pos (by omega)]; omega⟩, by simp only; omega⟩
        · rename_i hq
          have he := ht.2 hq
          conv => whnf
          refine ⟨(k + 1, dd), by rw [w1i (by omega)]; rfl, rfl, ⟨by simp only; omega, by simp only; rw [hdd]; split <;> split <;> omega⟩, by simp only; omega⟩
      rename_i hq2
      simp only [decide_eq_false_iff_not] at hq2
      have hk2 : k = 16 := by omega
      subst hk2
      have hdd2 : dd = dg (ch s 7) := by have := dg_rng (ch s 7); rw [if_pos (by omega)] at hdd; exact hdd
      subst hdd2
      conv => whnf
      split
      · rename_i hq
        conv => whnf
        repeat (refine And.intro trivial ?_; conv => whnf)
        exact (parse_fail (i := 7) (k := 6) hfb (bad_dig rfl hq)).symm
      · rename_i hq
        have hq2 : 0 ≤ Ed s 6 := by simp only [decide_eq_false_iff_not] at hq; exact Int.not_lt.1 hq
        have hr := rawD hg hq2
        conv => whnf
        repeat first
          | (refine And.intro (by first | exact trivial | decide | omega) ?_; conv => whnf)
        refine ⟨8, rfl, ?_, ⟨by omega, hfb.trans (fb_ok (ok_dig hlt rfl hq)), good_next hg hq2, by omega⟩, by omega⟩
        exact congrArg (fun v => [some (Ob.box zer), some (Ob.box (putL (cellsS s 6) 3 [V.int .u8 v]))]) hr
    · subst h
      have hc := chW s 8
      conv => whnf
      rw [decide_eq_true (by omega)]
      conv => whnf
      repeat first
        | (refine And.intro (by first | exact trivial | decide | omega) ?_; conv => whnf)
      rw [hc]
      refine loopA okP1 [0, 2, 5, 6, 7, 8, 10, 37] (fun x : Nat × Int => mkF 75 0 [(0, .str s), (2, .ptr 0 0), (5, .ptr 1 0), (6, .int .i64 (7 : Nat)), (7, .int .i64 (8 : Nat)), (8, .int .i64 (ch s 8)), (10, .int .i64 x.2), (37, .int .i64 (x.1 : Nat))]) (fun _ => [some (.box zer), some (.box (cellsS s 7))])
        (fun x => x.1 ≤ 16 ∧ x.2 = if dg (ch s 8) < (x.1 : Int) then dg (ch s 8) else -1) (fun x => 16 - x.1) (0, -1) rfl rfl ⟨by omega, (dgStart _).symm⟩ ?_
      rintro ⟨k, dd⟩ ⟨hk, hdd⟩
      simp only at hk hdd
      conv => whnf
      split
      · rename_i hq2
        simp only [decide_eq_true_eq] at hq2
        have hk2 : k < 16 := by omega
        have ht := tblW (ch_rng s 8) hk2
        conv => whnf
        refine And.intro (idxT hk2) ?_
        conv => whnf
        split
        · rename_i hq
          have he := ht.1 hq
          conv => whnf
          refine ⟨(k + 1, (k : Int)), by rw [w1i (by omega)]; rfl, rfl, ⟨by simp only; omega, by simp only; rw [if_pos (by omega)]; omega⟩, by simp only; omega⟩
        · rename_i hq
          have he := ht.2 hq
          conv => whnf
          refine ⟨(k + 1, dd), by rw [w1i (by omega)]; rfl, rfl, ⟨by simp only; omega, by simp only; rw [hdd]; split <;> split <;> omega⟩, by simp only; omega⟩
      rename_i hq2
      simp only [decide_eq_false_iff_not] at hq2
      have hk2 : k = 16 := by omega
      subst hk2
      have hdd2 : dd = dg (ch s 8) := by have := dg_rng (ch s 8); rw [if_pos (by omega)] at hdd; exact hdd
      subst hdd2
      conv => whnf
      split
      · rename_i hq
        conv => whnf
        repeat (refine And.intro trivial ?_; conv => whnf)
        exact (parse_fail (i := 8) (k := 5) hfb (bad_dig rfl hq)).symm
      · rename_i hq
        have hq2 : 0 ≤ Ed s 7 := by simp only [decide_eq_false_iff_not] at hq; exact Int.not_lt.1 hq
        have hr := rawD hg hq2
        conv => whnf
        repeat first
          | (refine And.intro (by first | exact trivial | decide | omega) ?_; conv => whnf)
        refine ⟨9, rfl, ?_, ⟨by omega, hfb.trans (fb_ok (ok_dig hlt rfl hq)), good_next hg hq2, by omega⟩, by omega⟩
        exact congrArg (fun v => [some (Ob.box zer), some (Ob.box (putL (cellsS s 7) 3 [V.int .u8 v]))]) hr
    · subst h
      have hc := chW s 9
      conv => whnf
      rw [decide_eq_true (by omega)]
      conv => whnf
      repeat first
        | (refine And.intro (by first | exact trivial | decide | omega) ?_; conv => whnf)
      rw [hc]
      split
      · rename_i hq
        conv => whnf
        repeat (refine And.intro trivial ?_; conv => whnf)
        exact (parse_fail (i := 9) (k := 4) hfb (bad_dot rfl hq)).symm
      · rename_i hq
        conv => whnf
        exact ⟨10, rfl, rfl, ⟨by omega, hfb.trans (fb_ok (ok_dot hlt rfl hq)), hg, by omega⟩, by omega⟩
    · subst h
      have hc := chW s 10
      conv => whnf
      rw [decide_eq_true (by omega)]
      conv => whnf
      repeat first
        | (refine And.intro (by first | exact trivial | decide | omega) ?_; conv => whnf)
      rw [hc]
      refine loopA okP1 [0, 2, 5, 6, 7, 8, 10, 37] (fun x : Nat × Int => mkF 75 0 [(0, .str s), (2, .ptr 0 0), (5, .ptr 1 0), (6, .int .i64 (8 : Nat)), (7, .int .i64 (10 : Nat)), (8, .int .i64 (ch s 10)), (10, .int .i64 x.2), (37, .int .i64 (x.1 : Nat))]) (fun _ => [some (.box zer), some (.box (cellsS s 8))])
        (fun x => x.1 ≤ 16 ∧ x.2 = if dg (ch s 10) < (x.1 : Int) then dg (ch s 10) else -1) (fun x => 16 - x.1) (0, -1) rfl rfl ⟨by omega, (dgStart _).symm⟩ ?_
      rintro ⟨k, dd⟩ ⟨hk, hdd⟩
      simp only at hk hdd
      conv => whnf
      split
      · rename_i hq2
        simp only [decide_eq_true_eq] at hq2
        have hk2 : k < 16 := by omega
        have ht := tblW (ch_rng s 10) hk2
        conv => whnf
        refine And.intro (idxT hk2) ?_
        conv => whnf
        split
        · rename_i hq
          have he := ht.1 hq
          conv => whnf
          refine ⟨(k + 1, (k : Int)), by rw [w1i (by omega)]; rfl, rfl, ⟨by simp only; omega, by simp only; rw [if_pos (by omega)]; omega⟩, by simp only; omega⟩
        · rename_i hq
          have he := ht.2 hq
          conv => whnf
          refine ⟨(k + 1, dd), by rw [w1i (by omega)]; rfl, rfl, ⟨by simp only; omega, by simp only; rw [hdd]; split <;> split <;> omega⟩, by simp only; omega⟩
      rename_i hq2
      simp only [decide_eq_false_iff_not] at hq2
      have hk2 : k = 16 := by omega
      subst hk2
      have hdd2 : dd = dg (ch s 10) := by have := dg_rng (ch s 10); rw [if_pos (by omega)] at hdd; exact hdd
      subst hdd2
      conv => whnf
      split
      · rename_i hq
        conv => whnf
        repeat (refine And.intro trivial ?_; conv => whnf)
        exact (parse_fail (i := 10) (k := 3) hfb (bad_dig rfl hq)).symm
      · rename_i hq
        have hq2 : 0 ≤ Ed s 8 := by simp only [decide_eq_false_iff_not] at hq; exact Int.not_lt.1 hq
        have hr := rawD hg hq2
        conv => whnf
        repeat first
          | (refine And.intro (by first | exact trivial | decide | omega) ?_; conv => whnf)
        refine ⟨11, rfl, ?_, ⟨by omega, hfb.trans (fb_ok (ok_dig hlt rfl hq)), good_next hg hq2, by omega⟩, by omega⟩
        exact congrArg (fun v => [some (Ob.box zer), some (Ob.box (putL (cellsS s 8) 4 [V.int .u8 v]))]) hr
    · subst h
      have hc := chW s 11
      conv => whnf
      rw [decide_eq_true (by omega)]
      conv => whnf
      repeat first
        | (refine And.intro (by first | exact trivial | decide | omega) ?_; conv => whnf)
      rw [hc]
      refine loopA okP1 [0, 2, 5, 6, 7, 8, 10, 37] (fun x : Nat × Int => mkF 75 0 [(0, .str s), (2, .ptr 0 0), (5, .ptr 1 0), (6, .int .i64 (9 : Nat)), (7, .int .i64 (11 : Nat)), (8, .int .i64 (ch s 11)), (10, .int .i64 x.2), (37, .int .i64 (x.1 : Nat))]) (fun _ => [some (.box zer), some (.box (cellsS s 9))])
        (fun x => x.1 ≤ 16 ∧ x.2 = if dg (ch s 11) < (x.1 : Int) then dg (ch s 11) else -1) (fun x => 16 - x.1) (0, -1) rfl rfl ⟨by omega, (dgStart _).symm⟩ ?_
      rintro ⟨k, dd⟩ ⟨hk, hdd⟩
      simp only at hk hdd
      conv => whnf
      split
      · rename_i hq2
        simp only [decide_eq_true_eq] at hq2
        have hk2 : k < 16 := by omega
        have ht := tblW (ch_rng s 11) hk2
        conv => whnf
        refine And.intro (idxT hk2) ?_
        conv => whnf
        split
        · rename_i hq
          have he := ht.1 hq
          conv => whnf
          refine ⟨(k + 1, (k : Int)), by rw [w1i (by omega)]; rfl, rfl, ⟨by simp only; omega, by simp only; rw [if_pos (by omega)]; omega⟩, by simp only; omega⟩
        · rename_i hq
          have he := ht.2 hq
          conv => whnf
          refine ⟨(k + 1, dd), by rw [w1i (by omega)]; rfl, rfl, ⟨by simp only; omega, by simp only; rw [hdd]; split <;> split <;> omega⟩, by simp only; omega⟩
      rename_i hq2
      simp only [decide_eq_false_iff_not] at hq2
      have hk2 : k = 16 := by omega
      subst hk2
      have hdd2 : dd = dg (ch s 11) := by have := dg_rng (ch s 11); rw [if_pos (by omega)] at hdd; exact hdd
      subst hdd2
      conv => whnf
      split
      · rename_i hq
        conv => whnf
        repeat (refine And.intro trivial ?_; conv => whnf)
        exact (parse_fail (i := 11) (k := 2) hfb (bad_dig rfl hq)).symm
      · rename_i hq
        have hq2 : 0 ≤ Ed s 9 := by simp only [decide_eq_false_iff_not] at hq; exact Int.not_lt.1 hq
        have hr := rawD hg hq2
        conv => whnf
        repeat first
          | (refine And.intro (by first | exact trivial | decide | omega) ?_; conv => whnf)
        refine ⟨12, rfl, ?_, ⟨by omega, hfb.trans (fb_ok (ok_dig hlt rfl hq)), good_next hg hq2, by omega⟩, by omega⟩
        exact congrArg (fun v => [some (Ob.box zer), some (Ob.box (putL (cellsS s 9) 4 [V.int .u8 v]))]) hr
    · subst h
      have hc := chW s 12
      conv => whnf
      rw [decide_eq_true (by omega)]
      conv => whnf
      repeat first
        | (refine And.intro (by first | exact trivial | decide | omega) ?_; conv => whnf)
      rw [hc]
      refine loopA okP1 [0, 2, 5, 6, 7, 8, 10, 37] (fun x : Nat × Int => mkF 75 0 [(0, .str s), (2, .ptr 0 0), (5, .ptr 1 0), (6, .int .i64 (10 : Nat)), (7, .int .i64 (12 : Nat)), (8, .int .i64 (ch s 12)), (10, .int .i64 x.2), (37, .int .i64 (x.1 : Nat))]) (fun _ => [some (.box zer), some (.box (cellsS s 10))])
        (fun x => x.1 ≤ 16 ∧ x.2 = if dg (ch s 12) < (x.1 : Int) then dg (ch s 12) else -1) (fun x => 16 - x.1) (0, -1) rfl rfl ⟨by omega, (dgStart _).symm⟩ ?_
      rintro ⟨k, dd⟩ ⟨hk, hdd⟩
      simp only at hk hdd
      conv => whnf
      split
      · rename_i hq2
        simp only [decide_eq_true_eq] at hq2
        have hk2 : k < 16 := by omega
        have ht := tblW (ch_rng s 12) hk2
        conv => whnf
        refine And.intro (idxT hk2) ?_
        conv => whnf
        split
        · rename_i hq
          have he := ht.1 hq
          conv => whnf
          refine ⟨(k + 1, (k : Int)), by rw [w1i (by omega)]; rfl, rfl, ⟨by simp only; omega, by simp only; rw [if_pos (by omega)]; omega⟩, by simp only; omega⟩
        · rename_i hq
          have he := ht.2 hq
          conv => whnf
          refine ⟨(k + 1, dd), by rw [w1i (by omega)]; rfl, rfl, ⟨by simp only; omega, by simp only; rw [hdd]; split <;> split <;> omega⟩, by simp only; omega⟩
      rename_i hq2
      simp only [decide_eq_false_iff_not] at hq2
      have hk2 : k = 16 := by omega
      subst hk2
      have hdd2 : dd = dg (ch s 12) := by have := dg_rng (ch s 12); rw [if_pos (by omega)] at hdd; exact hdd
      subst hdd2
      conv => whnf
      split
      · rename_i hq
        conv => whnf
        repeat (refine And.intro trivial ?_; conv => whnf)
        exact (parse_fail (i := 12) (k := 1) hfb (bad_dig rfl hq)).symm
      · rename_i hq
        have hq2 : 0 ≤ Ed s 10 := by simp only [decide_eq_false_iff_not] at hq; exact Int.not_lt.1 hq
        have hr := rawD hg hq2
        conv => whnf
        repeat first
          | (refine And.intro (by first | exact trivial | decide | omega) ?_; conv => whnf)
        refine ⟨13, rfl, ?_, ⟨by omega, hfb.trans (fb_ok (ok_dig hlt rfl hq)), good_next hg hq2, by omega⟩, by omega⟩
        exact congrArg (fun v => [some (Ob.box zer), some (Ob.box (putL (cellsS s 10) 5 [V.int .u8 v]))]) hr
    · subst h
      have hc := chW s 13
      conv => whnf
      rw [decide_eq_true (by omega)]
      conv => whnf
      repeat first
        | (refine And.intro (by first | exact trivial | decide | omega) ?_; conv => whnf)
      rw [hc]
      refine loopA okP1 [0, 2, 5, 6, 7, 8, 10, 37] (fun x : Nat × Int => mkF 75 0 [(0, .str s), (2, .ptr 0 0), (5, .ptr 1 0), (6, .int .i64 (11 : Nat)), (7, .int .i64 (13 : Nat)), (8, .int .i64 (ch s 13)), (10, .int .i64 x.2), (37, .int .i64 (x.1 : Nat))]) (fun _ => [some (.box zer), some (.box (cellsS s 11))])
        (fun x => x.1 ≤ 16 ∧ x.2 = if dg (ch s 13) < (x.1 : Int) then dg (ch s 13) else -1) (fun x => 16 - x.1) (0, -1) rfl rfl ⟨by omega, (dgStart _).symm⟩ ?_
      rintro ⟨k, dd⟩ ⟨hk, hdd⟩
      simp only at hk hdd
      conv => whnf
      split
      · rename_i hq2
        simp only [decide_eq_true_eq] at hq2
        have hk2 : k < 16 := by omega
        have ht := tblW (ch_rng s 13) hk2
        conv => whnf
        refine And.intro (idxT hk2) ?_
        conv => whnf
        split
        · rename_i hq
          have he := ht.1 hq
          conv => whnf
          refine ⟨(k + 1, (k : Int)), by rw [w1i (by omega)]; rfl, rfl, ⟨by simp only; omega, by simp only; rw [if_pos (by omega)]; omega⟩, by simp only; omega⟩
        · rename_i hq
          have he := ht.2 hq
          conv => whnf
          refine ⟨(k + 1, dd), by rw [w1i (by omega)]; rfl, rfl, ⟨by simp only; omega, by simp only; rw [hdd]; split <;> split <;> omega⟩, by simp only; omega⟩
      rename_i hq2
      simp only [decide_eq_false_iff_not] at hq2
      have hk2 : k = 16 := by omega
      subst hk2
      have hdd2 : dd = dg (ch s 13) := by have := dg_rng (ch s 13); rw [if_pos (by omega)] at hdd; exact hdd
      subst hdd2
      conv => whnf
      split
      · rename_i hq
        conv => whnf
        repeat (refine And.intro trivial ?_; conv => whnf)
        exact (parse_fail (i := 13) (k := 0) hfb (bad_dig rfl hq)).symm
      · rename_i hq
        have hq2 : 0 ≤ Ed s 11 := by simp only [decide_eq_false_iff_not] at hq; exact Int.not_lt.1 hq
        have hr := rawD hg hq2
        conv => whnf
        repeat first
          | (refine And.intro (by first | exact trivial | decide | omega) ?_; conv => whnf)
        refine ⟨14, rfl, ?_, ⟨by omega, hfb.trans (fb_ok (ok_dig hlt rfl hq)), good_next hg hq2, by omega⟩, by omega⟩
        exact congrArg (fun v => [some (Ob.box zer), some (Ob.box (putL (cellsS s 11) 5 [V.int .u8 v]))]) hr
end Go.Proofs.Ytldoaopkpoojfaa
