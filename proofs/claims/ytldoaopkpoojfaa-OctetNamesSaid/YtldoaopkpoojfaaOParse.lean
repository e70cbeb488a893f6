/- Names of routers: what is read out of a text, by the program and by the document's answer. -/
import Derived.Test.YtldoaopkpoojfaaONames
namespace Go.Proofs.Ytldoaopkpoojfaa
open Go.Ev
set_option linter.unusedVariables false
set_option linter.unusedSimpArgs false
set_option maxRecDepth 100000
set_option maxHeartbeats 1000000
def dg (c : Int) : Int := if 48 ≤ c ∧ c ≤ 57 then c - 48 else if 97 ≤ c ∧ c ≤ 102 then c - 87 else -1
theorem dg_rng (c : Int) : -1 ≤ dg c ∧ dg c ≤ 15 := by unfold dg; split <;> (try split) <;> omega
theorem digit38 (c : Int) (h1 : 0 ≤ c) (h2 : c ≤ 255) : callW E0 3 38 [.int .u8 c] [] (fun d _ => d = .int .i64 (dg c)) (fun _ _ => False) := by
  conv => whnf
  repeat' first
    | (split <;> (conv => whnf))
  all_goals (try simp only [decide_eq_true_eq, decide_eq_false_iff_not] at *)
  all_goals (refine congrArg (V.int .i64) ?_; unfold dg; try simp only [wrapU8, wrapI64])
  all_goals (split <;> (try split) <;> omega)
def spDigit : List V → V → Prop := fun us d => ∃ c : Int, us = [.int .u8 c] ∧ 0 ≤ c ∧ c ≤ 255 ∧ d = .int .i64 (dg c)
noncomputable def EP1 : Env := E0.add 38 (pcon spDigit) true
theorem okP1 : EnvOk Try.prog EP1 := ok0.pcon (fn := Try.f38) rfl (by kernel_rfl) 3 (fun us d ⟨c, _, _, _, e⟩ => by rw [e]; rfl) (fun us d ⟨c, h1, h2, h3, e⟩ => by rw [h1, e]; exact digit38 c h2 h3)
def ch (s : ByteArray) (i : Nat) : Int := ((s.data.toList.getD i 0).toNat : Int)
theorem ch_rng (s : ByteArray) (i : Nat) : 0 ≤ ch s i ∧ ch s i ≤ 255 := by
  have := UInt8.toNat_lt (s.data.toList.getD i 0)
  unfold ch; omega
def pos (m : Nat) : Nat := if m < 4 then m else if m < 8 then m + 1 else m + 2
def nd (i : Nat) : Nat := if i ≤ 4 then i else if i ≤ 9 then i - 1 else i - 2
def Ed (s : ByteArray) (m : Nat) : Int := dg (ch s (pos m))
def cellAt (s : ByteArray) (n j : Nat) : Int := if 2 * j + 1 < n then 16 * Ed s (2 * j) + Ed s (2 * j + 1) else if 2 * j < n then Ed s (2 * j) else 0
def cellsS (s : ByteArray) (n : Nat) : List V := [.int .u8 (cellAt s n 0), .int .u8 (cellAt s n 1), .int .u8 (cellAt s n 2), .int .u8 (cellAt s n 3), .int .u8 (cellAt s n 4), .int .u8 (cellAt s n 5)]
def dotB (i : Nat) : Bool := i == 4 || i == 9
def bad (s : ByteArray) (i : Nat) : Bool := decide (i = s.size) || (if dotB i then ch s i != 46 else decide (dg (ch s i) < 0))
def fb (s : ByteArray) : Nat → Nat → Option Nat
  | 0, i => if 14 < s.size then some 14 else none
  | k + 1, i => if bad s i then some i else fb s k (i + 1)
def zer : List V := [.int .u8 0, .int .u8 0, .int .u8 0, .int .u8 0, .int .u8 0, .int .u8 0]
def parseV (s : ByteArray) : V := match fb s 14 0 with
  | some i => .tup [.agg zer, .int .i64 (i : Nat), .int .i64 5]
  | none => .tup [.agg (cellsS s 12), .int .i64 0, .int .i64 0]
theorem fb_bad {s : ByteArray} {k i : Nat} (h : bad s i = true) : fb s (k + 1) i = some i := by simp [fb, h]
theorem fb_ok {s : ByteArray} {k i : Nat} (h : bad s i = false) : fb s (k + 1) i = fb s k (i + 1) := by simp [fb, h]
/-- the digits ahead of n are digits -/
def good (s : ByteArray) (n : Nat) : Prop := ∀ m, m < n → 0 ≤ Ed s m ∧ Ed s m ≤ 15
theorem cellAt_rng {s : ByteArray} {n : Nat} (h : good s n) (j : Nat) : 0 ≤ cellAt s n j ∧ cellAt s n j ≤ 255 := by
  unfold cellAt
  split
  · have := h (2 * j) (by omega); have := h (2 * j + 1) (by omega); omega
  · split
    · have := h (2 * j) (by omega); omega
    · omega
theorem cellAt_half {s : ByteArray} {n : Nat} (h : good s n) : 0 ≤ cellAt s n (n / 2) ∧ cellAt s n (n / 2) ≤ 15 := by
  unfold cellAt
  rw [if_neg (by omega)]
  split
  · exact h _ (by omega)
  · omega
theorem cellAt_next {s : ByteArray} {n : Nat} (h : good s n) : 16 * cellAt s n (n / 2) + Ed s n = cellAt s (n + 1) (n / 2) := by
  unfold cellAt
  rcases (by omega : n % 2 = 0 ∨ n % 2 = 1) with e | e
  · rw [if_neg (by omega), if_neg (by omega), if_neg (by omega), if_pos (by omega), show 2 * (n / 2) = n by omega]; omega
  · rw [if_neg (by omega), if_pos (by omega), if_pos (by omega), show 2 * (n / 2) + 1 = n by omega]
theorem shl4or (p d : Int) (h1 : 0 ≤ p) (h2 : p ≤ 15) (h3 : 0 ≤ d) (h4 : d ≤ 15) : bitsOf .or .u8 (shlI .u8 p 4) (IntKind.u8.wrap d) = 16 * p + d := by
  obtain ⟨p, rfl⟩ := Int.eq_ofNat_of_zero_le h1
  obtain ⟨d, rfl⟩ := Int.eq_ofNat_of_zero_le h3
  rw [wrapU8_of (by omega) (by omega)]
  have e1 : shlI .u8 (p : Int) 4 = ((16 * p : Nat) : Int) := by
    show IntKind.u8.wrap ((p : Int) * 2 ^ (min (4 : Int).toNat 8)) = _
    rw [show (2 : Int) ^ (min (4 : Int).toNat 8) = 16 by decide, wrapU8]
    omega
  rw [e1]
  show IntKind.u8.wrap ((BitVec.ofInt 8 ((16 * p : Nat) : Int) ||| BitVec.ofInt 8 (d : Int)).toNat : Int) = _
  have e3 : (BitVec.ofInt 8 ((16 * p : Nat) : Int) ||| BitVec.ofInt 8 (d : Int)).toNat = 16 * p + d := by
    rw [BitVec.toNat_or]
    have t1 : (BitVec.ofInt 8 ((16 * p : Nat) : Int)).toNat = 16 * p := by rw [BitVec.toNat_ofInt]; omega
    have t2 : (BitVec.ofInt 8 (d : Int)).toNat = d := by rw [BitVec.toNat_ofInt]; omega
    rw [t1, t2]
    exact (Nat.two_pow_add_eq_or_of_lt (i := 4) (by omega) p).symm
  rw [e3, wrapU8]
  omega
theorem good_next {s : ByteArray} {n : Nat} (h : good s n) (hn : 0 ≤ Ed s n) : good s (n + 1) := fun m hm => by
  rcases (by omega : m < n ∨ m = n) with e | e
  · exact h m e
  · subst e; exact ⟨hn, (dg_rng _).2⟩
theorem parse_fail {s : ByteArray} {k i : Nat} (h : fb s 14 0 = fb s (k + 1) i) (hb : bad s i = true) : parseV s = .tup [.agg zer, .int .i64 (i : Nat), .int .i64 5] := by
  unfold parseV
  rw [h, fb_bad hb]
theorem bad_end {s : ByteArray} {i : Nat} (h : i = s.size) : bad s i = true := by simp [bad, h]
theorem bad_dot {s : ByteArray} {i : Nat} (hd : dotB i = true) (h : (ch s i != 46) = true) : bad s i = true := by simp only [bad, hd, if_true, h, Bool.or_true]
theorem bad_dig {s : ByteArray} {i : Nat} (hd : dotB i = false) (h : decide (dg (ch s i) < 0) = true) : bad s i = true := by simp only [bad, hd, h, Bool.or_true]; simp
theorem ok_dot {s : ByteArray} {i : Nat} (hl : i < s.size) (hd : dotB i = true) (h : (ch s i != 46) = false) : bad s i = false := by
  have : decide (i = s.size) = false := decide_eq_false (by omega)
  simp only [bad, this, hd, h, Bool.false_or, if_true]
theorem ok_dig {s : ByteArray} {i : Nat} (hl : i < s.size) (hd : dotB i = false) (h : decide (dg (ch s i) < 0) = false) : bad s i = false := by
  have : decide (i = s.size) = false := decide_eq_false (by omega)
  simp only [bad, this, hd, h, Bool.false_or]; simp
theorem rawP {s : ByteArray} {n : Nat} (hg : good s n) (h : 0 ≤ Ed s n) : bitsOf .or .u8 (shlI .u8 (cellAt s n (n / 2)) 4) (IntKind.u8.wrap (Ed s n)) = cellAt s (n + 1) (n / 2) := by
  have h1 := cellAt_half hg
  rw [shl4or _ _ h1.1 h1.2 h (dg_rng _).2, cellAt_next hg]
theorem parse28 (s : ByteArray) (hs : s.size ≤ 140737488351233) : callW EP1 3 28 [.str s] [] (fun d _ => d = parseV s) (fun _ _ => False) := by
  conv => whnf
  refine loopA okP1 [0, 2, 5, 6, 9] (fun i : Nat => mkF 57 0 [(0, .str s), (2, .ptr 0 0), (5, .ptr 1 0), (6, .int .i64 (nd i : Nat)), (9, .int .i64 (i : Nat))]) (fun i => [some (.box zer), some (.box (cellsS s (nd i)))])
    (fun i => i ≤ 14 ∧ fb s 14 0 = fb s (14 - i) i ∧ good s (nd i) ∧ i ≤ s.size) (fun i => 14 - i) 0 rfl rfl ⟨by omega, rfl, fun m hm => by simp [nd] at hm, by omega⟩ ?_
  rintro i ⟨hi, hfb, hg, hsz⟩
  rcases (by omega : i = 14 ∨ i < 14) with h14 | h14
  · subst h14
    conv => whnf
    split
    · rename_i hq
      simp only [decide_eq_true_eq] at hq
      conv => whnf
      unfold parseV
      rw [hfb, show fb s (14 - 14) 14 = some 14 by show fb s 0 14 = _; unfold fb; rw [if_pos (by omega)]]
      repeat (refine And.intro trivial ?_; conv => whnf)
      rfl
    · rename_i hq
      simp only [decide_eq_false_iff_not] at hq
      conv => whnf
      unfold parseV
      rw [hfb, show fb s (14 - 14) 14 = none by show fb s 0 14 = _; unfold fb; rw [if_neg (by omega)]]
      repeat (refine And.intro trivial ?_; conv => whnf)
      rfl
  · rcases (by omega : i = 0 ∨ i = 1 ∨ i = 2 ∨ i = 3 ∨ i = 4 ∨ i = 5 ∨ i = 6 ∨ i = 7 ∨ i = 8 ∨ i = 9 ∨ i = 10 ∨ i = 11 ∨ i = 12 ∨ i = 13) with h | h | h | h | h | h | h | h | h | h | h | h | h | h
    · subst h
      conv => whnf
      rcases Nat.lt_or_ge 0 s.size with hlt | hge
      rotate_left
      · rw [show (((0 : Nat) : Int) == (s.size : Int)) = true by rw [beq_iff_eq]; omega]
        conv => whnf
        repeat (refine And.intro trivial ?_; conv => whnf)
        exact (parse_fail (i := 0) (k := 13) hfb (bad_end (by omega))).symm
      rw [show (((0 : Nat) : Int) == (s.size : Int)) = false by rw [beq_eq_false_iff_ne]; omega]
      conv => whnf
      repeat first
        | (refine And.intro (by first | exact trivial | decide | omega) ?_; conv => whnf)
      refine ⟨_, ⟨ch s 0, rfl, (ch_rng s 0).1, (ch_rng s 0).2, rfl⟩, ?_⟩
      conv => whnf
      split
      · rename_i hq
        conv => whnf
        repeat (refine And.intro trivial ?_; conv => whnf)
        exact (parse_fail (i := 0) (k := 13) hfb (bad_dig rfl hq)).symm
      · rename_i hq
        have hq2 : 0 ≤ Ed s 0 := by simp only [decide_eq_false_iff_not] at hq; exact Int.not_lt.1 hq
        have hr := rawP hg hq2
        conv => whnf
        repeat first
          | (refine And.intro (by first | exact trivial | decide | omega) ?_; conv => whnf)
        refine ⟨1, rfl, ?_, ⟨by omega, hfb.trans (fb_ok (ok_dig hlt rfl hq)), good_next hg hq2, by omega⟩, by omega⟩
        exact congrArg (fun v => [some (Ob.box zer), some (Ob.box (putL (cellsS s 0) 0 [V.int .u8 v]))]) hr
    · subst h
      conv => whnf
      rcases Nat.lt_or_ge 1 s.size with hlt | hge
      rotate_left
      · rw [show (((1 : Nat) : Int) == (s.size : Int)) = true by rw [beq_iff_eq]; omega]
        conv => whnf
        repeat (refine And.intro trivial ?_; conv => whnf)
        exact (parse_fail (i := 1) (k := 12) hfb (bad_end (by omega))).symm
      rw [show (((1 : Nat) : Int) == (s.size : Int)) = false by rw [beq_eq_false_iff_ne]; omega]
      conv => whnf
      repeat first
        | (refine And.intro (by first | exact trivial | decide | omega) ?_; conv => whnf)
      refine ⟨_, ⟨ch s 1, rfl, (ch_rng s 1).1, (ch_rng s 1).2, rfl⟩, ?_⟩
      conv => whnf
      split
      · rename_i hq
        conv => whnf
        repeat (refine And.intro trivial ?_; conv => whnf)
        exact (parse_fail (i := 1) (k := 12) hfb (bad_dig rfl hq)).symm
      · rename_i hq
        have hq2 : 0 ≤ Ed s 1 := by simp only [decide_eq_false_iff_not] at hq; exact Int.not_lt.1 hq
        have hr := rawP hg hq2
        conv => whnf
        repeat first
          | (refine And.intro (by first | exact trivial | decide | omega) ?_; conv => whnf)
        refine ⟨2, rfl, ?_, ⟨by omega, hfb.trans (fb_ok (ok_dig hlt rfl hq)), good_next hg hq2, by omega⟩, by omega⟩
        exact congrArg (fun v => [some (Ob.box zer), some (Ob.box (putL (cellsS s 1) 0 [V.int .u8 v]))]) hr
    · subst h
      conv => whnf
      rcases Nat.lt_or_ge 2 s.size with hlt | hge
      rotate_left
      · rw [show (((2 : Nat) : Int) == (s.size : Int)) = true by rw [beq_iff_eq]; omega]
        conv => whnf
        repeat (refine And.intro trivial ?_; conv => whnf)
        exact (parse_fail (i := 2) (k := 11) hfb (bad_end (by omega))).symm
      rw [show (((2 : Nat) : Int) == (s.size : Int)) = false by rw [beq_eq_false_iff_ne]; omega]
      conv => whnf
      repeat first
        | (refine And.intro (by first | exact trivial | decide | omega) ?_; conv => whnf)
      refine ⟨_, ⟨ch s 2, rfl, (ch_rng s 2).1, (ch_rng s 2).2, rfl⟩, ?_⟩
      conv => whnf
      split
      · rename_i hq
        conv => whnf
        repeat (refine And.intro trivial ?_; conv => whnf)
        exact (parse_fail (i := 2) (k := 11) hfb (bad_dig rfl hq)).symm
      · rename_i hq
        have hq2 : 0 ≤ Ed s 2 := by simp only [decide_eq_false_iff_not] at hq; exact Int.not_lt.1 hq
        have hr := rawP hg hq2
        conv => whnf
        repeat first
          | (refine And.intro (by first | exact trivial | decide | omega) ?_; conv => whnf)
        refine ⟨3, rfl, ?_, ⟨by omega, hfb.trans (fb_ok (ok_dig hlt rfl hq)), good_next hg hq2, by omega⟩, by omega⟩
        exact congrArg (fun v => [some (Ob.box zer), some (Ob.box (putL (cellsS s 2) 1 [V.int .u8 v]))]) hr
    · subst h
      conv => whnf
      rcases Nat.lt_or_ge 3 s.size with hlt | hge
      rotate_left
      · rw [show (((3 : Nat) : Int) == (s.size : Int)) = true by rw [beq_iff_eq]; omega]
        conv => whnf
        repeat (refine And.intro trivial ?_; conv => whnf)
        exact (parse_fail (i := 3) (k := 10) hfb (bad_end (by omega))).symm
      rw [show (((3 : Nat) : Int) == (s.size : Int)) = false by rw [beq_eq_false_iff_ne]; omega]
      conv => whnf
      repeat first
        | (refine And.intro (by first | exact trivial | decide | omega) ?_; conv => whnf)
      refine ⟨_, ⟨ch s 3, rfl, (ch_rng s 3).1, (ch_rng s 3).2, rfl⟩, ?_⟩
      conv => whnf
      split
      · rename_i hq
        conv => whnf
        repeat (refine And.intro trivial ?_; conv => whnf)
        exact (parse_fail (i := 3) (k := 10) hfb (bad_dig rfl hq)).symm
      · rename_i hq
        have hq2 : 0 ≤ Ed s 3 := by simp only [decide_eq_false_iff_not] at hq; exact Int.not_lt.1 hq
        have hr := rawP hg hq2
        conv => whnf
        repeat first
          | (refine And.intro (by first | exact trivial | decide | omega) ?_; conv => whnf)
        refine ⟨4, rfl, ?_, ⟨by omega, hfb.trans (fb_ok (ok_dig hlt rfl hq)), good_next hg hq2, by omega⟩, by omega⟩
        exact congrArg (fun v => [some (Ob.box zer), some (Ob.box (putL (cellsS s 3) 1 [V.int .u8 v]))]) hr
    · subst h
      conv => whnf
      rcases Nat.lt_or_ge 4 s.size with hlt | hge
      rotate_left
      · rw [show (((4 : Nat) : Int) == (s.size : Int)) = true by rw [beq_iff_eq]; omega]
        conv => whnf
        repeat (refine And.intro trivial ?_; conv => whnf)
        exact (parse_fail (i := 4) (k := 9) hfb (bad_end (by omega))).symm
      rw [show (((4 : Nat) : Int) == (s.size : Int)) = false by rw [beq_eq_false_iff_ne]; omega]
      conv => whnf
      repeat first
        | (refine And.intro (by first | exact trivial | decide | omega) ?_; conv => whnf)
      split
      · rename_i hq
        conv => whnf
        repeat (refine And.intro trivial ?_; conv => whnf)
        exact (parse_fail (i := 4) (k := 9) hfb (bad_dot rfl hq)).symm
      · rename_i hq
        conv => whnf
        exact ⟨5, rfl, rfl, ⟨by omega, hfb.trans (fb_ok (ok_dot hlt rfl hq)), hg, by omega⟩, by omega⟩
    · subst h
      conv => whnf
      rcases Nat.lt_or_ge 5 s.size with hlt | hge
      rotate_left
      · rw [show (((5 : Nat) : Int) == (s.size : Int)) = true by rw [beq_iff_eq]; omega]
        conv => whnf
        repeat (refine And.intro trivial ?_; conv => whnf)
        exact (parse_fail (i := 5) (k := 8) hfb (bad_end (by omega))).symm
      rw [show (((5 : Nat) : Int) == (s.size : Int)) = false by rw [beq_eq_false_iff_ne]; omega]
      conv => whnf
      repeat first
        | (refine And.intro (by first | exact trivial | decide | omega) ?_; conv => whnf)
      refine ⟨_, ⟨ch s 5, rfl, (ch_rng s 5).1, (ch_rng s 5).2, rfl⟩, ?_⟩
      conv => whnf
      split
      · rename_i hq
        conv => whnf
        repeat (refine And.intro trivial ?_; conv => whnf)
        exact (parse_fail (i := 5) (k := 8) hfb (bad_dig rfl hq)).symm
      · rename_i hq
        have hq2 : 0 ≤ Ed s 4 := by simp only [decide_eq_false_iff_not] at hq; exact Int.not_lt.1 hq
        have hr := rawP hg hq2
        conv => whnf
        repeat first
          | (refine And.intro (by first | exact trivial | decide | omega) ?_; conv => whnf)
        refine ⟨6, rfl, ?_, ⟨by omega, hfb.trans (fb_ok (ok_dig hlt rfl hq)), good_next hg hq2, by omega⟩, by omega⟩
        exact congrArg (fun v => [some (Ob.box zer), some (Ob.box (putL (cellsS s 4) 2 [V.int .u8 v]))]) hr
    · subst h
      conv => whnf
      rcases Nat.lt_or_ge 6 s.size with hlt | hge
      rotate_left
      · rw [show (((6 : Nat) : Int) == (s.size : Int)) = true by rw [beq_iff_eq]; omega]
        conv => whnf
        repeat (refine And.intro trivial ?_; conv => whnf)
        exact (parse_fail (i := 6) (k := 7) hfb (bad_end (by omega))).symm
      rw [show (((6 : Nat) : Int) == (s.size : Int)) = false by rw [beq_eq_false_iff_ne]; omega]
      conv => whnf
      repeat first
        | (refine And.intro (by first | exact trivial | decide | omega) ?_; conv => whnf)
      refine ⟨_, ⟨ch s 6, rfl, (ch_rng s 6).1, (ch_rng s 6).2, rfl⟩, ?_⟩
      conv => whnf
      split
      · rename_i hq
        conv => whnf
        repeat (refine And.intro trivial ?_; conv => whnf)
        exact (parse_fail (i := 6) (k := 7) hfb (bad_dig rfl hq)).symm
      · rename_i hq
        have hq2 : 0 ≤ Ed s 5 := by simp only [decide_eq_false_iff_not] at hq; exact Int.not_lt.1 hq
        have hr := rawP hg hq2
        conv => whnf
        repeat first
          | (refine And.intro (by first | exact trivial | decide | omega) ?_; conv => whnf)
        refine ⟨7, rfl, ?_, ⟨by omega, hfb.trans (fb_ok (ok_dig hlt rfl hq)), good_next hg hq2, by omega⟩, by omega⟩
        exact congrArg (fun v => [some (Ob.box zer), some (Ob.box (putL (cellsS s 5) 2 [V.int .u8 v]))]) hr
    · subst h
      conv => whnf
      rcases Nat.lt_or_ge 7 s.size with hlt | hge
      rotate_left
      · rw [show (((7 : Nat) : Int) == (s.size : Int)) = true by rw [beq_iff_eq]; omega]
        conv => whnf
        repeat (refine And.intro trivial ?_; conv => whnf)
        exact (parse_fail (i := 7) (k := 6) hfb (bad_end (by omega))).symm
      rw [show (((7 : Nat) : Int) == (s.size : Int)) = false by rw [beq_eq_false_iff_ne]; omega]
      conv => whnf
      repeat first
        | (refine And.intro (by first | exact trivial | decide | omega) ?_; conv => whnf)
      refine ⟨_, ⟨ch s 7, rfl, (ch_rng s 7).1, (ch_rng s 7).2, rfl⟩, ?_⟩
      conv => whnf
      split
      · rename_i hq
        conv => whnf
        repeat (refine And.intro trivial ?_; conv => whnf)
        exact (parse_fail (i := 7) (k := 6) hfb (bad_dig rfl hq)).symm
      · rename_i hq
        have hq2 : 0 ≤ Ed s 6 := by simp only [decide_eq_false_iff_not] at hq; exact Int.not_lt.1 hq
        have hr := rawP hg hq2
        conv => whnf
        repeat first
          | (refine And.intro (by first | exact trivial | decide | omega) ?_; conv => whnf)
        refine ⟨8, rfl, ?_, ⟨by omega, hfb.trans (fb_ok (ok_dig hlt rfl hq)), good_next hg hq2, by omega⟩, by omega⟩
        exact congrArg (fun v => [some (Ob.box zer), some (Ob.box (putL (cellsS s 6) 3 [V.int .u8 v]))]) hr
    · subst h
      conv => whnf
      rcases Nat.lt_or_ge 8 s.size with hlt | hge
      rotate_left
      · rw [show (((8 : Nat) : Int) == (s.size : Int)) = true by rw [beq_iff_eq]; omega]
        conv => whnf
        repeat (refine And.intro trivial ?_; conv => whnf)
        exact (parse_fail (i := 8) (k := 5) hfb (bad_end (by omega))).symm
      rw [show (((8 : Nat) : Int) == (s.size : Int)) = false by rw [beq_eq_false_iff_ne]; omega]
      conv => whnf
      repeat first
        | (refine And.intro (by first | exact trivial | decide | omega) ?_; conv => whnf)
      refine ⟨_, ⟨ch s 8, rfl, (ch_rng s 8).1, (ch_rng s 8).2, rfl⟩, ?_⟩
      conv => whnf
      split
      · rename_i hq
        conv => whnf
        repeat (refine And.intro trivial ?_; conv => whnf)
        exact (parse_fail (i := 8) (k := 5) hfb (bad_dig rfl hq)).symm
      · rename_i hq
        have hq2 : 0 ≤ Ed s 7 := by simp only [decide_eq_false_iff_not] at hq; exact Int.not_lt.1 hq
        have hr := rawP hg hq2
        conv => whnf
        repeat first
          | (refine And.intro (by first | exact trivial | decide | omega) ?_; conv => whnf)
        refine ⟨9, rfl, ?_, ⟨by omega, hfb.trans (fb_ok (ok_dig hlt rfl hq)), good_next hg hq2, by omega⟩, by omega⟩
        exact congrArg (fun v => [some (Ob.box zer), some (Ob.box (putL (cellsS s 7) 3 [V.int .u8 v]))]) hr
    · subst h
      conv => whnf
      rcases Nat.lt_or_ge 9 s.size with hlt | hge
      rotate_left
      · rw [show (((9 : Nat) : Int) == (s.size : Int)) = true by rw [beq_iff_eq]; omega]
        conv => whnf
        repeat (refine And.intro trivial ?_; conv => whnf)
        exact (parse_fail (i := 9) (k := 4) hfb (bad_end (by omega))).symm
      rw [show (((9 : Nat) : Int) == (s.size : Int)) = false by rw [beq_eq_false_iff_ne]; omega]
      conv => whnf
      repeat first
        | (refine And.intro (by first | exact trivial | decide | omega) ?_; conv => whnf)
      split
      · rename_i hq
        conv => whnf
        repeat (refine And.intro trivial ?_; conv => whnf)
        exact (parse_fail (i := 9) (k := 4) hfb (bad_dot rfl hq)).symm
      · rename_i hq
        conv => whnf
        exact ⟨10, rfl, rfl, ⟨by omega, hfb.trans (fb_ok (ok_dot hlt rfl hq)), hg, by omega⟩, by omega⟩
    · subst h
      conv => whnf
      rcases Nat.lt_or_ge 10 s.size with hlt | hge
      rotate_left
      · rw [show (((10 : Nat) : Int) == (s.size : Int)) = true by rw [beq_iff_eq]; omega]
        conv => whnf
        repeat (refine And.intro trivial ?_; conv => whnf)
        exact (parse_fail (i := 10) (k := 3) hfb (bad_end (by omega))).symm
      rw [show (((10 : Nat) : Int) == (s.size : Int)) = false by rw [beq_eq_false_iff_ne]; omega]
      conv => whnf
      repeat first
        | (refine And.intro (by first | exact trivial | decide | omega) ?_; conv => whnf)
      refine ⟨_, ⟨ch s 10, rfl, (ch_rng s 10).1, (ch_rng s 10).2, rfl⟩, ?_⟩
      conv => whnf
      split
      · rename_i hq
        conv => whnf
        repeat (refine And.intro trivial ?_; conv => whnf)
        exact (parse_fail (i := 10) (k := 3) hfb (bad_dig rfl hq)).symm
      · rename_i hq
        have hq2 : 0 ≤ Ed s 8 := by simp only [decide_eq_false_iff_not] at hq; exact Int.not_lt.1 hq
        have hr := rawP hg hq2
        conv => whnf
        repeat first
          | (refine And.intro (by first | exact trivial | decide | omega) ?_; conv => whnf)
        refine ⟨11, rfl, ?_, ⟨by omega, hfb.trans (fb_ok (ok_dig hlt rfl hq)), good_next hg hq2, by omega⟩, by omega⟩
        exact congrArg (fun v => [some (Ob.box zer), some (Ob.box (putL (cellsS s 8) 4 [V.int .u8 v]))]) hr
    · subst h
      conv => whnf
      rcases Nat.lt_or_ge 11 s.size with hlt | hge
      rotate_left
      · rw [show (((11 : Nat) : Int) == (s.size : Int)) = true by rw [beq_iff_eq]; omega]
        conv => whnf
        repeat (refine And.intro trivial ?_; conv => whnf)
        exact (parse_fail (i := 11) (k := 2) hfb (bad_end (by omega))).symm
      rw [show (((11 : Nat) : Int) == (s.size : Int)) = false by rw [beq_eq_false_iff_ne]; omega]
      conv => whnf
      repeat first
        | (refine And.intro (by first | exact trivial | decide | omega) ?_; conv => whnf)
      refine ⟨_, ⟨ch s 11, rfl, (ch_rng s 11).1, (ch_rng s 11).2, rfl⟩, ?_⟩
      conv => whnf
      split
      · rename_i hq
        conv => whnf
        repeat (refine And.intro trivial ?_; conv => whnf)
        exact (parse_fail (i := 11) (k := 2) hfb (bad_dig rfl hq)).symm
      · rename_i hq
        have hq2 : 0 ≤ Ed s 9 := by simp only [decide_eq_false_iff_not] at hq; exact Int.not_lt.1 hq
        have hr := rawP hg hq2
        conv => whnf
        repeat first
          | (refine And.intro (by first | exact trivial | decide | omega) ?_; conv => whnf)
        refine ⟨12, rfl, ?_, ⟨by omega, hfb.trans (fb_ok (ok_dig hlt rfl hq)), good_next hg hq2, by omega⟩, by omega⟩
        exact congrArg (fun v => [some (Ob.box zer), some (Ob.box (putL (cellsS s 9) 4 [V.int .u8 v]))]) hr
    · subst h
      conv => whnf
      rcases Nat.lt_or_ge 12 s.size with hlt | hge
      rotate_left
      · rw [show (((12 : Nat) : Int) == (s.size : Int)) = true by rw [beq_iff_eq]; omega]
        conv => whnf
        repeat (refine And.intro trivial ?_; conv => whnf)
        exact (parse_fail (i := 12) (k := 1) hfb (bad_end (by omega))).symm
      rw [show (((12 : Nat) : Int) == (s.size : Int)) = false by rw [beq_eq_false_iff_ne]; omega]
      conv => whnf
      repeat first
        | (refine And.intro (by first | exact trivial | decide | omega) ?_; conv => whnf)
      refine ⟨_, ⟨ch s 12, rfl, (ch_rng s 12).1, (ch_rng s 12).2, rfl⟩, ?_⟩
      conv => whnf
      split
      · rename_i hq
        conv => whnf
        repeat (refine And.intro trivial ?_; conv => whnf)
        exact (parse_fail (i := 12) (k := 1) hfb (bad_dig rfl hq)).symm
      · rename_i hq
        have hq2 : 0 ≤ Ed s 10 := by simp only [decide_eq_false_iff_not] at hq; exact Int.not_lt.1 hq
        have hr := rawP hg hq2
        conv => whnf
        repeat first
          | (refine And.intro (by first | exact trivial | decide | omega) ?_; conv => whnf)
        refine ⟨13, rfl, ?_, ⟨by omega, hfb.trans (fb_ok (ok_dig hlt rfl hq)), good_next hg hq2, by omega⟩, by omega⟩
        exact congrArg (fun v => [some (Ob.box zer), some (Ob.box (putL (cellsS s 10) 5 [V.int .u8 v]))]) hr
    · subst h
      conv => whnf
      rcases Nat.lt_or_ge 13 s.size with hlt | hge
      rotate_left
      · rw [show (((13 : Nat) : Int) == (s.size : Int)) = true by rw [beq_iff_eq]; omega]
        conv => whnf
        repeat (refine And.intro trivial ?_; conv => whnf)
        exact (parse_fail (i := 13) (k := 0) hfb (bad_end (by omega))).symm
      rw [show (((13 : Nat) : Int) == (s.size : Int)) = false by rw [beq_eq_false_iff_ne]; omega]
      conv => whnf
      repeat first
        | (refine And.intro (by first | exact trivial | decide | omega) ?_; conv => whnf)
      refine ⟨_, ⟨ch s 13, rfl, (ch_rng s 13).1, (ch_rng s 13).2, rfl⟩, ?_⟩
      conv => whnf
      split
      · rename_i hq
        conv => whnf
        repeat (refine And.intro trivial ?_; conv => whnf)
        exact (parse_fail (i := 13) (k := 0) hfb (bad_dig rfl hq)).symm
      · rename_i hq
        have hq2 : 0 ≤ Ed s 11 := by simp only [decide_eq_false_iff_not] at hq; exact Int.not_lt.1 hq
        have hr := rawP hg hq2
        conv => whnf
        repeat first
          | (refine And.intro (by first | exact trivial | decide | omega) ?_; conv => whnf)
        refine ⟨14, rfl, ?_, ⟨by omega, hfb.trans (fb_ok (ok_dig hlt rfl hq)), good_next hg hq2, by omega⟩, by omega⟩
        exact congrArg (fun v => [some (Ob.box zer), some (Ob.box (putL (cellsS s 11) 5 [V.int .u8 v]))]) hr
end Go.Proofs.Ytldoaopkpoojfaa
