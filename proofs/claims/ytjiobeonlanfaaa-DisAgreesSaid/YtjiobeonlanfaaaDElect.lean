/- LANs: who speaks for all: what Elect computes, as a contract. -/
import Derived.Test.YtjiobeonlanfaaaEvTab
namespace Go.Proofs.Ytjiobeonlanfaaa
open Go.Ev
set_option linter.unusedVariables false
set_option linter.unusedSimpArgs false
set_option maxRecDepth 100000
set_option maxHeartbeats 1000000
theorem maxLV : maxL = 9223372036854775807 := rfl
theorem w1i {k : Nat} (h : k < 9223372036854775807) : IntKind.i64.wrap ((k : Int) + 1) = ((k + 1 : Nat) : Int) := by rw [wrapI64_of (by omega) (by omega)]; rfl
noncomputable def ED1 : Env := E0.add 29 (pcon (vcl spCmp)) true
theorem okD1 : EnvOk Try.prog ED1 := ok0.xcon (fun us d ⟨A, B, n, m, _, _, _, e⟩ => by rw [e]; rfl) (cmp_run Try.func29 (by kernel_rfl) (by kernel_rfl) (by kernel_rfl) (by kernel_rfl))
theorem cmp21 (A B : Nat → Int) (n m : Nat) (hA : ∀ i, 0 ≤ A i ∧ A i ≤ 255) (hB : ∀ i, 0 ≤ B i ∧ B i ≤ 255) : callW ED1 3 21 [.imm n 1 fun i => [.int .u8 (A i)], .imm m 1 fun i => [.int .u8 (B i)]] [] (fun d _ => d = .int .i64 (cmpB A n B m)) (fun _ _ => False) := by
  conv => whnf
  refine ⟨_, ⟨_, vleL_refl _, A, B, n, m, rfl, hA, hB, rfl⟩, ?_⟩
  conv => whnf
/-- of two numbers -/
def cmpI (a b : Int) : Int := if a < b then -1 else if b < a then 1 else 0
theorem cmp20 (a b : Int) : callW ED1 3 20 [.int .u8 a, .int .u8 b] [] (fun d _ => d = .int .i64 (cmpI a b)) (fun _ _ => False) := by
  have q : ∀ x : Int, (x != x) = false := fun x => by simp
  conv => whnf
  repeat first
    | (rw [q]; conv => whnf)
  unfold cmpI
  split
  · rename_i h
    simp only [decide_eq_true_eq] at h
    conv => whnf
    rw [if_pos h]
  · rename_i h
    simp only [decide_eq_false_iff_not] at h
    conv => whnf
    split
    · rename_i h2
      simp only [decide_eq_true_eq] at h2
      conv => whnf
      rw [if_neg h, if_pos h2]
    · rename_i h2
      simp only [decide_eq_false_iff_not] at h2
      conv => whnf
      rw [if_neg h, if_neg (by omega)]
def spCmp8 : List V → V → Prop := fun us d => ∃ a b : Int, us = [.int .u8 a, .int .u8 b] ∧ d = .int .i64 (cmpI a b)
def pair (a b : Int) : Nat → List V := fun i => match i with | 0 => [.int .i64 a] | _ => [.int .i64 b]
theorem or19 (a b : Int) : callW ED1 3 19 [.imm 2 1 (pair a b)] [] (fun d _ => d = .int .i64 (if a = 0 then b else a)) (fun _ _ => False) := by
  conv => whnf
  repeat' first
    | (refine loopN okD1 3 ?_; conv => whnf)
    | (refine And.intro (by first | exact trivial | decide) ?_; conv => whnf)
    | (split <;> (conv => whnf))
  all_goals (simp only [bne_iff_ne, ne_eq, bne_eq_false_iff_eq] at *)
  all_goals first | rfl | simp_all
def spOr : List V → V → Prop := fun us d => ∃ a b : Int, us = [.imm 2 1 (pair a b)] ∧ d = .int .i64 (if a = 0 then b else a)
noncomputable def ED2 : Env := ((ED1.add 20 (pcon (vcl spCmp8)) true).add 21 (pcon (vcl spCmp)) true).add 19 (pcon (vcl spOr)) true
theorem okD2 : EnvOk Try.prog ED2 :=
  okD1.pconV (okD1.pconV (okD1.pconV okD1
    (fn := Try.f20) rfl (by kernel_rfl) 3 (fun us d ⟨a, b, _, e⟩ => by rw [e]; rfl) (fun us d ⟨a, b, h1, e⟩ => by rw [h1, e]; exact cmp20 a b))
    (fn := Try.f21) rfl (by kernel_rfl) 3 (fun us d ⟨A, B, n, m, _, _, _, e⟩ => by rw [e]; rfl) (fun us d ⟨A, B, n, m, h1, hA, hB, e⟩ => by rw [h1, e]; exact cmp21 A B n m hA hB))
    (fn := Try.f19) rfl (by kernel_rfl) 3 (fun us d ⟨a, b, _, e⟩ => by rw [e]; rfl) (fun us d ⟨a, b, h1, e⟩ => by rw [h1, e]; exact or19 a b)
structure Mem where
  s : Nat → Int
  m : Nat → Int
  p : Int
  u : Bool
def cellsM (x : Mem) : List V := [.int .u8 (x.s 0), .int .u8 (x.s 1), .int .u8 (x.s 2), .int .u8 (x.s 3), .int .u8 (x.s 4), .int .u8 (x.s 5), .int .u8 (x.m 0), .int .u8 (x.m 1), .int .u8 (x.m 2), .int .u8 (x.m 3), .int .u8 (x.m 4), .int .u8 (x.m 5), .int .u8 x.p, .bool x.u]
structure Mem.wf (x : Mem) : Prop where
  s : ∀ i, 0 ≤ x.s i ∧ x.s i ≤ 255
  m : ∀ i, 0 ≤ x.m i ∧ x.m i ≤ 255
  p : 0 ≤ x.p ∧ x.p ≤ 127
theorem check18 (L : Nat → Mem) (n : Nat) (hn : n ≤ 64) (hL : ∀ i, i < n → (L i).p ≤ 127) : callW ED2 3 18 [.imm n 14 fun i => cellsM (L i)] [] (fun d _ => d = .int .i64 0) (fun _ _ => False) := by
  conv => whnf
  refine loopC okD2 [0, 5, 6, 7] (fun k : Nat => mkF 18 0 [(0, .imm n 14 fun i => cellsM (L i)), (5, .imm n 14 fun i => cellsM (L i)), (6, .int .i64 (n : Nat)), (7, .int .i64 (k : Nat))]) (fun _ => []) (fun k => k ≤ n) (fun k => n - k) 0 [] ⟨rfl, rfl, rfl⟩ (by omega) (fun _ _ => ⟨rfl, rfl, rfl⟩) ?_
  intro k hk
  conv => whnf
  split
  · rename_i hq
    simp only [decide_eq_true_eq] at hq
    conv => whnf
    repeat first
      | (refine And.intro (by first | exact trivial | omega) ?_; conv => whnf)
    rw [decide_eq_false (by have := hL k (by omega); simp only [Int.toNat_natCast]; omega)]
    conv => whnf
    rw [w1i (by omega)]
    exact ⟨k + 1, [], ⟨rfl, rfl, rfl⟩, by omega, by omega⟩
  · conv => whnf
    rw [decide_eq_false (by omega)]
    conv => whnf
def spCheck : List V → V → Prop := fun us d => ∃ (L : Nat → Mem) (n : Nat), us = [.imm n 14 fun i => cellsM (L i)] ∧ n ≤ 64 ∧ (∀ i, i < n → (L i).p ≤ 127) ∧ d = .int .i64 0
noncomputable def ED3 : Env := ED2.add 18 (pcon (vcl spCheck)) true
theorem okD3 : EnvOk Try.prog ED3 := okD2.pconV okD2 (fn := Try.f18) rfl (by kernel_rfl) 3 (fun us d ⟨L, n, _, _, _, e⟩ => by rw [e]; rfl) (fun us d ⟨L, n, h1, h2, h3, e⟩ => by rw [h1, e]; exact check18 L n h2 h3)
/-- is x ahead of y? -/
def betterI (x y : Mem) : Int := if cmpI x.p y.p = 0 then cmpB x.m 6 y.m 6 else cmpI x.p y.p
def bestF (L : Nat → Mem) : Nat → Int
  | 0 => -1
  | k + 1 => if (L k).u = false then bestF L k else if bestF L k < 0 then (k : Int) else if 0 < betterI (L k) (L (bestF L k).toNat) then (k : Int) else bestF L k
theorem bestF_rng (L : Nat → Mem) : ∀ k, -1 ≤ bestF L k ∧ bestF L k < (k : Int)
  | 0 => by simp [bestF]
  | k + 1 => by
    have := bestF_rng L k
    simp only [bestF]
    split
    · omega
    · split
      · omega
      · split <;> omega
theorem elect9 (L : Nat → Mem) (n : Nat) (hn : n ≤ 64) (hL : ∀ i, (L i).wf) : callW ED3 3 9 [.imm n 14 fun i => cellsM (L i)] [] (fun d _ => d = .tup [.int .i64 (bestF L n), .int .i64 0]) (fun _ _ => False) := by
  conv => whnf
  refine ⟨_, ⟨_, vleL_refl _, L, n, rfl, hn, fun i _ => (hL i).p.2, rfl⟩, ?_⟩
  conv => whnf
  refine loopC okD3 [0, 5, 13, 14, 15] (fun x : Nat × Int => mkF 49 0 [(0, .imm n 14 fun i => cellsM (L i)), (5, .int .i64 x.2), (13, .imm n 14 fun i => cellsM (L i)), (14, .int .i64 (n : Nat)), (15, .int .i64 (x.1 : Nat))]) (fun _ => []) (fun x => x.1 ≤ n ∧ x.2 = bestF L x.1) (fun x => n - x.1) (0, -1) [] ⟨rfl, rfl, rfl⟩ ⟨by simp only; omega, rfl⟩ (fun _ _ => ⟨rfl, rfl, rfl⟩) ?_
  rintro ⟨k, b⟩ ⟨hk, hb⟩
  simp only at hk hb
  conv => whnf
  split
  · rename_i hq
    simp only [decide_eq_true_eq] at hq
    conv => whnf
    repeat first
      | (refine And.intro (by first | exact trivial | omega) ?_; conv => whnf)
    rw [show ((k : Int)).toNat = k from Int.toNat_natCast k]
    split
    · rename_i hu
      conv => whnf
      refine ⟨(k + 1, b), [], ⟨by rw [w1i (by omega)]; rfl, rfl, rfl⟩, ⟨by simp only; omega, ?_⟩, by simp only; omega⟩
      simp only [bestF]
      rw [if_pos (by simpa using hu)]
      exact hb
    · rename_i hu
      conv => whnf
      have hrng := bestF_rng L k
      rcases Int.lt_or_le b 0 with hneg | hpos
      · rw [decide_eq_true (by exact hneg)]
        conv => whnf
        have hbest : (k : Int) = bestF L (k + 1) := by
          simp only [bestF]
          rw [if_neg (by simpa using hu), if_pos (by omega)]
        exact ⟨(k + 1, (k : Int)), [], ⟨by rw [w1i (by omega)]; rfl, rfl, rfl⟩, ⟨by simp only; omega, hbest⟩, by simp only; omega⟩
      · rw [decide_eq_false (by show ¬ (b < 0); omega)]
        conv => whnf
        repeat first
          | (refine And.intro (by first | exact trivial | (simp only; omega)) ?_; conv => whnf)
        repeat first
          | (refine And.intro (by first | exact trivial | decide | (simp only; omega)) ?_; conv => whnf)
        refine ⟨_, ⟨_, vleL_refl _, _, _, rfl, rfl⟩, ?_⟩
        conv => whnf
        repeat first
          | (refine And.intro (by first | exact trivial | decide | (simp only; omega)) ?_; conv => whnf)
        refine And.intro (Nat.le_of_ble_eq_true rfl) ?_
        conv => whnf
        refine ⟨_, ⟨[.imm 6 1 fun i => [.int .u8 ((L k).m i)], .imm 6 1 fun i => [.int .u8 ((L b.toNat).m i)]], ⟨⟨rfl, rfl, fun i hi => ?_⟩, ⟨rfl, rfl, fun i hi => ?_⟩, trivial⟩, _, _, 6, 6, rfl, (hL k).m, (hL b.toNat).m, rfl⟩, ?_⟩
        · have hi : i < 6 := hi
          rcases (by omega : i = 0 ∨ i = 1 ∨ i = 2 ∨ i = 3 ∨ i = 4 ∨ i = 5) with h | h | h | h | h | h <;> subst h <;> rfl
        · have hi : i < 6 := hi
          rcases (by omega : i = 0 ∨ i = 1 ∨ i = 2 ∨ i = 3 ∨ i = 4 ∨ i = 5) with h | h | h | h | h | h <;> subst h <;> rfl
        conv => whnf
        repeat first
          | (refine And.intro (by first | exact trivial | decide | (simp only; omega)) ?_; conv => whnf)
        refine ⟨_, ⟨[.imm 2 1 (pair (cmpI (L k).p (L b.toNat).p) (cmpB (L k).m 6 (L b.toNat).m 6))], ⟨⟨rfl, rfl, fun i hi => ?_⟩, trivial⟩, _, _, rfl, rfl⟩, ?_⟩
        · have hi : i < 2 := hi
          rcases (by omega : i = 0 ∨ i = 1) with h | h <;> subst h <;> rfl
        rw [show (if cmpI (L k).p (L b.toNat).p = 0 then cmpB (L k).m 6 (L b.toNat).m 6 else cmpI (L k).p (L b.toNat).p) = betterI (L k) (L b.toNat) from rfl]
        have hbest : bestF L (k + 1) = if 0 < betterI (L k) (L b.toNat) then (k : Int) else b := by
          simp only [bestF]
          rw [if_neg (by simpa using hu), if_neg (by omega), ← hb]
        conv => whnf
        split
        · rename_i hq2
          simp only [decide_eq_true_eq] at hq2
          conv => whnf
          exact ⟨(k + 1, (k : Int)), [], ⟨by rw [w1i (by omega)]; rfl, rfl, rfl⟩, ⟨by simp only; omega, by rw [hbest, if_pos (by omega)]⟩, by simp only; omega⟩
        · rename_i hq2
          simp only [decide_eq_false_iff_not] at hq2
          conv => whnf
          exact ⟨(k + 1, b), [], ⟨by rw [w1i (by omega)]; rfl, rfl, rfl⟩, ⟨by simp only; omega, by rw [hbest, if_neg (by omega)]⟩, by simp only; omega⟩
  · rename_i hq
    simp only [decide_eq_false_iff_not] at hq
    have : k = n := by omega
    subst this
    conv => whnf
    rw [hb]
end Go.Proofs.Ytjiobeonlanfaaa
