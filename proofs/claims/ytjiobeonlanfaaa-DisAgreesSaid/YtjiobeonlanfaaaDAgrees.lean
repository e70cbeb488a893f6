/- LANs: all elect the same. -/
import Derived.Test.YtjiobeonlanfaaaDPlain
namespace Go.Proofs.Ytjiobeonlanfaaa
open Go.Ev
set_option linter.unusedVariables false
set_option linter.unusedSimpArgs false
set_option maxRecDepth 100000
set_option maxHeartbeats 2000000
theorem bigV : bigB = 140737488355328 := rfl
def spElect : List V → V → Prop := fun us d => ∃ (L : Nat → Mem) (n : Nat), us = [.imm n 14 fun i => cellsM (L i)] ∧ n ≤ 64 ∧ (∀ i, (L i).wf) ∧ d = .tup [.int .i64 (bestF L n), .int .i64 0]
noncomputable def ED4 : Env := ED3.add 9 (pcon (vcl spElect)) true
theorem okD4 : EnvOk Try.prog ED4 := okD3.pconV okD3 (fn := Try.f9) rfl (by kernel_rfl) 3 (fun us d ⟨L, n, _, _, _, e⟩ => by rw [e]; rfl) (fun us d ⟨L, n, h1, h2, h3, e⟩ => by rw [h1, e]; exact elect9 L n h2 h3)
def mA (x p : Int) (u : Bool) : Mem := ⟨fun _ => 0, fun i => if i = 0 then x else 0, p, u⟩
theorem mA_wf (x p : Int) (u : Bool) (h1 : 0 ≤ x ∧ x ≤ 255) (h2 : 0 ≤ p ∧ p ≤ 127) : (mA x p u).wf := ⟨fun i => by simp [mA], fun i => by unfold mA; simp only; split <;> omega, h2⟩
def LA : Nat → Mem := fun i => match i with | 0 => mA 1 5 true | 1 => mA 2 5 true | _ => mA 0 9 false
theorem LA_wf (i : Nat) : (LA i).wf := by
  match i with
  | 0 => exact mA_wf _ _ _ (by omega) (by omega)
  | 1 => exact mA_wf _ _ _ (by omega) (by omega)
  | _ + 2 => exact mA_wf _ _ _ (by omega) (by omega)
theorem awake7 : callW ED4 3 7 [] [] (fun d _ => d = .bool true) (fun _ _ => False) := by
  conv => whnf
  repeat first
    | (refine And.intro (by first | exact trivial | decide) ?_; conv => whnf)
  refine ⟨_, ⟨[.imm 3 14 fun i => cellsM (LA i)], ⟨⟨rfl, rfl, fun i hi => ?_⟩, trivial⟩, LA, 3, rfl, by omega, LA_wf, rfl⟩, ?_⟩
  · have hi : i < 3 := hi
    rcases (by omega : i = 0 ∨ i = 1 ∨ i = 2) with h | h | h <;> subst h <;> rfl
  rw [show bestF LA 3 = 1 by decide +kernel]
  conv => whnf
  rfl
def spAwake : List V → V → Prop := fun us d => us = [] ∧ d = .bool true
def mX : Mem := ⟨fun _ => 0, fun _ => 0, 77, false⟩
def withX (L : Nat → Mem) (n : Nat) : Nat → Mem := fun i => if i < n then L i else mX
def spOf : List V → V → List Nw → Prop := fun us d obs => ∃ (L : Nat → Mem) (n : Nat), us = [.imm n 14 fun i => cellsM (L i)] ∧ n ≤ 1000 ∧ d = .own 0 14 0 (n + 1) ∧ obs = [⟨34, 14, n + 1, fun i => cellsM (withX L n i)⟩]
theorem of8 (L : Nat → Mem) (n : Nat) (hn : n ≤ 1000) : callW ED4 3 8 [.imm n 14 fun i => cellsM (L i)] [] (fun d' h' => NwPost (.own 0 14 0 (n + 1)) [⟨34, 14, n + 1, fun i => cellsM (withX L n i)⟩] d' h') (fun _ _ => False) := by
  conv => whnf
  refine loopC okD4 [3, 6, 7, 8] (fun x : Nat × (Nat → List V) => mkF 21 0 [(3, match x.1 with | 0 => .nsl | k + 1 => .own 0 14 0 (k + 1)), (6, .imm n 14 fun i => cellsM (L i)), (7, .int .i64 (n : Nat)), (8, .int .i64 (x.1 : Nat))])
    (fun x => match x.1 with | 0 => [] | k + 1 => [some (.seq 34 14 (k + 1) x.2)]) (fun x => x.1 ≤ n ∧ ∀ i, i < x.1 → x.2 i = cellsM (L i)) (fun x => n - x.1) (0, fun _ => []) [] ⟨rfl, rfl, rfl⟩ ⟨by simp only; omega, fun i hi => by simp at hi⟩ ?_ ?_
  · rintro ⟨k, g⟩ _
    cases k with
    | zero => exact ⟨rfl, rfl, rfl⟩
    | succ k => exact ⟨rfl, rfl, rfl⟩
  rintro ⟨k, g⟩ ⟨hk, hg⟩
  simp only at hk hg
  cases k with
  | zero =>
    conv => whnf
    split
    · rename_i hq
      simp only [decide_eq_true_eq] at hq
      have hq' : 0 < n := by simpa using hq
      conv => whnf
      repeat first
        | (refine And.intro (by first | exact trivial | decide | (simp only; omega) | (simp [ty34, bigV, maxLV]; done)) ?_; conv => whnf)
      refine ⟨(1, subG 0 (litG ty34.size (cellsM (L 0)))), [2], ⟨by rw [w1i (by simp)]; rfl, rfl, rfl⟩, ⟨by simp only; omega, fun i hi => ?_⟩, by simp only; omega⟩
      have : i = 0 := by simpa using hi
      subst this
      rfl
    · rename_i hq
      simp only [decide_eq_false_iff_not] at hq
      have hn0 : n = 0 := by omega
      subst hn0
      conv => whnf
      repeat first
        | (refine And.intro (by first | exact trivial | decide | (simp only; omega) | (simp [ty34, bigV, maxLV]; done)) ?_; conv => whnf)
      refine NwPost.one 1 (subG 0 (litG ty34.size (cellsM mX))) rfl rfl (fun j hj => ?_)
      have : j = 0 := by have hj : j < 1 := hj; omega
      subst this
      rfl
  | succ k =>
    conv => whnf
    split
    · rename_i hq
      simp only [decide_eq_true_eq] at hq
      have hq' : k + 1 < n := by omega
      conv => whnf
      repeat first
        | (refine And.intro (by first | exact trivial | decide | (simp only; omega) | (simp [ty34, bigV, maxLV]; omega)) ?_; conv => whnf)
      refine ⟨(k + 1 + 1, appG (k + 1) g (subG 0 (litG ty34.size (cellsM (L (k + 1)))))), [3], ⟨by rw [w1i (by simp only; omega)]; rfl, rfl, rfl⟩, ⟨by simp only; omega, fun i hi => ?_⟩, by simp only; omega⟩
      simp only at hi ⊢
      simp only [appG]
      by_cases h : i < k + 1
      · rw [if_pos h]; exact hg i h
      · rw [if_neg h, show i = k + 1 by omega, Nat.sub_self]; rfl
    · rename_i hq
      simp only [decide_eq_false_iff_not] at hq
      have hn0 : k + 1 = n := by omega
      subst hn0
      conv => whnf
      repeat first
        | (refine And.intro (by first | exact trivial | decide | (simp only; omega) | (simp [ty34, bigV, maxLV]; omega)) ?_; conv => whnf)
      refine NwPost.one 2 (appG (k + 1) g (subG 0 (litG ty34.size (cellsM mX)))) rfl rfl (fun j hj => ?_)
      have hj : j < k + 1 + 1 := hj
      simp only [appG, withX]
      by_cases h : j < k + 1
      · rw [if_pos h, if_pos h]; exact hg j h
      · rw [if_neg h, if_neg h, show j = k + 1 by omega, Nat.sub_self]; rfl
end Go.Proofs.Ytjiobeonlanfaaa
