import Derived.Test.YtjiobeonlanfaaaEvC
namespace Go.Ev
set_option linter.unusedSimpArgs false
set_option linter.unusedVariables false
open Go.RowKit

variable {P : Program} {ty : TypeId → Option Ty} {c : Cx} {B : Nat} {w0 : World} {h : Hp}

/-- blocks that nobody owns come to be -/
theorem HM.grow (hm : HM B w0 c h) (w : World) (hw : ∀ k, k < c.w.heap.size → w.heap[k]? = c.w.heap[k]?) (hsz : c.w.heap.size ≤ w.heap.size) (hb : Below B w0 w) :
    HM B w0 ⟨c.ρ, fun b => c.F b ∨ (c.w.heap.size ≤ b ∧ b < w.heap.size), w⟩ h ∧ c.le ⟨c.ρ, fun b => c.F b ∨ (c.w.heap.size ≤ b ∧ b < w.heap.size), w⟩ := by
  have hle : c.le ⟨c.ρ, fun b => c.F b ∨ (c.w.heap.size ≤ b ∧ b < w.heap.size), w⟩ :=
    ⟨fun _ _ x => x, fun _ x => .inl x, fun a ha => World.cell?_of_block (w := c.w) (hw _ (hm.Flt _ ha))⟩
  refine ⟨⟨hm.none_ge, fun i o ho => (hm.ob i o ho).keep hle (fun l b hl ha => hw b ((hm.ob i o ho).at_lt hl ha)), hm.inj, fun i o l b ho hl ha => ?_, fun b hb' => ?_, Nat.le_trans hm.Blt hsz, hb⟩, hle⟩
  · obtain ⟨f1, f2⟩ := hm.fresh i o l b ho hl ha
    have := (hm.ob i o ho).at_lt hl ha
    exact ⟨fun hx => hx.elim f1 (fun hx => by omega), f2⟩
  · exact hb'.elim (fun x => Nat.lt_of_lt_of_le (hm.Flt b x) hsz) (fun x => x.2)

theorem freeze_heap (w : World) (a : Addr) (n : Nat) : (w.freeze a n).heap.size = w.heap.size ∧ (∀ k, k ≠ a.block → (w.freeze a n).heap[k]? = w.heap[k]?) ∧ ∀ x, (w.freeze a n).cell? x = w.cell? x := by
  unfold World.freeze
  split
  · exact ⟨rfl, fun _ _ => rfl, fun _ => rfl⟩
  · refine ⟨by simp, fun k hk => by simp only [Array.getElem?_modify]; rw [if_neg (by omega)], fun x => ?_⟩
    unfold World.cell?
    simp only [Array.getElem?_modify]
    by_cases hx : a.block = x.block
    · rw [if_pos hx]
      cases hh : w.heap[x.block]? with
      | none => rfl
      | some o => cases o <;> rfl
    · rw [if_neg hx]

theorem bytes_ok (hty : ∀ t y, ty t = some y → TyOk P t y) (hm : HM B w0 c h) {s t e : TypeId} {S D u : Ty} (hS : ty s = some S) (hD : ty t = some D) (hk1 : S.kind = .str) (hk2 : D.kind = .slice e) (hu : ty e = some u) (hk3 : u.kind = .int .u8)
    {v : Value} {b : ByteArray} (hv : R c v (.str b)) (hmx : b.size ≤ maxL) {K : V → Hp → Prop} (hK : K (.imm b.size 1 (strG b)) h) : ∃ x w', (convert s t v).run P c.w = .ok x w' ∧ Aft c B w0 K x w' := by
  have := hv.strI; subst this
  have h1 := (hty _ _ hS).str hk1
  have h2 := (hty _ _ hD).slice hk2
  have h3 := (hty _ _ hu).int hk3
  have hge := grownCap_ge c.w b.size 0 e
  have hcm : grownCap c.w b.size 0 e ≤ maxL := grownCap_le_maxLen c.w b.size 0 e hmx
  obtain ⟨arr, harr⟩ : ∃ arr : Array Value, arr = b.data.map (fun b => Value.int .u8 (b.toNat : Int)) ++ Array.replicate (grownCap c.w b.size 0 e - b.size) (.int .u8 0) := ⟨_, rfl⟩
  have hsz : b.data.size = b.size := rfl
  have hasz : arr.size = grownCap c.w b.size 0 e := by rw [harr]; simp [hsz]; omega
  have hget : ∀ i, i < b.size → arr[i]? = some (.int .u8 ((b.data.toList.getD i 0).toNat : Int)) := by
    intro i hi
    have hi' : i < b.data.size := hi
    rw [harr, Array.getElem?_append_left (by simpa using hi')]
    simp [hi']
    exact ⟨b.data[i], Array.getElem?_eq_getElem hi', by rw [Array.getElem?_eq_getElem hi']; rfl⟩
  obtain ⟨f1, f2, f3⟩ := freeze_heap (c.w.drew.alloc (.cells arr e)) ⟨c.w.heap.size, arr.size, none⟩ 1
  have hnew := heap_alloc_new c.w.drew (.cells arr e)
  have hbel : Below B w0 ((c.w.drew.alloc (.cells arr e)).freeze ⟨c.w.heap.size, arr.size, none⟩ 1) := by
    have b1 := hm.below.drew.alloc hm.Blt (.cells arr e)
    refine b1.trans ⟨?_, ?_, ?_, by rw [f1]; exact Nat.le_refl _, fun k hk => f2 k (by have := hm.Blt; show k ≠ c.w.heap.size; omega)⟩ <;> (unfold World.freeze; split <;> rfl)
  obtain ⟨m, le⟩ := hm.grow ((c.w.drew.alloc (.cells arr e)).freeze ⟨c.w.heap.size, arr.size, none⟩ 1) (fun k hk => by
    rw [f2 k (by show k ≠ c.w.heap.size; omega)]
    exact Below.heap_alloc c.w.drew _ k hk) (by rw [f1]; simp) hbel
  refine ⟨.slice (some ⟨c.w.heap.size, 0, none⟩) b.size (grownCap c.w b.size 0 e), _, ?_, ⟨_, _, _, rfl, le, m, ?_, hK⟩⟩
  · have hsh : (c.w.drew.alloc (.cells arr e)).shape? c.w.heap.size = some (e, arr.size) := by
      unfold World.shape?
      rw [show c.w.heap.size = c.w.drew.heap.size from rfl, hnew]
    simp only [convert, Sem.run_bind, run_underlying h1, run_underlying h2, run_underlying h3, Result.andThen_ok]
    simp only [Conv.stringToBytes, Sem.run_bind, run_choose, Question.forced, Result.andThen_ok, Bool.false_eq_true, if_false]
    have e1 : (Question.appendCap b.size 0 e).cut (c.w.tape c.w.drawn (Question.appendCap b.size 0 e)) = grownCap c.w b.size 0 e := rfl
    rw [e1, ← harr]
    have e2 : (newRow e arr).run P { heap := c.w.heap, tape := c.w.tape, drawn := c.w.drawn + 1, os := c.w.os, output := c.w.output } = .ok ⟨c.w.heap.size, 0, none⟩ (c.w.drew.alloc (.cells arr e)) := rfl
    rw [e2]
    simp only [Result.andThen_ok, markStringish, Sem.run_bind, run_shape, hsh, run_freeze, Sem.run_pure]
  · refine .pure (.imm _ _ _ 1 _ (fun i _ => .int .u8 ((b.data.toList.getD i 0).toNat : Int)) hge hcm (fun h => by cases h) (fun i hi => rfl) (fun ad had i hi j hj => ?_) (fun i hi j d hd => ?_))
    · cases had
      have hj0 : j = 0 := by omega
      subst hj0
      refine ⟨.inr ⟨Nat.le_refl _, by rw [f1]; simp⟩, ?_, rfl⟩
      show World.cell? _ _ = _
      rw [f3, add_lit, cell_of_row _ c.w.heap.size _ arr e (0, 0) hnew]
      simpa using hget i hi
    · cases j with
      | zero => simp only [strG, List.getElem?_cons_zero, Option.some.injEq] at hd; subst hd; exact .int _ _
      | succ j => cases hd
end Go.Ev
