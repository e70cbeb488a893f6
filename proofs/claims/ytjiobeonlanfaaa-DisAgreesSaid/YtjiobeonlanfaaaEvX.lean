import Derived.Test.YtjiobeonlanfaaaEvU
import Derived.Laws.OwnMore
namespace Go.Ev
set_option linter.unusedSimpArgs false
set_option linter.unusedVariables false
open Go.RowKit

variable {P : Program} {ty : TypeId → Option Ty} {c : Cx} {B : Nat} {w0 : World} {h : Hp}

/-! ### Changing memory -/
def Cx.upd (c : Cx) (i : Nat) (l : Loc) (w : World) : Cx := { ρ := fun j => if j = i then some l else c.ρ j, F := c.F, w := w }
theorem OM.at_lt {i : Nat} {o : Ob} (h : OM c i o) {l : Loc} (hl : c.ρ i = some l) {b : Nat} (hb : l.at b) : b < c.w.heap.size := by
  cases o with
  | box cs =>
    obtain ⟨b', arr, T, e, hg, _⟩ := h
    rw [hl] at e; cases e
    simp only [Loc.at] at hb
    subst hb
    exact (Array.getElem?_eq_some_iff.1 hg).1
  | seq E sz n g =>
    obtain ⟨a, cap, e, _, _, _, h4⟩ := h
    rw [hl] at e; cases e
    simp only [Loc.at] at hb
    subst hb
    rcases h4 with ⟨h4, _⟩ | ⟨b', arr, hb, hg, _⟩
    · cases h4
    · cases hb
      exact (Array.getElem?_eq_some_iff.1 hg).1
theorem OM.loc {i : Nat} {o : Ob} (h : OM c i o) : ∃ l, c.ρ i = some l := by
  cases o with
  | box cs => obtain ⟨b', arr, T, e, _⟩ := h; exact ⟨_, e⟩
  | seq E sz n g => obtain ⟨a, cap, e, _⟩ := h; exact ⟨_, e⟩
theorem OM.keep {c' : Cx} (hle : c.le c') {i : Nat} {o : Ob} (h : OM c i o) (hb : ∀ l b, c.ρ i = some l → l.at b → c'.w.heap[b]? = c.w.heap[b]?) : OM c' i o := by
  cases o with
  | box cs =>
    obtain ⟨b, arr, T, e, hg, hs, hal, hr⟩ := h
    exact ⟨b, arr, T, hle.ρ _ _ e, by rw [hb _ b e rfl]; exact hg, hs, hal, fun j v d hv hd => (hr j v d hv hd).mono hle⟩
  | seq E sz n g =>
    obtain ⟨a, cap, e, h1, h2, h3, h4⟩ := h
    refine ⟨a, cap, hle.ρ _ _ e, h1, h2, h3, h4.imp id ?_⟩
    rintro ⟨b, arr, ha, hg, hs, hk⟩
    refine ⟨b, arr, ha, by rw [hb _ b e ha]; exact hg, hs, fun k hk' j d hd => ?_⟩
    obtain ⟨v, x, y, z⟩ := hk k hk' j d hd
    exact ⟨v, x, y.le hle, z⟩
theorem HM.upd (hm : HM B w0 c h) {i : Nat} {o : Ob} {l : Loc} {w : World} {h' : Hp} (hρ : c.ρ i = none ∨ c.ρ i = some l) (hi : getF h' i = some o)
    (ho : ∀ j o, j ≠ i → getF h' j = some o → getF h j = some o) (hlen : h.length ≤ h'.length) (hw : ∀ k, k < c.w.heap.size → ¬ l.at k → w.heap[k]? = c.w.heap[k]?)
    (hsz : c.w.heap.size ≤ w.heap.size) (hb : Below B w0 w) (hat : ∀ b, l.at b → ¬ c.F b ∧ B ≤ b ∧ ∀ j o' l', j ≠ i → getF h j = some o' → c.ρ j = some l' → ¬ l'.at b)
    (hOM : c.le (c.upd i l w) → OM (c.upd i l w) i o) : HM B w0 (c.upd i l w) h' ∧ c.le (c.upd i l w) := by
  have hle : c.le (c.upd i l w) := by
    refine ⟨fun j l' hj => ?_, fun _ x => x, fun a ha => ?_⟩
    · simp only [Cx.upd]
      split
      · rename_i e
        subst e
        rcases hρ with hρ | hρ
        · rw [hρ] at hj; cases hj
        · rw [hρ] at hj; exact hj
      · exact hj
    · exact World.cell?_of_block (w := c.w) (hw _ (hm.Flt _ ha) (fun hx => (hat _ hx).1 ha))
  have hil : i < h'.length := getF_lt hi
  refine ⟨⟨fun j hj => ?_, fun j o' hj => ?_, fun j k o1 o2 b l1 l2 hj hk h1 h2 a1 a2 => ?_, fun j o' l' b hj hl' ha => ?_, fun b hb' => Nat.lt_of_lt_of_le (hm.Flt b hb') hsz, Nat.le_trans hm.Blt hsz, hb⟩, hle⟩
  · simp only [Cx.upd]
    rw [if_neg (by omega)]
    exact hm.none_ge j (by omega)
  · by_cases e : j = i
    · subst e
      rw [hi] at hj
      cases hj
      exact hOM hle
    · have hj' := ho j o' e hj
      refine (hm.ob j o' hj').keep hle (fun l' b hl' ha => hw b ((hm.ob j o' hj').at_lt hl' ha) (fun hx => (hat b hx).2.2 j o' l' e hj' hl' ha))
  · by_cases e1 : j = i <;> by_cases e2 : k = i
    · rw [e1, e2]
    · subst e1
      simp only [Cx.upd, if_true, Option.some.injEq] at h1
      simp only [Cx.upd, if_neg e2] at h2
      subst h1
      exact absurd a2 ((hat b a1).2.2 k o2 l2 e2 (ho k o2 e2 hk) h2)
    · subst e2
      simp only [Cx.upd, if_true, Option.some.injEq] at h2
      simp only [Cx.upd, if_neg e1] at h1
      subst h2
      exact absurd a1 ((hat b a2).2.2 j o1 l1 e1 (ho j o1 e1 hj) h1)
    · simp only [Cx.upd, if_neg e1] at h1
      simp only [Cx.upd, if_neg e2] at h2
      exact hm.inj j k o1 o2 b l1 l2 (ho j o1 e1 hj) (ho k o2 e2 hk) h1 h2 a1 a2
  · by_cases e : j = i
    · subst e
      simp only [Cx.upd, if_true, Option.some.injEq] at hl'
      subst hl'
      exact ⟨(hat b ha).1, (hat b ha).2.1⟩
    · simp only [Cx.upd, if_neg e] at hl'
      exact hm.fresh j o' l' b (ho j o' e hj) hl' ha
theorem HM.kill (hm : HM B w0 c h) (i : Nat) : HM B w0 c (setF h i none) := by
  have key : ∀ {j : Nat} {o : Ob}, getF (setF h i none) j = some o → getF h j = some o := by
    intro j o hj
    rw [getF_set] at hj
    split at hj
    · cases hj
    · exact hj
  exact ⟨fun j hj => hm.none_ge j (by rw [len_set] at hj; exact hj), fun j o hj => hm.ob j o (key hj), fun j k o o' b l l' hj hk => hm.inj j k o o' b l l' (key hj) (key hk),
    fun j o l b hj => hm.fresh j o l b (key hj), hm.Flt, hm.Blt, hm.below⟩
def Cx.let (c : Cx) (l : Loc) : Cx := { c with F := fun b => c.F b ∨ l.at b }
theorem HM.letGo (hm : HM B w0 c h) {i : Nat} {o : Ob} {l : Loc} (hi : getF h i = some o) (hl : c.ρ i = some l) : HM B w0 (c.let l) (setF h i none) ∧ c.le (c.let l) := by
  have hle : c.le (c.let l) := ⟨fun _ _ x => x, fun _ x => .inl x, fun _ _ => rfl⟩
  have k1 := hm.kill i
  have key : ∀ {j : Nat} {o : Ob}, getF (setF h i none) j = some o → j ≠ i ∧ getF h j = some o := by
    intro j o hj
    rw [getF_set] at hj
    split at hj
    · cases hj
    · rename_i hn
      refine ⟨fun e => ?_, hj⟩
      subst e
      exact hn ⟨rfl, getF_lt hi⟩
  refine ⟨⟨k1.none_ge, fun j o hj => (k1.ob j o hj).keep hle (fun _ _ _ _ => rfl), k1.inj, fun j o' l' b hj hl' ha => ?_, fun b hb => ?_, k1.Blt, k1.below⟩, hle⟩
  · obtain ⟨hne, hj'⟩ := key hj
    obtain ⟨f1, f2⟩ := hm.fresh j o' l' b hj' hl' ha
    exact ⟨fun hx => hx.elim f1 (fun hx => hne (hm.inj j i o' o b l' l hj' hi hl' hl ha hx)), f2⟩
  · exact hb.elim (hm.Flt b) (fun hx => (hm.ob i o hi).at_lt hl hx)

def NidOk (c : Cx) (h : Hp) (nid : Option Nat) : Prop := ∀ i, nid = some i → i < h.length ∧ getF h i = none ∧ c.ρ i = none
theorem newH_facts (hm : HM B w0 c h) {nid : Option Nat} (hn : NidOk c h nid) {o : Ob} {i : Nat} {h' : Hp} (e : newH nid h o = (i, h')) :
    c.ρ i = none ∧ getF h' i = some o ∧ (∀ j o', j ≠ i → getF h' j = some o' → getF h j = some o') ∧ h.length ≤ h'.length := by
  unfold newH at e
  split at e
  · rename_i k
    cases e
    obtain ⟨h1, h2, h3⟩ := hn _ rfl
    refine ⟨h3, by rw [getF_set, if_pos ⟨rfl, h1⟩], fun j o' hj ho => ?_, by rw [len_set]; exact Nat.le_refl _⟩
    rw [getF_set, if_neg (fun x => hj x.1.symm)] at ho
    exact ho
  · cases e
    refine ⟨hm.none_ge _ (Nat.le_refl _), by rw [getF_snoc, if_pos rfl], fun j o' hj ho => ?_, by simp⟩
    rw [getF_snoc, if_neg hj] at ho
    exact ho
def Aft (c : Cx) (B : Nat) (w0 : World) (K : V → Hp → Prop) (v : Value) (w' : World) : Prop := ∃ d c' h', c'.w = w' ∧ c.le c' ∧ HM B w0 c' h' ∧ R c' v d ∧ K d h'
theorem Aft.le {c c1 : Cx} {K : V → Hp → Prop} {v : Value} {w' : World} (hle : c.le c1) (h : Aft c1 B w0 K v w') : Aft c B w0 K v w' := by
  obtain ⟨d, c', h', e, l, m, r, k⟩ := h
  exact ⟨d, c', h', e, Cx.le_trans hle l, m, r, k⟩

/-- a new block of cells -/
theorem new_box (hm : HM B w0 c h) {nid : Option Nat} (hn : NidOk c h nid) {cs : List V} {i : Nat} {h' : Hp} (e : newH nid h (.box cs) = (i, h')) (arr : Array Value) (T : TypeId)
    (hl : arr.size = cs.length) (hal : allC cs = true) (hr : ∀ (j : Nat) v d, arr[j]? = some v → cs[j]? = some d → R c v d) {K : V → Hp → Prop} (hk : K (.ptr i 0) h') :
    Aft c B w0 K (.pointer (some ⟨c.w.heap.size, 0, none⟩)) (c.w.alloc (.cells arr T)) := by
  obtain ⟨f1, f2, f3, f4⟩ := newH_facts hm hn e
  have hnew := heap_alloc_new c.w (.cells arr T)
  obtain ⟨m, le⟩ := hm.upd (i := i) (o := .box cs) (l := .box c.w.heap.size) (w := c.w.alloc (.cells arr T)) (h' := h') (.inl f1) f2 f3 f4
    (fun k hk _ => Below.heap_alloc c.w _ k hk) (by simp) (hm.below.alloc hm.Blt _) (fun b hb => by
      simp only [Loc.at] at hb
      subst hb
      exact ⟨fun x => Nat.lt_irrefl _ (hm.Flt _ x), hm.Blt, fun j o' l' _ hj hl' ha => Nat.lt_irrefl _ ((hm.ob j o' hj).at_lt hl' ha)⟩)
    (fun le => ⟨_, arr, T, by simp [Cx.upd], hnew, hl, hal, fun j v d hv hd => (hr j v d hv hd).mono le⟩)
  exact ⟨_, _, _, rfl, le, m, .ptr i 0 _ (by simp [Cx.upd]), hk⟩

theorem new_seq (hm : HM B w0 c h) {nid : Option Nat} (hn : NidOk c h nid) {E sz n : Nat} {g : Nat → List V} {i : Nat} {h' : Hp} (e : newH nid h (.seq E sz n g) = (i, h')) (w1 : World) (hw1 : w1.heap = c.w.heap) (hb1 : Below B w0 w1)
    (arr : Array Value) (cap : Nat) (hcap : n ≤ cap) (hmx : cap ≤ maxL) (hl : arr.size = cap * sz) (hg : ∀ k, k < n → (g k).length = sz)
    (hr : ∀ k, k < n → ∀ (j : Nat) d, (g k)[j]? = some d → ∃ v, arr[k * sz + j]? = some v ∧ RP c.F c.w v d ∧ v.oneCell' = true) {K : V → Hp → Prop} (hk : K (.own i sz 0 n) h') :
    Aft c B w0 K (.slice (some ⟨c.w.heap.size, 0, none⟩) n cap) (w1.alloc (.cells arr E)) := by
  obtain ⟨f1, f2, f3, f4⟩ := newH_facts hm hn e
  have hnew := heap_alloc_new w1 (.cells arr E)
  rw [show w1.heap.size = c.w.heap.size by rw [hw1]] at hnew
  obtain ⟨m, le⟩ := hm.upd (i := i) (o := .seq E sz n g) (l := .row (some c.w.heap.size) cap) (w := w1.alloc (.cells arr E)) (h' := h') (.inl f1) f2 f3 f4
    (fun k hk _ => by rw [Below.heap_alloc w1 _ k (by rw [hw1]; exact hk), hw1]) (by simp [hw1]) (hb1.alloc (by rw [hw1]; exact hm.Blt) _) (fun b hb => by
      simp only [Loc.at, Option.some.injEq] at hb
      subst hb
      exact ⟨fun x => Nat.lt_irrefl _ (hm.Flt _ x), hm.Blt, fun j o' l' _ hj hl' ha => Nat.lt_irrefl _ ((hm.ob j o' hj).at_lt hl' ha)⟩)
    (fun le => ⟨some c.w.heap.size, cap, by simp [Cx.upd], hcap, hmx, hg, .inr ⟨_, arr, rfl, hnew, hl, fun k hk j d hd => by
      obtain ⟨v, x, y, z⟩ := hr k hk j d hd
      exact ⟨v, x, y.le le, z⟩⟩⟩)
  refine ⟨_, _, _, rfl, le, m, .own i sz 0 n (some c.w.heap.size) cap _ (by simp [Cx.upd]) ⟨some ⟨c.w.heap.size, 0, none⟩, by rw [Nat.sub_zero], by omega, fun _ => ⟨_, rfl, by simp⟩, fun _ => rfl, fun h => by cases h⟩, hk⟩

theorem allC_zero {y : Ty} {t : TypeId} (h : TyOk P t y) : allC (y.zero.map Ev.ofC1) = true := by
  have : ∀ (l : List V), (∀ d ∈ l, pureC d = true) → allC l = true := by
    intro l
    induction l with
    | nil => intro _; rfl
    | cons x l ih =>
      intro hl
      simp only [allC, andB_eq, Bool.and_eq_true]
      exact ⟨pureC_cellB (hl x (by simp)), ih fun d hd => hl d (by simp [hd])⟩
  apply this
  intro d hd
  obtain ⟨v, hv, rfl⟩ := List.mem_map.1 hd
  exact h.zpur v hv

theorem alloc_ok (hty : ∀ t y, ty t = some y → TyOk P t y) (hm : HM B w0 c h) {nid : Option Nat} (hn : NidOk c h nid) {t : TypeId} {y : Ty} (hy : ty t = some y) {i : Nat} {h' : Hp}
    (e : newH nid h (.box (y.zero.map Ev.ofC1)) = (i, h')) {K : V → Hp → Prop} (hk : K (.ptr i 0) h') :
    ∃ v w', (Instr.alloc t true (.tuple #[])).run P c.w = .ok v w' ∧ Aft c B w0 K v w' := by
  have T := hty t y hy
  obtain ⟨ti, z, hi, hsz, hby, hz, hzc⟩ := T.info
  refine ⟨_, _, ?_, new_box hm hn e z.cells t (by rw [List.length_map, ← hzc]; simp) (allC_zero T) (zeroR y hzc) hk⟩
  simp [Instr.alloc, zeroValue, typeInfo, hi, hz, newVar, newRow]
theorem box_ok (hm : HM B w0 c h) {nid : Option Nat} (hn : NidOk c h nid) {t : TypeId} {v : Value} {d : V} (hv : R c v d) (hal : allC (cellsV d) = true) {i : Nat} {h' : Hp}
    (e : newH nid h (.box (cellsV d)) = (i, h')) {K : V → Hp → Prop} (hk : K (.ptr i 0) h') :
    ∃ u w', (Instr.box t v).run P c.w = .ok u w' ∧ Aft c B w0 K u w' := by
  obtain ⟨h1, h2⟩ := cellsV_ok hv hal
  refine ⟨_, _, ?_, new_box hm hn e v.cells t h1 hal h2 hk⟩
  simp [Instr.box, newVar, newRow]
end Go.Ev
