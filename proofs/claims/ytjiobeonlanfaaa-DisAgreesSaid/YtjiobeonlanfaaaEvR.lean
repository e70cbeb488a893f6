import Derived.Test.YtjiobeonlanfaaaEvW
import Derived.Laws.AppendOwn
import Derived.Laws.Slices
import Derived.Laws.Cells
import Derived.Laws.World
import Derived.Laws.NewBlocks
import Derived.Laws.CopyRow
import Derived.KernelRfl
namespace Go.Ev
set_option linter.unusedSimpArgs false
set_option linter.unusedVariables false
open Go.RowKit

theorem andB_eq (a b : Bool) : andB a b = (a && b) := by cases a <;> rfl
theorem kEq_iff {a b : IntKind} : kEq a b = true ↔ a = b := by cases a <;> cases b <;> simp [kEq]
theorem nbeq {a b : Nat} (h : Nat.beq a b = true) : a = b := Nat.eq_of_beq_eq_true h
theorem nble {a b : Nat} (h : Nat.ble a b = true) : a ≤ b := Nat.le_of_ble_eq_true h

theorem getF_eq {α : Type} : ∀ (l : List (Option α)) (n : Nat), getF l n = (l[n]?).getD none
  | [], _ => rfl
  | x :: _, 0 => rfl
  | _ :: l, n + 1 => by simpa [getF] using getF_eq l n
theorem setF_eq {α : Type} : ∀ (l : List (Option α)) (n : Nat) (v : Option α), setF l n v = l.set n v
  | [], _, _ => rfl
  | _ :: l, 0, v => rfl
  | x :: l, n + 1, v => by simp [setF, setF_eq l n v]
theorem nthL_eq {α : Type} : ∀ (l : List α) (n : Nat), nthL l n = l[n]?
  | [], _ => rfl
  | _ :: _, 0 => rfl
  | _ :: l, n + 1 => by simpa [nthL] using nthL_eq l n
theorem setK_eq (k : Fr → Prop) : ∀ (l : Fr) (n : Nat) (v : Option V) (c : Fr → Fr), setK k l n v c = k (c (setF l n v))
  | [], _, _, _ => rfl
  | _ :: _, 0, _, _ => rfl
  | _ :: l, n + 1, v, c => by simp [setK, setF, setK_eq k l n v]
theorem putK_eq (fr : Fr) (dst : Option Tmp) (v : Option V) (k : Fr → Prop) : putK fr dst v k = k (putF fr dst v) := by
  cases dst <;> simp [putK, putF, setK_eq]
theorem forceV_eq (v : V) (k : V → Prop) : forceV v k = k v := by cases v <;> rfl
theorem forceL_eq : ∀ (l : List V) (k : List V → Prop), forceL l k = k l
  | [], _ => rfl
  | v :: l, k => by simp [forceL, forceV_eq, forceL_eq l]
theorem forceF_eq : ∀ (l : Fr) (k : Fr → Prop), forceF l k = k l
  | [], _ => rfl
  | none :: l, k => by simp [forceF, forceF_eq l]
  | some v :: l, k => by simp [forceF, forceV_eq, forceF_eq l]
theorem forceH_eq : ∀ (l : Hp) (k : Hp → Prop), forceH l k = k l
  | [], _ => rfl
  | none :: l, k => by simp [forceH, forceH_eq l]
  | some (.box cs) :: l, k => by simp [forceH, forceL_eq, forceH_eq l]
  | some (.seq a b c g) :: l, k => by simp [forceH, forceH_eq l]
theorem splitB_eq (b : Bool) (f : Bool → Prop) : splitB b f = f b := by cases b <;> rfl
theorem rqW_iff (p : Rq) (k : Prop) : rqW p k ↔ p.holds ∧ k := by cases p <;> simp [rqW, Rq.holds]
theorem rqA_iff (p q : Rq) : (rqA p q).holds ↔ p.holds ∧ q.holds := by cases p <;> cases q <;> simp [rqA, Rq.holds]
theorem Rq.holds_some (p : Prop) : Rq.holds (some p) ↔ p := Iff.rfl
theorem oneB_eq (v : Value) : oneB v = v.oneCell' := by cases v <;> rfl
theorem maxL_eq : maxL = maxLen := rfl
theorem add_block (a : Addr) (n : Nat) : (a.add n).block = a.block := by unfold Addr.add; split <;> rfl
theorem add_add (a : Addr) (m n : Nat) : (a.add m).add n = a.add (m + n) := by
  unfold Addr.add
  by_cases hm : m = 0
  · subst hm; simp
  · by_cases hn : n = 0
    · subst hn; simp [hm]
    · have : m + n ≠ 0 := by omega
      simp [hm, hn, Nat.add_assoc]
theorem add_lit (b o n : Nat) : (⟨b, o, none⟩ : Addr).add n = ⟨b, o + n, none⟩ := by
  unfold Addr.add; split <;> simp_all

/-! ### How an abstract value reads -/
inductive Loc where
  | box (b : Nat)
  | row (b : Option Nat) (cap : Nat)
def Loc.at : Loc → Nat → Prop
  | .box b, k => b = k
  | .row b _, k => b = some k
structure Cx where
  ρ : Nat → Option Loc
  F : Nat → Prop
  w : World

/-- what leads to nothing that is owned -/
inductive RP (F : Nat → Prop) (w : World) : Value → V → Prop
  | bool (b : Bool) : RP F w (.bool b) (.bool b)
  | int (k : IntKind) (n : Int) : RP F w (.int k n) (.int k n)
  | str (s : ByteArray) : RP F w (.string s) (.str s)
  | nsl : RP F w (.slice none 0 0) .nsl
  | cst (v : Value) : RP F w v (.cst v)
  | imm (a : Option Addr) (n cap sz : Nat) (g : Nat → List V) (cv : Nat → Nat → Value) (h1 : n ≤ cap) (h2 : cap ≤ maxL) (h3 : a = none → n = 0)
      (hl : ∀ i, i < n → (g i).length = sz)
      (hc : ∀ ad, a = some ad → ∀ i, i < n → ∀ j, j < sz → F ad.block ∧ w.cell? (ad.add (i * sz + j)) = some (cv i j) ∧ (cv i j).oneCell' = true)
      (hr : ∀ i, i < n → ∀ (j : Nat) d, (g i)[j]? = some d → RP F w (cv i j) d) : RP F w (.slice a n cap) (.imm n sz g)

theorem RP.mono {F F' : Nat → Prop} {w w' : World} {v : Value} {d : V} (h : RP F w v d) (hF : ∀ b, F b → F' b) (hw : ∀ a, F a.block → w'.cell? a = w.cell? a) : RP F' w' v d := by
  induction h with
  | bool b => exact .bool b
  | int k n => exact .int k n
  | str s => exact .str s
  | nsl => exact .nsl
  | cst v => exact .cst v
  | imm a n cap sz g cv h1 h2 h3 hl hc _ ih =>
    refine .imm a n cap sz g cv h1 h2 h3 hl (fun ad ha i hi j hj => ?_) ih
    obtain ⟨f, c, o⟩ := hc ad ha i hi j hj
    exact ⟨hF _ f, by rw [hw _ (by rw [add_block]; exact f)]; exact c, o⟩

theorem RP.ofC1 (F : Nat → Prop) (w : World) (v : Value) : RP F w v (ofC1 v) := by
  unfold Ev.ofC1
  split
  · exact .bool _
  · exact .int _ _
  · exact .str _
  · exact .nsl
  · exact .cst _

/-- a slice over an owned row -/
def OwnV (a : Option Nat) (cap sz off n : Nat) (v : Value) : Prop :=
  ∃ a' : Option Addr, v = .slice a' n (cap - off) ∧ off + n ≤ cap ∧ (off < cap → ∃ b, a = some b ∧ a' = some ⟨b, off * sz, none⟩) ∧
    (off = 0 → a' = a.map fun b => (⟨b, 0, none⟩ : Addr)) ∧ (a' = none → n = 0)

inductive R (c : Cx) : Value → V → Prop
  | pure {v : Value} {d : V} (h : RP c.F c.w v d) : R c v d
  | ptr (id off b : Nat) (h : c.ρ id = some (.box b)) : R c (.pointer (some ⟨b, off, none⟩)) (.ptr id off)
  | eptr (id sz i k b cap : Nat) (h : c.ρ id = some (.row (some b) cap)) : R c (.pointer (some ⟨b, i * sz + k, none⟩)) (.eptr id sz i k)
  | iptr (cs : List V) (ad : Addr) (cv : Nat → Value) (hc : ∀ j, j < cs.length → c.F ad.block ∧ c.w.cell? (ad.add j) = some (cv j) ∧ (cv j).oneCell' = true)
      (hr : ∀ (j : Nat) d, cs[j]? = some d → RP c.F c.w (cv j) d) : R c (.pointer (some ad)) (.iptr cs)
  | own (id sz off n : Nat) (a : Option Nat) (cap : Nat) (v : Value) (h : c.ρ id = some (.row a cap)) (hv : OwnV a cap sz off n v) : R c v (.own id sz off n)
  | arr (id sz co n b : Nat) (a' : Option Addr) (cap' : Nat) (h : c.ρ id = some (.box b)) (h1 : n ≤ cap') (h2 : cap' ≤ maxL) (h3 : 0 < n → a' = some ⟨b, co, none⟩)
      (h4 : a' = none → n = 0) : R c (.slice a' n cap') (.arr id sz co n)
  | agg (vs : Array Value) (cs : List V) (hl : vs.size = cs.length) (hr : ∀ (j : Nat) v d, vs[j]? = some v → cs[j]? = some d → R c v d) : R c (.agg vs) (.agg cs)
  | tup (vs : Array Value) (cs : List V) (hl : vs.size = cs.length) (hr : ∀ (j : Nat) v d, vs[j]? = some v → cs[j]? = some d → R c v d) : R c (.tuple vs) (.tup cs)
  | clo (f : FuncId) (xs ys : Array Value) (as bs : List V) (h1 : xs.size = as.length) (h2 : ys.size = bs.length)
      (hx : ∀ (j : Nat) v d, xs[j]? = some v → as[j]? = some d → R c v d) (hy : ∀ (j : Nat) v d, ys[j]? = some v → bs[j]? = some d → R c v d) : R c (.func (.func f) xs ys) (.clo f as bs)
  | ifc (t : TypeId) (v : Value) (d : V) (h : R c v d) : R c (.iface t v) (.ifc t d)

structure Cx.le (c c' : Cx) : Prop where
  ρ : ∀ i l, c.ρ i = some l → c'.ρ i = some l
  F : ∀ b, c.F b → c'.F b
  cell : ∀ a, c.F a.block → c'.w.cell? a = c.w.cell? a
theorem Cx.le_refl (c : Cx) : c.le c := ⟨fun _ _ h => h, fun _ h => h, fun _ _ => rfl⟩
theorem Cx.le_trans {a b c : Cx} (h : a.le b) (k : b.le c) : a.le c :=
  ⟨fun i l x => k.ρ i l (h.ρ i l x), fun b x => k.F b (h.F b x), fun ad x => (k.cell ad (h.F _ x)).trans (h.cell ad x)⟩
theorem RP.le {c c' : Cx} (h : c.le c') {v : Value} {d : V} (x : RP c.F c.w v d) : RP c'.F c'.w v d := x.mono h.F h.cell
theorem R.mono {c c' : Cx} (h : c.le c') {v : Value} {d : V} (x : R c v d) : R c' v d := by
  induction x with
  | pure hp => exact .pure (hp.le h)
  | ptr id off b e => exact .ptr id off b (h.ρ _ _ e)
  | eptr id sz i k b cap e => exact .eptr id sz i k b cap (h.ρ _ _ e)
  | iptr cs ad cv hc hr =>
    refine .iptr cs ad cv (fun j hj => ?_) (fun j d hd => (hr j d hd).le h)
    obtain ⟨f, e, o⟩ := hc j hj
    exact ⟨h.F _ f, by rw [h.cell _ (by rw [add_block]; exact f)]; exact e, o⟩
  | own id sz off n a cap v e hv => exact .own id sz off n a cap v (h.ρ _ _ e) hv
  | arr id sz co n b a' cap' e h1 h2 h3 h4 => exact .arr id sz co n b a' cap' (h.ρ _ _ e) h1 h2 h3 h4
  | agg vs cs hl _ ih => exact .agg vs cs hl ih
  | tup vs cs hl _ ih => exact .tup vs cs hl ih
  | clo f xs ys as bs h1 h2 _ _ ih1 ih2 => exact .clo f xs ys as bs h1 h2 ih1 ih2
  | ifc t v d _ ih => exact .ifc t v d ih
theorem R.ofC1 (c : Cx) (v : Value) : R c v (ofC1 v) := .pure (RP.ofC1 _ _ _)
theorem R.ofConst (c : Cx) (v : Value) : R c v (ofConst v) := by
  unfold Ev.ofConst
  split
  · rename_i cs
    refine .agg cs _ (by simp) (fun j v d hv hd => ?_)
    simp [hv] at hd
    subst hd
    exact R.ofC1 c v
  · exact R.ofC1 c _
theorem RP.one {F : Nat → Prop} {w : World} {v : Value} {d : V} (h : RP F w v d) (hd : cellB d = true) : v.oneCell' = true := by
  cases h <;> first | rfl | (simpa [cellB, oneB_eq] using hd)
theorem R.one {c : Cx} {v : Value} {d : V} (h : R c v d) (hd : cellB d = true) : v.oneCell' = true := by
  cases h with
  | pure h => exact h.one hd
  | own id sz off n a cap v e hv => obtain ⟨a', rfl, _⟩ := hv; rfl
  | agg => cases hd
  | tup => cases hd
  | _ => rfl
theorem R.toRP {c : Cx} {v : Value} {d : V} (h : R c v d) (hd : pureC d = true) : RP c.F c.w v d := by
  cases h with
  | pure h => exact h
  | _ => cases hd
theorem pureC_cellB {d : V} (h : pureC d = true) : cellB d = true := by cases d <;> simp_all [pureC, cellB]

/-! ### How an abstract memory reads -/
def OM (c : Cx) (i : Nat) : Ob → Prop
  | .box cs => ∃ b arr T, c.ρ i = some (.box b) ∧ c.w.heap[b]? = some (.cells arr T (0, 0)) ∧ arr.size = cs.length ∧ allC cs = true ∧
      ∀ (j : Nat) v d, arr[j]? = some v → cs[j]? = some d → R c v d
  | .seq E sz n g => ∃ a cap, c.ρ i = some (.row a cap) ∧ n ≤ cap ∧ cap ≤ maxL ∧ (∀ k, k < n → (g k).length = sz) ∧
      ((a = none ∧ cap = 0) ∨ ∃ b arr, a = some b ∧ c.w.heap[b]? = some (.cells arr E (0, 0)) ∧ arr.size = cap * sz ∧
        ∀ k, k < n → ∀ (j : Nat) d, (g k)[j]? = some d → ∃ v, arr[k * sz + j]? = some v ∧ RP c.F c.w v d ∧ v.oneCell' = true)
structure HM (B : Nat) (w0 : World) (c : Cx) (h : Hp) : Prop where
  none_ge : ∀ i, h.length ≤ i → c.ρ i = none
  ob : ∀ i o, getF h i = some o → OM c i o
  inj : ∀ i j o o' b l l', getF h i = some o → getF h j = some o' → c.ρ i = some l → c.ρ j = some l' → l.at b → l'.at b → i = j
  fresh : ∀ i o l b, getF h i = some o → c.ρ i = some l → l.at b → ¬ c.F b ∧ B ≤ b
  Flt : ∀ b, c.F b → b < c.w.heap.size
  Blt : B ≤ c.w.heap.size
  below : Below B w0 c.w
def FM (c : Cx) (a : Act) (fr : Fr) : Prop := a.tmps.size = fr.length ∧ ∀ i d, getF fr i = some d → ∃ v, a.tmps[i]? = some v ∧ R c v d

theorem getF_set {α : Type} (l : List (Option α)) (i j : Nat) (v : Option α) : getF (setF l i v) j = if i = j ∧ i < l.length then v else getF l j := by
  rw [getF_eq, getF_eq, setF_eq, List.getElem?_set]
  by_cases h : i = j
  · subst h
    by_cases hl : i < l.length
    · simp [hl]
    · simp [hl]
  · simp [h]
theorem getF_lt {α : Type} {l : List (Option α)} {i : Nat} {o : α} (h : getF l i = some o) : i < l.length := by
  rw [getF_eq] at h
  rcases Nat.lt_or_ge i l.length with hl | hl
  · exact hl
  · simp [List.getElem?_eq_none hl] at h
theorem len_set {α : Type} (l : List (Option α)) (i : Nat) (v : Option α) : (setF l i v).length = l.length := by rw [setF_eq]; simp
theorem getF_snoc {α : Type} (l : List (Option α)) (o : Option α) (j : Nat) : getF (l ++ [o]) j = if j = l.length then o else getF l j := by
  rw [getF_eq, getF_eq]
  by_cases h : j = l.length
  · subst h; simp
  · rw [if_neg h]
    rcases Nat.lt_or_ge j l.length with hl | hl
    · rw [List.getElem?_append_left hl]
    · rw [List.getElem?_eq_none (by simp; omega), List.getElem?_eq_none hl]

theorem FM.eval {c : Cx} {a : Act} {fr : Fr} (h : FM c a fr) : ∀ x d, evO fr x = some d → R c (a.eval x) d := by
  intro x d hd
  cases x with
  | tmp t =>
    obtain ⟨v, hv, hR⟩ := h.2 t d hd
    simpa [Act.eval, hv] using hR
  | const v => simp only [evO, Option.some.injEq] at hd; subst hd; exact R.ofConst c v
  | func f => simp only [evO, Option.some.injEq] at hd; subst hd; exact .clo f #[] #[] [] [] rfl rfl (by simp) (by simp)
  | global g => cases hd
theorem FM.put {c c' : Cx} {a : Act} {fr : Fr} (h : FM c a fr) (hc : c.le c') (dst : Option Tmp) {v : Value} {d : V} (hR : R c' v d) : FM c' (a.put dst v) (putF fr dst (some d)) := by
  cases dst with
  | none => exact ⟨h.1, fun i d hd => let ⟨v, e, r⟩ := h.2 i d hd; ⟨v, e, r.mono hc⟩⟩
  | some t =>
    refine ⟨by simp [Act.put, putF, len_set, h.1], fun i d' hd => ?_⟩
    simp only [putF, getF_set] at hd
    simp only [Act.put, Array.getElem?_setIfInBounds]
    by_cases ht : t = i
    · subst ht
      by_cases hl : t < fr.length
      · simp [hl] at hd; subst hd; exact ⟨v, by simp [h.1, hl], hR⟩
      · simp [hl] at hd
        exact absurd (getF_lt hd) hl
    · rw [if_neg (by simp [ht])] at hd
      obtain ⟨v', e, r⟩ := h.2 i d' hd
      exact ⟨v', by simp [ht, e], r.mono hc⟩
theorem FM.skip {c : Cx} {a : Act} {fr : Fr} (h : FM c a fr) (dst : Option Tmp) (v : Value) : FM c (a.put dst v) (putF fr dst none) := by
  cases dst with
  | none => exact h
  | some t =>
    refine ⟨by simp [Act.put, putF, len_set, h.1], fun i d' hd => ?_⟩
    simp only [putF, getF_set] at hd
    simp only [Act.put, Array.getElem?_setIfInBounds]
    by_cases ht : t = i
    · subst ht
      by_cases hl : t < fr.length
      · simp [hl] at hd
      · simp [hl] at hd
        exact absurd (getF_lt hd) hl
    · rw [if_neg (by simp [ht])] at hd
      obtain ⟨v', e, r⟩ := h.2 i d' hd
      exact ⟨v', by simp [ht, e], r⟩
theorem FM.mono {c c' : Cx} {a : Act} {fr : Fr} (h : FM c a fr) (hc : c.le c') : FM c' a fr := ⟨h.1, fun i d hd => let ⟨v, e, r⟩ := h.2 i d hd; ⟨v, e, r.mono hc⟩⟩
theorem setF_self {α : Type} {l : List (Option α)} {i : Nat} {v : α} (h : getF l i = some v) : setF l i (some v) = l := by
  rw [setF_eq]
  have hl := getF_lt h
  rw [getF_eq] at h
  apply List.ext_getElem? 
  intro j
  rw [List.getElem?_set]
  by_cases hj : i = j
  · subst hj
    rw [List.getElem?_eq_getElem hl] at h
    simp at h
    simp [hl, h]
  · simp [hj]
/-- a draw, or anything else that turns no memory -/
theorem HM.world {B : Nat} {w0 : World} {c : Cx} {h : Hp} (m : HM B w0 c h) (w' : World) (hh : w'.heap = c.w.heap) (hb : Below B w0 w') : HM B w0 { c with w := w' } h ∧ c.le { c with w := w' } := by
  have hce : ∀ a, w'.cell? a = c.w.cell? a := fun a => by simp [World.cell?, hh]
  have hle : c.le { c with w := w' } := ⟨fun _ _ x => x, fun _ x => x, fun a _ => hce a⟩
  refine ⟨⟨m.none_ge, fun i o ho => ?_, m.inj, m.fresh, fun b x => by rw [hh]; exact m.Flt b x, by rw [hh]; exact m.Blt, hb⟩, hle⟩
  have := m.ob i o ho
  cases o with
  | box cs =>
    obtain ⟨b, arr, T, e, hg, hs, hal, hr⟩ := this
    exact ⟨b, arr, T, e, by rw [hh]; exact hg, hs, hal, fun j v d hv hd => (hr j v d hv hd).mono hle⟩
  | seq E sz n g =>
    obtain ⟨a, cap, e, h1, h2, h3, h4⟩ := this
    refine ⟨a, cap, e, h1, h2, h3, h4.imp id ?_⟩
    rintro ⟨b, arr, ha, hg, hs, hk⟩
    refine ⟨b, arr, ha, by rw [hh]; exact hg, hs, fun k hk' j d hd => ?_⟩
    obtain ⟨v, x, y, z⟩ := hk k hk' j d hd
    exact ⟨v, x, y.le hle, z⟩
end Go.Ev
