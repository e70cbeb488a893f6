import Derived.Test.YtjiobeonlanfaaaEvNa
import Derived.WalkKit
import Derived.ProofKit
import Derived.OpenShut
import Derived.ShutString
import Derived.ChangeOld
import Derived.Below
import Derived.SizedLaws
namespace Go.Ev
set_option linter.unusedSimpArgs false
set_option linter.unusedVariables false
open Go.ChangeShapes Go.WideShapes Go.ChangeAt Go.RowKit

/-! ### What comes in, by its shape: a type's cells, one by one -/
inductive Sh where
  | int (k : IntKind) | bool | str | sl (bytes : Nat) (es : List Sh)
instance : Inhabited Sh := ⟨.bool⟩
def shFs (r : TypeId → Option (List Sh)) (c : TypeId → Nat) : Nat → List Field → Option (List Sh)
  | _, [] => some []
  | off, f :: fs => match Nat.beq f.offset off, r f.type, shFs r c (off + c f.type) fs with
    | true, some a, some b => (match Nat.beq a.length (c f.type) with | true => some (a ++ b) | false => none)
    | _, _, _ => none
def repS : Nat → List Sh → List Sh
  | 0, _ => []
  | n + 1, l => l ++ repS n l
def shOf (P : Program) : Nat → TypeId → Option (List Sh)
  | 0, _ => none
  | n + 1, t => match P.underlying t with
    | some .bool => some [.bool]
    | some (.int k) => some [.int k]
    | some .string => some [.str]
    | some (.slice e) => (match shOf P n e with | some es => (match Nat.beq es.length (P.cellsOf e) with | true => some [.sl (P.bytesOf e) es] | false => none) | none => none)
    | some (.struct fs) => (match shFs (shOf P n) P.cellsOf 0 fs.toList with | some ss => (match Nat.beq ss.length (P.cellsOf t) with | true => some ss | false => none) | none => none)
    | some (.array m e) => (match shOf P n e with | some es => (match andB (Nat.beq es.length (P.cellsOf e)) (Nat.beq (m * es.length) (P.cellsOf t)) with | true => some (repS m es) | false => none) | none => none)
    | _ => none
mutual
def okSh : Sh → V → Prop
  | .int k, d => ∃ n, d = .int k n ∧ (Lit.int k n).wf = true
  | .bool, d => ∃ b, d = .bool b
  | .str, d => ∃ s, d = .str s ∧ s.size ≤ 140737488351232
  | .sl B es, d => ∃ n g, d = .imm n es.length g ∧ n * B ≤ 140737488351232 ∧ n ≤ maxL ∧ ∀ i, i < n → okShs es (g i)
def okShs : List Sh → List V → Prop
  | [], [] => True
  | s :: ss, d :: ds => okSh s d ∧ okShs ss ds
  | _, _ => False
end
theorem okShs_len : ∀ {ss : List Sh} {ds : List V}, okShs ss ds → ss.length = ds.length
  | [], [], _ => rfl
  | [], _ :: _, h => by simp [okShs] at h
  | _ :: _, [], h => by simp [okShs] at h
  | s :: ss, d :: ds, h => by
    simp only [okShs] at h
    simp [okShs_len h.2]
theorem okShs_append : ∀ {a b : List Sh} {x y : List V}, okShs a x → okShs b y → okShs (a ++ b) (x ++ y)
  | [], b, [], y, _, h => h
  | [], _, _ :: _, _, h, _ => by simp [okShs] at h
  | _ :: _, _, [], _, h, _ => by simp [okShs] at h
  | s :: ss, b, d :: ds, y, h, k => by
    simp only [okShs] at h
    simp only [List.cons_append, okShs]
    exact ⟨h.1, okShs_append h.2 k⟩
/-- cells that read -/
def Clls (F : Nat → Prop) (w : World) (cs : List Value) (ds : List V) : Prop :=
  cs.length = ds.length ∧ ∀ (j : Nat) v d, cs[j]? = some v → ds[j]? = some d → RP F w v d ∧ v.oneCell' = true
theorem Clls.nil {F : Nat → Prop} {w : World} : Clls F w [] [] := ⟨rfl, fun j v d h => by simp at h⟩
theorem Clls.one {F : Nat → Prop} {w : World} {v : Value} {d : V} (h : RP F w v d) (ho : v.oneCell' = true) : Clls F w [v] [d] := ⟨rfl, fun j v' d' hv hd => by
  cases j with
  | zero => simp at hv hd; subst hv; subst hd; exact ⟨h, ho⟩
  | succ j => simp at hv⟩
theorem Clls.append {F : Nat → Prop} {w : World} {a b : List Value} {x y : List V} (h : Clls F w a x) (k : Clls F w b y) : Clls F w (a ++ b) (x ++ y) := by
  refine ⟨by simp [h.1, k.1], fun j v d hv hd => ?_⟩
  have hl := h.1
  by_cases hj : j < a.length
  · rw [List.getElem?_append_left hj] at hv
    rw [List.getElem?_append_left (by omega)] at hd
    exact h.2 j v d hv hd
  · rw [List.getElem?_append_right (by omega)] at hv
    rw [List.getElem?_append_right (by omega)] at hd
    rw [hl] at hv
    exact k.2 _ v d hv hd

section
variable {H : Type} {enc : TypeId × Value → H} {P : Program} {w : World}
theorem cells_get {a : Addr} {n : Nat} {cs : List Value} (h : w.cells? 0 a n = some cs) : cs.length = n ∧ ∀ j v, cs[j]? = some v → w.cell? (a.add j) = some v := by
  unfold World.cells? at h
  rw [if_pos (Nat.zero_le _)] at h
  refine ⟨by have := mapM_some_length h; simpa using this, fun j v hv => ?_⟩
  have hl : cs.length = n := by have := mapM_some_length h; simpa using this
  have hj : j < n := by have := (List.getElem?_eq_some_iff.1 hv).1; omega
  have := mapM_some_get h j j (by simp [hj])
  rw [this, hv]
theorem block_lt {a : Addr} {v : Value} (h : w.cell? a = some v) : a.block < w.heap.size := by
  unfold World.cell? at h
  rcases Nat.lt_or_ge a.block w.heap.size with hlt | hge
  · exact hlt
  · rw [Array.getElem?_eq_none (by omega)] at h; cases h
theorem weightsAll_mem {e : TypeId} : ∀ {l : List (DataW H)} {d : DataW H}, d ∈ l → ∀ n ∈ d.weights P e, n ∈ DataW.weightsAll P e l
  | x :: l, d, hd, n, hn => by
    simp only [DataW.weightsAll, List.mem_append]
    rcases List.mem_cons.1 hd with rfl | hd
    · exact .inl hn
    · exact .inr (weightsAll_mem hd n hn)
theorem trod_bool {t : TypeId} {fuel : Nat} {cs : List Value} {x : DataW H × List MemPlace} (ht : P.underlying t = some .bool) (h : DataW.trod enc P w 0 (fun _ => true) true fuel t cs = some x) : ∃ b, cs = [.bool b] := by
  cases fuel with
  | zero => simp [DataW.trod] at h
  | succ m =>
    rw [DataW.trod_step] at h
    unfold DataW.trodStep at h
    rw [ht] at h
    split at h <;> first | cases h; done | skip
    all_goals simp_all
theorem trod_int {t : TypeId} {k : IntKind} {fuel : Nat} {cs : List Value} {x : DataW H × List MemPlace} (ht : P.underlying t = some (.int k)) (h : DataW.trod enc P w 0 (fun _ => true) true fuel t cs = some x) : ∃ n, cs = [.int k n] ∧ (Lit.int k n).wf = true := by
  cases fuel with
  | zero => simp [DataW.trod] at h
  | succ m =>
    rw [DataW.trod_step] at h
    unfold DataW.trodStep at h
    rw [ht] at h
    split at h <;> first | cases h; done | skip
    all_goals simp_all
theorem trod_str {t : TypeId} {fuel : Nat} {cs : List Value} {x : DataW H × List MemPlace} (ht : P.underlying t = some .string) (h : DataW.trod enc P w 0 (fun _ => true) true fuel t cs = some x) : ∃ s, cs = [.string s] ∧ x.1 = .lit (.string s.data.toList) := by
  cases fuel with
  | zero => simp [DataW.trod] at h
  | succ m =>
    rw [DataW.trod_step] at h
    unfold DataW.trodStep at h
    rw [ht] at h
    split at h <;> first | cases h; done | skip
    all_goals simp_all
    all_goals (obtain ⟨_, rfl⟩ := h; rfl)
def OpenAt (enc : TypeId × Value → H) (P : Program) (w : World) (k : Nat) : Prop := ∀ (t : TypeId) (ss : List Sh), shOf P k t = some ss → ∀ (fuel : Nat) (cs : List Value) (x : DataW H × List MemPlace), DataW.trod enc P w 0 (fun _ => true) true fuel t cs = some x →
    (∀ m ∈ x.1.weights P t, m ≤ 140737488351232) → ∃ ds, okShs ss ds ∧ Clls (fun b => b < w.heap.size) w cs ds
theorem open_fs {k n : Nat} (ih : OpenAt enc P w k) (cs : List Value) : ∀ (fs : List Field) (off : Nat) (ss : List Sh), shFs (shOf P k) P.cellsOf off fs = some ss →
    (∀ f ∈ fs, ∃ y : DataW H × List MemPlace, DataW.trod enc P w 0 (fun _ => true) true n f.type ((cs.drop f.offset).take (P.cellsOf f.type)) = some y ∧ ∀ m ∈ y.1.weights P f.type, m ≤ 140737488351232) →
    ∃ ds, okShs ss ds ∧ Clls (fun b => b < w.heap.size) w ((cs.drop off).take ss.length) ds
  | [], off, ss, hs, _ => by
    simp only [shFs, Option.some.injEq] at hs
    subst hs
    exact ⟨[], trivial, by simpa using Clls.nil⟩
  | f :: fs, off, ss, hs, hf => by
    simp only [shFs] at hs
    split at hs
    · rename_i a b ho ha hb
      split at hs
      · rename_i hl
        cases hs
        have ho := nbeq ho
        have hl := nbeq hl
        subst ho
        obtain ⟨y, hy, hwy⟩ := hf f (by simp)
        obtain ⟨d1, o1, c1⟩ := ih f.type a ha n _ y hy hwy
        obtain ⟨d2, o2, c2⟩ := open_fs ih cs fs _ b hb (fun g hg => hf g (by simp [hg]))
        refine ⟨d1 ++ d2, okShs_append o1 o2, ?_⟩
        rw [List.length_append, List.take_add, List.drop_drop, hl]
        exact c1.append c2
      · cases hs
    · cases hs
theorem open_rep {k n : Nat} (ih : OpenAt enc P w k) (cs : List Value) {e : TypeId} {es : List Sh} (he : shOf P k e = some es) (hl : es.length = P.cellsOf e) : ∀ (m i0 : Nat),
    (∀ i, i < m → ∃ y : DataW H × List MemPlace, DataW.trod enc P w 0 (fun _ => true) true n e ((cs.drop ((i0 + i) * P.cellsOf e)).take (P.cellsOf e)) = some y ∧ ∀ q ∈ y.1.weights P e, q ≤ 140737488351232) →
    ∃ ds, okShs (repS m es) ds ∧ Clls (fun b => b < w.heap.size) w ((cs.drop (i0 * P.cellsOf e)).take (repS m es).length) ds
  | 0, i0, _ => ⟨[], trivial, by simpa [repS] using Clls.nil⟩
  | m + 1, i0, hf => by
    obtain ⟨y, hy, hwy⟩ := hf 0 (by omega)
    obtain ⟨d1, o1, c1⟩ := ih e es he n _ y hy hwy
    obtain ⟨d2, o2, c2⟩ := open_rep ih cs he hl m (i0 + 1) (fun i hi => by
      obtain ⟨y, h⟩ := hf (i + 1) (by omega)
      exact ⟨y, by rw [show i0 + 1 + i = i0 + (i + 1) by omega]; exact h⟩)
    refine ⟨d1 ++ d2, okShs_append o1 o2, ?_⟩
    simp only [repS]
    rw [List.length_append, List.take_add, List.drop_drop, hl]
    rw [Nat.add_zero] at c1
    rw [Nat.add_mul, Nat.one_mul] at c2
    exact c1.append c2
theorem open_sh : ∀ (k : Nat), OpenAt enc P w k
  | 0 => fun t ss hs => by simp [shOf] at hs
  | k + 1 => fun t ss hs fuel cs x h hw => by
    have ih : OpenAt enc P w k := open_sh k
    simp only [shOf] at hs
    split at hs
    · rename_i ht
      cases hs
      obtain ⟨b, rfl⟩ := trod_bool ht h
      exact ⟨[.bool b], ⟨⟨b, rfl⟩, trivial⟩, .one (.bool b) rfl⟩
    · rename_i q ht
      cases hs
      obtain ⟨n, rfl, hwf⟩ := trod_int ht h
      exact ⟨[.int q n], ⟨⟨n, rfl, hwf⟩, trivial⟩, .one (.int _ _) rfl⟩
    · rename_i ht
      cases hs
      obtain ⟨s, rfl, hx⟩ := trod_str ht h
      have := hw s.data.toList.length (by rw [hx]; simp [DataW.weights])
      exact ⟨[.str s], ⟨⟨s, rfl, by simpa using this⟩, trivial⟩, .one (.str s) rfl⟩
    · rename_i e ht
      split at hs
      · rename_i es he
        split at hs
        · rename_i hl
          cases hs
          have hl := nbeq hl
          rcases DataW.trod_slice ht h with ⟨rfl, rfl⟩ | ⟨a, len, cap, elems, rest, n, _, rfl, rfl, hb, h1, h2, hlen, hel, hsp, _⟩
          · exact ⟨[.imm 0 es.length fun _ => []], ⟨⟨0, _, rfl, by simp, Nat.zero_le _, fun i hi => absurd hi (by omega)⟩, trivial⟩, .one (.imm none 0 0 es.length _ (fun _ _ => undef) (Nat.le_refl _) (Nat.zero_le _) (fun _ => rfl) (fun i hi => absurd hi (by omega)) (fun ad h => by cases h) (fun i hi => absurd hi (by omega))) rfl⟩
          · have hwt : ∀ m, m = (elems.length + rest.length) * P.bytesOf e ∨ m ∈ DataW.weightsAll P e (elems.map (·.1)) → m ≤ 140737488351232 := fun m hm => hw m (by
              simp only [DataW.weights, ht, List.mem_cons, List.mem_append, List.length_map]
              rcases hm with hm | hm
              · exact .inl hm
              · exact .inr (.inl hm))
            have each : ∀ i, ∃ p : List Value × List V, i < len → (w.cells? 0 (a.add (i * P.cellsOf e)) (P.cellsOf e) = some p.1 ∧ okShs es p.2 ∧ Clls (fun b => b < w.heap.size) w p.1 p.2) := by
              intro i
              by_cases hi : i < len
              · have hE := hel i hi
                have hy : elems[i]? = some (elems[i]'(by omega)) := by simp [hlen, hi]
                rw [hy] at hE
                simp only [Option.bind_eq_some_iff] at hE
                obtain ⟨c1, hc1, hy1⟩ := hE
                obtain ⟨ds, d1, d2⟩ := ih e es he n c1 _ hy1 (fun m hm => hwt m (.inr (weightsAll_mem (List.mem_map_of_mem (List.getElem_mem _)) m hm)))
                exact ⟨(c1, ds), fun _ => ⟨hc1, d1, d2⟩⟩
              · exact ⟨([], []), fun h => absurd h hi⟩
            obtain ⟨G, hG⟩ := Classical.axiomOfChoice each
            have get : ∀ i, i < len → ∀ j, j < es.length → ∃ v d, (G i).1[j]? = some v ∧ (G i).2[j]? = some d ∧ w.cell? (a.add (i * es.length + j)) = some v ∧ RP (fun b => b < w.heap.size) w v d ∧ v.oneCell' = true := by
              intro i hi j hj
              obtain ⟨g1, g2, g3⟩ := hG i hi
              obtain ⟨c1, c2⟩ := cells_get g1
              have hjl : j < (G i).1.length := by rw [c1, ← hl]; exact hj
              have hjd : j < (G i).2.length := by rw [← g3.1]; exact hjl
              have hv : (G i).1[j]? = some (G i).1[j] := by simp [hjl]
              have hd : (G i).2[j]? = some (G i).2[j] := by simp [hjd]
              have hcell := c2 j _ hv
              rw [add_add, ← hl] at hcell
              obtain ⟨r1, r2⟩ := g3.2 j _ _ hv hd
              exact ⟨_, _, hv, hd, hcell, r1, r2⟩
            refine ⟨[.imm len es.length fun i => (G i).2], ⟨⟨len, _, rfl, ?_, Nat.le_trans h1 h2, fun i hi => (hG i hi).2.1⟩, trivial⟩, .one ?_ rfl⟩
            · have := hwt _ (.inl rfl)
              refine Nat.le_trans (Nat.mul_le_mul_right _ ?_) this
              omega
            · refine .imm (some a) len cap es.length _ (fun i j => ((G i).1[j]?).getD undef) h1 h2 (fun h => by cases h) (fun i hi => (okShs_len (hG i hi).2.1).symm) ?_ ?_
              · intro ad had i hi j hj
                cases had
                obtain ⟨v, d, hv, hd, hcell, r1, r2⟩ := get i hi j hj
                simp only [hv, Option.getD_some]
                refine ⟨?_, hcell, r2⟩
                have := block_lt hcell
                rw [add_block] at this
                exact this
              · intro i hi j d hd
                have hj : j < es.length := by rw [okShs_len (hG i hi).2.1]; exact (List.getElem?_eq_some_iff.1 hd).1
                obtain ⟨v, d', hv, hd', hcell, r1, r2⟩ := get i hi j hj
                have : (G i).2[j]? = some d := hd
                rw [hd'] at this
                cases this
                simp only [hv, Option.getD_some]
                exact r1
        · cases hs
      · cases hs
    · rename_i fs ht
      split at hs
      · rename_i ss' hfs
        split at hs
        · rename_i hl
          cases hs
          have hl := nbeq hl
          obtain ⟨xs, n, _, rfl, hcl, hxl, hf⟩ := DataW.trod_struct ht h
          obtain ⟨ds, o, c⟩ := open_fs ih cs fs.toList 0 _ hfs (n := n) (fun f hfm => by
            obtain ⟨i, hi, hfi⟩ := List.getElem_of_mem hfm
            have hi' : i < fs.size := by simpa using hi
            have hfi' : fs[i]? = some f := by rw [← hfi]; simp [hi']
            have hx : xs[i]? = some (xs[i]'(by omega)) := by simp [hxl, hi']
            refine ⟨_, (hf i f hfi').trans hx, fun m hm => hw m ?_⟩
            simp only [DataW.weights, ht]
            refine DataW.weights_mem_each (j := i) (t := f.type) ?_ ?_ m hm
            · simp [hfi']
            · simp [hx])
          refine ⟨ds, o, ?_⟩
          rw [List.drop_zero, hl, ← hcl, List.take_length] at c
          exact c
        · cases hs
      · cases hs
    · rename_i m e ht
      split at hs
      · rename_i es he
        split at hs
        · rename_i hl
          cases hs
          simp only [andB_eq, Bool.and_eq_true] at hl
          have hl1 := nbeq hl.1
          have hl2 := nbeq hl.2
          obtain ⟨xs, n, _, rfl, hcl, hxl, hf⟩ := DataW.trod_array ht h
          obtain ⟨ds, o, c⟩ := open_rep ih cs he hl1 (n := n) m 0 (fun i hi => by
            have hx : xs[i]? = some (xs[i]'(by omega)) := by simp [hxl, hi]
            refine ⟨_, by rw [Nat.zero_add]; exact (hf i hi).trans hx, fun q hq => hw q ?_⟩
            simp only [DataW.weights, ht]
            exact weightsAll_mem (List.mem_map_of_mem (List.getElem_mem _)) q hq)
          refine ⟨ds, o, ?_⟩
          have hrep : ∀ m, (repS m es).length = m * es.length := by
            intro m
            induction m with
            | zero => simp [repS]
            | succ m ih => simp only [repS, List.length_append, ih]; rw [Nat.add_mul, Nat.one_mul, Nat.add_comm]
          rw [Nat.zero_mul, List.drop_zero, hrep, hl2, ← hcl, List.take_length] at c
          exact c
        · cases hs
      · cases hs
    · cases hs
/-! ### Arguments -/
def argSh (P : Program) (t : TypeId) : Option (Bool × List Sh) :=
  match P.underlying t, shOf P 12 t with
  | some (.struct _), some ss => some (true, ss)
  | some (.array _ _), some ss => some (true, ss)
  | some .bool, some ss => some (false, ss)
  | some (.int _), some ss => some (false, ss)
  | some .string, some ss => some (false, ss)
  | some (.slice _), some ss => some (false, ss)
  | _, _ => none
def argShs (P : Program) : List TypeId → Option (List (Bool × List Sh))
  | [] => some []
  | t :: ts => match argSh P t, argShs P ts with
    | some a, some l => some (a :: l)
    | _, _ => none
def okArg : Bool × List Sh → V → Prop
  | (true, ss), u => ∃ ds, u = .agg ds ∧ okShs ss ds
  | (false, s :: []), u => okSh s u
  | _, _ => False
def okArgs : List (Bool × List Sh) → List V → Prop
  | [], [] => True
  | s :: ss, u :: us => okArg s u ∧ okArgs ss us
  | _, _ => False
def Cx.all (w : World) : Cx := ⟨fun _ => none, fun b => b < w.heap.size, w⟩
theorem open_arg {t : TypeId} {sh : Bool × List Sh} (hs : argSh P t = some sh) {v : Value} {d : DataW H} {p : List MemPlace} {r : Reach} {base : Nat} (h : DataW.Trod enc P w 0 (fun _ => true) true t v d p) (ho : Value.okWide P w r base t v)
    (hw : ∀ m ∈ d.weights P t, m ≤ 140737488351232) : ∃ u, okArg sh u ∧ R (Cx.all w) v u := by
  obtain ⟨fuel, h⟩ := h
  have agg : ∀ xs ss, v = .agg xs → shOf P 12 t = some ss → ∃ u, okArg (true, ss) u ∧ R (Cx.all w) v u := fun xs ss e hsh => by
    obtain ⟨ds, o, c⟩ := open_sh 12 t ss hsh fuel _ _ h hw
    subst e
    refine ⟨.agg ds, ⟨ds, rfl, o⟩, .agg xs ds (by simpa [Value.cells] using c.1) fun j v d hv hd => .pure (c.2 j v d ?_ hd).1⟩
    simpa [Value.cells] using hv
  have one : ∀ ss, v.cells.toList = [v] → shOf P 12 t = some ss → ∃ u, okArg (false, ss) u ∧ R (Cx.all w) v u := fun ss e hsh => by
    obtain ⟨ds, o, c⟩ := open_sh 12 t ss hsh fuel _ _ h hw
    have hl := okShs_len o
    have hc := c.1
    rw [e] at hc c
    match ss, ds, hl, hc, o with
    | [s], [u], _, _, o =>
      simp only [okShs] at o
      exact ⟨u, o.1, .pure (c.2 0 v u rfl rfl).1⟩
    | [], ds, hl, hc, _ => simp at hl hc; omega
    | _ :: _ :: _, ds, hl, hc, _ => simp at hl hc; omega
  unfold argSh at hs
  split at hs
  · rename_i fs ss ht hsh
    cases hs
    obtain ⟨xs, e, _⟩ := okWide_struct ht ho
    exact agg xs _ e hsh
  · rename_i m e ss ht hsh
    cases hs
    have : ∃ cs, v = .agg cs := by
      simp only [Value.okWide, ht] at ho
      obtain ⟨cs, h1, _⟩ := ho
      exact ⟨cs, h1⟩
    obtain ⟨xs, e⟩ := this
    exact agg xs _ e hsh
  · rename_i ss ht hsh
    cases hs
    obtain ⟨b, rfl⟩ := okWide_bool ht ho
    exact one _ rfl hsh
  · rename_i ss k ht hsh
    cases hs
    obtain ⟨b, rfl⟩ := okWide_int ht ho
    exact one _ rfl hsh
  · rename_i ss ht hsh
    cases hs
    obtain ⟨b, rfl⟩ := okWide_string ht ho
    exact one _ rfl hsh
  · rename_i ss e ht hsh
    cases hs
    obtain ⟨a, l, c, rfl⟩ := okWide_slice ht ho
    exact one _ rfl hsh
  · cases hs
theorem open_args {r : Reach} {base : Nat} : ∀ {ts : List TypeId} {shs : List (Bool × List Sh)} (_ : argShs P ts = some shs) {vs : List Value} {ds : List (DataW H)} {ps : List MemPlace} (_ : DataW.TrodAll enc P w 0 (fun _ => true) true ts vs ds ps)
    (_ : ∀ (j : Nat) t v, ts[j]? = some t → vs[j]? = some v → Value.okWide P w r base t v) (_ : ∀ m ∈ DataW.weightsEach P ts ds, m ≤ 140737488351232),
    ∃ us, okArgs shs us ∧ us.length = vs.length ∧ ∀ (j : Nat) v d, vs[j]? = some v → us[j]? = some d → R (Cx.all w) v d
  | [], shs, hs, vs, ds, ps, h, _, _ => by
    obtain ⟨rfl, rfl, rfl⟩ := trodAll_nil h
    cases hs
    exact ⟨[], trivial, rfl, fun j v d hv => by simp at hv⟩
  | t :: ts, shs, hs, vs, ds, ps, h, ho, hw => by
    obtain ⟨v, vs, d, ds, p, q, rfl, rfl, rfl, h1, h2⟩ := trodAll_cons h
    simp only [argShs] at hs
    split at hs
    · rename_i a l ha hl
      cases hs
      simp only [DataW.weightsEach, List.mem_append] at hw
      obtain ⟨u, o1, r1⟩ := open_arg ha h1 (ho 0 t v rfl rfl) (fun m hm => hw m (.inl hm))
      obtain ⟨us, o2, l2, r2⟩ := open_args hl h2 (fun j t v ht hv => ho (j + 1) t v ht hv) (fun m hm => hw m (.inr hm))
      refine ⟨u :: us, ⟨o1, o2⟩, by simp [l2], fun j v' d' hv hd => ?_⟩
      cases j with
      | zero => simp at hv hd; subst hv; subst hd; exact r1
      | succ j => exact r2 j v' d' (by simpa using hv) (by simpa using hd)
    · cases hs
theorem shut_args {W' : World} (hl : laidOutB P = true) (hb : Below w.heap.size w W') : ∀ {ts : List TypeId} (_ : (ts.all fun t => P.readableRec t && decide (t < P.types.size)) = true) {vs : List Value} {ds : List (DataW H)} {ps : List MemPlace} (_ : DataW.TrodAll enc P w 0 (fun _ => true) true ts vs ds ps),
    DataW.TrodAll enc P W' 0 (fun b => decide (b < w.heap.size)) true ts vs ds ps
  | [], _, vs, ds, ps, h => by
    obtain ⟨rfl, rfl, rfl⟩ := trodAll_nil h
    rfl
  | t :: ts, hr, vs, ds, ps, h => by
    obtain ⟨v, vs, d, ds, p, q, rfl, rfl, rfl, h1, h2⟩ := trodAll_cons h
    simp only [List.all_cons, Bool.and_eq_true, decide_eq_true_eq] at hr
    have lt : ∀ x ∈ p, x.block < w.heap.size := by obtain ⟨m, hm⟩ := h1; exact DataW.trod_lt m _ _ _ hm
    exact trodAll_cons_mk (Below.trod hl hr.1.1 hr.1.2 h1 hb lt) (shut_args hl hb (by simpa using hr.2) h2)
theorem weights_left : ∀ {ts us : List TypeId} {ds gs : List (DataW H)}, (DataW.weightsEach P (ts ++ us) (ds ++ gs)).all (· ≤ reachBytes) = true → ∀ m ∈ DataW.weightsEach P ts ds, m ≤ 140737488351232
  | [], us, ds, gs, h, m, hm => by simp [DataW.weightsEach] at hm
  | t :: ts, us, [], gs, h, m, hm => by simp [DataW.weightsEach] at hm
  | t :: ts, us, d :: ds, gs, h, m, hm => by
    simp only [List.cons_append, DataW.weightsEach, List.all_append, Bool.and_eq_true] at h
    simp only [DataW.weightsEach, List.mem_append] at hm
    rcases hm with hm | hm
    · have := of_decide_eq_true (List.all_eq_true.1 h.1 m hm)
      exact this
    · exact weights_left h.2 m hm
end
theorem vle_refl (v : V) : vle v v := by
  cases v <;> first | exact ⟨rfl, rfl, fun _ _ => rfl⟩ | rfl
theorem vleL_refl : ∀ l : List V, vleL l l
  | [] => trivial
  | v :: l => ⟨vle_refl v, vleL_refl l⟩
theorem EnvOk.lawV {P : Program} {E : Env} (o : EnvOk P E) {n : Nat} {f : FuncId} {us args : List V} (hv : vleL us args) (hc : callW E n f args [] (fun d _ => d = .bool true) (fun _ _ => False)) (hfb : ∃ fn, FnOk P f fn ∧ fn.body.isSome = true) {w : World} {vs : Array Value} (hl : us.length = vs.toList.length)
    (hr : ∀ (j : Nat) v d, vs.toList[j]? = some v → us[j]? = some d → R (Cx.all w) v d) : Calls P f vs w fun e w' => e = .returned (.bool true) ∧ Below w.heap.size w w' := by
  obtain ⟨v1, v2⟩ := vleL_get hv
  refine o.law hc hfb (by rw [← v1, hl]; simp) (fun j v d hj hd => ?_)
  have hju : j < us.length := by have := (List.getElem?_eq_some_iff.1 hd).1; omega
  have hu : us[j]? = some us[j] := by simp [hju]
  exact vle_R (hr j v us[j] (by simpa using hj) hu) (v2 j us[j] d hu hd)
end Go.Ev
