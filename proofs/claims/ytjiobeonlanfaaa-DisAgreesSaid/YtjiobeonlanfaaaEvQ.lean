import Derived.Test.YtjiobeonlanfaaaEvP
import Derived.Laws.Bits
namespace Go.Ev
set_option linter.unusedSimpArgs false
set_option linter.unusedVariables false
open Go.RowKit

variable {P : Program} {ty : TypeId → Option Ty} {c : Cx}

/-- how the operands read -/
def EvR (c : Cx) (e : Operand → Value) (ev : Operand → Option V) : Prop := ∀ x d, ev x = some d → R c (e x) d

theorem R.intI {k : IntKind} {n : Int} {v : Value} (h : R c v (.int k n)) : v = .int k n := by cases h with | pure h => cases h; rfl
theorem R.boolI {b : Bool} {v : Value} (h : R c v (.bool b)) : v = .bool b := by cases h with | pure h => cases h; rfl
theorem R.strI {s : ByteArray} {v : Value} (h : R c v (.str s)) : v = .string s := by cases h with | pure h => cases h; rfl
theorem R.nslI {v : Value} (h : R c v .nsl) : v = .slice none 0 0 := by cases h with | pure h => cases h; rfl
theorem R.aggI {cs : List V} {v : Value} (h : R c v (.agg cs)) : ∃ vs : Array Value, v = .agg vs ∧ vs.size = cs.length ∧ ∀ (j : Nat) v d, vs[j]? = some v → cs[j]? = some d → R c v d := by
  cases h with
  | pure h => cases h
  | agg vs cs hl hr => exact ⟨vs, rfl, hl, hr⟩
theorem R.tupI {cs : List V} {v : Value} (h : R c v (.tup cs)) : ∃ vs : Array Value, v = .tuple vs ∧ vs.size = cs.length ∧ ∀ (j : Nat) v d, vs[j]? = some v → cs[j]? = some d → R c v d := by
  cases h with
  | pure h => cases h
  | tup vs cs hl hr => exact ⟨vs, rfl, hl, hr⟩
theorem R.mkInt (k : IntKind) (n : Int) : R c (.int k n) (.int k n) := .pure (.int k n)
theorem R.mkBool (b : Bool) : R c (.bool b) (.bool b) := .pure (.bool b)
theorem R.mkStr (s : ByteArray) : R c (.string s) (.str s) := .pure (.str s)

theorem binI_ok {op : BinOp} {k : IntKind} {a b : Int} {p : Rq} {d : V} (h : binI op k a b = some (p, d)) (hp : p.holds) (w : World)
    (ho1 : op ≠ .shl) (ho2 : op ≠ .shr) (t : TypeId) : ∃ v, (binOp op t (.int k a) (.int k b)).run P w = .ok v w ∧ R c v d := by
  cases op <;> simp only [binI, okS, Option.some.injEq, Prod.mk.injEq, reduceCtorEq] at h <;> first | exact absurd rfl ho1 | exact absurd rfl ho2 | skip
  all_goals (obtain ⟨rfl, rfl⟩ := h; simp only [Rq.holds] at hp)
  · exact ⟨.int k (k.wrap (a + b)), by simp [binOp, Op.intArith], .mkInt _ _⟩
  · exact ⟨.int k (k.wrap (a - b)), by simp [binOp, Op.intArith], .mkInt _ _⟩
  · exact ⟨.int k (k.wrap (a * b)), by simp [binOp, Op.intArith], .mkInt _ _⟩
  · exact ⟨.int k (k.wrap (a.tdiv b)), by simp [binOp, Op.intDiv, hp], .mkInt _ _⟩
  · exact ⟨.int k (a.tmod b), by simp [binOp, Op.intDiv, hp], .mkInt _ _⟩
  · exact ⟨.int k (bitsOf .and k a b), by simp [binOp, Op.intBits, bitsOf], .mkInt _ _⟩
  · exact ⟨.int k (bitsOf .or k a b), by simp [binOp, Op.intBits, bitsOf], .mkInt _ _⟩
  · exact ⟨.int k (bitsOf .xor k a b), by simp [binOp, Op.intBits, bitsOf], .mkInt _ _⟩
  · exact ⟨.int k (bitsOf .andNot k a b), by simp [binOp, Op.intBits, bitsOf], .mkInt _ _⟩
  · exact ⟨.bool (a == b), by simp [binOp, Op.intCmp], .mkBool _⟩
  · exact ⟨.bool (a != b), by simp [binOp, Op.intCmp], .mkBool _⟩
  · exact ⟨.bool (decide (a < b)), by simp [binOp, Op.intCmp], .mkBool _⟩
  · exact ⟨.bool (decide (a ≤ b)), by simp [binOp, Op.intCmp], .mkBool _⟩
  · exact ⟨.bool (decide (a > b)), by simp [binOp, Op.intCmp], .mkBool _⟩
  · exact ⟨.bool (decide (a ≥ b)), by simp [binOp, Op.intCmp], .mkBool _⟩
theorem shl_ok {k k' : IntKind} {a b : Int} (h : 0 ≤ b) (w : World) (t : TypeId) : (binOp .shl t (.int k a) (.int k' b)).run P w = .ok (.int k (shlI k a b)) w := by
  simp [binOp, Op.shift, shlI, show ¬ b < 0 by omega]
theorem shr_ok {k k' : IntKind} {a b : Int} (h : 0 ≤ b) (w : World) (t : TypeId) : (binOp .shr t (.int k a) (.int k' b)).run P w = .ok (.int k (shrI k a b)) w := by
  simp [binOp, Op.shift, shrI, show ¬ b < 0 by omega]
theorem guard_int (op : BinOp) (t : TypeId) (x y : Operand) (k k' : IntKind) (a b : Int) (w : World) : (eqGuard op t x y (.int k a) (.int k' b)).run P w = .ok () w := by
  unfold eqGuard; split <;> rfl
theorem guard_bool (op : BinOp) (t : TypeId) (x y : Operand) (a b : Bool) (w : World) : (eqGuard op t x y (.bool a) (.bool b)).run P w = .ok () w := by
  unfold eqGuard; split <;> rfl
theorem guard_str (op : BinOp) (t : TypeId) (x y : Operand) (a b : ByteArray) (w : World) : (eqGuard op t x y (.string a) (.string b)).run P w = .ok () w := by
  unfold eqGuard; split <;> rfl
theorem guard_nsl (op : BinOp) (t : TypeId) (x y : Operand) (w : World) : (eqGuard op t x y (.slice none 0 0) (.slice none 0 0)).run P w = .ok () w := by
  unfold eqGuard; split <;> rfl
theorem str_ok {op : BinOp} {a b : ByteArray} {p : Rq} {d : V} (t : TypeId) (h : binV ty op t (.str a) (.str b) = some (p, d)) (hp : p.holds) (w : World) :
    ∃ v, (binOp op t (.string a) (.string b)).run P w = .ok v w ∧ R c v d := by
  cases op <;> simp only [binV, okS, Option.some.injEq, Prod.mk.injEq, reduceCtorEq] at h
  all_goals (obtain ⟨rfl, rfl⟩ := h; simp only [Rq.holds] at hp)
  · refine ⟨.string (a ++ b), ?_, .mkStr _⟩
    have : IntKind.max .i64 = 9223372036854775807 := rfl
    have hn : ¬ (((a.size + b.size : Nat) : Int) > IntKind.i64.max) := by rw [this]; omega
    simp only [binOp, Op.stringOp]
    rw [if_neg hn]
    rfl
  all_goals exact ⟨_, rfl, .mkBool _⟩

theorem equalIn_bool {t : TypeId} (h : P.underlying t = some .bool) (n : Nat) (a b : Bool) (w : World) : (Op.equalIn (n + 1) t (.bool a) (.bool b)).run P w = .ok (a == b) w := by
  simp [Op.equalIn, run_underlying h]
theorem equal_bool {t : TypeId} (h : P.underlying t = some .bool) (a b : Bool) (w : World) : (Op.equal t (.bool a) (.bool b)).run P w = .ok (a == b) w := equalIn_bool h 9999 a b w
theorem equalIn_nsl {t e : TypeId} (h : P.underlying t = some (.slice e)) (n : Nat) (w : World) : (Op.equalIn (n + 1) t (.slice none 0 0) (.slice none 0 0)).run P w = .ok true w := by
  simp [Op.equalIn, run_underlying h]
theorem equal_nsl {t e : TypeId} (h : P.underlying t = some (.slice e)) (w : World) : (Op.equal t (.slice none 0 0) (.slice none 0 0)).run P w = .ok true w := equalIn_nsl h 9999 w
/-- whether all types of the table whose values may be held against each other, are such -/
def EqOk (P : Program) (ty : TypeId → Option Ty) : Prop := ∀ t y, ty t = some y → y.eq = true → ∀ (xs ys : Array Value) (as bs : List V) (c : Cx) (b : Bool) (w : World) (op : BinOp) (x z : Operand),
  R c (.agg xs) (.agg as) → R c (.agg ys) (.agg bs) → sameKs as y.zero = true → sameKs bs y.zero = true → eqL as bs = some b →
    (Op.equal t (.agg xs) (.agg ys)).run P w = .ok b w ∧ (eqGuard op t x z (.agg xs) (.agg ys)).run P w = .ok () w

theorem bin_ok (hty : ∀ t y, ty t = some y → TyOk P t y) (heq : EqOk P ty) {op : BinOp} {t : TypeId} {x y : V} {vx vy : Value} {p : Rq} {d : V} (ox oy : Operand)
    (h : binV ty op t x y = some (p, d)) (hp : p.holds) (hx : R c vx x) (hy : R c vy y) (w : World) :
    ∃ v, (do eqGuard op t ox oy vx vy; binOp op t vx vy : Sem Value).run P w = .ok v w ∧ R c v d := by
  by_cases hi : ∃ k a k' b, x = .int k a ∧ y = .int k' b
  · obtain ⟨k, a, k', b, rfl, rfl⟩ := hi
    have := hx.intI; subst this
    have := hy.intI; subst this
    rw [Sem.run_bind, guard_int]
    simp only [Result.andThen_ok]
    by_cases h1 : op = .shl
    · subst h1
      simp only [binV, okS, Option.some.injEq, Prod.mk.injEq] at h
      obtain ⟨rfl, rfl⟩ := h
      exact ⟨_, shl_ok hp w t, .mkInt _ _⟩
    by_cases h2 : op = .shr
    · subst h2
      simp only [binV, okS, Option.some.injEq, Prod.mk.injEq] at h
      obtain ⟨rfl, rfl⟩ := h
      exact ⟨_, shr_ok hp w t, .mkInt _ _⟩
    have h' : (bif kEq k k' then binI op k a b else none) = some (p, d) := by
      cases op <;> first | exact h | exact absurd rfl h1 | exact absurd rfl h2
    cases hk : kEq k k' with
    | false => simp [hk] at h'
    | true =>
      have := kEq_iff.1 hk
      subst this
      simp only [hk, cond_true] at h'
      exact binI_ok h' hp w h1 h2 t
  by_cases hs : ∃ a b, x = .str a ∧ y = .str b
  · obtain ⟨a, b, rfl, rfl⟩ := hs
    have := hx.strI; subst this
    have := hy.strI; subst this
    rw [Sem.run_bind, guard_str]
    simp only [Result.andThen_ok]
    exact str_ok t h hp w
  have h' : (op = .eql ∧ ∃ b, eqV ty t x y = some b ∧ p = none ∧ d = .bool b) ∨ (op = .neq ∧ ∃ b, eqV ty t x y = some b ∧ p = none ∧ d = .bool (!b)) := by
    unfold binV at h
    split at h
    · exact absurd ⟨_, _, _, _, rfl, rfl⟩ hi
    · exact absurd ⟨_, _, rfl, rfl⟩ hs
    · split at h
      · split at h
        · rename_i b hb
          simp only [okS, Option.some.injEq, Prod.mk.injEq] at h
          exact .inl ⟨rfl, b, hb, h.1.symm, h.2.symm⟩
        · cases h
      · split at h
        · rename_i b hb
          simp only [okS, Option.some.injEq, Prod.mk.injEq] at h
          exact .inr ⟨rfl, b, hb, h.1.symm, h.2.symm⟩
        · cases h
      · cases h
  have key : ∀ b, eqV ty t x y = some b → (op = .eql ∨ op = .neq) → (eqGuard op t ox oy vx vy).run P w = .ok () w ∧ (Op.equal t vx vy).run P w = .ok b w ∧
      binOp .eql t vx vy = (do pure (.bool (← Op.equal t vx vy))) ∧ binOp .neq t vx vy = (do pure (.bool (!(← Op.equal t vx vy)))) := by
    intro b hb ho
    unfold eqV at hb
    split at hb
    · rename_i a b'
      split at hb
      · rename_i T hT
        split at hb
        · rename_i hk
          simp only [Option.some.injEq] at hb
          subst hb
          have := hx.boolI; subst this
          have := hy.boolI; subst this
          exact ⟨guard_bool _ _ _ _ _ _ w, equal_bool ((hty t T hT).boolK hk) a b' w, rfl, rfl⟩
        · cases hb
      · cases hb
    · rename_i as bs
      split at hb
      · rename_i T hT
        cases hc : andB T.eq (andB (sameKs as T.zero) (sameKs bs T.zero)) with
        | false => simp [hc] at hb
        | true =>
          simp only [hc, cond_true] at hb
          simp only [andB_eq, Bool.and_eq_true] at hc
          obtain ⟨xs, rfl, _⟩ := hx.aggI
          obtain ⟨ys, rfl, _⟩ := hy.aggI
          obtain ⟨e1, e2⟩ := heq t T hT hc.1 xs ys as bs c b w op ox oy hx hy hc.2.1 hc.2.2 hb
          exact ⟨e2, e1, rfl, rfl⟩
      · cases hb
    · split at hb
      · rename_i T hT
        split at hb
        · rename_i e hk
          simp only [Option.some.injEq] at hb
          subst hb
          have := hx.nslI; subst this
          have := hy.nslI; subst this
          exact ⟨guard_nsl _ _ _ _ w, equal_nsl ((hty t T hT).slice hk) w, rfl, rfl⟩
        · cases hb
      · cases hb
    · cases hb
  rcases h' with ⟨rfl, b, hb, rfl, rfl⟩ | ⟨rfl, b, hb, rfl, rfl⟩
  · obtain ⟨e1, e2, e3, _⟩ := key b hb (.inl rfl)
    exact ⟨.bool b, by simp [e1, e2, e3], .mkBool _⟩
  · obtain ⟨e1, e2, _, e4⟩ := key b hb (.inr rfl)
    exact ⟨.bool (!b), by simp [e1, e2, e4], .mkBool _⟩

theorem allC_mem : ∀ {l : List V}, allC l = true → ∀ d ∈ l, cellB d = true
  | [], _, d, hd => by cases hd
  | x :: l, h, d, hd => by
    simp only [allC, andB_eq, Bool.and_eq_true] at h
    cases hd with
    | head => exact h.1
    | tail _ hd => exact allC_mem h.2 d hd
theorem cells_one {v : Value} (h : v.oneCell' = true) : v.cells = #[v] := by cases v <;> first | rfl | cases h
theorem cellsV_one {d : V} (h : cellB d = true) : cellsV d = [d] := by cases d <;> first | rfl | cases h
theorem cellsV_ok {v : Value} {d : V} (h : R c v d) (hal : allC (cellsV d) = true) : v.cells.size = (cellsV d).length ∧ ∀ (j : Nat) x y, v.cells[j]? = some x → (cellsV d)[j]? = some y → R c x y := by
  cases hd : cellB d with
  | true =>
    rw [cells_one (h.one hd), cellsV_one hd]
    refine ⟨rfl, fun j x y hx hy => ?_⟩
    cases j with
    | zero => simp at hx hy; subst hx; subst hy; exact h
    | succ j => simp at hy
  | false =>
    cases d with
    | agg cs =>
      obtain ⟨vs, rfl, hl, hr⟩ := h.aggI
      exact ⟨hl, fun j x y hx hy => hr j x y hx hy⟩
    | _ => simp_all [cellsV, allC, andB]
theorem putL_len : ∀ (l : List V) (n : Nat) (vs : List V), (putL l n vs).length = l.length
  | l, n, [] => by cases l <;> cases n <;> rfl
  | [], n, _ :: _ => by cases n <;> rfl
  | _ :: l, 0, v :: vs => by simp [putL, putL_len l 0 vs]
  | x :: l, n + 1, v :: vs => by simp [putL, putL_len l n (v :: vs)]
theorem putL_get : ∀ (l : List V) (n : Nat) (vs : List V), n + vs.length ≤ l.length → ∀ j, (putL l n vs)[j]? = if n ≤ j ∧ j < n + vs.length then vs[j - n]? else l[j]?
  | l, n, [], _, j => by
    have : putL l n [] = l := by cases l <;> cases n <;> rfl
    rw [this, if_neg (by simp)]
  | [], n, _ :: _, h, j => by simp at h
  | x :: l, 0, v :: vs, h, j => by
    simp only [putL]
    cases j with
    | zero => simp
    | succ j =>
      simp only [List.getElem?_cons_succ]
      rw [putL_get l 0 vs (by simpa using h) j]
      simp
  | x :: l, n + 1, v :: vs, h, j => by
    simp only [putL]
    cases j with
    | zero => simp
    | succ j =>
      simp only [List.getElem?_cons_succ]
      rw [putL_get l n (v :: vs) (by simp at h ⊢; omega) j]
      by_cases hc : n ≤ j ∧ j < n + (v :: vs).length
      · rw [if_pos hc, if_pos (by omega), show j + 1 - (n + 1) = j - n from by omega]
      · rw [if_neg hc, if_neg (by omega)]
/-- the model's own way of laying cells over cells -/
def overA (cs : Array Value) (off : Nat) (xs : Array Value) : Array Value := xs.zipIdx.foldl (fun cs (c, j) => cs.setIfInBounds (off + j) c) cs
theorem overA_get (off : Nat) : ∀ (xs : List Value) (k : Nat) (cs : Array Value), ((xs.zipIdx k).foldl (fun cs (c, j) => cs.setIfInBounds (off + j) c) cs).size = cs.size ∧
    ∀ j, ((xs.zipIdx k).foldl (fun cs (c, j) => cs.setIfInBounds (off + j) c) cs)[j]? = if off + k ≤ j ∧ j < off + k + xs.length ∧ j < cs.size then xs[j - (off + k)]? else cs[j]?
  | [], k, cs => ⟨rfl, fun j => by rw [if_neg (by simp; omega)]; rfl⟩
  | x :: xs, k, cs => by
    obtain ⟨h1, h2⟩ := overA_get off xs (k + 1) (cs.setIfInBounds (off + k) x)
    simp only [List.zipIdx_cons, List.foldl_cons]
    refine ⟨by rw [h1]; simp, fun j => ?_⟩
    rw [h2 j]
    simp only [Array.size_setIfInBounds, Array.getElem?_setIfInBounds, List.length_cons]
    by_cases e : j = off + k
    · subst e
      rw [if_neg (by omega)]
      by_cases hl : off + k < cs.size
      · simp [hl]
      · simp [hl]
    · by_cases hin : off + k ≤ j ∧ j < off + k + (xs.length + 1) ∧ j < cs.size
      · rw [if_pos (by omega), if_pos hin]
        have : j - (off + k) = (j - (off + (k + 1))) + 1 := by omega
        rw [this]; simp
      · rw [if_neg (by omega), if_neg hin, if_neg (by omega)]

theorem fill_ok {e : Operand → Value} {ev : Operand → Option V} (hev : EvR c e ev) (place : Nat → Option (Nat × Nat)) : ∀ (ps : List (Nat × Operand)) (cs out : List V) (vs : Array Value),
    fillV place ev ps cs = some out → vs.size = cs.length → (∀ (j : Nat) v d, vs[j]? = some v → cs[j]? = some d → R c v d) →
    ∃ us : Array Value, Instr.fill place vs (ps.map fun p => (p.1, e p.2)) = some us ∧ us.size = out.length ∧ cs.length = out.length ∧ ∀ (j : Nat) v d, us[j]? = some v → out[j]? = some d → R c v d
  | [], cs, out, vs, h, hl, hr => by
    simp only [fillV, Option.some.injEq] at h
    subst h
    exact ⟨vs, rfl, hl, rfl, hr⟩
  | (i, x) :: ps, cs, out, vs, h, hl, hr => by
    simp only [fillV] at h
    split at h
    · rename_i off n v hp hx
      split at h
      · rename_i hc
        simp only [andB_eq, Bool.and_eq_true] at hc
        have hn := nbeq hc.1.1
        obtain ⟨hs, hcr⟩ := cellsV_ok (hev x v hx) hc.2
        have hfit := nble hc.1.2
        obtain ⟨g1, g2⟩ := overA_get off (e x).cells.toList 0 vs
        have hov : (e x).cells.zipIdx.foldl (fun cs (c, j) => cs.setIfInBounds (off + j) c) vs = ((e x).cells.toList.zipIdx 0).foldl (fun cs (c, j) => cs.setIfInBounds (off + j) c) vs := by
          rw [← Array.foldl_toList, Array.toList_zipIdx]
        obtain ⟨us, h1, h2, h3, h4⟩ := fill_ok hev place ps (putL cs off (cellsV v)) out ((e x).cells.zipIdx.foldl (fun cs (c, j) => cs.setIfInBounds (off + j) c) vs) h
          (by rw [hov, g1, putL_len, hl]) (fun j u d hu hd => by
            rw [hov, g2 j] at hu
            rw [putL_get _ _ _ (by omega)] at hd
            simp only [Nat.add_zero, Array.length_toList] at hu
            by_cases hin : off ≤ j ∧ j < off + (cellsV v).length
            · rw [if_pos hin] at hd
              rw [if_pos (by omega)] at hu
              exact hcr _ u d (by simpa using hu) hd
            · rw [if_neg hin] at hd
              rw [if_neg (by omega)] at hu
              exact hr j u d hu hd)
        refine ⟨us, ?_, h2, by rw [← h3, putL_len], h4⟩
        simp only [List.map_cons, Instr.fill, hp]
        rw [if_neg (by simp; omega)]
        exact h1
      · cases h
    · cases h

theorem evL_ok {e : Operand → Value} {ev : Operand → Option V} (hev : EvR c e ev) : ∀ (xs : List Operand) (ds : List V), evL ev xs = some ds →
    xs.length = ds.length ∧ ∀ (j : Nat) x d, xs[j]? = some x → ds[j]? = some d → R c (e x) d
  | [], ds, h => by simp only [evL, Option.some.injEq] at h; subst h; exact ⟨rfl, by simp⟩
  | x :: xs, ds, h => by
    simp only [evL] at h
    split at h
    · rename_i v vs hx hs
      simp only [Option.some.injEq] at h
      subst h
      obtain ⟨h1, h2⟩ := evL_ok hev xs vs hs
      refine ⟨by simp [h1], fun j y d hy hd => ?_⟩
      cases j with
      | zero => simp at hy hd; subst hy; subst hd; exact hev x v hx
      | succ j => simp at hy hd; exact h2 j y d hy hd
    · cases h

theorem zeroR (y : Ty) {z : Value} (hz : z.cells.toList = y.zero) : ∀ (j : Nat) v d, z.cells[j]? = some v → (y.zero.map Ev.ofC1)[j]? = some d → R c v d := by
  intro j v d hv hd
  rw [← hz, List.getElem?_map] at hd
  simp [hv] at hd
  subst hd
  exact R.ofC1 c v

def places (F : Array Field) (w : World) (P : Program) : Result (Array (Nat × Nat)) := (F.mapM (m := Sem) fun f => do pure (f.offset, ← sizeOf f.type)).run P w
theorem mapM_places {ty : TypeId → Option Ty} (hty : ∀ t y, ty t = some y → TyOk P t y) (w : World) : ∀ (l : List Field), allT ty (l.map fun f => (f.offset, f.type)) = true →
    ∃ ps : List (Nat × Nat), (l.mapM (m := Sem) fun f => do pure (f.offset, ← sizeOf f.type)).run P w = .ok ps w ∧ ∀ i, fldPlace ty (l.map fun f => (f.offset, f.type)) i = ps[i]?
  | [], _ => ⟨[], by simp, fun i => by simp [fldPlace, nthL]⟩
  | f :: l, h => by
    simp only [List.map_cons, allT] at h
    split at h
    · rename_i y hy
      obtain ⟨ps, h1, h2⟩ := mapM_places hty w l h
      refine ⟨(f.offset, y.size) :: ps, ?_, fun i => ?_⟩
      · simp only [List.mapM_cons, Sem.run_bind, (hty _ _ hy).sizeOf w, Result.andThen_ok, Sem.run_pure, h1]
      · cases i with
        | zero => simp [fldPlace, nthL, hy]
        | succ i =>
          have := h2 i
          simp only [fldPlace, List.map_cons, nthL, List.getElem?_cons_succ] at this ⊢
          exact this
    · cases h

theorem build_ok (hty : ∀ t y, ty t = some y → TyOk P t y) {e : Operand → Value} {ev : Operand → Option V} (hev : EvR c e ev) {t : TypeId} {parts : Array (Nat × Operand)} {p : Rq} {d : V}
    (h : pureV ty ev (.build t parts) = some (p, d)) (w : World) : ∃ v, (Instr.build t (parts.map fun (i, x) => (i, e x))).run P w = .ok v w ∧ R c v d := by
  simp only [pureV] at h
  split at h
  · rename_i y hy
    have T := hty t y hy
    obtain ⟨ti, z, hi, hsz, hby, hz, hzc⟩ := T.info
    have hzr := zeroR (c := c) y hzc
    have hzs : z.cells.size = (y.zero.map Ev.ofC1).length := by rw [List.length_map, ← hzc]; simp
    have hzv : (zeroValue t).run P w = .ok z w := by simp [zeroValue, typeInfo, hi, hz]
    split at h
    · rename_i fs hk
      split at h
      · rename_i cs hal hf
        simp only [okS, Option.some.injEq, Prod.mk.injEq] at h
        obtain ⟨rfl, rfl⟩ := h
        obtain ⟨F, hF, hfs⟩ := T.struct hk
        rw [← hfs] at hal hf
        obtain ⟨ps, hp1, hp2⟩ := mapM_places hty w F.toList hal
        obtain ⟨us, h1, h2, h3, h4⟩ := fill_ok hev _ parts.toList _ cs z.cells hf hzs hzr
        have hpl : (fldPlace ty (F.toList.map fun f => (f.offset, f.type))) = (ps.toArray[·]?) := by funext i; rw [hp2 i]; simp
        rw [hpl] at h1
        refine ⟨.agg us, ?_, .agg us cs h2 h4⟩
        have hm : (F.mapM (m := Sem) fun f => do pure (f.offset, ← sizeOf f.type)).run P w = .ok ps.toArray w := by
          rw [← Array.toArray_toList (xs := F), List.mapM_toArray]
          simp only [Sem.run_map, hp1, Result.andThen_ok]
        unfold Instr.build
        simp only [Sem.run_bind, hzv, Result.andThen_ok, run_underlying hF, hm]
        have : (Array.map (fun x => (x.1, e x.2)) parts).toList = parts.toList.map fun p => (p.1, e p.2) := by simp
        simp only [this, h1]
        rfl
      · cases h
    · rename_i n el hk
      split at h
      · rename_i u hu
        split at h
        · rename_i cs hf
          simp only [okS, Option.some.injEq, Prod.mk.injEq] at h
          obtain ⟨rfl, rfl⟩ := h
          obtain ⟨us, h1, h2, h3, h4⟩ := fill_ok hev _ parts.toList _ cs z.cells hf hzs hzr
          refine ⟨.agg us, ?_, .agg us cs h2 h4⟩
          unfold Instr.build
          simp only [Sem.run_bind, hzv, Result.andThen_ok, run_underlying (T.array hk), (hty _ _ hu).sizeOf w]
          have : (Array.map (fun x => (x.1, e x.2)) parts).toList = parts.toList.map fun p => (p.1, e p.2) := by simp
          simp only [this, h1]
          rfl
        · cases h
      · cases h
    · cases h
  · cases h
end Go.Ev
