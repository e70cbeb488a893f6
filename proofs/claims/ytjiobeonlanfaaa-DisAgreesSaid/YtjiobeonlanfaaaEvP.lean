import Derived.Test.YtjiobeonlanfaaaEvR
import Derived.WalkKit
namespace Go.Ev
set_option linter.unusedSimpArgs false
set_option linter.unusedVariables false
open Go.RowKit

/-! ### The program's tables -/
def tkB : TypeDesc → TK → Bool
  | .slice e, .slice e' => e == e'
  | .array n e, .array n' e' => n == n' && e == e'
  | .struct fs, .struct l => fs.toList.map (fun f => (f.offset, f.type)) == l
  | .int k, .int k' => k == k'
  | .bool, .bool => true
  | .string, .str => true
  | .struct _, _ => false
  | .array _ _, _ => false
  | .slice _, _ => false
  | .interface _, _ => false
  | _, .other => true
  | _, _ => false
structure TyOk (P : Program) (t : TypeId) (y : Ty) : Prop where
  info : ∃ i z, P.info? t = some i ∧ i.size = y.size ∧ i.bytes = y.bytes ∧ i.zero = some z ∧ z.cells.toList = y.zero
  under : ∃ d, P.underlying t = some d ∧ tkB d y.kind = true
  zlen : y.zero.length = y.size
  zone : ∀ v ∈ y.zero, v.oneCell' = true
  zpur : ∀ v ∈ y.zero, pureC (ofC1 v) = true
def Ty.wfB (y : Ty) : Bool := (y.zero.length == y.size) && y.zero.all fun v => v.oneCell' && pureC (ofC1 v)
theorem TyOk.of {P : Program} {t : TypeId} {y : Ty} (h1 : (P.info? t).map (fun i => (i.size, i.bytes, i.zero.map fun z => z.cells.toList)) = some (y.size, y.bytes, some y.zero))
    (h2 : (P.underlying t).map (fun d => tkB d y.kind) = some true) (h3 : y.wfB = true) : TyOk P t y := by
  cases hi : P.info? t with
  | none => simp [hi] at h1
  | some i =>
    simp only [hi, Option.map_some, Option.some.injEq, Prod.mk.injEq] at h1
    obtain ⟨e1, e2, e3⟩ := h1
    cases hz : i.zero with
    | none => simp [hz] at e3
    | some z =>
      simp only [hz, Option.map_some, Option.some.injEq] at e3
      cases hu : P.underlying t with
      | none => simp [hu] at h2
      | some d =>
        simp only [hu, Option.map_some, Option.some.injEq] at h2
        simp only [Ty.wfB, Bool.and_eq_true, beq_iff_eq, List.all_eq_true] at h3
        exact ⟨⟨i, z, hi, e1, e2, hz, e3⟩, ⟨d, hu, h2⟩, h3.1, fun v hv => (h3.2 v hv).1, fun v hv => (h3.2 v hv).2⟩
structure FnOk (P : Program) (f : FuncId) (fn : Func) : Prop where
  look : P.funcs[f]? = some fn
  name : (fn.name == "runtime.NumGoroutine") = false
theorem FnOk.of {P : Program} {f : FuncId} {fn : Func} (h : P.funcs[f]? = some fn) (h2 : (fn.name == "runtime.NumGoroutine") = false) : FnOk P f fn := ⟨h, h2⟩

section
variable {P : Program} {t : TypeId} {y : Ty}
theorem TyOk.agg (h : TyOk P t y) (w : World) : (isAgg t).run P w = .ok y.isAgg w := by
  obtain ⟨d, hd, hk⟩ := h.under
  unfold Go.isAgg Ty.isAgg
  rw [Sem.run_bind, run_underlying hd w]
  cases d <;> cases hy : y.kind <;> simp_all [tkB]
theorem TyOk.sizeOf (h : TyOk P t y) (w : World) : (sizeOf t).run P w = .ok y.size w := by
  obtain ⟨i, z, hi, hs, _⟩ := h.info
  simp [Go.sizeOf, typeInfo, hi, hs]
theorem TyOk.slice (h : TyOk P t y) {e : TypeId} (hk : y.kind = .slice e) : P.underlying t = some (.slice e) := by
  obtain ⟨d, hd, hb⟩ := h.under
  rw [hk] at hb
  cases d <;> simp_all [tkB]
theorem TyOk.array (h : TyOk P t y) {n : Nat} {e : TypeId} (hk : y.kind = .array n e) : P.underlying t = some (.array n e) := by
  obtain ⟨d, hd, hb⟩ := h.under
  rw [hk] at hb
  cases d <;> simp_all [tkB]
theorem TyOk.int (h : TyOk P t y) {k : IntKind} (hk : y.kind = .int k) : P.underlying t = some (.int k) := by
  obtain ⟨d, hd, hb⟩ := h.under
  rw [hk] at hb
  cases d <;> simp_all [tkB]
theorem TyOk.str (h : TyOk P t y) (hk : y.kind = .str) : P.underlying t = some .string := by
  obtain ⟨d, hd, hb⟩ := h.under
  rw [hk] at hb
  cases d <;> simp_all [tkB]
theorem TyOk.boolK (h : TyOk P t y) (hk : y.kind = .bool) : P.underlying t = some .bool := by
  obtain ⟨d, hd, hb⟩ := h.under
  rw [hk] at hb
  cases d <;> simp_all [tkB]
theorem TyOk.struct (h : TyOk P t y) {fs : List (Nat × TypeId)} (hk : y.kind = .struct fs) : ∃ F, P.underlying t = some (.struct F) ∧ F.toList.map (fun f => (f.offset, f.type)) = fs := by
  obtain ⟨d, hd, hb⟩ := h.under
  rw [hk] at hb
  cases d <;> simp_all [tkB]
theorem TyOk.noIface (h : TyOk P t y) : ∃ d, P.underlying t = some d ∧ ∀ ms, d ≠ .interface ms := by
  obtain ⟨d, hd', hb⟩ := h.under
  refine ⟨d, hd', fun ms he => ?_⟩
  subst he
  cases hy : y.kind <;> simp_all [tkB]
end

theorem part_ok {P : Program} {ty : TypeId → Option Ty} (hty : ∀ t y, ty t = some y → TyOk P t y) {c : Cx} {w : World} {t : TypeId} {vs : Array Value} {cs : List V} {off : Nat} {d : V}
    (hl : vs.size = cs.length) (hr : ∀ (j : Nat) v d, vs[j]? = some v → cs[j]? = some d → R c v d) (hp : partV ty t cs off = some d) : ∃ v, (part t vs off).run P w = .ok v w ∧ R c v d := by
  unfold partV at hp
  cases hy : ty t with
  | none => simp [hy] at hp
  | some y =>
    have T := hty t y hy
    simp only [hy] at hp
    unfold part
    rw [Sem.run_bind, T.agg w]
    cases ha : y.isAgg with
    | true =>
      simp only [ha] at hp
      split at hp
      · rename_i hb
        have hb := nble hb
        cases hp
        refine ⟨.agg (vs.extract off (off + y.size)), by simp [Sem.run_bind, T.sizeOf w], .agg _ _ ?_ ?_⟩
        · simp; omega
        · intro j v d hv hd
          have hj : j < y.size := by
            have := (List.getElem?_eq_some_iff.1 hd).1
            simp at this; omega
          refine hr (off + j) v d ?_ ?_
          · rw [Array.getElem?_extract] at hv
            split at hv
            · exact hv
            · cases hv
          · rw [List.getElem?_take_of_lt hj, List.getElem?_drop] at hd
            exact hd
      · cases hp
    | false =>
      simp only [ha, nthL_eq] at hp
      have hlt := (List.getElem?_eq_some_iff.1 hp).1
      obtain ⟨v, hv⟩ : ∃ v, vs[off]? = some v := ⟨vs[off]'(by omega), by simp [show off < vs.size by omega]⟩
      exact ⟨v, by simp [hv], hr off v d hv hp⟩
end Go.Ev
