import Derived.Test.YtjiobeonlanfaaaEvN
import Derived.Laws.StructEq
namespace Go.Ev
set_option linter.unusedSimpArgs false
set_option linter.unusedVariables false
open Go.RowKit

/-! ### '==' of structs and arrays -/
def eqArr (f : List Value → Bool) (sz : Nat) : Nat → List Value → Bool
  | 0, zs => zs.isEmpty
  | n + 1, zs => Nat.ble 1 sz && Nat.ble sz zs.length && f (zs.take sz) && eqArr f sz n (zs.drop sz)
def eqFs (ty : TypeId → Option Ty) (f : TypeId → List Value → Bool) : List Field → List Value → Nat → Bool
  | [], zs, _ => zs.isEmpty
  | F :: fs, zs, off => (F.name != "_") && Nat.beq F.offset off && match ty F.type with
    | some u => Nat.ble 1 u.size && Nat.ble u.size zs.length && f F.type (zs.take u.size) && eqFs ty f fs (zs.drop u.size) (off + u.size)
    | none => false
def eqB (P : Program) (ty : TypeId → Option Ty) : Nat → TypeId → List Value → Bool
  | 0, _, _ => false
  | d + 1, t, zs => match P.underlying t with
    | some (.int _) => (match zs with | [.int _ _] => true | _ => false)
    | some .bool => (match zs with | [.bool _] => true | _ => false)
    | some .string => (match zs with | [.string _] => true | _ => false)
    | some (.array n e) => (match ty e with | some u => eqArr (eqB P ty d e) u.size n zs | none => false)
    | some (.struct fs) => !P.stoodInHeld t && eqFs ty (eqB P ty d) fs.toList zs 0
    | _ => false
theorem eqL_split : ∀ (k : Nat) {as bs : List V} {b : Bool}, eqL as bs = some b → ∃ b1 b2, eqL (as.take k) (bs.take k) = some b1 ∧ eqL (as.drop k) (bs.drop k) = some b2 ∧ b = (b1 && b2)
  | 0, as, bs, b, h => ⟨true, b, rfl, h, by simp⟩
  | k + 1, [], [], b, h => by cases h; exact ⟨true, true, rfl, rfl, rfl⟩
  | k + 1, [], _ :: _, b, h => by cases h
  | k + 1, _ :: _, [], b, h => by cases h
  | k + 1, x :: xs, y :: ys, b, h => by
    simp only [eqL] at h
    split at h
    · rename_i a b' ha hb
      cases h
      obtain ⟨b1, b2, h1, h2, rfl⟩ := eqL_split k hb
      refine ⟨a && b1, b2, ?_, h2, by rw [andB_eq, Bool.and_assoc]⟩
      simp only [List.take_succ_cons, eqL, ha, h1, andB_eq]
    · cases h
theorem sameKs_split : ∀ (k : Nat) {as : List V} {zs : List Value}, sameKs as zs = true → sameKs (as.take k) (zs.take k) = true ∧ sameKs (as.drop k) (zs.drop k) = true
  | 0, as, zs, h => ⟨rfl, h⟩
  | k + 1, [], [], h => ⟨rfl, rfl⟩
  | k + 1, [], _ :: _, h => by cases h
  | k + 1, _ :: _, [], h => by cases h
  | k + 1, x :: xs, y :: ys, h => by
    simp only [sameKs, andB_eq, Bool.and_eq_true] at h
    obtain ⟨h1, h2⟩ := sameKs_split k h.2
    exact ⟨by simp only [List.take_succ_cons, sameKs, andB_eq, h.1, h1, Bool.and_self], h2⟩
theorem sameKs_len : ∀ {as : List V} {zs : List Value}, sameKs as zs = true → as.length = zs.length
  | [], [], _ => rfl
  | [], _ :: _, h => by cases h
  | _ :: _, [], h => by cases h
  | x :: xs, y :: ys, h => by
    simp only [sameKs, andB_eq, Bool.and_eq_true] at h
    simp [sameKs_len h.2]

/-- cells that are told -/
structure Cells (c : Cx) (xs : Array Value) (as : List V) : Prop where
  len : xs.size = as.length
  rd : ∀ (j : Nat) v d, xs[j]? = some v → as[j]? = some d → R c v d

section
variable {P : Program} {ty : TypeId → Option Ty}

def AggEq (P : Program) (d : Nat) (t : TypeId) (zs : List Value) : Prop := ∀ (c : Cx) (w : World) (xs ys : Array Value) (as bs : List V) (b : Bool), Cells c xs as → Cells c ys bs → sameKs as zs = true → sameKs bs zs = true → eqL as bs = some b →
  ∀ D, d ≤ D → (Op.equalIn D t (.agg xs) (.agg ys)).run P w = .ok b w
def PartEq (P : Program) (d : Nat) (t : TypeId) (n : Nat) (zs : List Value) : Prop := ∀ (c : Cx) (w : World) (xs ys : Array Value) (as bs : List V) (off : Nat) (b : Bool), Cells c xs as → Cells c ys bs → off + n ≤ as.length → off + n ≤ bs.length →
  sameKs ((as.drop off).take n) zs = true → sameKs ((bs.drop off).take n) zs = true → eqL ((as.drop off).take n) ((bs.drop off).take n) = some b →
  ∃ va vb, (part t xs off).run P w = .ok va w ∧ (part t ys off).run P w = .ok vb w ∧ ∀ D, d ≤ D → (Op.equalIn D t va vb).run P w = .ok b w

theorem part_agg (hty : ∀ t y, ty t = some y → TyOk P t y) {t : TypeId} {y : Ty} (hy : ty t = some y) (hag : y.isAgg = true) {d : Nat} {zs : List Value} (h : AggEq P d t zs) : PartEq P d t y.size zs := by
  intro c w xs ys as bs off b ha hb la lb sa sb he
  have pa : partV ty t as off = some (.agg ((as.drop off).take y.size)) := by
    simp only [partV, hy, hag, Nat.ble_eq_true_of_le la]
  have pb : partV ty t bs off = some (.agg ((bs.drop off).take y.size)) := by
    simp only [partV, hy, hag, Nat.ble_eq_true_of_le lb]
  obtain ⟨va, ea, ra⟩ := part_ok hty (w := w) ha.len ha.rd pa
  obtain ⟨vb, eb, rb⟩ := part_ok hty (w := w) hb.len hb.rd pb
  refine ⟨va, vb, ea, eb, ?_⟩
  cases ra with
  | pure hp => cases hp
  | agg va' cs hl hx =>
    cases rb with
    | pure hp => cases hp
    | agg vb' cs' hl' hx' => exact h c w va' vb' _ _ b ⟨hl, hx⟩ ⟨hl', hx'⟩ sa sb he
theorem part_one (hty : ∀ t y, ty t = some y → TyOk P t y) {t : TypeId} {y : Ty} (hy : ty t = some y) (hag : y.isAgg = false) {d : Nat} {z : Value} (hn : y.size = 1)
    (h : ∀ (c : Cx) (w : World) (va vb : Value) (x u : V) (b : Bool), R c va x → R c vb u → sameK x z = true → sameK u z = true → eqC x u = some b → ∀ D, d ≤ D → (Op.equalIn D t va vb).run P w = .ok b w) : PartEq P d t y.size [z] := by
  intro c w xs ys as bs off b ha hb la lb sa sb he
  rw [hn] at la lb sa sb he
  have hla : off < as.length := by omega
  have hlb : off < bs.length := by omega
  have ta : (as.drop off).take 1 = [as[off]] := by rw [List.drop_eq_getElem_cons hla]; rfl
  have tb : (bs.drop off).take 1 = [bs[off]] := by rw [List.drop_eq_getElem_cons hlb]; rfl
  rw [ta] at sa he
  rw [tb] at sb he
  have pa : partV ty t as off = some as[off] := by simp only [partV, hy, hag, nthL_eq]; simp [hla]
  have pb : partV ty t bs off = some bs[off] := by simp only [partV, hy, hag, nthL_eq]; simp [hlb]
  obtain ⟨va, ea, ra⟩ := part_ok hty (w := w) ha.len ha.rd pa
  obtain ⟨vb, eb, rb⟩ := part_ok hty (w := w) hb.len hb.rd pb
  refine ⟨va, vb, ea, eb, ?_⟩
  simp only [sameKs, andB_eq, Bool.and_eq_true, and_true] at sa sb
  simp only [eqL] at he
  split at he
  · rename_i a b' hc hb'
    cases hb'
    cases he
    rw [andB_eq, Bool.and_true]
    exact h c w va vb _ _ a ra rb sa sb hc
  · cases he

theorem eqFs_ok {d : Nat} {f : TypeId → List Value → Bool} (hf : ∀ t u zs, ty t = some u → zs.length = u.size → f t zs = true → PartEq P d t u.size zs) : ∀ (fs : List Field) (zs : List Value) (off : Nat), eqFs ty f fs zs off = true →
    ∀ (c : Cx) (w : World) (xs ys : Array Value) (as bs : List V) (b : Bool), Cells c xs as → Cells c ys bs → sameKs (as.drop off) zs = true → sameKs (bs.drop off) zs = true → eqL (as.drop off) (bs.drop off) = some b →
    ∀ D, d ≤ D → (Op.eqFields D xs ys fs).run P w = .ok b w
  | [], zs, off, h, c, w, xs, ys, as, bs, b, ha, hb, sa, sb, he, D, hD => by
    simp only [eqFs, List.isEmpty_iff] at h
    subst h
    have ea := sameKs_len sa
    have eb := sameKs_len sb
    simp only [List.length_nil, List.length_eq_zero_iff] at ea eb
    rw [ea, eb] at he
    cases he
    simp [Op.eqFields]
  | F :: fs, zs, off, h, c, w, xs, ys, as, bs, b, ha, hb, sa, sb, he, D, hD => by
    simp only [eqFs, Bool.and_eq_true, bne_iff_ne, ne_eq] at h
    obtain ⟨⟨h1, h2⟩, h3⟩ := h
    split at h3
    · rename_i u hu
      simp only [Bool.and_eq_true] at h3
      obtain ⟨⟨⟨h7, h4⟩, h5⟩, h6⟩ := h3
      have h7 := nble h7
      have h2 := nbeq h2
      have h4 := nble h4
      have ea := sameKs_len sa
      have eb := sameKs_len sb
      simp only [List.length_drop] at ea eb
      obtain ⟨b1, b2, e1, e2, rfl⟩ := eqL_split u.size he
      obtain ⟨sa1, sa2⟩ := sameKs_split u.size sa
      obtain ⟨sb1, sb2⟩ := sameKs_split u.size sb
      obtain ⟨va, vb, q1, q2, q3⟩ := hf F.type u _ hu (by simp; omega) h5 c w xs ys as bs off b1 ha hb (by omega) (by omega) sa1 sb1 e1
      have rest := eqFs_ok hf fs _ _ h6 c w xs ys as bs b2 ha hb (by rw [← List.drop_drop]; exact sa2) (by rw [← List.drop_drop]; exact sb2) (by rw [← List.drop_drop, ← List.drop_drop]; exact e2) D hD
      rw [Op.eqFields, if_pos h1, h2]
      simp only [Sem.run_bind, q1, q2, q3 D hD, Result.andThen_ok]
      cases b1
      · simp
      · simpa using rest
    · cases h3
theorem eqArr_ok (hty : ∀ t y, ty t = some y → TyOk P t y) {d : Nat} {e : TypeId} {u : Ty} (hu : ty e = some u) {f : List Value → Bool} (hf : ∀ zs, zs.length = u.size → f zs = true → PartEq P d e u.size zs) (c : Cx) (w : World) (xs ys : Array Value) (as bs : List V) (ha : Cells c xs as) (hb : Cells c ys bs) (D : Nat) (hD : d ≤ D) :
    ∀ (m i : Nat) (zs : List Value) (b : Bool), eqArr f u.size m zs = true → sameKs (as.drop (i * u.size)) zs = true → sameKs (bs.drop (i * u.size)) zs = true → eqL (as.drop (i * u.size)) (bs.drop (i * u.size)) = some b →
    (forIn (m := Sem) (List.range' i m) ((none : Option Bool), ()) fun i r => do
        let a ← part e xs (i * u.size)
        let b ← part e ys (i * u.size)
        let q ← Op.equalIn D e a b
        if (!q) = true then pure (ForInStep.done (some false, ())) else pure (ForInStep.yield (none, ()))).run P w = .ok (if b then none else some false, ()) w
  | 0, i, zs, b, h, sa, sb, he => by
    simp only [eqArr, List.isEmpty_iff] at h
    subst h
    have ea := sameKs_len sa
    have eb := sameKs_len sb
    simp only [List.length_nil, List.length_eq_zero_iff] at ea eb
    rw [ea, eb] at he
    cases he
    simp
  | m + 1, i, zs, b, h, sa, sb, he => by
    simp only [eqArr, Bool.and_eq_true] at h
    obtain ⟨⟨⟨h7, h4⟩, h5⟩, h6⟩ := h
    have h7 := nble h7
    have h4 := nble h4
    have ea := sameKs_len sa
    have eb := sameKs_len sb
    simp only [List.length_drop] at ea eb
    obtain ⟨b1, b2, e1, e2, rfl⟩ := eqL_split u.size he
    obtain ⟨sa1, sa2⟩ := sameKs_split u.size sa
    obtain ⟨sb1, sb2⟩ := sameKs_split u.size sb
    rw [List.drop_drop] at sa2 sb2 e2
    rw [List.drop_drop] at e2
    have hi : i * u.size + u.size = (i + 1) * u.size := by rw [Nat.add_mul, Nat.one_mul]
    rw [hi] at sa2 sb2 e2
    obtain ⟨va, vb, q1, q2, q3⟩ := hf _ (by simp; omega) h5 c w xs ys as bs (i * u.size) b1 ha hb (by omega) (by omega) sa1 sb1 e1
    have rest := eqArr_ok hty hu hf c w xs ys as bs ha hb D hD m (i + 1) _ b2 h6 sa2 sb2 e2
    rw [List.range'_succ, List.forIn_cons]
    simp only [Sem.run_bind, q1, q2, q3 D hD, Result.andThen_ok]
    cases b1
    · simp
    · simpa using rest

theorem sameK_int {x : V} {k : IntKind} {n : Int} (h : sameK x (.int k n) = true) : ∃ m, x = .int k m := by
  unfold sameK at h
  split at h
  · rename_i heq; cases heq; exact ⟨_, by rw [kEq_iff.1 h]⟩
  · rename_i heq; cases heq
  · rename_i heq; cases heq
  · cases h
theorem sameK_bool {x : V} {b : Bool} (h : sameK x (.bool b) = true) : ∃ m, x = .bool m := by
  unfold sameK at h
  split at h
  · rename_i heq; cases heq
  · exact ⟨_, rfl⟩
  · rename_i heq; cases heq
  · cases h
theorem sameK_str {x : V} {b : ByteArray} (h : sameK x (.string b) = true) : ∃ m, x = .str m := by
  unfold sameK at h
  split at h
  · rename_i heq; cases heq
  · rename_i heq; cases heq
  · exact ⟨_, rfl⟩
  · cases h
theorem eqB_ok (hty : ∀ t y, ty t = some y → TyOk P t y) : ∀ (d : Nat) (t : TypeId) (y : Ty) (zs : List Value), ty t = some y → zs.length = y.size → eqB P ty d t zs = true → (y.isAgg = true → AggEq P d t zs) ∧ PartEq P d t y.size zs
  | 0, t, y, zs, hy, hl, h => by cases h
  | d + 1, t, y, zs, hy, hl, h => by
    have ih := eqB_ok hty d
    have T := hty t y hy
    obtain ⟨D0, hu, hk⟩ := T.under
    simp only [eqB, hu] at h
    split at h
    · rename_i k e
      cases e
      have hag : y.isAgg = false := by unfold Ty.isAgg; cases hk' : y.kind <;> simp_all [tkB]
      split at h
      · refine ⟨fun x => (by rw [hag] at x; cases x), part_one hty hy hag (by simpa using hl.symm) ?_⟩
        intro c w va vb x u b hx hv s1 s2 he D hD
        obtain ⟨D, rfl⟩ : ∃ D', D = D' + 1 := ⟨D - 1, by omega⟩
        obtain ⟨m1, rfl⟩ := sameK_int s1
        obtain ⟨m2, rfl⟩ := sameK_int s2
        have := hx.intI; subst this
        have := hv.intI; subst this
        simp only [eqC, kEq_iff.2 rfl, cond_true, Option.some.injEq] at he
        subst he
        exact run_equalIn_int w D t _ k m1 m2 hu
      · cases h
    · rename_i e
      cases e
      have hag : y.isAgg = false := by unfold Ty.isAgg; cases hk' : y.kind <;> simp_all [tkB]
      split at h
      · refine ⟨fun x => (by rw [hag] at x; cases x), part_one hty hy hag (by simpa using hl.symm) ?_⟩
        intro c w va vb x u b hx hv s1 s2 he D hD
        obtain ⟨D, rfl⟩ : ∃ D', D = D' + 1 := ⟨D - 1, by omega⟩
        obtain ⟨m1, rfl⟩ := sameK_bool s1
        obtain ⟨m2, rfl⟩ := sameK_bool s2
        have := hx.boolI; subst this
        have := hv.boolI; subst this
        simp only [eqC, Option.some.injEq] at he
        subst he
        exact run_equalIn_bool' w D t m1 m2 hu
      · cases h
    · rename_i e
      cases e
      have hag : y.isAgg = false := by unfold Ty.isAgg; cases hk' : y.kind <;> simp_all [tkB]
      split at h
      · refine ⟨fun x => (by rw [hag] at x; cases x), part_one hty hy hag (by simpa using hl.symm) ?_⟩
        intro c w va vb x u b hx hv s1 s2 he D hD
        obtain ⟨D, rfl⟩ : ∃ D', D = D' + 1 := ⟨D - 1, by omega⟩
        obtain ⟨m1, rfl⟩ := sameK_str s1
        obtain ⟨m2, rfl⟩ := sameK_str s2
        have := hx.strI; subst this
        have := hv.strI; subst this
        simp only [eqC, Option.some.injEq] at he
        subst he
        rw [run_equalIn_string w D t m1 m2 hu, beq_toListBytes]
      · cases h
    · rename_i n e' e
      cases e
      have hag : y.isAgg = true := by unfold Ty.isAgg; cases hk' : y.kind <;> simp_all [tkB]
      split at h
      · rename_i u hue
        have A : AggEq P (d + 1) t zs := by
          intro c w xs ys as bs b ha hb sa sb he D hD
          obtain ⟨D, rfl⟩ : ∃ D', D = D' + 1 := ⟨D - 1, by omega⟩
          have key := eqArr_ok hty hue (d := d) (f := eqB P ty d e') (fun zs h1 h2 => (ih e' u zs hue h1 h2).2) c w xs ys as bs ha hb D (by omega) n 0 zs b h (by simpa using sa) (by simpa using sb) (by simpa using he)
          simp only [Op.equalIn, Sem.run_bind, run_underlying hu, Result.andThen_ok, (hty e' u hue).sizeOf w, Std.Legacy.Range.forIn_eq_forIn_range', Std.Legacy.Range.size, Nat.sub_zero, Nat.add_one_sub_one, Nat.div_one]
          rw [key]
          cases b <;> simp
        exact ⟨fun _ => A, part_agg hty hy hag A⟩
      · cases h
    · rename_i fs e
      cases e
      have hag : y.isAgg = true := by unfold Ty.isAgg; cases hk' : y.kind <;> simp_all [tkB]
      simp only [Bool.and_eq_true, Bool.not_eq_true'] at h
      have A : AggEq P (d + 1) t zs := by
        intro c w xs ys as bs b ha hb sa sb he D hD
        obtain ⟨D, rfl⟩ : ∃ D', D = D' + 1 := ⟨D - 1, by omega⟩
        have hf : P.fieldsOf t = fs := by simp [Program.fieldsOf, hu]
        rw [run_equalIn_struct (P := P) w D t xs ys (by rw [hf]; exact hu) h.1, hf]
        exact eqFs_ok (d := d) (fun t u zs h0 h1 h2 => (ih t u zs h0 h1 h2).2) fs.toList zs 0 h.2 c w xs ys as bs b ha hb (by simpa using sa) (by simpa using sb) (by simpa using he) D (by omega)
      exact ⟨fun _ => A, part_agg hty hy hag A⟩
    · cases h
/-- the whole check: every type that is compared is built of integers, bools and strings -/
theorem EqOk.of (hty : ∀ t y, ty t = some y → TyOk P t y) (h : ∀ t y, ty t = some y → y.eq = true → P.eqGuardType P.depth t = false ∧ ∃ d, d ≤ 10000 ∧ y.isAgg = true ∧ eqB P ty d t y.zero = true) : EqOk P ty := by
  intro t y hy he xs ys as bs c b w op x z hx hz sa sb hq
  obtain ⟨h1, d, h2, h3, h4⟩ := h t y hy he
  have A := (eqB_ok hty d t y y.zero hy (hty t y hy).zlen h4).1 h3
  cases hx with
  | pure hp => cases hp
  | agg _ _ l1 r1 =>
    cases hz with
    | pure hp => cases hp
    | agg _ _ l2 r2 =>
      refine ⟨?_, run_eqGuard_agg w op t x z xs ys h1⟩
      exact A c w xs ys as bs b ⟨l1, r1⟩ ⟨l2, r2⟩ sa sb hq 10000 h2
end
end Go.Ev
