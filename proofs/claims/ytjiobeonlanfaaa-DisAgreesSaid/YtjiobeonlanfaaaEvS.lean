import Derived.Test.YtjiobeonlanfaaaEvQ
import Derived.Laws.Slices
namespace Go.Ev
set_option linter.unusedSimpArgs false
set_option linter.unusedVariables false
open Go.RowKit

variable {P : Program} {ty : TypeId → Option Ty} {c : Cx}

theorem bounds_core {e : Operand → Value} {ev : Operand → Option V} (hev : EvR c e ev) {lo hi : Option Operand} {l u : Option V} (hl : evOp ev lo = some l) (hu : evOp ev hi = some u)
    {n cap : Nat} {k k' : IntKind} {a b : Int} (h1 : optB u (.int .i64 n) = .int k b) (h2 : optB l (.int .i64 0) = .int k' a) (h0 : 0 ≤ a) (hab : a ≤ b) (hb : b ≤ cap) (sl : Bool) (w : World) :
    (Instr.sliceBounds sl n cap (lo.map e) (hi.map e) none).run P w = .ok (a.toNat, b.toNat, cap) w := by
  have hhi : (hi = none ∧ b = n) ∨ ∃ x, hi = some x ∧ e x = .int k b := by
    cases hi with
    | none =>
      simp only [evOp, Option.some.injEq] at hu
      subst hu
      simp only [optB, V.int.injEq] at h1
      exact .inl ⟨rfl, h1.2.symm⟩
    | some x =>
      simp only [evOp] at hu
      split at hu
      · rename_i v hx
        simp only [Option.some.injEq] at hu
        subst hu
        simp only [optB] at h1
        subst h1
        exact .inr ⟨x, rfl, (hev x _ hx).intI⟩
      · cases hu
  have hlo : (lo = none ∧ a = 0) ∨ ∃ x, lo = some x ∧ e x = .int k' a := by
    cases lo with
    | none =>
      simp only [evOp, Option.some.injEq] at hl
      subst hl
      simp only [optB, V.int.injEq] at h2
      exact .inl ⟨rfl, h2.2.symm⟩
    | some x =>
      simp only [evOp] at hl
      split at hl
      · rename_i v hx
        simp only [Option.some.injEq] at hl
        subst hl
        simp only [optB] at h2
        subst h2
        exact .inr ⟨x, rfl, (hev x _ hx).intI⟩
      · cases hl
  have s1 : ∀ code, (Instr.sliceBound (.int k b) cap code).run P w = .ok b.toNat w := fun code => Go.run_sliceBound (P := P) w k b cap code (by omega) (by omega)
  have s2 : ∀ code, (Instr.sliceBound (.int k' a) b.toNat code).run P w = .ok a.toNat w := fun code => Go.run_sliceBound (P := P) w k' a b.toNat code (by omega) (by omega)
  have s3 : ∀ code, b = n → (Instr.sliceBound (.int k' a) n code).run P w = .ok a.toNat w := fun code hb' => by
    have := s2 code
    rwa [show b.toNat = n by omega] at this
  rcases hhi with ⟨rfl, hb'⟩ | ⟨x, rfl, hx⟩ <;> rcases hlo with ⟨rfl, ha'⟩ | ⟨z, rfl, hz⟩
  · simp [Instr.sliceBounds, hb', ha']
  · simp [Instr.sliceBounds, hz, s3 _ hb', hb']
  · simp [Instr.sliceBounds, hx, s1, ha']
  · simp [Instr.sliceBounds, hx, hz, s1, s2]
theorem bnds_spec {n : Nat} {l u : Option V} {p : Rq} {a b : Nat} (h : bnds n l u = some (p, a, b)) (hp : p.holds) :
    ∃ k k' x y, optB u (.int .i64 n) = .int k y ∧ optB l (.int .i64 0) = .int k' x ∧ 0 ≤ x ∧ x ≤ y ∧ y ≤ n ∧ a = x.toNat ∧ b = y.toNat := by
  unfold bnds at h
  split at h
  · rename_i k y k' x h1 h2
    simp only [Option.some.injEq, Prod.mk.injEq] at h
    obtain ⟨rfl, rfl, rfl⟩ := h
    exact ⟨k, k', x, y, h1, h2, hp.1, hp.2.1, hp.2.2, rfl, rfl⟩
  · cases h

theorem R.immI {n sz : Nat} {g : Nat → List V} {v : Value} (h : R c v (.imm n sz g)) : ∃ (a : Option Addr) (cap : Nat) (cv : Nat → Nat → Value), v = .slice a n cap ∧ n ≤ cap ∧ cap ≤ maxL ∧ (a = none → n = 0) ∧
    (∀ i, i < n → (g i).length = sz) ∧ (∀ ad, a = some ad → ∀ i, i < n → ∀ j, j < sz → c.F ad.block ∧ c.w.cell? (ad.add (i * sz + j)) = some (cv i j) ∧ (cv i j).oneCell' = true) ∧
    (∀ i, i < n → ∀ (j : Nat) d, (g i)[j]? = some d → RP c.F c.w (cv i j) d) := by
  cases h with
  | pure h => cases h with | imm a n cap sz g cv h1 h2 h3 hl hc hr => exact ⟨a, cap, cv, rfl, h1, h2, h3, hl, hc, hr⟩
theorem R.arrI {id sz co n : Nat} {v : Value} (h : R c v (.arr id sz co n)) : ∃ (b : Nat) (a' : Option Addr) (cap' : Nat), v = .slice a' n cap' ∧ c.ρ id = some (.box b) ∧ n ≤ cap' ∧ cap' ≤ maxL ∧
    (0 < n → a' = some ⟨b, co, none⟩) ∧ (a' = none → n = 0) := by
  cases h with
  | pure h => cases h
  | arr id sz co n b a' cap' e h1 h2 h3 h4 => exact ⟨b, a', cap', rfl, e, h1, h2, h3, h4⟩
theorem R.ownI {id sz off n : Nat} {v : Value} (h : R c v (.own id sz off n)) : ∃ (a : Option Nat) (cap : Nat), c.ρ id = some (.row a cap) ∧ OwnV a cap sz off n v := by
  cases h with
  | pure h => cases h
  | own id sz off n a cap v e hv => exact ⟨a, cap, e, hv⟩
theorem R.ptrI {id off : Nat} {v : Value} (h : R c v (.ptr id off)) : ∃ b, v = .pointer (some ⟨b, off, none⟩) ∧ c.ρ id = some (.box b) := by
  cases h with
  | pure h => cases h
  | ptr id off b e => exact ⟨b, rfl, e⟩
theorem R.eptrI {id sz i k : Nat} {v : Value} (h : R c v (.eptr id sz i k)) : ∃ b cap, v = .pointer (some ⟨b, i * sz + k, none⟩) ∧ c.ρ id = some (.row (some b) cap) := by
  cases h with
  | pure h => cases h
  | eptr id sz i k b cap e => exact ⟨b, cap, rfl, e⟩
theorem R.iptrI {cs : List V} {v : Value} (h : R c v (.iptr cs)) : ∃ (ad : Addr) (cv : Nat → Value), v = .pointer (some ad) ∧ (∀ j, j < cs.length → c.F ad.block ∧ c.w.cell? (ad.add j) = some (cv j) ∧ (cv j).oneCell' = true) ∧
    (∀ (j : Nat) d, cs[j]? = some d → RP c.F c.w (cv j) d) := by
  cases h with
  | pure h => cases h
  | iptr cs ad cv hc hr => exact ⟨ad, cv, rfl, hc, hr⟩

theorem slice_imm {t e' : TypeId} {z : Ty} (hz : TyOk P e' z) (hu : P.underlying t = some (.slice e')) {e : Operand → Value} {ev : Operand → Option V} (hev : EvR c e ev) {lo hi : Option Operand} {l u : Option V}
    (hl : evOp ev lo = some l) (hu' : evOp ev hi = some u) {n sz : Nat} {g : Nat → List V} {v : Value} (hv : R c v (.imm n sz g)) {p : Rq} {a b : Nat} (hb : bnds n l u = some (p, a, b)) (hp : p.holds) (hsz : z.size = sz) (w : World) (hw : w = c.w) :
    ∃ v', (Instr.sliceAt t v (lo.map e) (hi.map e) none).run P w = .ok v' w ∧ R c v' (.imm (b - a) sz (subG a g)) := by
  obtain ⟨k, k', x, y, h1, h2, h0, hxy, hy, rfl, rfl⟩ := bnds_spec hb hp
  obtain ⟨ad, cap, cv, rfl, q1, q2, q3, ql, qc, qr⟩ := hv.immI
  have hbd := bounds_core (P := P) hev hl hu' h1 h2 h0 hxy (show y ≤ cap by omega) true w
  refine ⟨.slice (if cap = x.toNat then ad else ad.map (·.add (x.toNat * z.size))) (y.toNat - x.toNat) (cap - x.toNat), ?_, ?_⟩
  · simp [Instr.sliceAt, Instr.slice, run_underlying hu, hbd, hz.sizeOf w]
  · by_cases hc : cap = x.toNat
    · rw [if_pos hc]
      have hn : y.toNat - x.toNat = 0 := by omega
      rw [hn]
      exact .pure (.imm _ 0 _ _ _ (fun _ _ => undef) (by omega) (by omega) (fun _ => rfl) (fun i hi => by omega) (fun _ _ i hi => by omega) (fun i hi => by omega))
    · rw [if_neg hc]
      refine .pure (.imm _ _ _ _ _ (fun i j => cv (i + x.toNat) j) (by omega) (by omega) ?_ (fun i hi => ql _ (by omega)) ?_ (fun i hi j d hd => qr _ (by omega) j d hd))
      · intro hn
        cases ad with
        | none => have := q3 rfl; omega
        | some ad => cases hn
      · intro ad' had i hi j hj
        cases ad with
        | none => cases had
        | some ad0 =>
          simp only [Option.map_some, Option.some.injEq] at had
          subst had
          obtain ⟨f1, f2, f3⟩ := qc ad0 rfl (i + x.toNat) (by omega) j hj
          refine ⟨by rw [add_block]; exact f1, ?_, f3⟩
          rw [add_add, hsz, show x.toNat * sz + (i * sz + j) = (i + x.toNat) * sz + j by rw [Nat.add_mul]; omega]
          exact f2

theorem slice_nsl {t : TypeId} {T : Ty} (hT : TyOk P t T) {e : Operand → Value} {ev : Operand → Option V} (hev : EvR c e ev) {lo hi : Option Operand} {l u : Option V}
    (hl : evOp ev lo = some l) (hu' : evOp ev hi = some u) {v : Value} (hv : R c v .nsl) {p : Rq} {a b : Nat} (hb : bnds 0 l u = some (p, a, b)) (hp : p.holds) {e' : TypeId} (hk : T.kind = .slice e')
    {z : Ty} (hz : TyOk P e' z) (w : World) :
    ∃ v', (Instr.sliceAt t v (lo.map e) (hi.map e) none).run P w = .ok v' w ∧ R c v' .nsl := by
  obtain ⟨k, k', x, y, h1, h2, h0, hxy, hy, rfl, rfl⟩ := bnds_spec hb hp
  have := hv.nslI; subst this
  have hx0 : x = 0 := by omega
  have hy0 : y = 0 := by omega
  subst hx0; subst hy0
  have hbd := bounds_core (P := P) hev hl hu' h1 h2 h0 hxy (show (0 : Int) ≤ ((0 : Nat) : Int) by omega) true w
  exact ⟨.slice none 0 0, by simp [Instr.sliceAt, Instr.slice, run_underlying (hT.slice hk), hbd, hz.sizeOf w], .pure .nsl⟩
theorem slice_arr {t e' : TypeId} {z : Ty} (hz : TyOk P e' z) (hu : P.underlying t = some (.slice e')) {e : Operand → Value} {ev : Operand → Option V} (hev : EvR c e ev) {lo hi : Option Operand} {l u : Option V}
    (hl : evOp ev lo = some l) (hu' : evOp ev hi = some u) {id sz co n : Nat} {v : Value} (hv : R c v (.arr id sz co n)) {p : Rq} {a b : Nat} (hb : bnds n l u = some (p, a, b)) (hp : p.holds) (hsz : z.size = sz) (w : World) :
    ∃ v', (Instr.sliceAt t v (lo.map e) (hi.map e) none).run P w = .ok v' w ∧ R c v' (.arr id sz (co + a * sz) (b - a)) := by
  obtain ⟨k, k', x, y, h1, h2, h0, hxy, hy, rfl, rfl⟩ := bnds_spec hb hp
  obtain ⟨blk, ad, cap, rfl, hr, q1, q2, q3, q4⟩ := hv.arrI
  have hbd := bounds_core (P := P) hev hl hu' h1 h2 h0 hxy (show y ≤ cap by omega) true w
  refine ⟨.slice (if cap = x.toNat then ad else ad.map (·.add (x.toNat * z.size))) (y.toNat - x.toNat) (cap - x.toNat), ?_, ?_⟩
  · simp [Instr.sliceAt, Instr.slice, run_underlying hu, hbd, hz.sizeOf w]
  · refine .arr id sz _ _ blk _ _ hr (by omega) (by omega) (fun hn => ?_) (fun hn => ?_)
    · rw [if_neg (by omega), q3 (by omega), hsz]
      simp [add_lit]
    · by_cases hc : cap = x.toNat
      · omega
      · rw [if_neg hc] at hn
        cases ad with
        | none => have := q4 rfl; omega
        | some ad => cases hn
theorem slice_str {t : TypeId} (hu : P.underlying t = some .string) {e : Operand → Value} {ev : Operand → Option V} (hev : EvR c e ev) {lo hi : Option Operand} {l u : Option V}
    (hl : evOp ev lo = some l) (hu' : evOp ev hi = some u) {s : ByteArray} {v : Value} (hv : R c v (.str s)) {p : Rq} {a b : Nat} (hb : bnds s.size l u = some (p, a, b)) (hp : p.holds) (w : World) :
    ∃ v', (Instr.sliceAt t v (lo.map e) (hi.map e) none).run P w = .ok v' w ∧ R c v' (.str (s.extract a b)) := by
  obtain ⟨k, k', x, y, h1, h2, h0, hxy, hy, rfl, rfl⟩ := bnds_spec hb hp
  have := hv.strI; subst this
  have hbd := bounds_core (P := P) hev hl hu' h1 h2 h0 hxy hy false w
  exact ⟨_, by simp [Instr.sliceAt, Instr.slice, run_underlying hu, hbd], .mkStr _⟩
theorem slice_ptr {t e' : TypeId} {z : Ty} {n : Nat} (hz : TyOk P e' z) (hu : P.underlying t = some (.array n e')) {e : Operand → Value} {ev : Operand → Option V} (hev : EvR c e ev) {lo hi : Option Operand} {l u : Option V}
    (hl : evOp ev lo = some l) (hu' : evOp ev hi = some u) {id off : Nat} {v : Value} (hv : R c v (.ptr id off)) {p : Rq} {a b : Nat} (hb : bnds n l u = some (p, a, b)) (hp : p.holds) (hn : n ≤ maxL) (w : World) :
    ∃ v', (Instr.sliceAt t v (lo.map e) (hi.map e) none).run P w = .ok v' w ∧ R c v' (.arr id z.size (off + a * z.size) (b - a)) := by
  obtain ⟨k, k', x, y, h1, h2, h0, hxy, hy, rfl, rfl⟩ := bnds_spec hb hp
  obtain ⟨blk, rfl, hr⟩ := hv.ptrI
  have hbd := bounds_core (P := P) hev hl hu' h1 h2 h0 hxy hy false w
  refine ⟨.slice (some (if n = x.toNat then ⟨blk, off, none⟩ else (⟨blk, off, none⟩ : Addr).add (x.toNat * z.size))) (y.toNat - x.toNat) (n - x.toNat), ?_, ?_⟩
  · simp [Instr.sliceAt, Instr.sureAddr, run_underlying hu, hbd, hz.sizeOf w]
  · refine .arr id _ _ _ blk _ _ hr (by omega) (by omega) (fun hn => ?_) (fun hn => by cases hn)
    rw [if_neg (by omega)]
    simp [add_lit]

theorem slice_iptr {t e' : TypeId} {z : Ty} {n : Nat} (hz : TyOk P e' z) (hu : P.underlying t = some (.array n e')) {e : Operand → Value} {ev : Operand → Option V} (hev : EvR c e ev) {lo hi : Option Operand} {l u : Option V}
    (hl : evOp ev lo = some l) (hu' : evOp ev hi = some u) {cs : List V} {v : Value} (hv : R c v (.iptr cs)) {p : Rq} {a b : Nat} (hb : bnds n l u = some (p, a, b)) (hp : p.holds) (hn : n ≤ maxL) (hcs : n * z.size ≤ cs.length) (w : World) :
    ∃ v', (Instr.sliceAt t v (lo.map e) (hi.map e) none).run P w = .ok v' w ∧ R c v' (.imm (b - a) z.size (subG a (litG z.size cs))) := by
  obtain ⟨k, k', x, y, h1, h2, h0, hxy, hy, rfl, rfl⟩ := bnds_spec hb hp
  obtain ⟨ad, cv, rfl, hc, hr⟩ := hv.iptrI
  have hbd := bounds_core (P := P) hev hl hu' h1 h2 h0 hxy hy false w
  have inside : ∀ i j, i < y.toNat - x.toNat → j < z.size → (i + x.toNat) * z.size + j < cs.length := fun i j hi hj => by
    have : (i + x.toNat + 1) * z.size ≤ n * z.size := Nat.mul_le_mul_right _ (by omega)
    rw [Nat.add_mul, Nat.one_mul] at this
    omega
  have glen : ∀ i, i < y.toNat - x.toNat → (subG x.toNat (litG z.size cs) i).length = z.size := fun i hi => by
    have : (i + x.toNat + 1) * z.size ≤ n * z.size := Nat.mul_le_mul_right _ (by omega)
    rw [Nat.add_mul, Nat.one_mul] at this
    simp only [subG, litG, List.length_take, List.length_drop]
    omega
  refine ⟨.slice (some (if n = x.toNat then ad else ad.add (x.toNat * z.size))) (y.toNat - x.toNat) (n - x.toNat), ?_, ?_⟩
  · simp [Instr.sliceAt, Instr.sureAddr, run_underlying hu, hbd, hz.sizeOf w]
  · refine .pure (.imm _ _ _ _ _ (fun i j => cv ((i + x.toNat) * z.size + j)) (by omega) (by omega) (fun h => by cases h) glen (fun ad' had i hi j hj => ?_) (fun i hi j d hd => ?_))
    · cases had
      obtain ⟨f1, f2, f3⟩ := hc _ (inside i j hi hj)
      rw [if_neg (by omega)]
      refine ⟨by rw [add_block]; exact f1, ?_, f3⟩
      rw [add_add, show x.toNat * z.size + (i * z.size + j) = (i + x.toNat) * z.size + j by rw [Nat.add_mul]; omega]
      exact f2
    · simp only [subG, litG] at hd
      have hj : j < z.size := by
        have := (List.getElem?_eq_some_iff.1 hd).1
        rw [List.length_take] at this
        omega
      rw [List.getElem?_take_of_lt hj, List.getElem?_drop] at hd
      exact hr _ d hd
theorem elK_spec {t : TypeId} {z : Ty} (h : elK ty t = some z) : ∃ y e, ty t = some y ∧ y.kind = .slice e ∧ ty e = some z := by
  unfold elK at h
  split at h
  · rename_i y hy
    split at h
    · rename_i e hk
      exact ⟨y, e, hy, hk, h⟩
    · cases h
  · cases h
theorem slice_pure (hty : ∀ t y, ty t = some y → TyOk P t y) {t : TypeId} {x : V} {v : Value} (hv : R c v x) {e : Operand → Value} {ev : Operand → Option V} (hev : EvR c e ev) {lo hi : Option Operand} {l u : Option V}
    (hl : evOp ev lo = some l) (hu : evOp ev hi = some u) {p : Rq} {d : V} (h : sliceV ty t x l u = some (p, d)) (hp : p.holds) :
    ∃ v', (Instr.sliceAt t v (lo.map e) (hi.map e) none).run P c.w = .ok v' c.w ∧ R c v' d := by
  unfold sliceV at h
  split at h
  · split at h
    · rename_i z q a b hz hb
      simp only [okS, Option.some.injEq, Prod.mk.injEq] at h
      obtain ⟨rfl, rfl⟩ := h
      obtain ⟨y, e', hy, hk, hz'⟩ := elK_spec hz
      exact slice_nsl (hty _ _ hy) hev hl hu hv hb hp hk (hty _ _ hz') c.w
    · cases h
  · split at h
    · rename_i z q a b hz hb
      split at h
      · rename_i hs
        simp only [okS, Option.some.injEq, Prod.mk.injEq] at h
        obtain ⟨rfl, rfl⟩ := h
        obtain ⟨y, e', hy, hk, hz'⟩ := elK_spec hz
        exact slice_imm (hty _ _ hz') ((hty _ _ hy).slice hk) hev hl hu hv hb hp (nbeq hs) c.w rfl
      · cases h
    · cases h
  · split at h
    · rename_i z q a b hz hb
      split at h
      · rename_i hs
        simp only [okS, Option.some.injEq, Prod.mk.injEq] at h
        obtain ⟨rfl, rfl⟩ := h
        obtain ⟨y, e', hy, hk, hz'⟩ := elK_spec hz
        exact slice_arr (hty _ _ hz') ((hty _ _ hy).slice hk) hev hl hu hv hb hp (nbeq hs) c.w
      · cases h
    · cases h
  · split at h
    · rename_i y q a b hy hb
      split at h
      · rename_i hk
        simp only [okS, Option.some.injEq, Prod.mk.injEq] at h
        obtain ⟨rfl, rfl⟩ := h
        exact slice_str ((hty _ _ hy).str hk) hev hl hu hv hb hp c.w
      · cases h
    · cases h
  · split at h
    · rename_i y hy
      split at h
      · rename_i n e' hk
        split at h
        · rename_i z q a b hz hb
          split at h
          · rename_i hn
            simp only [okS, Option.some.injEq, Prod.mk.injEq] at h
            obtain ⟨rfl, rfl⟩ := h
            exact slice_ptr (hty _ _ hz) ((hty _ _ hy).array hk) hev hl hu hv hb hp (by have := nble hn; unfold maxL; omega) c.w
          · cases h
        · cases h
      · cases h
    · cases h
  · split at h
    · rename_i y hy
      split at h
      · rename_i n e' hk
        split at h
        · rename_i z q a b hz hb
          split at h
          · rename_i hn
            simp only [okS, Option.some.injEq, Prod.mk.injEq] at h
            obtain ⟨rfl, rfl⟩ := h
            simp only [andB_eq, Bool.and_eq_true] at hn
            exact slice_iptr (hty _ _ hz) ((hty _ _ hy).array hk) hev hl hu hv hb hp (by have := nble hn.1; unfold maxL; omega) (nble hn.2) c.w
          · cases h
        · cases h
      · cases h
    · cases h
  · cases h

theorem field_ok (hty : ∀ t y, ty t = some y → TyOk P t y) {t : TypeId} {y : Ty} (hy : ty t = some y) {fs : List (Nat × TypeId)} (hk : y.kind = .struct fs) {f off n : Nat} (hf : fldPlace ty fs f = some (off, n + 1)) (a : Addr) (w : World) :
    (Instr.fieldAt t (.pointer (some a)) f).run P w = .ok (.pointer (some (a.add off))) w := by
  obtain ⟨F, hF, hfs⟩ := (hty t y hy).struct hk
  unfold fldPlace at hf
  split at hf
  · rename_i o ft ho
    split at hf
    · rename_i z hz
      simp only [Option.some.injEq, Prod.mk.injEq] at hf
      obtain ⟨rfl, hn⟩ := hf
      rw [nthL_eq, ← hfs, List.getElem?_map] at ho
      cases hg : F.toList[f]? with
      | none => simp [hg] at ho
      | some fd =>
        simp only [hg, Option.map_some, Option.some.injEq, Prod.mk.injEq] at ho
        obtain ⟨rfl, rfl⟩ := ho
        have hg' : F[f]? = some fd := by simpa using hg
        have hs := (hty _ _ hz).sizeOf w
        unfold Instr.fieldAt
        simp only [Sem.run_bind, run_underlying hF, Result.andThen_ok, hg', Instr.sureAddr, Sem.run_pure]
        unfold fieldPlace
        simp [hs, show y.size ≠ y.size + 1 by omega, hn]
    · cases hf
  · cases hf

theorem nz {P : Prop} {a : Nat} (h : a = a + 1) : P := absurd h (by omega)
end Go.Ev
