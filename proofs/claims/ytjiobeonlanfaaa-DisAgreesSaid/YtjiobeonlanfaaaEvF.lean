import Derived.Test.YtjiobeonlanfaaaEvE
namespace Go.Ev
set_option linter.unusedSimpArgs false
set_option linter.unusedVariables false
open Go.RowKit

variable {P : Program} {ty : TypeId → Option Ty} {c : Cx} {B : Nat} {w0 : World} {h : Hp}

theorem opW_ok (hty : ∀ t y, ty t = some y → TyOk P t y) (heq : EqOk P ty) {cw : CallW} (hcw : CallOk P cw) (hm : HM B w0 c h) {nid : Option Nat} (hn : NidOk c h nid) {a : Act} {ev : Operand → Option V} (hev : EvR c a.eval ev) (o : Oper)
    {K Kp : V → Hp → Prop} {Q : Exit → Act → World → Prop} (hQ : PanQ c B w0 a Kp Q) (hE : opW ty cw o.op ev nid h K Kp) : o.wp P a c.w (OpPost c B w0 a o.dst K) Q := by
  unfold opW at hE
  split at hE
  · rename_i p d hp
    obtain ⟨h1, h2⟩ := (rqW_iff _ _).1 hE
    obtain ⟨v, hr, hR⟩ := pure_ok hty heq hev o hp h1
    exact wp_value hr (aft_same hm hR h2)
  · split at hE
    · rename_i p d hp
      obtain ⟨h1, h2⟩ := (rqW_iff _ _).1 hE
      obtain ⟨v, hr, hR⟩ := read_ok hty hm hev o hp h1
      exact wp_value hr (aft_same hm hR h2)
    · have hE' : opE ty cw o.op ev nid h K Kp := by
        have : (fun v h' => forceH h' fun h' => K v h') = K := by funext v h'; exact forceH_eq h' _
        rw [this] at hE
        exact hE
      exact opE_ok hty hcw hm hn hev o hQ hE'

/-- how things stand: the frame and the memory read -/
structure SM (B : Nat) (w0 : World) (c : Cx) (a : Act) (fr : Fr) (h : Hp) : Prop where
  fm : FM c a fr
  hm : HM B w0 c h
/-- what a piece of a region leaves -/
def StPost (c : Cx) (B : Nat) (w0 : World) (df : List Deferred) (K : Fr → Hp → Prop) : Act → World → Prop := fun a' w' => ∃ c' fr' h', c'.w = w' ∧ c.le c' ∧ SM B w0 c' a' fr' h' ∧ a'.defers = df ∧ K fr' h'
theorem StPost.le {c c1 : Cx} {df : List Deferred} {K : Fr → Hp → Prop} {a' : Act} {w' : World} (hle : c.le c1) (h : StPost c1 B w0 df K a' w') : StPost c B w0 df K a' w' := by
  obtain ⟨c', fr', h', e, l, s, d, k⟩ := h
  exact ⟨c', fr', h', e, Cx.le_trans hle l, s, d, k⟩
theorem put_defers (a : Act) (dst : Option Tmp) (v : Value) : (a.put dst v).defers = a.defers := by cases dst <;> rfl

theorem step_ok (hty : ∀ t y, ty t = some y → TyOk P t y) (heq : EqOk P ty) {cw : CallW} (hcw : CallOk P cw) {a : Act} {fr : Fr} (s : SM B w0 c a fr h) {ops : List Oper} {opsA : Array Oper} (hops : opsA.toList = ops) {o : Oper} {nid : Option Nat} (hn : NidOk c h nid)
    {K : Fr → Hp → Prop} {Kp : V → Hp → Prop} {Q : Exit → Act → World → Prop} (hQ : PanQ c B w0 a Kp Q) (hS : stepW ty cw ops o nid fr h K Kp) {next : Act → World → Prop} (hnext : ∀ v c' fr' h', c.le c' → SM B w0 c' (a.put o.dst v) fr' h' → K fr' h' → next (a.put o.dst v) c'.w) :
    if Region.wanted o (yielded opsA a.tmps) then o.wp P a c.w next Q else next (a.put o.dst undef) c.w := by
  have run : ∀ (K' : Fr → Hp → Prop), opW ty cw o.op (evO fr) nid h (fun v h' => forceV v fun v => putK fr o.dst (some v) fun fr => K' fr h') Kp → (∀ fr' h', K' fr' h' → K fr' h') → o.wp P a c.w next Q := by
    intro K' hW hK
    refine Oper.wp_mono ?_ (opW_ok hty heq hcw s.hm hn s.fm.eval o hQ hW)
    rintro a' w' ⟨v, rfl, d, c', h', rfl, le, m, r, k⟩
    rw [forceV_eq, putK_eq] at k
    exact hnext v c' _ h' le ⟨s.fm.put le o.dst r, m⟩ (hK _ _ k)
  unfold stepW at hS
  split at hS
  · rename_i hg
    have : Region.wanted o (yielded opsA a.tmps) = true := by unfold Region.wanted; rw [hg]
    rw [if_pos this]
    exact run K hS (fun _ _ x => x)
  · rename_i g want hg
    split at hS
    · rename_i sl hsl
      split at hS
      · rename_i b hb
        rw [splitB_eq, setK_eq, setF_self hb] at hS
        obtain ⟨v, hv, hR⟩ := s.fm.2 sl _ hb
        have hvb := hR.boolI
        subst hvb
        have hy : yielded opsA a.tmps g = some b := by
          unfold gslot at hsl
          rw [nthL_eq, ← hops] at hsl
          split at hsl
          · rename_i o' ho'
            have ho'' : opsA[g]? = some o' := by simpa using ho'
            simp [yielded, ho'', hsl, hv]
          · cases hsl
        have hw : Region.wanted o (yielded opsA a.tmps) = (b == want) := by
          unfold Region.wanted
          rw [hg]
          simp only [hy]
          cases b <;> cases want <;> rfl
        rw [hw]
        cases b <;> cases want <;> simp only [beq_self_eq_true, if_true, Bool.true_beq, Bool.false_beq, Bool.not_true, Bool.not_false, Bool.false_eq_true, if_false, reduceCtorEq, beq_iff_eq] at hS ⊢
        · exact run K hS (fun _ _ x => x)
        · rw [putK_eq] at hS
          exact hnext undef c _ h (Cx.le_refl c) ⟨s.fm.put (Cx.le_refl c) o.dst (R.tup #[] [] rfl (by simp)), s.hm⟩ hS
        · rw [putK_eq] at hS
          exact hnext undef c _ h (Cx.le_refl c) ⟨s.fm.put (Cx.le_refl c) o.dst (R.tup #[] [] rfl (by simp)), s.hm⟩ hS
        · exact run K hS (fun _ _ x => x)
      · rename_i hb
        obtain ⟨v, hv, hR⟩ := s.fm.2 sl _ hb
        have hvu : v = .tuple #[] := by
          cases hR with
          | pure hp => cases hp
          | tup vs cs hl hr =>
            have : vs.size = 0 := hl
            rw [Array.eq_empty_of_size_eq_zero this]
        have hy : yielded opsA a.tmps g = none := by
          unfold gslot at hsl
          rw [nthL_eq, ← hops] at hsl
          split at hsl
          · rename_i o' ho'
            have ho'' : opsA[g]? = some o' := by simpa using ho'
            simp [yielded, ho'', hsl, hv, hvu]
          · cases hsl
        have hw : Region.wanted o (yielded opsA a.tmps) = false := by
          unfold Region.wanted
          rw [hg]
          simp only [hy]
          cases want <;> rfl
        rw [hw]
        rw [putK_eq] at hS
        exact hnext undef c _ h (Cx.le_refl c) ⟨s.fm.put (Cx.le_refl c) o.dst (R.tup #[] [] rfl (by simp)), s.hm⟩ hS
      · exact hS.elim
    · exact hS.elim

/-- the frame as far as a region leaves it alone -/
def Clr (frc : Fr) (ops : List Oper) : Prop := ∀ o ∈ ops, ∀ d, o.dst = some d → getF frc d = none
theorem FM.putClr {a : Act} {frc : Fr} (hf : FM c a frc) {c' : Cx} (hle : c.le c') {dst : Option Tmp} (hd : ∀ d, dst = some d → getF frc d = none) (v : Value) : FM c' (a.put dst v) frc := by
  cases dst with
  | none => exact hf.mono hle
  | some t =>
    refine ⟨by simp [Act.put, hf.1], fun i d hi => ?_⟩
    obtain ⟨x, hx, hR⟩ := hf.2 i d hi
    have : t ≠ i := fun e => by subst e; rw [hd _ rfl] at hi; cases hi
    exact ⟨x, by simp [Act.put, this, hx], hR.mono hle⟩
theorem clearD_spec : ∀ (ops : List Oper) (fr : Fr), (∀ i d, getF (clearD ops fr) i = some d → getF fr i = some d) ∧ (clearD ops fr).length = fr.length ∧ Clr (clearD ops fr) ops
  | [], fr => ⟨fun _ _ h => h, rfl, fun o ho => by cases ho⟩
  | o :: os, fr => by
    obtain ⟨h1, h2, h3⟩ := clearD_spec os (putF fr o.dst none)
    have hp : ∀ i d, getF (putF fr o.dst none) i = some d → getF fr i = some d := by
      intro i d hi
      cases hd : o.dst with
      | none => simpa [putF, hd] using hi
      | some t =>
        simp only [putF, hd, getF_set] at hi
        split at hi
        · cases hi
        · exact hi
    refine ⟨fun i d hi => hp i d (h1 i d hi), ?_, fun o' ho' d hd => ?_⟩
    · simp only [clearD, h2]
      cases o.dst <;> simp [putF, len_set]
    · cases ho' with
      | head =>
        cases hx : getF (clearD (o :: os) fr) d with
        | none => rfl
        | some v =>
          have := h1 d v hx
          simp only [putF, hd, getF_set] at this
          split at this
          · cases this
          · rename_i hn
            have hl := getF_lt this
            exact absurd ⟨trivial, hl⟩ hn
      | tail _ ho' => exact h3 o' ho' d hd
theorem FM.clearD {a : Act} {fr : Fr} (hf : FM c a fr) (ops : List Oper) : FM c a (clearD ops fr) := by
  obtain ⟨h1, h2, _⟩ := clearD_spec ops fr
  exact ⟨by rw [h2]; exact hf.1, fun i d hi => hf.2 i d (h1 i d hi)⟩
def PanAll (c : Cx) (B : Nat) (w0 : World) (df : List Deferred) (frc : Fr) (Kp : V → Hp → Prop) (Q : Exit → Act → World → Prop) : Prop :=
  ∀ (c' : Cx) (a' : Act), c.le c' → FM c' a' frc → a'.defers = df → PanQ c' B w0 a' Kp Q
theorem PanAll.le {c c1 : Cx} {df : List Deferred} {frc : Fr} {Kp : V → Hp → Prop} {Q : Exit → Act → World → Prop} (hle : c.le c1) (h : PanAll c B w0 df frc Kp Q) : PanAll c1 B w0 df frc Kp Q :=
  fun c' a' l f d => h c' a' (Cx.le_trans hle l) f d

theorem run_ok (hty : ∀ t y, ty t = some y → TyOk P t y) (heq : EqOk P ty) {cw : CallW} (hcw : CallOk P cw) {opsA : Array Oper} {K : Fr → Hp → Prop} {Kp : V → Hp → Prop} {Q : Exit → Act → World → Prop} {frc : Fr} (hclr : Clr frc opsA.toList) :
    ∀ (l : List Oper) (k : Nat) (c : Cx) (a : Act) (fr : Fr) (h : Hp), opsA.toList.drop k = l → SM B w0 c a fr h → FM c a frc → PanAll c B w0 a.defers frc Kp Q →
      (∀ a' w', StPost c B w0 a.defers K a' w' → Q .normal a' w') → runW ty cw opsA.toList K Kp l fr h → wpOps P opsA Q (List.range' k l.length) a c.w
  | [], k, c, a, fr, h, hl, s, hfc, hp, hn, hr => by
    simp only [List.length_nil, List.range'_zero, wpOps]
    exact hn _ _ ⟨c, fr, h, rfl, Cx.le_refl c, s, rfl, hr⟩
  | o :: l, k, c, a, fr, h, hl, s, hfc, hp, hn, hr => by
    have hk : opsA[k]? = some o := by
      have : (opsA.toList.drop k)[0]? = some o := by rw [hl]; rfl
      rw [List.getElem?_drop] at this
      simpa using this
    have hl' : opsA.toList.drop (k + 1) = l := by
      have : (opsA.toList.drop k).drop 1 = l := by rw [hl]; rfl
      rwa [List.drop_drop] at this
    have hmem : o ∈ opsA.toList := List.mem_of_getElem? (by simpa using hk)
    simp only [List.length_cons, List.range'_succ, wpOps, hk]
    simp only [runW] at hr
    have st := step_ok hty heq hcw s rfl (nid := none) (fun i hi => by cases hi) (hp c a (Cx.le_refl c) hfc rfl) hr
      (next := wpOps P opsA Q (List.range' (k + 1) l.length)) ?_
    · split
      · rename_i hw; rw [if_pos hw] at st; exact .inl st
      · rename_i hw; rw [if_neg hw] at st; exact st
    · intro v c' fr' h' le s' hk'
      refine run_ok hty heq hcw hclr l (k + 1) c' _ fr' h' hl' s' (hfc.putClr le (hclr o hmem) v) ?_ ?_ hk'
      · rw [put_defers]; exact hp.le le
      · rw [put_defers]; exact fun a' w' hs => hn a' w' (hs.le le)
theorem region_ok (hty : ∀ t y, ty t = some y → TyOk P t y) (heq : EqOk P ty) {cw : CallW} (hcw : CallOk P cw) {id : Nat} {opsA : Array Oper} {K : Fr → Hp → Prop} {Kp : V → Hp → Prop} {Q : Exit → Act → World → Prop} {a : Act} {fr : Fr} (s : SM B w0 c a fr h)
    (hp : PanAll c B w0 a.defers (clearD opsA.toList fr) Kp Q) (hn : ∀ a' w', StPost c B w0 a.defers K a' w' → Q .normal a' w') (hr : runW ty cw opsA.toList K Kp opsA.toList fr h) : (Code.region id opsA false).wp P Q a c.w := by
  refine wp_region ?_
  have := run_ok hty heq hcw (clearD_spec opsA.toList fr).2.2 opsA.toList 0 c a fr h rfl s (s.fm.clearD _) hp hn hr
  rw [Array.length_toList] at this
  rw [List.range_eq_range']
  exact this
end Go.Ev
