import Derived.Test.YtjiobeonlanfaaaEvL
namespace Go.Ev
set_option linter.unusedSimpArgs false
set_option linter.unusedVariables false
open Go.RowKit

variable {P : Program} {c : Cx} {B : Nat} {w0 : World} {h : Hp}

/-! ### Loops that are gone through as they stand -/
def LoopN (body : Post → Fr → Hp → Prop) (Q : Post) : Nat → Fr → Hp → Prop
  | 0 => fun _ _ => False
  | n + 1 => fun fr h => body (thenQ (fun fr h => LoopN body Q n fr h) Q) fr h
theorem loopN {E : Env} (o : EnvOk P E) {m lo : Nat} {code : Code} {Q : Post} {fr : Fr} {h : Hp} (n : Nat) (hl : LoopN (AWP E.ty E.quiet (callW E m) lo code) Q n fr h) : LoopW lo (AWP E.ty E.quiet (callW E m) lo code) Q fr h := by
  unfold LoopW
  refine ⟨fun n fr h => LoopN (AWP E.ty E.quiet (callW E m) lo code) Q n fr h, ⟨n, fr, h, .inl ⟨rfl, fgF_refl _⟩, hl⟩, fun k fr h hk => ?_⟩
  cases k with
  | zero => exact hk.elim
  | succ k => exact awp_mono (callW_mono o.mono o.quiet m) (callW_quiet o.quiet m) lo code _ _ (thenQ_mono (fun fr1 h1 hN => ⟨k, fr1, h1, by omega, .inl ⟨rfl, fgF_refl _⟩, hN⟩) (fun _ _ _ x => x)) fr h hk
theorem loopI {lo : Nat} {body : Post → Fr → Hp → Prop} {Q : Post} {fr : Fr} {h : Hp} (I : Nat → Fr → Hp → Prop) (n : Nat) (fr' : Fr) (h' : Hp) (hw : wk lo fr h fr' h') (hi : I n fr' h')
    (hr : ∀ n fr h, I n fr h → body (thenQ (fun fr1 h1 => ∃ m fr2 h2, m < n ∧ wk lo fr1 h1 fr2 h2 ∧ I m fr2 h2) Q) fr h) : LoopW lo body Q fr h := by
  unfold LoopW
  exact ⟨I, ⟨n, fr', h', hw, hi⟩, hr⟩

/-- a loop whose state is told by an x: ks are the slots that count -/
theorem loopA {E : Env} (o : EnvOk P E) {m lo : Nat} {code : Code} {Q : Post} {fr : Fr} {h : Hp} {α : Type} (ks : List Nat) (F : α → Fr) (H : α → Hp) (inv : α → Prop) (μ : α → Nat) (x0 : α) (hF : keepF ks 0 fr = F x0) (hH : h = H x0) (h0 : inv x0)
    (hr : ∀ x, inv x → AWP E.ty E.quiet (callW E m) lo code (thenQ (fun fr1 h1 => ∃ y, keepF ks 0 fr1 = F y ∧ h1 = H y ∧ inv y ∧ μ y < μ x) Q) (F x) (H x)) : LoopW lo (AWP E.ty E.quiet (callW E m) lo code) Q fr h := by
  unfold LoopW
  refine ⟨fun n fr h => ∃ x, fr = F x ∧ h = H x ∧ inv x ∧ μ x = n, ⟨μ x0, keepF ks 0 fr, h, .inl ⟨rfl, fgF_keep ks fr 0⟩, x0, hF, hH, h0, rfl⟩, ?_⟩
  rintro n fr h ⟨x, rfl, rfl, hi, rfl⟩
  exact awp_mono (callW_mono o.mono o.quiet m) (callW_quiet o.quiet m) lo code _ _ (thenQ_mono (fun fr1 h1 ⟨y, e1, e2, e3, e4⟩ => ⟨μ y, keepF ks 0 fr1, h1, e4, .inl ⟨rfl, fgF_keep ks fr1 0⟩, y, e1, e2, e3, rfl⟩) (fun _ _ _ x => x)) _ _ (hr x hi)
def byteB : List V → Bool
  | [.int .u8 (.ofNat b)] => Nat.blt b 256
  | _ => false
def bytesB : Nat → (Nat → List V) → Bool
  | 0, _ => true
  | n + 1, g => andB (byteB (g n)) (bytesB n g)
theorem byteB_of {l : List V} (h : byteB l = true) : ∃ b : Nat, b < 256 ∧ l = [.int .u8 (b : Int)] := by
  unfold byteB at h
  split at h
  · rename_i b
    exact ⟨b, by simp [Nat.blt] at h; omega, rfl⟩
  · cases h
theorem bytesB_of {g : Nat → List V} : ∀ {n : Nat}, bytesB n g = true → bytesG n g
  | 0, _ => fun i hi => absurd hi (by omega)
  | n + 1, h => fun i hi => by
    simp only [bytesB, andB_eq, Bool.and_eq_true] at h
    rcases Nat.lt_or_ge i n with hlt | hge
    · exact bytesB_of h.2 i hlt
    · have : i = n := by omega
      subst this
      exact byteB_of h.1

/-! ### Calls that keep nothing -/
theorem R.capI (hm : HM B w0 c h) {x : V} {v : Value} (hv : R c v x) {sz : Nat} {y : Rq × Nat × (Nat → List V)} (hc : contV h sz x = some y) {a : Option Addr} {n cap : Nat} (e : v = .slice a n cap) : cap ≤ maxL := by
  subst e
  unfold contV at hc
  split at hc
  · have := hv.nslI; cases this; exact Nat.zero_le _
  · cases hv with
    | pure hp => cases hp with
      | imm a n cap sz g cv h1 h2 h3 hl hc hr => exact h2
  · cases hv with
    | pure hp => cases hp
    | own id sz off n a cap v e hv =>
      obtain ⟨a', e2, _⟩ := hv
      cases e2
      split at hc
      · rename_i ho
        obtain ⟨a2, cap2, e3, h1, h2, _⟩ := hm.ob _ _ ho
        rw [e] at e3; cases e3
        omega
      · cases hc
  · cases hv with
    | pure hp => cases hp
    | arr id sz co n b a' cap' e h1 h2 h3 h4 => exact h2
  · have := hv.strI; cases this
  · cases hc

/-- an argument as one who only reads sees it -/
def argI (h : Hp) : V → Option (Rq × V)
  | .own id sz off n => match contV h sz (.own id sz off n) with | some (p, n, g) => some (p, .imm n sz g) | none => none
  | .arr id sz co n => match contV h sz (.arr id sz co n) with | some (p, n, g) => some (p, .imm n sz g) | none => none
  | .agg cs => match allP cs with | true => some (none, .agg cs) | false => none
  | .bool b => some (none, .bool b)
  | .int k n => some (none, .int k n)
  | .str s => some (none, .str s)
  | .nsl => some (none, .nsl)
  | .imm n sz g => some (none, .imm n sz g)
  | _ => none
def argsI (h : Hp) : List V → Option (Rq × List V)
  | [] => some (none, [])
  | v :: l => match argI h v, argsI h l with
    | some (p, u), some (q, us) => some (rqA p q, u :: us)
    | _, _ => none
/-- what can be told without memory -/
def scal1 : V → Bool
  | .bool _ | .int .. | .str _ | .nsl => true
  | _ => false
def scalL : List V → Bool
  | [] => true
  | v :: l => andB (scal1 v) (scalL l)
def scal2 : V → Bool
  | .agg cs => scalL cs
  | v => scal1 v
def scalT : List V → Bool
  | [] => true
  | v :: l => andB (scal2 v) (scalT l)
def scalV : V → Bool
  | .tup vs => scalT vs
  | v => scal2 v
theorem scalL_mem : ∀ {l : List V}, scalL l = true → ∀ d ∈ l, scal1 d = true
  | [], _, d, hd => by cases hd
  | v :: l, h, d, hd => by
    simp only [scalL, andB_eq, Bool.and_eq_true] at h
    rcases List.mem_cons.1 hd with rfl | hd
    · exact h.1
    · exact scalL_mem h.2 d hd
theorem scalT_mem : ∀ {l : List V}, scalT l = true → ∀ d ∈ l, scal2 d = true
  | [], _, d, hd => by cases hd
  | v :: l, h, d, hd => by
    simp only [scalT, andB_eq, Bool.and_eq_true] at h
    rcases List.mem_cons.1 hd with rfl | hd
    · exact h.1
    · exact scalT_mem h.2 d hd
theorem R.scal1 {c c' : Cx} {v : Value} {d : V} (hr : R c v d) (hs : scal1 d = true) : R c' v d := by
  cases hr with
  | pure hp =>
    cases hp with
    | bool b => exact .pure (.bool b)
    | int k n => exact .pure (.int k n)
    | str s => exact .pure (.str s)
    | nsl => exact .pure .nsl
    | _ => cases hs
  | _ => cases hs
theorem R.scal2 {c c' : Cx} {v : Value} {d : V} (hr : R c v d) (hs : scal2 d = true) : R c' v d := by
  cases hr with
  | agg vs cs hl hx => exact .agg vs cs hl fun j v d hv hd => (hx j v d hv hd).scal1 (scalL_mem hs d (List.mem_of_getElem? hd))
  | pure hp => exact (R.pure hp : R c v d).scal1 (by cases hp <;> exact hs)
  | _ => cases hs
theorem R.scal {c c' : Cx} {v : Value} {d : V} (hr : R c v d) (hs : scalV d = true) : R c' v d := by
  cases hr with
  | tup vs cs hl hx => exact .tup vs cs hl fun j v d hv hd => (hx j v d hv hd).scal2 (scalT_mem hs d (List.mem_of_getElem? hd))
  | agg vs cs hl hx => exact (R.agg vs cs hl hx : R c _ _).scal2 hs
  | pure hp => exact (R.pure hp : R c v d).scal2 (by cases hp <;> exact hs)
  | _ => cases hs
theorem allP_mem : ∀ {l : List V}, allP l = true → ∀ d ∈ l, pureC d = true
  | [], _, d, hd => by cases hd
  | v :: l, h, d, hd => by
    simp only [allP, andB_eq, Bool.and_eq_true] at h
    rcases List.mem_cons.1 hd with rfl | hd
    · exact h.1
    · exact allP_mem h.2 d hd
/-- all that is there, to read -/
def Cx.still (c : Cx) : Cx := ⟨fun _ => none, fun b => b < c.w.heap.size, c.w⟩
theorem Cx.le_still_of (hm : HM B w0 c h) {v : Value} {d : V} (hp : RP c.F c.w v d) : RP c.still.F c.still.w v d := hp.mono (fun b hb => hm.Flt b hb) (fun _ _ => rfl)
theorem argI_ok (hm : HM B w0 c h) {x u : V} {v : Value} (hv : R c v x) {p : Rq} (ha : argI h x = some (p, u)) (hp : p.holds) : R c.still v u := by
  have pure : pureC x = true → R c.still v x := fun hpc => .pure (Cx.le_still_of hm (hv.toRP hpc))
  have cont : ∀ {sz n g}, contV h sz x = some (p, n, g) → (∀ s, x ≠ .str s) → R c.still v (.imm n sz g) := by
    intro sz n g hc hns
    rcases cont_ok hm hv hc hp with ⟨s, e, _⟩ | hcv
    · exact absurd e (hns s)
    · obtain ⟨a, cap, e, h1, h2, h3⟩ := hcv.isS
      have hcap := hv.capI hm hc e
      subst e
      have key : ∀ i, i < n → ∀ j, j < sz → ∀ ad, a = some ad → ∃ x, c.w.cell? (ad.add (i * sz + j)) = some x ∧ (∀ d, (g i)[j]? = some d → RP c.F c.w x d) ∧ x.oneCell' = true := by
        intro i hi j hj ad hadd
        have hlen := hcv.len i hi
        have hd : (g i)[j]? = some ((g i)[j]'(by omega)) := by simp
        obtain ⟨x, hx, hr, ho⟩ := h3 ad hadd i hi j _ hd
        exact ⟨x, hx, fun d hd' => by rw [hd] at hd'; cases hd'; exact hr, ho⟩
      refine .pure (.imm a n cap sz g (fun i j => match a with | some ad => (c.w.cell? (ad.add (i * sz + j))).getD undef | none => undef) h1 hcap h2 hcv.len ?_ ?_)
      · intro ad hadd i hi j hj
        obtain ⟨x, hx, _, ho⟩ := key i hi j hj ad hadd
        subst hadd
        refine ⟨?_, by simp only [hx, Option.getD_some]; exact hx, by simp only [hx, Option.getD_some]; exact ho⟩
        show ad.block < c.w.heap.size
        rw [← add_block ad (i * sz + j)]
        unfold World.cell? at hx
        rcases Nat.lt_or_ge (ad.add (i * sz + j)).block c.w.heap.size with hlt | hge
        · exact hlt
        · rw [Array.getElem?_eq_none (by omega)] at hx; cases hx
      · intro i hi j d hd
        cases a with
        | none => have := h2 rfl; omega
        | some ad =>
          have hj : j < sz := by have := (List.getElem?_eq_some_iff.1 hd).1; have := hcv.len i hi; omega
          obtain ⟨x, hx, hr, ho⟩ := key i hi j hj ad rfl
          simp only [hx, Option.getD_some]
          exact Cx.le_still_of hm (hr d hd)
  unfold argI at ha
  split at ha
  · split at ha
    · rename_i hc
      cases ha
      exact cont hc (fun s e => by cases e)
    · cases ha
  · split at ha
    · rename_i hc
      cases ha
      exact cont hc (fun s e => by cases e)
    · cases ha
  · split at ha
    · rename_i hal
      cases ha
      cases hv with
      | pure hp => cases hp
      | agg vs cs hl hx => exact .agg vs _ hl fun j v d hv hd => .pure (Cx.le_still_of hm ((hx j v d hv hd).toRP (allP_mem hal d (List.mem_of_getElem? hd))))
    · cases ha
  · cases ha; exact pure rfl
  · cases ha; exact pure rfl
  · cases ha; exact pure rfl
  · cases ha; exact pure rfl
  · cases ha; exact pure rfl
  · cases ha
theorem argsI_ok (hm : HM B w0 c h) : ∀ {xs us : List V} {p : Rq}, argsI h xs = some (p, us) → p.holds → us.length = xs.length ∧ ∀ (j : Nat) x u, xs[j]? = some x → us[j]? = some u → ∃ q, argI h x = some (q, u) ∧ q.holds
  | [], us, p, ha, hp => by
    simp only [argsI, Option.some.injEq, Prod.mk.injEq] at ha
    obtain ⟨_, rfl⟩ := ha
    exact ⟨rfl, fun j x u hx => by simp at hx⟩
  | v :: l, us, p, ha, hp => by
    simp only [argsI] at ha
    split at ha
    · rename_i q u q' us' h1 h2
      simp only [Option.some.injEq, Prod.mk.injEq] at ha
      obtain ⟨rfl, rfl⟩ := ha
      obtain ⟨hp1, hp2⟩ := (rqA_iff _ _).1 hp
      obtain ⟨k1, k2⟩ := argsI_ok hm h2 hp2
      refine ⟨by simp [k1], fun j x u' hx hu => ?_⟩
      cases j with
      | zero => simp at hx hu; subst hx; subst hu; exact ⟨q, h1, hp1⟩
      | succ j => exact k2 j x u' (by simpa using hx) (by simpa using hu)
    · cases ha
/-- what a call leaves that wrote to nothing that was there -/
theorem HM.below' (m : HM B w0 c h) {w' : World} (hb : Below c.w.heap.size c.w w') : HM B w0 { c with w := w' } h ∧ c.le { c with w := w' } := by
  have hbl : ∀ b, b < c.w.heap.size → w'.heap[b]? = c.w.heap[b]? := hb.block
  have hle : c.le { c with w := w' } := ⟨fun _ _ x => x, fun _ x => x, fun a ha => hb.cell (m.Flt _ ha)⟩
  have lt : ∀ {b o}, c.w.heap[b]? = some o → b < c.w.heap.size := fun h => (Array.getElem?_eq_some_iff.1 h).1
  refine ⟨⟨m.none_ge, fun i o ho => ?_, m.inj, m.fresh, fun b x => Nat.lt_of_lt_of_le (m.Flt b x) hb.size, Nat.le_trans m.Blt hb.size, m.below.trans (hb.mono m.Blt)⟩, hle⟩
  have := m.ob i o ho
  cases o with
  | box cs =>
    obtain ⟨b, arr, T, e, hg, hs, hal, hr⟩ := this
    exact ⟨b, arr, T, e, by rw [hbl b (lt hg)]; exact hg, hs, hal, fun j v d hv hd => (hr j v d hv hd).mono hle⟩
  | seq E sz n g =>
    obtain ⟨a, cap, e, h1, h2, h3, h4⟩ := this
    refine ⟨a, cap, e, h1, h2, h3, h4.imp id ?_⟩
    rintro ⟨b, arr, ha, hg, hs, hk⟩
    refine ⟨b, arr, ha, by rw [hbl b (lt hg)]; exact hg, hs, fun k hk' j d hd => ?_⟩
    obtain ⟨v, x, y, z⟩ := hk k hk' j d hd
    exact ⟨v, x, y.le hle, z⟩
/-- a contract: of what is read, a value -/
def pcon (sp : List V → V → Prop) : List V → Hp → (V → Hp → Prop) → (V → Hp → Prop) → Prop := fun args h K _ =>
  match argsI h args with
  | some (p, us) => rqW p (∃ d, sp us d ∧ K d h)
  | none => False
theorem pcon_mono (sp : List V → V → Prop) : MonoK (pcon sp) := fun args h K K' Kp Kp' hK _ hc => by
  unfold pcon at hc ⊢
  split at hc
  · exact rqW_mono (fun ⟨d, h1, h2⟩ => ⟨d, h1, hK _ _ h2⟩) hc
  · exact hc
theorem pcon_quiet (sp : List V → V → Prop) : QuietK (pcon sp) := fun args h K K' Kp Kp' hK _ hc => by
  unfold pcon at hc ⊢
  split at hc
  · exact rqW_mono (fun ⟨d, h1, h2⟩ => ⟨d, h1, hK _ _ (Bx.refl _) h2⟩) hc
  · exact hc
theorem EnvOk.pcon {E : Env} (o : EnvOk P E) {f : FuncId} {fn : Func} (hf : E.fn f = some fn) (hb : fn.body.isSome = true) {sp : List V → V → Prop} (n : Nat) (hs : ∀ us d, sp us d → scalV d = true) (hc : ∀ us d, sp us d → callW E n f us [] (fun d' _ => d' = d) (fun _ _ => False)) :
    EnvOk P (E.add f (Ev.pcon sp) true) where
  ty := o.ty
  eq := o.eq
  fn := o.fn
  ct := fun g k hg args h K Kp hk c B w0 vs m hl hr => by
    simp only [Env.add] at hg
    split at hg
    · rename_i e
      cases hg
      cases nbeq e
      refine .inl ⟨⟨fn, o.fn _ _ hf, hb⟩, ?_⟩
      unfold Ev.pcon at hk
      split at hk
      · rename_i p us ha
        obtain ⟨hp, d, h1, h2⟩ := (rqW_iff _ _).1 hk
        obtain ⟨k1, k2⟩ := argsI_ok m ha hp
        have hcall := calls_of o.ty o.eq o.fn o.ct o.draw (hc us d h1) ⟨fn, o.fn _ _ hf, hb⟩ (w := c.w) (vs := vs) (by omega) (fun j v u hv hu => by
          have hj : j < args.length := by have := (List.getElem?_eq_some_iff.1 hu).1; omega
          obtain ⟨q, q1, q2⟩ := k2 j args[j] u (by simp [hj]) hu
          exact argI_ok m (hr j v args[j] hv (by simp [hj])) q1 q2)
        refine hcall.mono fun e w' ⟨v, he, hbl, d', c', h', hw, hR, _, hd⟩ => ?_
        subst he
        subst hd
        obtain ⟨m', hle⟩ := m.below' hbl
        exact ⟨d', { c with w := w' }, h, rfl, hle, m', hR.scal (hs _ _ h1), h2⟩
      · exact hk.elim
    · exact o.ct g k hg args h K Kp hk c B w0 vs m hl hr
  mono := fun g k hg => by
    simp only [Env.add] at hg
    split at hg
    · cases hg; exact pcon_mono sp
    · exact o.mono g k hg
  quiet := fun g hg => by
    simp only [Env.add] at hg ⊢
    split at hg
    · exact ⟨_, rfl, pcon_quiet sp⟩
    · exact o.quiet g hg
  orders := o.orders
/-- as EnvOk.pcon; what was shown over E is told beside E' -/
theorem EnvOk.pcon2 {E E' : Env} (o : EnvOk P E) (o' : EnvOk P E') {f : FuncId} {fn : Func} (hf : E.fn f = some fn) (hb : fn.body.isSome = true) {sp : List V → V → Prop} (n : Nat) (hs : ∀ us d, sp us d → scalV d = true) (hc : ∀ us d, sp us d → callW E n f us [] (fun d' _ => d' = d) (fun _ _ => False)) :
    EnvOk P (E'.add f (Ev.pcon sp) true) where
  ty := o'.ty
  eq := o'.eq
  fn := o'.fn
  ct := fun g k hg args h K Kp hk c B w0 vs m hl hr => by
    simp only [Env.add] at hg
    split at hg
    · rename_i e
      cases hg
      cases nbeq e
      refine .inl ⟨⟨fn, o.fn _ _ hf, hb⟩, ?_⟩
      unfold Ev.pcon at hk
      split at hk
      · rename_i p us ha
        obtain ⟨hp, d, h1, h2⟩ := (rqW_iff _ _).1 hk
        obtain ⟨k1, k2⟩ := argsI_ok m ha hp
        have hcall := calls_of o.ty o.eq o.fn o.ct o.draw (hc us d h1) ⟨fn, o.fn _ _ hf, hb⟩ (w := c.w) (vs := vs) (by omega) (fun j v u hv hu => by
          have hj : j < args.length := by have := (List.getElem?_eq_some_iff.1 hu).1; omega
          obtain ⟨q, q1, q2⟩ := k2 j args[j] u (by simp [hj]) hu
          exact argI_ok m (hr j v args[j] hv (by simp [hj])) q1 q2)
        refine hcall.mono fun e w' ⟨v, he, hbl, d', c', h', hw, hR, _, hd⟩ => ?_
        subst he
        subst hd
        obtain ⟨m', hle⟩ := m.below' hbl
        exact ⟨d', { c with w := w' }, h, rfl, hle, m', hR.scal (hs _ _ h1), h2⟩
      · exact hk.elim
    · exact o'.ct g k hg args h K Kp hk c B w0 vs m hl hr
  mono := fun g k hg => by
    simp only [Env.add] at hg
    split at hg
    · cases hg; exact pcon_mono sp
    · exact o'.mono g k hg
  quiet := fun g hg => by
    simp only [Env.add] at hg ⊢
    split at hg
    · exact ⟨_, rfl, pcon_quiet sp⟩
    · exact o'.quiet g hg
  orders := o'.orders
/-- alike, as far as they are told -/
def vleL : List V → List V → Prop
  | [], [] => True
  | v :: l, v' :: l' => vle v v' ∧ vleL l l'
  | _, _ => False
theorem vleL_get : ∀ {l l' : List V}, vleL l l' → l.length = l'.length ∧ ∀ (j : Nat) d d', l[j]? = some d → l'[j]? = some d' → vle d d'
  | [], [], _ => ⟨rfl, fun j d d' h => by simp at h⟩
  | [], _ :: _, h => h.elim
  | _ :: _, [], h => h.elim
  | v :: l, v' :: l', h => by
    obtain ⟨h1, h2⟩ := vleL_get h.2
    refine ⟨by simp [h1], fun j d d' hd hd' => ?_⟩
    cases j with
    | zero => simp at hd hd'; subst hd; subst hd'; exact h.1
    | succ j => exact h2 j d d' (by simpa using hd) (by simpa using hd')
/-- a contract's arguments, told up to the elements that are there -/
def vcl (sp : List V → V → Prop) : List V → V → Prop := fun us d => ∃ us', vleL us us' ∧ sp us' d
theorem EnvOk.pconV {E E' : Env} (o : EnvOk P E) (o' : EnvOk P E') {f : FuncId} {fn : Func} (hf : E.fn f = some fn) (hb : fn.body.isSome = true) {sp : List V → V → Prop} (n : Nat) (hs : ∀ us d, sp us d → scalV d = true) (hc : ∀ us d, sp us d → callW E n f us [] (fun d' _ => d' = d) (fun _ _ => False)) :
    EnvOk P (E'.add f (Ev.pcon (vcl sp)) true) where
  ty := o'.ty
  eq := o'.eq
  fn := o'.fn
  ct := fun g k hg args h K Kp hk c B w0 vs m hl hr => by
    simp only [Env.add] at hg
    split at hg
    · rename_i e
      cases hg
      cases nbeq e
      refine .inl ⟨⟨fn, o.fn _ _ hf, hb⟩, ?_⟩
      unfold Ev.pcon at hk
      split at hk
      · rename_i p us ha
        obtain ⟨hp, d, ⟨us', hv, h1⟩, h2⟩ := (rqW_iff _ _).1 hk
        obtain ⟨v1, v2⟩ := vleL_get hv
        obtain ⟨k1, k2⟩ := argsI_ok m ha hp
        have hcall := calls_of o.ty o.eq o.fn o.ct o.draw (hc us' d h1) ⟨fn, o.fn _ _ hf, hb⟩ (w := c.w) (vs := vs) (by omega) (fun j v u' hv hu' => by
          have hju : j < us.length := by have := (List.getElem?_eq_some_iff.1 hu').1; omega
          have hu : us[j]? = some us[j] := by simp [hju]
          refine vle_R ?_ (v2 j us[j] u' hu hu')
          have hj : j < args.length := by have := (List.getElem?_eq_some_iff.1 hu).1; omega
          obtain ⟨q, q1, q2⟩ := k2 j args[j] us[j] (by simp [hj]) hu
          exact argI_ok m (hr j v args[j] hv (by simp [hj])) q1 q2)
        refine hcall.mono fun e w' ⟨v, he, hbl, d', c', h', hw, hR, _, hd⟩ => ?_
        subst he
        subst hd
        obtain ⟨m', hle⟩ := m.below' hbl
        exact ⟨d', { c with w := w' }, h, rfl, hle, m', hR.scal (hs _ _ h1), h2⟩
      · exact hk.elim
    · exact o'.ct g k hg args h K Kp hk c B w0 vs m hl hr
  mono := fun g k hg => by
    simp only [Env.add] at hg
    split at hg
    · cases hg; exact pcon_mono _
    · exact o'.mono g k hg
  quiet := fun g hg => by
    simp only [Env.add] at hg ⊢
    split at hg
    · exact ⟨_, rfl, pcon_quiet _⟩
    · exact o'.quiet g hg
  orders := o'.orders
end Go.Ev
