import Derived.Test.YtjiobeonlanfaaaEvO
namespace Go.Ev
set_option linter.unusedSimpArgs false
set_option linter.unusedVariables false
open Go.RowKit

variable {P : Program} {c : Cx} {B : Nat} {w0 : World} {h : Hp}

/-! ### Calls that leave new memory -/
def renV (π : Nat → Nat) : V → V
  | .own id sz off n => .own (π id) sz off n
  | v => v
def renL (π : Nat → Nat) : List V → List V
  | [] => []
  | v :: l => renV π v :: renL π l
def renT (π : Nat → Nat) : V → V
  | .tup vs => .tup (renL π vs)
  | v => renV π v
/-- new rows of cells that are told without memory -/
structure Nw where
  E : TypeId
  sz : Nat
  n : Nat
  g : Nat → List V
def Nw.ob (o : Nw) : Ob := .seq o.E o.sz o.n o.g
def Nw.sc (o : Nw) : Prop := ∀ i, i < o.n → scalL (o.g i) = true
def newL : List Nw → Hp → Hp
  | [], h => h
  | ⟨E, sz, n, g⟩ :: l, h => newL l (h ++ [some (.seq E sz n g)])
/-- a value that is told by scalars and by the first m rows -/
def nw1 (m : Nat) : V → Bool
  | .own id _ _ _ => Nat.blt id m
  | v => scal2 v
def nwL (m : Nat) : List V → Bool
  | [] => true
  | v :: l => andB (nw1 m v) (nwL m l)
def nwT (m : Nat) : V → Bool
  | .tup vs => nwL m vs
  | v => nw1 m v
/-- a contract: of what is read, a value over new rows -/
def ncon (sp : List V → V → List Nw → Prop) : List V → Hp → (V → Hp → Prop) → (V → Hp → Prop) → Prop := fun args h K _ =>
  match argsI h args with
  | some (p, us) => rqW p (∃ d obs, sp us d obs ∧ K (renT (fun i => h.length + i) d) (newL obs h))
  | none => False
theorem ncon_mono (sp : List V → V → List Nw → Prop) : MonoK (ncon sp) := fun args h K K' Kp Kp' hK _ hc => by
  unfold ncon at hc ⊢
  split at hc
  · exact rqW_mono (fun ⟨d, o, h1, h2⟩ => ⟨d, o, h1, hK _ _ h2⟩) hc
  · exact hc
theorem Bx.newL : ∀ (l : List Nw) (h : Hp), Bx h (newL l h)
  | [], h => Bx.refl h
  | ⟨E, sz, n, g⟩ :: l, h => fun i cs hi => Bx.newL l _ i cs (Bx.snoc h _ i cs hi)
theorem ncon_quiet (sp : List V → V → List Nw → Prop) : QuietK (ncon sp) := fun args h K K' Kp Kp' hK _ hc => by
  unfold ncon at hc ⊢
  split at hc
  · exact rqW_mono (fun ⟨d, o, h1, h2⟩ => ⟨d, o, h1, hK _ _ (Bx.newL _ _) h2⟩) hc
  · exact hc
theorem newL_eq : ∀ (l : List Nw) (h : Hp), newL l h = h ++ l.map fun o => some o.ob
  | [], h => by simp [newL]
  | ⟨E, sz, n, g⟩ :: l, h => by simp [newL, newL_eq l, Nw.ob]
theorem newL_len (l : List Nw) (h : Hp) : (newL l h).length = h.length + l.length := by rw [newL_eq]; simp
theorem newL_get (l : List Nw) (h : Hp) (i : Nat) : getF (newL l h) i = if i < h.length then getF h i else (l[i - h.length]?).map Nw.ob := by
  rw [newL_eq, getF_eq, getF_eq]
  by_cases hi : i < h.length
  · rw [if_pos hi, List.getElem?_append_left hi]
  · rw [if_neg hi, List.getElem?_append_right (by omega), List.getElem?_map]
    cases l[i - h.length]? <;> rfl
/-- what the call is shown to leave: the rows lie somewhere -/
def NwPost (d : V) (obs : List Nw) (d' : V) (h' : Hp) : Prop :=
  ∃ ids : List Nat, ids.length = obs.length ∧ ids.Nodup ∧ d' = renT (fun i => ids.getD i 0) d ∧
    ∀ (i : Nat) (o : Nw) (j : Nat), obs[i]? = some o → ids[i]? = some j → ∃ g, getF h' j = some (.seq o.E o.sz o.n g) ∧ ∀ k, k < o.n → g k = o.g k
theorem NwPost.one {d d' : V} {h' : Hp} {o : Nw} (k : Nat) (g : Nat → List V) (e : d' = renT (fun i => [k].getD i 0) d) (hg : getF h' k = some (.seq o.E o.sz o.n g)) (he : ∀ j, j < o.n → g j = o.g j) : NwPost d [o] d' h' := by
  refine ⟨[k], rfl, by simp, e, fun i q j hi hj => ?_⟩
  have : i = 0 := by have := (List.getElem?_eq_some_iff.1 hi).1; simpa using this
  subst this
  simp at hi hj
  subst hi hj
  exact ⟨g, hg, he⟩
theorem NwPost.none {d d' : V} {h' : Hp} (e : d' = renT (fun i => ([] : List Nat).getD i 0) d) : NwPost d [] d' h' := ⟨[], rfl, List.nodup_nil, e, fun i o j hi => by simp at hi⟩
theorem scalL_RP {cs : List V} (hs : scalL cs = true) {F F' : Nat → Prop} {w w' : World} {v : Value} {d : V} {j : Nat} (hd : cs[j]? = some d) (h : RP F w v d) : RP F' w' v d := by
  have := scalL_mem hs d (List.mem_of_getElem? hd)
  cases h with
  | bool b => exact .bool b
  | int k n => exact .int k n
  | str s => exact .str s
  | nsl => exact .nsl
  | _ => cases this
theorem nodup_getD {ids : List Nat} (hn : ids.Nodup) {i j k : Nat} (hi : ids[i]? = some k) (hj : ids[j]? = some k) : i = j := by
  obtain ⟨h1, e1⟩ := List.getElem?_eq_some_iff.1 hi
  obtain ⟨h2, e2⟩ := List.getElem?_eq_some_iff.1 hj
  rcases Nat.lt_trichotomy i j with h | h | h
  · exact absurd (e1.trans e2.symm) (List.pairwise_iff_getElem.1 hn i j h1 h2 h)
  · exact h
  · exact absurd (e2.trans e1.symm) (List.pairwise_iff_getElem.1 hn j i h2 h1 h)
def Cx.mrg (c c' : Cx) (n : Nat) (ids : List Nat) : Cx := ⟨fun i => if i < n then c.ρ i else match ids[i - n]? with | some j => c'.ρ j | none => none, c.F, c'.w⟩
theorem HM.mrg (m : HM B w0 c h) {c' : Cx} {h' : Hp} (m' : HM c.w.heap.size c.w c' h') {obs : List Nw} (hsc : ∀ o ∈ obs, o.sc) {ids : List Nat} (hl : ids.length = obs.length) (hn : ids.Nodup)
    (ho : ∀ (i : Nat) (o : Nw) (j : Nat), obs[i]? = some o → ids[i]? = some j → ∃ g, getF h' j = some (.seq o.E o.sz o.n g) ∧ ∀ k, k < o.n → g k = o.g k) :
    HM B w0 (c.mrg c' h.length ids) (newL obs h) ∧ c.le (c.mrg c' h.length ids) := by
  obtain ⟨mb, hle⟩ := m.below' m'.below
  have old : ∀ {i}, i < h.length → (c.mrg c' h.length ids).ρ i = c.ρ i := fun {i} hi => by simp only [Cx.mrg]; rw [if_pos hi]
  have new : ∀ {i j}, ¬ i < h.length → ids[i - h.length]? = some j → (c.mrg c' h.length ids).ρ i = c'.ρ j := fun {i j} hi hj => by simp only [Cx.mrg]; rw [if_neg hi, hj]
  have lold : ∀ {i l}, c.ρ i = some l → i < h.length := fun {i l} hi => by
    rcases Nat.lt_or_ge i h.length with hlt | hge
    · exact hlt
    · rw [m.none_ge i hge] at hi; cases hi
  have hle2 : ({ c with w := c'.w } : Cx).le (c.mrg c' h.length ids) := ⟨fun i l hi => by rw [old (lold hi)]; exact hi, fun _ x => x, fun _ _ => rfl⟩
  have sp : ∀ {i o}, getF (newL obs h) i = some o → (i < h.length ∧ getF h i = some o) ∨ (¬ i < h.length ∧ ∃ (q : Nw) (j : Nat), o = q.ob ∧ q ∈ obs ∧ ids[i - h.length]? = some j ∧ ∃ g, getF h' j = some (.seq q.E q.sz q.n g) ∧ ∀ k, k < q.n → g k = q.g k) := by
    intro i o hi
    rw [newL_get] at hi
    by_cases hlt : i < h.length
    · rw [if_pos hlt] at hi; exact .inl ⟨hlt, hi⟩
    · rw [if_neg hlt] at hi
      cases hq : obs[i - h.length]? with
      | none => rw [hq] at hi; cases hi
      | some q =>
        rw [hq] at hi
        have hi2 : i - h.length < ids.length := by have := (List.getElem?_eq_some_iff.1 hq).1; omega
        have hj : ids[i - h.length]? = some ids[i - h.length] := by simp [hi2]
        exact .inr ⟨hlt, q, _, by simpa using hi.symm, List.mem_of_getElem? hq, hj, ho _ q _ hq hj⟩
  refine ⟨⟨fun i hi => ?_, fun i o hi => ?_, fun i j o o' b l l' hi hj h1 h2 a1 a2 => ?_, fun i o l b hi hl' ha => ?_, mb.Flt, mb.Blt, mb.below⟩, Cx.le_trans hle hle2⟩
  · rw [newL_len] at hi
    simp only [Cx.mrg]
    rw [if_neg (by omega), List.getElem?_eq_none (by omega)]
  · rcases sp hi with ⟨hlt, hi'⟩ | ⟨hge, q, j, rfl, hq, hj, g, hg, he⟩
    · exact (mb.ob i o hi').keep hle2 (fun _ _ _ _ => rfl)
    · obtain ⟨a, cap, e, h1, h2, h3, h4⟩ := m'.ob j _ hg
      refine ⟨a, cap, by rw [new hge hj]; exact e, h1, h2, fun k hk => by rw [← he k hk]; exact h3 k hk, h4.imp id ?_⟩
      rintro ⟨b, arr, ha, hgb, hs, hk⟩
      refine ⟨b, arr, ha, hgb, hs, fun k hk' jj d hd => ?_⟩
      obtain ⟨v, x, y, z⟩ := hk k hk' jj d (by rw [he k hk']; exact hd)
      exact ⟨v, x, scalL_RP (hsc q hq k hk') hd y, z⟩
  · rcases sp hi with ⟨hlt, hi'⟩ | ⟨hge, q, x, rfl, hq, hx, g, hg, he⟩ <;> rcases sp hj with ⟨hlt2, hj'⟩ | ⟨hge2, q2, x2, rfl, hq2, hx2, g2, hg2, he2⟩
    · rw [old hlt] at h1; rw [old hlt2] at h2
      exact m.inj i j o o' b l l' hi' hj' h1 h2 a1 a2
    · rw [old hlt] at h1; rw [new hge2 hx2] at h2
      have t1 := (m.ob i o hi').at_lt h1 a1
      have t2 := (m'.fresh x2 _ l' b hg2 h2 a2).2
      omega
    · rw [new hge hx] at h1; rw [old hlt2] at h2
      have t1 := (m.ob j o' hj').at_lt h2 a2
      have t2 := (m'.fresh x _ l b hg h1 a1).2
      omega
    · rw [new hge hx] at h1; rw [new hge2 hx2] at h2
      have := m'.inj x x2 _ _ b l l' hg hg2 h1 h2 a1 a2
      subst this
      have := nodup_getD hn hx hx2
      omega
  · rcases sp hi with ⟨hlt, hi'⟩ | ⟨hge, q, x, rfl, hq, hx, g, hg, he⟩
    · rw [old hlt] at hl'
      exact m.fresh i o l b hi' hl' ha
    · rw [new hge hx] at hl'
      have t2 := (m'.fresh x _ l b hg hl' ha).2
      exact ⟨fun hF => by have := m.Flt b hF; omega, Nat.le_trans m.Blt t2⟩
theorem nw1_R {c c' : Cx} {n m : Nat} {ids : List Nat} (hl : ids.length = m) {v : Value} {d : V} (hd : nw1 m d = true) (hr : R c' v (renV (fun i => ids.getD i 0) d)) : R (c.mrg c' n ids) v (renV (fun i => n + i) d) := by
  have sc : ∀ {d : V}, scal2 d = true → R c' v d → R (c.mrg c' n ids) v d := fun h hr => hr.scal2 h
  cases d with
  | own id sz off k =>
    simp only [nw1, Nat.blt_eq] at hd
    simp only [renV] at hr ⊢
    cases hr with
    | pure hp => cases hp
    | own _ _ _ _ a cap v e hv =>
      refine .own _ _ _ _ a cap v ?_ hv
      have hi : id < ids.length := by omega
      simp only [Cx.mrg]
      rw [if_neg (by omega), show n + id - n = id by omega]
      have hx : ids[id]? = some ids[id] := by simp [hi]
      rw [hx]
      have : ids.getD id 0 = ids[id] := by simp [List.getD, hi]
      rw [this] at e
      exact e
  | _ => exact sc hd hr
theorem renL_get (π : Nat → Nat) : ∀ (l : List V) (j : Nat), (renL π l)[j]? = (l[j]?).map (renV π)
  | [], _ => by simp [renL]
  | v :: l, 0 => by simp [renL]
  | v :: l, j + 1 => by simp only [renL, List.getElem?_cons_succ]; exact renL_get π l j
theorem renL_len (π : Nat → Nat) : ∀ (l : List V), (renL π l).length = l.length
  | [] => rfl
  | v :: l => by simp [renL, renL_len π l]
theorem nwL_mem {m : Nat} : ∀ {l : List V}, nwL m l = true → ∀ d ∈ l, nw1 m d = true
  | [], _, d, hd => by cases hd
  | v :: l, h, d, hd => by
    simp only [nwL, andB_eq, Bool.and_eq_true] at h
    rcases List.mem_cons.1 hd with rfl | hd
    · exact h.1
    · exact nwL_mem h.2 d hd
theorem nwT_R {c c' : Cx} {n m : Nat} {ids : List Nat} (hl : ids.length = m) {v : Value} {d : V} (hd : nwT m d = true) (hr : R c' v (renT (fun i => ids.getD i 0) d)) : R (c.mrg c' n ids) v (renT (fun i => n + i) d) := by
  cases d with
  | tup vs =>
    simp only [renT] at hr ⊢
    cases hr with
    | pure hp => cases hp
    | tup us cs h1 h2 =>
      refine .tup us _ (by rw [renL_len] at h1 ⊢; exact h1) (fun j v d hv hd' => ?_)
      rw [renL_get] at hd'
      cases hq : vs[j]? with
      | none => rw [hq] at hd'; cases hd'
      | some q =>
        rw [hq] at hd'
        simp only [Option.map_some, Option.some.injEq] at hd'
        subst hd'
        exact nw1_R hl (nwL_mem hd q (List.mem_of_getElem? hq)) (h2 j v _ hv (by rw [renL_get, hq]; rfl))
  | _ => simp only [renT, nwT] at hr hd ⊢; exact nw1_R hl hd hr
/-- a contract's arguments, told up to the elements that are there -/
def vcn (sp : List V → V → List Nw → Prop) : List V → V → List Nw → Prop := fun us d obs => ∃ us', vleL us us' ∧ sp us' d obs
theorem EnvOk.ncon {E E' : Env} (o : EnvOk P E) (o' : EnvOk P E') {f : FuncId} {fn : Func} (hf : E.fn f = some fn) (hb : fn.body.isSome = true) {sp : List V → V → List Nw → Prop} (n : Nat) (hs : ∀ us d obs, sp us d obs → nwT obs.length d = true ∧ ∀ q ∈ obs, q.sc)
    (hc : ∀ us d obs, sp us d obs → callW E n f us [] (fun d' h' => NwPost d obs d' h') (fun _ _ => False)) :
    EnvOk P (E'.add f (Ev.ncon (vcn sp)) true) where
  ty := o'.ty
  eq := o'.eq
  fn := o'.fn
  ct := fun g k hg args h K Kp hk c B w0 vs m hl hr => by
    simp only [Env.add] at hg
    split at hg
    · rename_i e
      cases hg
      cases nbeq e
      refine .inl ⟨⟨fn, o.fn _ _ hf, hb⟩, ?_⟩
      unfold Ev.ncon at hk
      split at hk
      · rename_i p us ha
        obtain ⟨hp, d, obs, ⟨us', hv, h1⟩, h2⟩ := (rqW_iff _ _).1 hk
        obtain ⟨v1, v2⟩ := vleL_get hv
        obtain ⟨k1, k2⟩ := argsI_ok m ha hp
        have hcall := calls_of o.ty o.eq o.fn o.ct o.draw (hc us' d obs h1) ⟨fn, o.fn _ _ hf, hb⟩ (w := c.w) (vs := vs) (by omega) (fun j v u' hv hu' => by
          have hju : j < us.length := by have := (List.getElem?_eq_some_iff.1 hu').1; omega
          have hu : us[j]? = some us[j] := by simp [hju]
          refine vle_R ?_ (v2 j us[j] u' hu hu')
          have hj : j < args.length := by have := (List.getElem?_eq_some_iff.1 hu).1; omega
          obtain ⟨q, q1, q2⟩ := k2 j args[j] us[j] (by simp [hj]) hu
          exact argI_ok m (hr j v args[j] hv (by simp [hj])) q1 q2)
        refine hcall.mono fun e w' ⟨v, he, hbl, d', c', h', hw, hR, hM, ids, i1, i2, i3, i4⟩ => ?_
        subst he
        subst hw
        subst i3
        obtain ⟨s1, s2⟩ := hs _ _ _ h1
        obtain ⟨m', hle⟩ := m.mrg hM s2 i1 i2 i4
        exact ⟨_, c.mrg c' h.length ids, _, rfl, hle, m', nwT_R i1 s1 hR, h2⟩
      · exact hk.elim
    · exact o'.ct g k hg args h K Kp hk c B w0 vs m hl hr
  mono := fun g k hg => by
    simp only [Env.add] at hg
    split at hg
    · cases hg; exact ncon_mono _
    · exact o'.mono g k hg
  quiet := fun g hg => by
    simp only [Env.add] at hg ⊢
    split at hg
    · exact ⟨_, rfl, ncon_quiet _⟩
    · exact o'.quiet g hg
  orders := o'.orders
end Go.Ev
