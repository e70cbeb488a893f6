import Derived.Test.YtjiobeonlanfaaaEvJ
namespace Go.Ev
set_option linter.unusedSimpArgs false
set_option linter.unusedVariables false
open Go.RowKit

variable {P : Program} {ty : TypeId → Option Ty} {quiet : FuncId → Bool} {cw : CallW}

/-! ### Two that are apart -/
theorem putF_ne {fr : Fr} {dst : Option Tmp} {v : Option V} {s : Tmp} (h : dst ≠ some s) : getF (putF fr dst v) s = getF fr s := by
  cases dst with
  | none => rfl
  | some d =>
    simp only [putF, getF_set]
    rw [if_neg]
    exact fun e => h (by rw [e.1])
theorem evO_put {fr : Fr} {dst : Option Tmp} {v : Option V} {x : Operand} (h : ∀ d, dst = some d → x ≠ .tmp d) : evO (putF fr dst v) x = evO fr x := by
  cases x with
  | tmp t => exact putF_ne fun e => h t e rfl
  | _ => rfl
theorem putF_comm (fr : Fr) {x y : Option Tmp} (v u : Option V) (h : ∀ d, x = some d → y ≠ some d) : putF (putF fr x v) y u = putF (putF fr y u) x v := by
  cases x with
  | none => rfl
  | some d =>
    cases y with
    | none => rfl
    | some e =>
      have hne : d ≠ e := fun he => h d rfl (he ▸ rfl)
      simp only [putF, setF_eq]
      exact (List.set_comm _ _ hne)
theorem wantA_put {opsA : Array Oper} {o : Oper} {fr : Fr} {dst : Option Tmp} {v : Option V} (h : ∀ d, dst = some d → d ∉ o.looksAt opsA) : wantA opsA.toList o (putF fr dst v) = wantA opsA.toList o fr := by
  unfold wantA
  cases hg : o.guard with
  | none => rfl
  | some gw =>
    obtain ⟨g, want⟩ := gw
    simp only
    cases hs : gslot opsA.toList g with
    | none => rfl
    | some s =>
      have : dst ≠ some s := fun e => h s e (by
        unfold gslot at hs
        rw [nthL_eq] at hs
        unfold Oper.looksAt
        rw [hg]
        split at hs
        · rename_i o' ho'
          have : opsA[g]? = some o' := by simpa using ho'
          simp [this, hs]
        · cases hs)
      simp only [putF_ne this]
theorem looks_op {opsA : Array Oper} {o : Oper} {d : Tmp} (h : d ∉ o.looksAt opsA) : ∀ x ∈ o.op.operands, x ≠ .tmp d := by
  intro x hx e
  subst e
  refine h ?_
  unfold Oper.looksAt
  simp only [List.mem_append, List.mem_filterMap]
  exact .inl ⟨.tmp d, by simpa using hx, rfl⟩

/-- here o leaves u: it reads, no more -/
def Yl (ty : TypeId → Option Ty) (ops : List Oper) (o : Oper) (fr : Fr) (h : Hp) (u : Option V) : Prop :=
  (wantA ops o fr = some true ∧ ∃ p v, prV ty (evO fr) h o.op = some (p, v) ∧ p.holds ∧ u = some v) ∨ (wantA ops o fr = some false ∧ u = some (.tup []))
theorem Yl.step {ops : List Oper} {o : Oper} {fr : Fr} {h : Hp} {u : Option V} (hc : isPR (clOf ty quiet o.op) = true) (hy : Yl ty ops o fr h u) {K : Fr → Hp → Prop} {Kp : V → Hp → Prop} (hk : K (putF fr o.dst u) h) : stepW ty cw ops o none fr h K Kp := by
  rw [stepW_eq]
  rcases hy with ⟨hw, p, v, hp, hh, rfl⟩ | ⟨hw, rfl⟩
  · rw [hw]
    simp only
    rw [opW_pr hc, hp]
    exact ⟨hh, hk⟩
  · rw [hw]
    exact hk
theorem Yl.of {ops : List Oper} {o : Oper} {fr : Fr} {h : Hp} (hc : isPR (clOf ty quiet o.op) = true) {K : Fr → Hp → Prop} {Kp : V → Hp → Prop} (hs : stepW ty cw ops o none fr h K Kp) : ∃ u, Yl ty ops o fr h u ∧ K (putF fr o.dst u) h := by
  rw [stepW_eq] at hs
  split at hs
  · rename_i hw
    rw [opW_pr hc] at hs
    unfold prW at hs
    split at hs
    · rename_i p v hp
      exact ⟨some v, .inl ⟨hw, p, v, hp, hs.1, rfl⟩, hs.2⟩
    · exact hs.elim
  · rename_i hw
    exact ⟨some (.tup []), .inr ⟨hw, rfl⟩, hs⟩
  · exact hs.elim
/-- how far memory may turn under a reading -/
def Rel (st : Bool) : Cl → Hp → Hp → Prop
  | .pure, _, _ => True
  | _, h, h' => match st with | true => Bx h h' | false => h' = h
theorem Rel.of {st : Bool} {a b : Cl} (hc : compat st a b = true) {h h' : Hp} (ht : Tr b h h') : Rel st a h h' := by
  cases a <;> cases b <;> cases st <;> simp_all [compat, Rel, Tr] <;> exact Bx.refl _
theorem prV_rel {o : Oper} {ev : Operand → Option V} {h h' : Hp} (hc : isPR (clOf ty quiet o.op) = true) (hr : Rel (stB ev o.op) (clOf ty quiet o.op) h h') {x : Rq × V} (hp : prV ty ev h o.op = some x) : prV ty ev h' o.op = some x := by
  unfold prV at hp ⊢
  cases hpv : pureV ty ev o.op with
  | some y => rw [hpv] at hp; exact hp
  | none =>
    rw [hpv] at hp
    simp only at hp ⊢
    cases hcl : clOf ty quiet o.op with
    | pure => rw [readV_pure hcl] at hp; cases hp
    | read =>
      rw [hcl] at hr
      cases hst : stB ev o.op with
      | false => rw [hst] at hr; have : h' = h := hr; rw [this]; exact hp
      | true =>
        rw [hst] at hr
        have hb : Bx h h' := hr
        cases hop : o.op with
        | load t x =>
          rw [hop] at hp hst
          simp only [readV] at hp ⊢
          simp only [stB] at hst
          split at hp
          · rename_i v hv
            rw [hv] at hst
            unfold loadV at hp ⊢
            split at hp
            · split at hp
              · rename_i ho; simp only [hb _ _ ho]; exact hp
              · cases hp
            · simp [stV] at hst
            · exact hp
            · cases hp
          · cases hp
        | slice t x lo hi mx =>
          rw [hop] at hp hst
          simp only [stB] at hst
          unfold readV at hp
          split at hp <;> first | (rename_i e; cases e; done) | skip
          · rename_i e
            cases e
            split at hp
            · rename_i hv _ _
              rw [hv] at hst
              simp [nonOwn] at hst
            · cases hp
          · cases hp
        | _ => rw [hop] at hst; simp [stB] at hst
    | _ => rw [hcl] at hc; simp [isPR] at hc
theorem stB_put {opsA : Array Oper} {o : Oper} {fr : Fr} {dst : Option Tmp} {v : Option V} (h : ∀ d, dst = some d → d ∉ o.looksAt opsA) : stB (evO (putF fr dst v)) o.op = stB (evO fr) o.op := by
  cases hop : o.op with
  | load t x =>
    simp only [stB]
    rw [evO_put fun d hd => looks_op (h d hd) x (by simp [hop, Op.operands])]
  | slice t x lo hi mx =>
    simp only [stB]
    rw [evO_put fun d hd => looks_op (h d hd) x (by simp [hop, Op.operands])]
  | _ => rfl
theorem Yl.put {opsA : Array Oper} {o p : Oper} {fr : Fr} {h h' : Hp} {u v : Option V} (hc : isPR (clOf ty quiet o.op) = true) (hap : ∀ d, p.dst = some d → d ∉ o.looksAt opsA) (hr : Rel (stB (evO fr) o.op) (clOf ty quiet o.op) h h')
    (hy : Yl ty opsA.toList o fr h u) : Yl ty opsA.toList o (putF fr p.dst v) h' u := by
  unfold Yl at hy ⊢
  rw [wantA_put hap]
  have hev : ∀ h, prV ty (evO (putF fr p.dst v)) h o.op = prV ty (evO fr) h o.op := by
    intro h
    have hx : ∀ x ∈ o.op.operands, evO (putF fr p.dst v) x = evO fr x := fun x hx => evO_put fun d hd => looks_op (hap d hd) x hx
    unfold prV
    rw [pureV_congr o.op hx, readV_congr o.op hx]
  rcases hy with ⟨hw, q, y, hp, hh, e⟩ | ⟨hw, e⟩
  · exact .inl ⟨hw, q, y, by rw [hev]; exact prV_rel hc hr hp, hh, e⟩
  · exact .inr ⟨hw, e⟩
theorem step_put (hcw : MonoC cw) (hq : QuietOk quiet cw) {opsA : Array Oper} {o p : Oper} {fr : Fr} {h : Hp} {u : Option V} (hc : isPR (clOf ty quiet o.op) = true) (hap : o.apart opsA p = true) (hcp : compat (stB (evO fr) o.op) (clOf ty quiet o.op) (clOf ty quiet p.op) = true)
    {K : Fr → Hp → Prop} {Kp : V → Hp → Prop} (hy : Yl ty opsA.toList o fr h u) (hs : stepW ty cw opsA.toList p none (putF fr o.dst u) h K Kp) :
    stepW ty cw opsA.toList p none fr h (fun fr' h' => stB (evO fr') o.op = stB (evO fr) o.op ∧ Yl ty opsA.toList o fr' h' u ∧ K (putF fr' o.dst u) h') Kp := by
  obtain ⟨h1, h2, h3⟩ := Oper.apart_spec hap
  rw [stepW_eq] at hs ⊢
  rw [wantA_put h1] at hs
  split at hs
  · have hx : ∀ x ∈ p.op.operands, evO (putF fr o.dst u) x = evO fr x := fun x hx => evO_put fun d hd => looks_op (h1 d hd) x hx
    rw [opW_congr p.op hx] at hs
    refine opW_mono hcw hq (evO_func fr) ?_ (fun _ _ x => x) hs
    intro v h' ht hk
    rw [putF_comm _ _ _ h2] at hk
    exact ⟨stB_put h3, hy.put hc h3 (Rel.of hcp ht), hk⟩
  · rw [putF_comm _ _ _ h2] at hs
    exact ⟨stB_put h3, hy.put hc h3 (Rel.of hcp (Tr.same _ _)), hs⟩
  · exact hs

/-! ### Every order -/
def anyW (ty : TypeId → Option Ty) (cw : CallW) (opsA : Array Oper) (K : Fr → Hp → Prop) (Kp : V → Hp → Prop) : Nat → Array Bool → Fr → Hp → Prop
  | 0, listed, fr, h => Region.ready .any opsA listed = [] ∧ K fr h
  | n + 1, listed, fr, h => (Region.ready .any opsA listed = [] → K fr h) ∧
      ∀ i ∈ Region.ready .any opsA listed, ∀ o, opsA[i]? = some o → stepW ty cw opsA.toList o none fr h (fun fr' h' => anyW ty cw opsA K Kp n (listed.setIfInBounds i true) fr' h') Kp

theorem anyW_first (hcw : MonoC cw) (hq : QuietOk quiet cw) {opsA : Array Oper} {K : Fr → Hp → Prop} {Kp : V → Hp → Prop} {i : Nat} {oi : Oper} (hi : opsA[i]? = some oi) (hc : isPR (clOf ty quiet oi.op) = true) (st : Bool) (S : List Nat) (hiS : i ∈ S)
    (hS : ∀ j ∈ S, j ≠ i → ∀ oj, opsA[j]? = some oj → ∃ e ∈ oj.after, Region.binds .any e = true ∧ e.on ∈ S) {u : Option V} :
    ∀ (n : Nat) (listed : Array Bool) (fr : Fr) (h : Hp),
      (∀ j oj, opsA[j]? = some oj → j ∉ S → listed.getD j true = false → oi.apart opsA oj = true ∧ compat st (clOf ty quiet oi.op) (clOf ty quiet oj.op) = true) →
      (∀ j ∈ S, listed.getD j false = false) → stB (evO fr) oi.op = st →
      i ∈ Region.ready .any opsA listed → Yl ty opsA.toList oi fr h u → anyW ty cw opsA K Kp n (listed.setIfInBounds i true) (putF fr oi.dst u) h → anyW ty cw opsA K Kp (n + 1) listed fr h := by
  intro n
  induction n with
  | zero =>
    intro listed fr h _ hSl hst hr hy H
    refine ⟨fun h => (by rw [h] at hr; cases hr), fun j hj oj hoj => ?_⟩
    by_cases hji : j = i
    · subst hji
      rw [hi] at hoj; cases hoj
      exact hy.step hc H
    · have := ready_mono hj hji
      rw [H.1] at this
      cases this
  | succ n ih =>
    intro listed fr h hfree hSl hst hr hy H
    refine ⟨fun h => (by rw [h] at hr; cases hr), fun j hj oj hoj => ?_⟩
    by_cases hji : j = i
    · subst hji
      rw [hi] at hoj; cases hoj
      exact hy.step hc H
    · have h1 := H.2 j (ready_mono hj hji) oj hoj
      obtain ⟨hjun, oj', hoj', hall⟩ := mem_ready.1 hj
      rw [hoj] at hoj'; cases hoj'
      have hjS : j ∉ S := fun hjS => by
        obtain ⟨e, he, hb, hes⟩ := hS j hjS hji oj hoj
        have := hall e he hb
        rw [hSl _ hes] at this
        cases this
      obtain ⟨f1, f2⟩ := hfree j oj hoj hjS hjun
      rw [← hst] at f2
      refine stepW_mono hcw hq ?_ (fun _ _ x => x) (step_put hcw hq hc f1 f2 hy h1)
      rintro v h' _ ⟨k1, k2, k3⟩
      refine ih (listed.setIfInBounds j true) _ h' ?_ ?_ (k1.trans hst) (ready_mono hr (Ne.symm hji)) k2 ?_
      · intro k ok hk hkS hun
        refine hfree k ok hk hkS ?_
        by_cases hjk : j = k
        · subst hjk; exact hjun
        · rw [getD_set_ne true hjk] at hun; exact hun
      · intro k hk
        have : j ≠ k := fun e => hjS (e ▸ hk)
        rw [getD_set_ne false this]
        exact hSl k hk
      · rw [Array.setIfInBounds_comm _ _ hji]
        exact k3

/-! ### The plan -/
theorem inN_iff {k : Nat} : ∀ {l : List Nat}, inN k l = true ↔ k ∈ l
  | [] => by simp [inN]
  | j :: l => by
    simp only [inN]
    split
    · rename_i h; rw [nbeq h]; simp
    · rename_i h
      have : k ≠ j := fun e => by subst e; rw [Nat.beq_refl] at h; cases h
      rw [inN_iff]; simp [this]
theorem anyN_iff {S : List Nat} : ∀ {l : List Nat}, anyN S l = true → ∃ k ∈ l, k ∈ S
  | [], h => by simp [anyN] at h
  | k :: ks, h => by
    simp only [anyN] at h
    split at h
    · rename_i hk; exact ⟨k, by simp, inN_iff.1 hk⟩
    · obtain ⟨k', h1, h2⟩ := anyN_iff h; exact ⟨k', by simp [h1], h2⟩
theorem edges_mem {o : Oper} {k : Nat} : k ∈ edgesOf o ↔ ∃ e ∈ o.after, Region.binds .any e = true ∧ e.on = k := by
  unfold edgesOf
  simp only [List.mem_map, List.mem_filter]
  constructor
  · rintro ⟨e, ⟨h1, h2⟩, h3⟩
    exact ⟨e, by simpa using h1, by cases hg : e.ground <;> simp_all [bindE, Region.binds], h3⟩
  · rintro ⟨e, h1, h2, h3⟩
    exact ⟨e, ⟨by simpa using h1, by cases hg : e.ground <;> simp_all [bindE, Region.binds]⟩, h3⟩
theorem waitS_spec : ∀ (l : Rem) (S : List Nat), (∀ j ∈ S, j ∈ waitS l S) ∧ (∀ j ∈ waitS l S, j ∈ S ∨ ∃ p, (j, p) ∈ l ∧ ∃ k ∈ edgesOf p, k ∈ waitS l S)
  | [], S => ⟨fun _ h => h, fun _ h => .inl h⟩
  | (j, p) :: l, S => by
    simp only [waitS]
    split
    · rename_i h
      obtain ⟨a1, a2⟩ := waitS_spec l (j :: S)
      refine ⟨fun k hk => a1 k (by simp [hk]), fun k hk => ?_⟩
      rcases a2 k hk with hk' | ⟨q, hq, hx⟩
      · rcases List.mem_cons.1 hk' with rfl | hk'
        · obtain ⟨x, hx1, hx2⟩ := anyN_iff h
          exact .inr ⟨p, by simp, x, hx1, a1 x (by simp [hx2])⟩
        · exact .inl hk'
      · exact .inr ⟨q, by simp [hq], hx⟩
    · obtain ⟨a1, a2⟩ := waitS_spec l S
      refine ⟨a1, fun k hk => ?_⟩
      rcases a2 k hk with hk' | ⟨q, hq, hx⟩
      · exact .inl hk'
      · exact .inr ⟨q, by simp [hq], hx⟩
theorem delN_mem {k j : Nat} {p : Oper} : ∀ {l : Rem}, (j, p) ∈ delN k l ↔ (j, p) ∈ l ∧ j ≠ k
  | [] => by simp [delN]
  | (i, q) :: l => by
    simp only [delN]
    split
    · rename_i h
      have := nbeq h
      subst this
      rw [delN_mem]
      constructor
      · rintro ⟨a, b⟩; exact ⟨by simp [a], b⟩
      · rintro ⟨a, b⟩
        rcases List.mem_cons.1 a with e | a
        · cases e; exact absurd rfl b
        · exact ⟨a, b⟩
    · rename_i h
      have hne : k ≠ i := fun e => by subst e; rw [Nat.beq_refl] at h; cases h
      simp only [List.mem_cons, delN_mem]
      constructor
      · rintro (e | ⟨a, b⟩)
        · cases e; exact ⟨.inl rfl, fun e => hne e.symm⟩
        · exact ⟨.inr a, b⟩
      · rintro ⟨e | a, b⟩
        · exact .inl e
        · exact .inr ⟨a, b⟩
theorem safeN_spec {opsA : Array Oper} {S : List Nat} {o : Oper} {st : Bool} : ∀ {l : Rem}, safeN ty quiet opsA S o st l = true → ∀ j p, (j, p) ∈ l → j ∉ S → o.apart opsA p = true ∧ compat st (clOf ty quiet o.op) (clOf ty quiet p.op) = true
  | [], _, j, p, h, _ => by cases h
  | (i, q) :: l, hs, j, p, h, hS => by
    simp only [safeN] at hs
    split at hs
    · rename_i hin
      rcases List.mem_cons.1 h with e | h
      · cases e; exact absurd (inN_iff.1 hin) hS
      · exact safeN_spec hs j p h hS
    · split at hs
      · rename_i hcp
        split at hs
        · rename_i hap
          rcases List.mem_cons.1 h with e | h
          · cases e; exact ⟨hap, hcp⟩
          · exact safeN_spec hs j p h hS
        · cases hs
      · cases hs
theorem memN_iff {k : Nat} : ∀ {l : Rem}, memN k l = true ↔ ∃ p, (k, p) ∈ l
  | [] => by simp [memN]
  | (j, q) :: l => by
    simp only [memN]
    split
    · rename_i h; rw [nbeq h]; exact ⟨fun _ => ⟨q, by simp⟩, fun _ => rfl⟩
    · rename_i h
      have : k ≠ j := fun e => by subst e; rw [Nat.beq_refl] at h; cases h
      rw [memN_iff]; simp [this]
/-- what is left, and what is listed -/
def Left (opsA : Array Oper) (rem : Rem) (listed : Array Bool) : Prop := listed.size = opsA.size ∧ (∀ j, listed.getD j true = false ↔ ∃ p, (j, p) ∈ rem) ∧ ∀ j p, (j, p) ∈ rem → opsA[j]? = some p
theorem getD_set_self_true (listed : Array Bool) (i : Nat) : (listed.setIfInBounds i true).getD i true = true := by
  by_cases h : i < listed.size
  · simp [h]
  · simp [h]
theorem Left.del {opsA : Array Oper} {rem : Rem} {listed : Array Bool} (hl : Left opsA rem listed) (i : Nat) : Left opsA (delN i rem) (listed.setIfInBounds i true) := by
  obtain ⟨h0, h1, h2⟩ := hl
  refine ⟨by simp [h0], fun j => ?_, fun j p h => h2 j p (delN_mem.1 h).1⟩
  by_cases hij : i = j
  · subst hij
    constructor
    · intro h
      have := getD_set_self_true listed i
      rw [this] at h; cases h
    · rintro ⟨p, hp⟩; exact absurd rfl (delN_mem.1 hp).2
  · rw [getD_set_ne true hij, h1]
    constructor
    · rintro ⟨p, hp⟩; exact ⟨p, delN_mem.2 ⟨hp, fun e => hij e.symm⟩⟩
    · rintro ⟨p, hp⟩; exact ⟨p, (delN_mem.1 hp).1⟩
theorem readyB_spec {opsA : Array Oper} {rem : Rem} {listed : Array Bool} (hl : Left opsA rem listed) : ∀ {ks : List Nat}, readyB opsA.size rem ks = true ↔ ∀ k ∈ ks, listed.getD k false = true
  | [] => by simp [readyB]
  | k :: ks => by
    have hk : listed.getD k false = true ↔ k < opsA.size ∧ ¬ ∃ p, (k, p) ∈ rem := by
      rw [← hl.2.1 k, ← hl.1]
      by_cases h : k < listed.size
      · simp [h]
      · simp [h]
    simp only [readyB, List.mem_cons, forall_eq_or_imp, hk]
    split
    · rename_i hlt
      have hlt := nble hlt
      split
      · rename_i hm
        simp only [Bool.false_eq_true, false_iff]
        exact fun h => h.1.2 (memN_iff.1 hm)
      · rename_i hm
        rw [readyB_spec hl]
        refine ⟨fun h => ⟨⟨by omega, fun hx => ?_⟩, h⟩, fun h => h.2⟩
        rw [memN_iff.2 hx] at hm; cases hm
    · rename_i hlt
      simp only [Bool.false_eq_true, false_iff]
      intro h
      rw [Nat.ble_eq_true_of_le (by omega : k + 1 ≤ opsA.size)] at hlt
      cases hlt
theorem ready_of {opsA : Array Oper} {rem : Rem} {listed : Array Bool} (hl : Left opsA rem listed) {i : Nat} {o : Oper} (hi : (i, o) ∈ rem) : i ∈ Region.ready .any opsA listed ↔ readyB opsA.size rem (edgesOf o) = true := by
  rw [mem_ready, readyB_spec hl]
  constructor
  · rintro ⟨_, o', ho', hall⟩ k hk
    rw [hl.2.2 i o hi] at ho'; cases ho'
    obtain ⟨e, he, hb, rfl⟩ := edges_mem.1 hk
    exact hall e he hb
  · intro h
    exact ⟨(hl.2.1 i).2 ⟨o, hi⟩, o, hl.2.2 i o hi, fun e he hb => h _ (edges_mem.2 ⟨e, he, hb, rfl⟩)⟩
theorem pickN_spec {opsA : Array Oper} {ev : Operand → Option V} {rem : Rem} {i : Nat} {o : Oper} : ∀ {l : Rem}, pickN ty quiet opsA ev rem l = some (i, o) →
    (i, o) ∈ l ∧ prB (clOf ty quiet o.op) = true ∧ readyB opsA.size rem (edgesOf o) = true ∧ safeN ty quiet opsA (waitS rem [i]) o (stB ev o.op) (delN i rem) = true
  | [], h => by cases h
  | (j, p) :: l, h => by
    simp only [pickN] at h
    have again : pickN ty quiet opsA ev rem l = some (i, o) → (i, o) ∈ (j, p) :: l ∧ prB (clOf ty quiet o.op) = true ∧ readyB opsA.size rem (edgesOf o) = true ∧ safeN ty quiet opsA (waitS rem [i]) o (stB ev o.op) (delN i rem) = true := fun h => by
      obtain ⟨a, b⟩ := pickN_spec h
      exact ⟨by simp [a], b⟩
    split at h
    · rename_i h1
      split at h
      · rename_i h2
        split at h
        · rename_i h3
          cases h
          exact ⟨by simp, h1, h2, h3⟩
        · exact again h
      · exact again h
    · exact again h
theorem conjL_spec {f : Nat → Oper → Prop} : ∀ {l : Rem}, conjL f l → ∀ i o, (i, o) ∈ l → f i o
  | [(j, p)], h, i, o, hm => by
    simp only [List.mem_cons, List.not_mem_nil, or_false, Prod.mk.injEq] at hm
    obtain ⟨rfl, rfl⟩ := hm
    exact h
  | (j, p) :: r :: l, h, i, o, hm => by
    rcases List.mem_cons.1 hm with e | hm
    · cases e; exact h.1
    · exact conjL_spec h.2 i o hm
theorem readyL_mem {n : Nat} {rem : Rem} {i : Nat} {o : Oper} : ∀ {l : Rem}, (i, o) ∈ readyL n rem l ↔ (i, o) ∈ l ∧ readyB n rem (edgesOf o) = true
  | [] => by simp [readyL]
  | (j, p) :: l => by
    simp only [readyL]
    split
    · rename_i h
      simp only [List.mem_cons, readyL_mem]
      constructor
      · rintro (e | ⟨a, b⟩)
        · cases e; exact ⟨.inl rfl, h⟩
        · exact ⟨.inr a, b⟩
      · rintro ⟨e | a, b⟩
        · exact .inl e
        · exact .inr ⟨a, b⟩
    · rename_i h
      rw [readyL_mem, List.mem_cons]
      constructor
      · rintro ⟨a, b⟩; exact ⟨.inr a, b⟩
      · rintro ⟨e | a, b⟩
        · cases e; rw [b] at h; cases h
        · exact ⟨a, b⟩
theorem isPR_of {c : Cl} (h : prB c = true) : isPR c = true := by cases c <;> simp_all [prB, isPR]

theorem drawN_any (hcw : MonoC cw) (hq : QuietOk quiet cw) {opsA : Array Oper} {K : Fr → Hp → Prop} {Kp : V → Hp → Prop} : ∀ (n : Nat) (rem : Rem) (listed : Array Bool) (fr : Fr) (h : Hp), Left opsA rem listed →
    drawN ty quiet cw opsA K Kp n rem fr h → anyW ty cw opsA K Kp n listed fr h := by
  have none_ready : ∀ {rem : Rem} {listed : Array Bool}, Left opsA rem listed → ∀ i ∈ Region.ready .any opsA listed, ∃ o, (i, o) ∈ rem := fun hl i hi => (hl.2.1 i).1 (mem_ready.1 hi).1
  intro n
  induction n with
  | zero =>
    intro rem listed fr h hl hd
    cases rem with
    | cons r l => exact hd.elim
    | nil =>
      refine ⟨?_, hd⟩
      rw [List.eq_nil_iff_forall_not_mem]
      intro i hi
      obtain ⟨o, ho⟩ := none_ready hl i hi
      cases ho
  | succ n ih =>
    intro rem listed fr h hl hd
    cases rem with
    | nil =>
      refine ⟨fun _ => hd, fun i hi => ?_⟩
      obtain ⟨o, ho⟩ := none_ready hl i hi
      cases ho
    | cons r l =>
      simp only [drawN] at hd
      split at hd
      · rename_i i o hp
        obtain ⟨p1, p2, p3, p4⟩ := pickN_spec hp
        have hio := hl.2.2 i o p1
        obtain ⟨u, hy, hk⟩ := Yl.of (isPR_of p2) hd
        obtain ⟨w1, w2⟩ := waitS_spec (r :: l) [i]
        have hSr : ∀ j ∈ waitS (r :: l) [i], ∃ q, (j, q) ∈ r :: l := by
          intro j hj
          rcases w2 j hj with e | ⟨q, hq, _⟩
          · simp only [List.mem_cons, List.not_mem_nil, or_false] at e; subst e; exact ⟨o, p1⟩
          · exact ⟨q, hq⟩
        refine anyW_first hcw hq hio (isPR_of p2) (stB (evO fr) o.op) (waitS (r :: l) [i]) (w1 i (by simp)) ?_ n listed fr h ?_ ?_ rfl ((ready_of hl p1).2 p3) hy (ih _ _ _ _ (hl.del i) hk)
        · intro j hj hne oj hoj
          rcases w2 j hj with e | ⟨q, hq, k, hk1, hk2⟩
          · simp only [List.mem_cons, List.not_mem_nil, or_false] at e; exact absurd e hne
          · have := hl.2.2 j q hq
            rw [hoj] at this; cases this
            obtain ⟨e, he, hb, rfl⟩ := edges_mem.1 hk1
            exact ⟨e, he, hb, hk2⟩
        · intro j oj hoj hjS hun
          obtain ⟨q, hq⟩ := (hl.2.1 j).1 hun
          have := hl.2.2 j q hq
          rw [hoj] at this; cases this
          exact safeN_spec p4 j oj (delN_mem.2 ⟨hq, fun e => hjS (e ▸ w1 i (by simp))⟩) hjS
        · intro j hj
          have := (hl.2.1 j).2 (hSr j hj)
          rcases Nat.lt_or_ge j listed.size with hlt | hge
          · simp [hlt] at this ⊢; exact this
          · simp [hge] at this
      · have hall := conjL_spec hd
        refine ⟨fun he => ?_, fun i hi o ho => ?_⟩
        · exfalso
          cases hrl : readyL opsA.size (r :: l) (r :: l) with
          | nil => rw [hrl] at hd; exact hd
          | cons x xs =>
            obtain ⟨i, o⟩ := x
            have hm : (i, o) ∈ readyL opsA.size (r :: l) (r :: l) := by rw [hrl]; simp
            obtain ⟨m1, m2⟩ := readyL_mem.1 hm
            have := (ready_of hl m1).2 m2
            rw [he] at this; cases this
        · obtain ⟨q, hq'⟩ := none_ready hl i hi
          have := hl.2.2 i q hq'
          rw [ho] at this; cases this
          exact stepW_mono hcw hq (fun u h' _ hk => ih _ _ _ _ (hl.del i) hk) (fun _ _ x => x) (hall i o (readyL_mem.2 ⟨hq', (ready_of hl hq').1 hi⟩))
theorem numL_mem : ∀ (l : List Oper) (k j : Nat) (p : Oper), (j, p) ∈ numL k l ↔ k ≤ j ∧ l[j - k]? = some p
  | [], k, j, p => by simp [numL]
  | o :: l, k, j, p => by
    simp only [numL, List.mem_cons, numL_mem l (k + 1) j p, Prod.mk.injEq]
    constructor
    · rintro (⟨rfl, rfl⟩ | ⟨h1, h2⟩)
      · simp
      · refine ⟨by omega, ?_⟩
        have : j - k = (j - (k + 1)) + 1 := by omega
        rw [this]; simpa using h2
    · rintro ⟨h1, h2⟩
      rcases Nat.lt_or_ge k j with hlt | hge
      · refine .inr ⟨by omega, ?_⟩
        have : j - k = (j - (k + 1)) + 1 := by omega
        rw [this] at h2; simpa using h2
      · have : j = k := by omega
        subst this
        simp at h2
        exact .inl ⟨rfl, h2.symm⟩
theorem Left.start (opsA : Array Oper) : Left opsA (numL 0 opsA.toList) (Array.replicate opsA.size false) := by
  refine ⟨by simp, fun j => ?_, fun j p h => ?_⟩
  · constructor
    · intro h
      rcases Nat.lt_or_ge j opsA.size with hlt | hge
      · exact ⟨opsA[j], (numL_mem _ _ _ _).2 ⟨by omega, by simp [hlt]⟩⟩
      · simp [hge] at h
    · rintro ⟨p, hp⟩
      obtain ⟨_, h2⟩ := (numL_mem _ _ _ _).1 hp
      have := (List.getElem?_eq_some_iff.1 h2).1
      simp at this
      simp [this]
  · obtain ⟨_, h2⟩ := (numL_mem _ _ _ _).1 h
    simpa using h2
end Go.Ev
