import Derived.Test.YtjiobeonlanfaaaEvG
namespace Go.Ev
set_option linter.unusedSimpArgs false
set_option linter.unusedVariables false
open Go.RowKit

variable {P : Program} {ty : TypeId → Option Ty} {c : Cx} {B : Nat} {w0 : World} {h : Hp}

theorem someL_get : ∀ (l : List V) (n i : Nat) (d : V), getF (someL l ++ noneF n) i = some d → l[i]? = some d
  | [], n, i, d, h => by
    simp only [someL, List.map_nil, List.nil_append] at h
    have : ∀ (n i : Nat), getF (noneF n) i = none := by
      intro n
      induction n with
      | zero => intro i; rfl
      | succ n ih => intro i; cases i with | zero => rfl | succ i => exact ih i
    rw [this] at h; cases h
  | x :: l, n, i, d, h => by
    cases i with
    | zero => simpa [someL, getF] using h
    | succ i =>
      have : getF (someL l ++ noneF n) i = some d := by simpa [someL, getF] using h
      simpa using someL_get l n i d this
theorem noneF_len : ∀ n, (noneF n).length = n
  | 0 => rfl
  | n + 1 => by simp [noneF, noneF_len n]
theorem enter_fm {args : List V} {vs : Array Value} (hl : vs.size = args.length) (hr : ∀ (j : Nat) v d, vs[j]? = some v → args[j]? = some d → R c v d) (n : Nat) :
    FM c { tmps := vs ++ Array.replicate (n - vs.size) undef, defers := [] } (someL args ++ noneF (n - args.length)) := by
  refine ⟨by simp [someL, noneF_len, hl], fun i d hd => ?_⟩
  have hi := someL_get args _ i d hd
  have hlt := (List.getElem?_eq_some_iff.1 hi).1
  have hv : vs[i]? = some (vs[i]'(by omega)) := by simp [show i < vs.size by omega]
  exact ⟨_, by rw [Array.getElem?_append_left (by omega)]; exact hv, hr i _ d hv hi⟩

def resOne (tmps : Array Value) : ResultVar → Sem Value
  | .tmp t => pure (tmps.getD t undef)
  | .cell a t => do loadVar t (← asAddr (tmps.getD a undef))
theorem res_ok (hty : ∀ t y, ty t = some y → TyOk P t y) {a : Act} {fr : Fr} (s : SM B w0 c a fr h) : ∀ (rs : List ResultVar) (p : Rq) (ds : List V), resV ty fr h rs = some (p, ds) → p.holds →
    ∃ vs : List Value, (rs.mapM (m := Sem) (resOne a.tmps)).run P c.w = .ok vs c.w ∧ vs.length = ds.length ∧ ∀ (j : Nat) v d, vs[j]? = some v → ds[j]? = some d → R c v d
  | [], p, ds, h, _ => by
    simp only [resV, Option.some.injEq, Prod.mk.injEq] at h
    obtain ⟨_, rfl⟩ := h
    exact ⟨[], rfl, rfl, by simp⟩
  | .tmp t :: l, p, ds, hr, hp => by
    simp only [resV] at hr
    split at hr
    · rename_i v q vs hv hl
      simp only [Option.some.injEq, Prod.mk.injEq] at hr
      obtain ⟨rfl, rfl⟩ := hr
      obtain ⟨us, h1, h2, h3⟩ := res_ok hty s l _ _ hl hp
      obtain ⟨u, hu, hR⟩ := s.fm.2 t v hv
      refine ⟨u :: us, ?_, by simp [h2], fun j x d hx hd => ?_⟩
      · have hu' : a.tmps.getD t undef = u := by simp [hu]
        simp only [List.mapM_cons, Sem.run_bind, resOne, hu', Sem.run_pure, Result.andThen_ok, h1]
      · cases j with
        | zero => simp at hx hd; subst hx; subst hd; exact hR
        | succ j => simp at hx hd; exact h3 j x d hx hd
    · cases hr
  | .cell k t :: l, p, ds, hr, hp => by
    simp only [resV] at hr
    split at hr
    · rename_i v q vs hv hl
      split at hr
      · rename_i q2 u hu
        simp only [Option.some.injEq, Prod.mk.injEq] at hr
        obtain ⟨rfl, rfl⟩ := hr
        obtain ⟨p1, p2⟩ := (rqA_iff _ _).1 hp
        obtain ⟨us, h1, h2, h3⟩ := res_ok hty s l _ _ hl p2
        obtain ⟨x, hx, hR⟩ := s.fm.2 k v hv
        obtain ⟨z, hz, hRz⟩ := load_ok (P := P) hty s.hm hR hu p1
        refine ⟨z :: us, ?_, by simp [h2], fun j x d hx hd => ?_⟩
        · have hx' : a.tmps.getD k undef = x := by simp [hx]
          have hz' : (do loadVar t (← asAddr x) : Sem Value).run P c.w = .ok z c.w := by
            unfold loadV at hu
            cases v <;> first | cases hu | skip
            · obtain ⟨b, rfl, _⟩ := hR.ptrI
              exact hz
            · obtain ⟨b, cap, rfl, _⟩ := hR.eptrI
              exact hz
            · obtain ⟨ad, cv, rfl, _⟩ := hR.iptrI
              exact hz
          simp only [List.mapM_cons, Sem.run_bind, resOne, hx', Sem.run_pure, Result.andThen_ok, h1] at hz' ⊢
          rw [hz']
          simp only [Result.andThen_ok, h1]
        · cases j with
          | zero => simp at hx hd; subst hx; subst hd; exact hRz
          | succ j => simp at hx hd; exact h3 j x d hx hd
      · cases hr
    · cases hr

def resOut : List V → V
  | [v] => v
  | vs => .tup vs
/-- what a contract is good for -/
def CtOk (P : Program) (ct : Ct) : Prop := ∀ f k, ct f = some k → ∀ args h K Kp, k args h K Kp → ∀ (c : Cx) (B : Nat) (w0 : World) (vs : Array Value), HM B w0 c h → vs.size = args.length →
  (∀ (j : Nat) v d, vs[j]? = some v → args[j]? = some d → R c v d) → CallR P f vs c.w (CallPost c B w0 K Kp)

theorem body_ok (hty : ∀ t y, ty t = some y → TyOk P t y) (heq : EqOk P ty) {quiet : FuncId → Bool} {cw : CallW} (hcw : CallOk P cw) (hdr : DrawOk P ty quiet cw) {f : FuncId} {fn : Func} (hf : FnOk P f fn) {code : Code} (hb : fn.body = some code)
    {args : List V} {K Kp : V → Hp → Prop} (hA : AWP ty quiet cw h.length code (retQ ty fn.results.toList K Kp) (someL args ++ noneF (fn.ntmps - args.length)) h) {vs : Array Value} (hm : HM B w0 c h) (hl : vs.size = args.length)
    (hr : ∀ (j : Nat) v d, vs[j]? = some v → args[j]? = some d → R c v d) : Calls P f vs c.w (CallPost c B w0 K Kp) := by
  refine calls_of_wp hf.look hb (wp_mono (awp_ok hty heq hcw hdr h.length code _ c B w0 _ _ h ⟨enter_fm hl hr fn.ntmps, hm⟩ hA) ?_)
  rintro e a' w' ⟨ex, c', fr', h', he, rfl, hle, s', hd, hQ⟩
  have hle' : c.le c' := ⟨fun i l hi => hle.ρ i l (by
    rcases Nat.lt_or_ge i h.length with hlt | hge
    · exact hlt
    · rw [hm.none_ge i hge] at hi; cases hi) hi, hle.F, hle.cell⟩
  have fin : ∀ (hQ : match resV ty fr' h' fn.results.toList with
      | some (p, [v]) => rqW p (K v h')
      | some (p, vs) => rqW p (K (.tup vs) h')
      | none => False), a'.defers = [] ∧ ∃ v, (results fn a'.tmps).run P c'.w = .ok v c'.w ∧ CallPost c B w0 K Kp (.returned v) c'.w := by
    intro hQ
    refine ⟨hd, ?_⟩
    cases hres : resV ty fr' h' fn.results.toList with
    | none => rw [hres] at hQ; exact hQ.elim
    | some q =>
      obtain ⟨p, ds⟩ := q
      rw [hres] at hQ
      have hp : p.holds ∧ K (resOut ds) h' := by
        match ds, hQ with
        | [], hQ => exact (rqW_iff _ _).1 hQ
        | [v], hQ => exact (rqW_iff _ _).1 hQ
        | v :: u :: r, hQ => exact (rqW_iff _ _).1 hQ
      obtain ⟨us, h1, h2, h3⟩ := res_ok hty s' _ p ds hres hp.1
      have hm : (fn.results.mapM (resOne a'.tmps)).run P c'.w = .ok us.toArray c'.w := by
        rw [← Array.toArray_toList (xs := fn.results), List.mapM_toArray]
        simp only [Sem.run_map, h1, Result.andThen_ok]
      have hrun : (results fn a'.tmps).run P c'.w = .ok (if h : us.toArray.size = 1 then us.toArray[0] else .tuple us.toArray) c'.w := by
        have e2 : results fn a'.tmps = (do let vs ← fn.results.mapM (resOne a'.tmps); pure (if h : vs.size = 1 then vs[0] else .tuple vs)) := rfl
        rw [e2, Sem.run_bind, hm]
        rfl
      refine ⟨_, hrun, ?_⟩
      refine ⟨_, c', h', rfl, hle', s'.hm, ?_, hp.2⟩
      clear hp hQ hres hrun hm h1
      match ds, us, h2, h3 with
      | [v], [u], _, h3 => exact h3 0 u v rfl rfl
      | [], [], _, h3 => exact .tup #[] [] rfl (by simp)
      | v :: v2 :: r, u :: u2 :: q, h2, h3 =>
        rw [dif_neg (by simp)]
        exact .tup _ _ (by simpa using h2) (fun j x d hx hd => h3 j x d (by simpa using hx) hd)
  cases e <;> cases ex <;> first | exact he.elim | skip
  · exact fin hQ
  · exact hQ.elim
  · exact fin hQ
  · obtain ⟨v, rfl, hR⟩ := he
    exact ⟨hd, v, rfl, _, c', h', rfl, hle', s'.hm, hR, hQ⟩

theorem call_ok {E : Env} (hty : ∀ t y, E.ty t = some y → TyOk P t y) (heq : EqOk P E.ty) (hfn : ∀ f fn, E.fn f = some fn → FnOk P f fn) (hct : CtOk P E.ct) (hdr : ∀ n, CallOk P (callW E n) → DrawOk P E.ty E.quiet (callW E n)) : ∀ n, CallOk P (callW E n)
  | 0 => fun f args h K Kp hc => hc.elim
  | n + 1 => by
    have ih := call_ok hty heq hfn hct hdr n
    intro f args h K Kp hc c B w0 vs hm hl hr
    simp only [callW] at hc
    split at hc
    · rename_i k hk
      exact hct f k hk args h K Kp hc c B w0 vs hm hl hr
    · split at hc
      · rename_i fn hf
        unfold bodyW at hc
        split at hc
        · rename_i code hb
          rw [forceF_eq] at hc
          exact .inl ⟨⟨fn, hfn f fn hf, by rw [hb]; rfl⟩, body_ok hty heq ih (hdr n ih) (hfn f fn hf) hb hc hm hl hr⟩
        · exact hc.elim
      · exact hc.elim

/-- from the abstract run to the machine's: what came in is told by d's that lead to nothing owned -/
theorem calls_of {E : Env} (hty : ∀ t y, E.ty t = some y → TyOk P t y) (heq : EqOk P E.ty) (hfn : ∀ f fn, E.fn f = some fn → FnOk P f fn) (hct : CtOk P E.ct) (hdr : ∀ n, CallOk P (callW E n) → DrawOk P E.ty E.quiet (callW E n))
    {n : Nat} {f : FuncId} {args : List V} {K : V → Hp → Prop} (hc : callW E n f args [] K (fun _ _ => False)) (hfb : ∃ fn, FnOk P f fn ∧ fn.body.isSome = true) {w : World} {vs : Array Value} (hl : vs.size = args.length)
    (hr : ∀ (j : Nat) v d, vs[j]? = some v → args[j]? = some d → R ⟨fun _ => none, fun b => b < w.heap.size, w⟩ v d) :
    Calls P f vs w fun e w' => ∃ v, e = .returned v ∧ Below w.heap.size w w' ∧ ∃ d c' h', c'.w = w' ∧ R c' v d ∧ HM w.heap.size w c' h' ∧ K d h' := by
  have hm : HM w.heap.size w ⟨fun _ => none, fun b => b < w.heap.size, w⟩ [] :=
    ⟨fun _ _ => rfl, fun i o h => by simp [getF] at h, fun i j o o' b l l' h => by simp [getF] at h, fun i o l b h => by simp [getF] at h, fun _ h => h, Nat.le_refl _, Below.refl _ _⟩
  have hcl : Calls P f vs w (CallPost ⟨fun _ => none, fun b => b < w.heap.size, w⟩ w.heap.size w K (fun _ _ => False)) := by
    rcases call_ok hty heq hfn hct hdr n f args [] K _ hc _ _ _ vs hm hl hr with h | ⟨v, w', hrun, _⟩
    · exact h.2
    · obtain ⟨fn, h1, h2⟩ := hfb
      rw [callf_run h1 h2] at hrun
      cases hrun
  refine hcl.mono fun e w' he => ?_
  cases e with
  | returned v =>
    obtain ⟨d, c', h', rfl, _, m, r, k⟩ := he
    exact ⟨v, rfl, m.below, d, c', h', rfl, r, m, k⟩
  | panicked chain => obtain ⟨v, _, d, c', h', _, _, _, _, k⟩ := he; exact k.elim
  | outgrown => exact he.elim
/-- a law's run: true, and nothing that was there has turned -/
theorem law_of {E : Env} (hty : ∀ t y, E.ty t = some y → TyOk P t y) (heq : EqOk P E.ty) (hfn : ∀ f fn, E.fn f = some fn → FnOk P f fn) (hct : CtOk P E.ct) (hdr : ∀ n, CallOk P (callW E n) → DrawOk P E.ty E.quiet (callW E n))
    {n : Nat} {f : FuncId} {args : List V} (hc : callW E n f args [] (fun d _ => d = .bool true) (fun _ _ => False)) (hfb : ∃ fn, FnOk P f fn ∧ fn.body.isSome = true) {w : World} {vs : Array Value} (hl : vs.size = args.length)
    (hr : ∀ (j : Nat) v d, vs[j]? = some v → args[j]? = some d → R ⟨fun _ => none, fun b => b < w.heap.size, w⟩ v d) :
    Calls P f vs w fun e w' => e = .returned (.bool true) ∧ Below w.heap.size w w' := by
  refine (calls_of hty heq hfn hct hdr hc hfb hl hr).mono fun e w' ⟨v, he, hb, d, c', h', _, r, _, k⟩ => ?_
  subst k
  rw [r.boolI] at he
  exact ⟨he, hb⟩
end Go.Ev
