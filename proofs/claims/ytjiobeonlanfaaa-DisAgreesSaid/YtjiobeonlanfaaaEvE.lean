import Derived.Test.YtjiobeonlanfaaaEvD
namespace Go.Ev
set_option linter.unusedSimpArgs false
set_option linter.unusedVariables false
open Go.RowKit

variable {P : Program} {ty : TypeId → Option Ty} {c : Cx} {B : Nat} {w0 : World} {h : Hp}

theorem R.ifcI {t : TypeId} {d : V} {v : Value} (h : R c v (.ifc t d)) : ∃ u, v = .iface t u := by
  cases h with
  | pure h => cases h
  | ifc t v d r => exact ⟨v, rfl⟩
theorem R.cloI {f : FuncId} {as bs : List V} {v : Value} (h : R c v (.clo f as bs)) : ∃ xs ys : Array Value, v = .func (.func f) xs ys ∧ xs.size = as.length ∧ ys.size = bs.length ∧
    (∀ (j : Nat) v d, xs[j]? = some v → as[j]? = some d → R c v d) ∧ (∀ (j : Nat) v d, ys[j]? = some v → bs[j]? = some d → R c v d) := by
  cases h with
  | pure h => cases h
  | clo f xs ys as bs h1 h2 hx hy => exact ⟨xs, ys, rfl, h1, h2, hx, hy⟩

theorem app_R {xs ys : Array Value} {as bs : List V} (hl : xs.size = as.length) (h1 : ∀ (j : Nat) v d, xs[j]? = some v → as[j]? = some d → R c v d) (h2 : ∀ (j : Nat) v d, ys[j]? = some v → bs[j]? = some d → R c v d) :
    ∀ (j : Nat) v d, (xs ++ ys)[j]? = some v → (as ++ bs)[j]? = some d → R c v d := by
  intro j v d hv hd
  rcases Nat.lt_or_ge j xs.size with hlt | hge
  · rw [Array.getElem?_append_left hlt] at hv
    rw [List.getElem?_append_left (by omega)] at hd
    exact h1 j v d hv hd
  · rw [Array.getElem?_append_right hge] at hv
    rw [List.getElem?_append_right (by omega)] at hd
    exact h2 (j - xs.size) v d hv (by rw [hl]; exact hd)

/-! ### Calls -/
def CallPost (c : Cx) (B : Nat) (w0 : World) (K Kp : V → Hp → Prop) : Ending → World → Prop
  | .returned v, w' => Aft c B w0 K v w'
  | .panicked chain, w' => ∃ v, chain = [{ v := v, recovered := false }] ∧ Aft c B w0 Kp v w'
  | .outgrown, _ => False
/-- a call: one that is entered, or one that the model answers at once -/
def CallR (P : Program) (f : FuncId) (vs : Array Value) (w : World) (post : Ending → World → Prop) : Prop :=
  ((∃ fn, FnOk P f fn ∧ fn.body.isSome = true) ∧ Calls P f vs w post) ∨ ∃ v w', (callFunc f vs).run P w = .ok (.value v) w' ∧ post (.returned v) w'
/-- what a way of calling is good for -/
def CallOk (P : Program) (cw : CallW) : Prop := ∀ f args h K Kp, cw f args h K Kp → ∀ (c : Cx) (B : Nat) (w0 : World) (vs : Array Value), HM B w0 c h → vs.size = args.length →
  (∀ (j : Nat) v d, vs[j]? = some v → args[j]? = some d → R c v d) → CallR P f vs c.w (CallPost c B w0 K Kp)

/-- what an operation leaves: a value in its slot, or a panic -/
def OpPost (c : Cx) (B : Nat) (w0 : World) (a : Act) (dst : Option Tmp) (K : V → Hp → Prop) : Act → World → Prop := fun a' w' => ∃ v, a' = a.put dst v ∧ Aft c B w0 K v w'
def PanQ (c : Cx) (B : Nat) (w0 : World) (a : Act) (Kp : V → Hp → Prop) (Q : Exit → Act → World → Prop) : Prop := ∀ v w', Aft c B w0 Kp v w' → Q (.panic [{ v := v, recovered := false }]) a w'

theorem wp_value {o : Oper} {a : Act} {K : V → Hp → Prop} {Q : Exit → Act → World → Prop} {v : Value} {w' : World} (hr : (execOp a.eval o).run P c.w = .ok (.value v) w') (A : Aft c B w0 K v w') : o.wp P a c.w (OpPost c B w0 a o.dst K) Q := by
  unfold Oper.wp
  rw [hr]
  exact ⟨v, rfl, A⟩
theorem wp_skipv {o : Oper} {a : Act} {K : V → Hp → Prop} {Q : Exit → Act → World → Prop} {w' : World} (hr : (execOp a.eval o).run P c.w = .ok .skip w') (A : Aft c B w0 K undef w') : o.wp P a c.w (OpPost c B w0 a o.dst K) Q := by
  unfold Oper.wp
  rw [hr]
  exact ⟨undef, rfl, A⟩

theorem callf_run {f : FuncId} {fn : Func} (hf : FnOk P f fn) (hb : fn.body.isSome = true) (vs : Array Value) (w : World) : (callFunc f vs).run P w = .ok (.enter f vs) w := by
  unfold callFunc
  simp only [Sem.run_bind, run_program, Result.andThen_ok, hf.look]
  rw [if_neg (by rw [hf.name]; simp)]
  have : fn.body.isNone = false := by cases hx : fn.body <;> simp_all
  rw [if_neg (by rw [this]; simp)]
  rfl

theorem opE_ok (hty : ∀ t y, ty t = some y → TyOk P t y) {cw : CallW} (hcw : CallOk P cw) (hm : HM B w0 c h) {nid : Option Nat} (hn : NidOk c h nid) {a : Act} {ev : Operand → Option V} (hev : EvR c a.eval ev) (o : Oper)
    {K Kp : V → Hp → Prop} {Q : Exit → Act → World → Prop} (hQ : PanQ c B w0 a Kp Q) (hE : opE ty cw o.op ev nid h K Kp) : o.wp P a c.w (OpPost c B w0 a o.dst K) Q := by
  cases ho : o.op with
  | alloc t =>
    simp only [ho, opE] at hE
    split at hE
    · rename_i y hy
      obtain ⟨v, w', hr, A⟩ := alloc_ok (P := P) hty hm hn hy rfl hE
      exact wp_value (by simp only [execOp, ho, Sem.run_bind, hr, Result.andThen_ok, Sem.run_pure]) A
    · exact hE.elim
  | box t x =>
    simp only [ho, opE] at hE
    split at hE
    · rename_i y v hy hx
      split at hE
      · rename_i i h' hb e
        simp only [andB_eq, Bool.and_eq_true] at hb
        obtain ⟨v, w', hr, A⟩ := box_ok (P := P) (t := t) hm hn (hev x _ hx) hb.2 e hE
        exact wp_value (by simp only [execOp, ho, Sem.run_bind, hr, Result.andThen_ok, Sem.run_pure]) A
      · exact hE.elim
    · exact hE.elim
  | buildSlice t len parts =>
    simp only [ho, opE] at hE
    split at hE
    · rename_i y hy
      split at hE
      · rename_i e' hk
        split at hE
        · rename_i u hu
          split at hE
          · rename_i cs hl hfl
            split at hE
            · rename_i p cs' h1 hz
              obtain ⟨hp, hK⟩ := (rqW_iff _ _).1 hE
              obtain ⟨v, w', hr, A⟩ := bslice_ok (P := P) hty hm hn hev hy hk hu hl hfl hz hp rfl hK
              exact wp_value (by simp only [execOp, ho, Sem.run_bind, hr, Result.andThen_ok, Sem.run_pure]) A
            · exact hE.elim
          · exact hE.elim
        · exact hE.elim
      · exact hE.elim
    · exact hE.elim
  | makeSlice t l cp =>
    simp only [ho, opE] at hE
    split at hE
    · rename_i y k1 l' k2 cp' hy hl hc
      split at hE
      · rename_i e' hk
        split at hE
        · rename_i u hu
          obtain ⟨r0, r1, r2, r3, hK⟩ := hE
          obtain ⟨v, w', hr, A⟩ := makes_ok (P := P) (k1 := k1) (k2 := k2) hty hm hn hy hk hu rfl r0 r1 r2 r3 hK
          exact wp_value (by simp only [execOp, ho, Sem.run_bind, (hev l _ hl).intI, (hev cp _ hc).intI, hr, Result.andThen_ok, Sem.run_pure]) A
        · exact hE.elim
      · exact hE.elim
    · exact hE.elim
  | store t x v =>
    simp only [ho, opE] at hE
    split at hE
    · rename_i y id off d hy hx hv
      split at hE
      · rename_i cs hi
        split at hE
        · rename_i hc
          obtain ⟨w', hr, A⟩ := store_ptr (P := P) hty hm hy (hev x _ hx) (hev v _ hv) hi hc hE
          exact wp_skipv (by simp only [execOp, ho, Sem.run_bind, hr, Result.andThen_ok, Sem.run_pure]) A
        · exact hE.elim
      · exact hE.elim
    · rename_i y id sz i k d hy hx hv
      split at hE
      · rename_i p vs h1 hf
        split at hE
        · rename_i E sz' L g hi
          split at hE
          · rename_i hc
            obtain ⟨hp, hK⟩ := (rqW_iff _ _).1 hE
            obtain ⟨p1, p2⟩ := (rqA_iff _ _).1 hp
            obtain ⟨w', hr, A⟩ := store_eptr (P := P) hty hm hy (hev x _ hx) (hev v _ hv) hf hi hc p1 p2 hK
            exact wp_skipv (by simp only [execOp, ho, Sem.run_bind, hr, Result.andThen_ok, Sem.run_pure]) A
          · exact hE.elim
        · exact hE.elim
      · exact hE.elim
    · exact hE.elim
  | convert s t x =>
    simp only [ho, opE] at hE
    split at hE
    · rename_i S D b hS hD hx
      split at hE
      · rename_i e hk1 hk2
        split at hE
        · rename_i u hu
          split at hE
          · rename_i hk3
            obtain ⟨hp, hK⟩ := (rqW_iff _ _).1 hE
            obtain ⟨v, w', hr, A⟩ := bytes_ok (P := P) hty hm hS hD hk1 hk2 hu hk3 (hev x _ hx) hp hK
            exact wp_value (by simp only [execOp, ho, Sem.run_bind, hr, Result.andThen_ok, Sem.run_pure]) A
          · exact hE.elim
        · exact hE.elim
      · exact hE.elim
    · exact hE.elim
  | panic x =>
    simp only [ho, opE] at hE
    split at hE
    · rename_i t v hx
      have hR := hev x _ hx
      obtain ⟨u, hu⟩ := hR.ifcI
      have hq := hQ (a.eval x) c.w (aft_same hm hR hE)
      unfold Oper.wp
      simp only [execOp, ho, Sem.run_bind, hu, Instr.panic, run_goPanic, Result.andThen_halt]
      rw [hu] at hq
      exact hq
    · exact hE.elim
  | call cl =>
    obtain ⟨callee, args, argTypes⟩ := cl
    simp only [ho, opE] at hE
    unfold callE at hE
    split at hE
    · rename_i d s t t' hA hT
      have hA : args = #[d, s] := by rw [← Array.toArray_toList (xs := args), hA]
      have hT : argTypes = #[t, t'] := by rw [← Array.toArray_toList (xs := argTypes), hT]
      subst hA; subst hT
      split at hE
      · rename_i va vb T hd hs hT
        have key : (((∃ e2, T.kind = .slice e2) ∧ isStr vb = false) ∨ (T.kind = .str ∧ isStr vb = true)) ∧ appW ty t va vb h K := by
          split at hE
          · rename_i e2 hk hs'; exact ⟨.inl ⟨⟨e2, hk⟩, hs'⟩, hE⟩
          · rename_i hk hs'; exact ⟨.inr ⟨hk, hs'⟩, hE⟩
          · exact hE.elim
        obtain ⟨hTk, hK⟩ := key
        have hR1 := hev d _ hd
        have hR2 := hev s _ hs
        unfold appW at hK
        split at hK
        · rename_i y hy
          split at hK
          · rename_i e hk
            split at hK
            · rename_i u hu
              split at hK
              · rename_i p m g' hc
                have main : p.holds → AppK h u e m g' K va → o.wp P a c.w (OpPost c B w0 a o.dst K) Q := by
                  intro hp hK
                  obtain ⟨news, hsrc, hnews⟩ : ∃ news, Src P c.w t' (a.eval s) u.size m news ∧ News c u.size m g' news := by
                    rcases cont_ok hm hR2 hc hp with ⟨s', rfl, hs', hsz, rfl, rfl⟩ | hcv
                    · rcases hTk with ⟨_, hTk⟩ | ⟨hTk, _⟩
                      · cases hTk
                      · rw [hs', hsz]
                        exact src_str ((hty _ _ hT).str hTk)
                    · rcases hTk with ⟨⟨e2, hTk⟩, _⟩ | ⟨_, hTk⟩
                      · exact src_slice hcv ((hty _ _ hT).slice hTk)
                      · cases vb <;> cases hTk
                        obtain ⟨a', cap, he, _⟩ := hcv.isS
                        rw [hR2.strI] at he
                        cases he
                  obtain ⟨v, w', hr, A⟩ := app_ok (P := P) (T := o.type) hty hm hy hk hu hsrc hnews hR1 hK
                  exact wp_value (by simp only [execOp, ho, resolve, invoke, builtin, Sem.run_bind, Sem.run_pure, Result.andThen_ok, List.map_toArray, List.map_cons, List.map_nil, hr]) A
                cases va with
                | nsl =>
                  obtain ⟨hp, hK⟩ := (rqW_iff _ _).1 hK
                  obtain ⟨p1, p2⟩ := (rqA_iff _ _).1 hp
                  exact main p1 ⟨p2, hK⟩
                | own id sz off n =>
                  simp only at hK
                  split at hK
                  · rename_i E sz' L g hi
                    split at hK
                    · rename_i hb
                      simp only [andB_eq, Bool.and_eq_true] at hb
                      have e1 := nbeq hb.1
                      have e2 := nbeq hb.2.1
                      have e3 := nbeq hb.2.2
                      subst e1; subst e2; subst e3
                      obtain ⟨hp, hK⟩ := (rqW_iff _ _).1 hK
                      obtain ⟨p1, p2⟩ := (rqA_iff _ _).1 hp
                      exact main p1 ⟨L, g, hi, rfl, p2, hK⟩
                    · exact hK.elim
                  · exact hK.elim
                | _ => exact hK.elim
              · exact hK.elim
            · exact hK.elim
          · exact hK.elim
        · exact hK.elim
      · exact hE.elim
    · rename_i d s t t' hA hT
      have hA : args = #[d, s] := by rw [← Array.toArray_toList (xs := args), hA]
      have hT : argTypes = #[t, t'] := by rw [← Array.toArray_toList (xs := argTypes), hT]
      subst hA; subst hT
      split at hE
      · rename_i va vb hd hs
        obtain ⟨v, w', hr, A⟩ := copy_ok (P := P) (t2 := t') (T := o.type) hty hm (hev d _ hd) (hev s _ hs) hE
        exact wp_value (by simp only [execOp, ho, resolve, invoke, builtin, Sem.run_bind, Sem.run_pure, Result.andThen_ok, List.map_toArray, List.map_cons, List.map_nil, hr]) A
      · exact hE.elim
    · rename_i f
      split at hE
      · rename_i g first caps vs hf hvs
        obtain ⟨xs, ys, hv, l1, l2, r1, r2⟩ := (hev f _ hf).cloI
        obtain ⟨l3, r3⟩ := evL_ok hev _ _ hvs
        have hRl : ∀ (j : Nat) v d, (xs ++ (args.map a.eval ++ ys))[j]? = some v → (first ++ (vs ++ caps))[j]? = some d → R c v d :=
          app_R l1 r1 (app_R (by simpa using l3) (fun j v d hv hd => by
            rw [Array.getElem?_map] at hv
            cases hx : args[j]? with
            | none => simp [hx] at hv
            | some x => simp [hx] at hv; subst hv; exact r3 j x d (by simpa using hx) hd) r2)
        rcases hcw g _ h K Kp hE c B w0 (xs ++ (args.map a.eval ++ ys)) hm (by simp [l1, l2] at l3 ⊢; omega) hRl with ⟨⟨fn, hfn, hb⟩, hcalls⟩ | ⟨v, w', hrun, hpost⟩
        rotate_left
        · exact wp_value (by
            simp only [execOp, ho, resolve, Deferred.ofValue, hv, Sem.run_bind, Sem.run_pure, Result.andThen_ok, invoke]
            rw [Array.append_assoc]
            exact hrun) hpost
        unfold Oper.wp
        have hr : (execOp a.eval o).run P c.w = .ok (.enter g (xs ++ (args.map a.eval ++ ys))) c.w := by
          simp only [execOp, ho, resolve, Deferred.ofValue, hv, Sem.run_bind, Sem.run_pure, Result.andThen_ok, invoke]
          rw [callf_run hfn hb, Array.append_assoc]
        rw [hr]
        refine Calls.mono hcalls fun e w' he => ?_
        cases e with
        | returned v => exact ⟨v, rfl, he⟩
        | panicked chain =>
          obtain ⟨v, rfl, A⟩ := he
          exact hQ v w' A
        | outgrown => exact he.elim
      · exact hE.elim
    · exact hE.elim
  | _ => simp [ho, opE] at hE
end Go.Ev
