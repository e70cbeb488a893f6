import Derived.Test.YtjiobeonlanfaaaEvF
import Derived.Deep.LoopGhost
namespace Go.Ev
set_option linter.unusedSimpArgs false
set_option linter.unusedVariables false
open Go.RowKit

variable {P : Program} {ty : TypeId → Option Ty} {c : Cx} {B : Nat} {w0 : World} {h : Hp}

/-! ### Forgetting -/
structure Cx.leL (lo : Nat) (c c' : Cx) : Prop where
  ρ : ∀ i l, i < lo → c.ρ i = some l → c'.ρ i = some l
  F : ∀ b, c.F b → c'.F b
  cell : ∀ a, c.F a.block → c'.w.cell? a = c.w.cell? a
theorem Cx.le.low {c c' : Cx} (h : c.le c') (lo : Nat) : Cx.leL lo c c' := ⟨fun i l _ x => h.ρ i l x, h.F, h.cell⟩
theorem Cx.leL_refl (lo : Nat) (c : Cx) : Cx.leL lo c c := (Cx.le_refl c).low lo
theorem Cx.leL_trans {lo : Nat} {a b c : Cx} (h : Cx.leL lo a b) (k : Cx.leL lo b c) : Cx.leL lo a c :=
  ⟨fun i l hi x => k.ρ i l hi (h.ρ i l hi x), fun b x => k.F b (h.F b x), fun ad x => (k.cell ad (h.F _ x)).trans (h.cell ad x)⟩
def Cx.cut (c : Cx) (n : Nat) : Cx := { c with ρ := fun i => if i < n then c.ρ i else none }
theorem Cx.cut_leL {lo n : Nat} (h : lo ≤ n) (c : Cx) : Cx.leL lo c (c.cut n) := ⟨fun i l hi x => by simp only [Cx.cut]; rw [if_pos (by omega)]; exact x, fun _ x => x, fun _ _ => rfl⟩
theorem idsL_mem : ∀ {l : List V} {n : Nat}, idsL n l → ∀ d ∈ l, idsB n d
  | [], _, _, d, hd => by cases hd
  | x :: l, n, h, d, hd => by
    simp only [idsL] at h
    cases hd with
    | head => exact h.1
    | tail _ hd => exact idsL_mem h.2 d hd
theorem R.cut {n : Nat} {v : Value} {d : V} (h : R c v d) : idsB n d → R (c.cut n) v d := by
  have hρ : ∀ {i l}, i < n → c.ρ i = some l → (c.cut n).ρ i = some l := fun hi x => by simp only [Cx.cut]; rw [if_pos hi]; exact x
  induction h with
  | pure hp => exact fun _ => .pure hp
  | ptr id off b e => intro hi; simp only [idsB] at hi; exact .ptr id off b (hρ hi e)
  | eptr id sz i k b cap e => intro hi; simp only [idsB] at hi; exact .eptr id sz i k b cap (hρ hi e)
  | iptr cs ad cv hc hr => exact fun _ => .iptr cs ad cv hc hr
  | own id sz off n a cap v e hv => intro hi; simp only [idsB] at hi; exact .own id sz off n a cap v (hρ hi e) hv
  | arr id sz co n b a' cap' e h1 h2 h3 h4 => intro hi; simp only [idsB] at hi; exact .arr id sz co n b a' cap' (hρ hi e) h1 h2 h3 h4
  | agg vs cs hl _ ih => intro hi; simp only [idsB] at hi; exact .agg vs cs hl fun j v d hv hd => ih j v d hv hd (idsL_mem hi d (List.mem_of_getElem? hd))
  | tup vs cs hl _ ih => intro hi; simp only [idsB] at hi; exact .tup vs cs hl fun j v d hv hd => ih j v d hv hd (idsL_mem hi d (List.mem_of_getElem? hd))
  | clo f xs ys as bs h1 h2 _ _ ih1 ih2 =>
    intro hi; simp only [idsB] at hi
    exact .clo f xs ys as bs h1 h2 (fun j v d hv hd => ih1 j v d hv hd (idsL_mem hi.1 d (List.mem_of_getElem? hd))) (fun j v d hv hd => ih2 j v d hv hd (idsL_mem hi.2 d (List.mem_of_getElem? hd)))
  | ifc t v d _ ih => intro hi; simp only [idsB] at hi; exact .ifc t v d (ih hi)
theorem RP.alike {F : Nat → Prop} {w : World} {v : Value} {n sz : Nat} {g g' : Nat → List V} (h : RP F w v (.imm n sz g)) (hg : ∀ i, i < n → g i = g' i) : RP F w v (.imm n sz g') := by
  cases h with
  | imm a n cap sz g cv h1 h2 h3 hl hc hr => exact .imm a n cap sz g' cv h1 h2 h3 (fun i hi => by rw [← hg i hi]; exact hl i hi) hc (fun i hi j d hd => hr i hi j d (by rw [hg i hi]; exact hd))
theorem vle_R {v : Value} {d d' : V} (h : R c v d) (hv : vle d d') : R c v d' := by
  unfold vle at hv
  split at hv
  · obtain ⟨rfl, rfl, hg⟩ := hv
    cases h with
    | pure hp => exact .pure (hp.alike hg)
  · subst hv
    have := h.nslI
    subst this
    exact .pure (.imm none 0 0 _ _ (fun _ _ => undef) (Nat.le_refl _) (Nat.zero_le _) (fun _ => rfl) (fun i hi => absurd hi (by omega)) (fun ad h => by cases h) (fun i hi => absurd hi (by omega)))
  · subst hv; exact h
theorem wkL_spec : ∀ {l l' : List V} {n : Nat}, wkL n l l' → l.length = l'.length ∧ ∀ (j : Nat) d d', l[j]? = some d → l'[j]? = some d' → vle d d' ∧ idsB n d'
  | [], [], _, _ => ⟨rfl, fun j d d' h => by simp at h⟩
  | [], _ :: _, _, h => h.elim
  | _ :: _, [], _, h => h.elim
  | x :: l, y :: l', n, h => by
    simp only [wkL] at h
    obtain ⟨h1, h2⟩ := wkL_spec h.2.2
    refine ⟨by simp [h1], fun j d d' hd hd' => ?_⟩
    cases j with
    | zero => simp at hd hd'; subst hd; subst hd'; exact ⟨h.1, h.2.1⟩
    | succ j => simp at hd hd'; exact h2 j d d' hd hd'
theorem wkF_spec : ∀ {l l' : Fr} {n : Nat}, wkF n l l' → l.length = l'.length ∧ ∀ i d', getF l' i = some d' → ∃ d, getF l i = some d ∧ vle d d' ∧ idsB n d'
  | [], [], _, _ => ⟨rfl, fun i d' h => by simp [getF] at h⟩
  | [], _ :: _, _, h => by cases h
  | _ :: _, [], _, h => by exact (h : False).elim
  | x :: l, none :: l', n, h => by
    have h' : wkF n l l' := by cases x <;> exact h
    obtain ⟨h1, h2⟩ := wkF_spec h'
    refine ⟨by simp [h1], fun i d' hd => ?_⟩
    cases i with
    | zero => cases hd
    | succ i => exact h2 i d' hd
  | none :: l, some y :: l', n, h => h.elim
  | some x :: l, some y :: l', n, h => by
    have h' : vle x y ∧ idsB n y ∧ wkF n l l' := h
    obtain ⟨h1, h2⟩ := wkF_spec h'.2.2
    refine ⟨by simp [h1], fun i d' hd => ?_⟩
    cases i with
    | zero =>
      simp only [getF, Option.some.injEq] at hd
      subst hd
      exact ⟨x, rfl, h'.1, h'.2.1⟩
    | succ i => exact h2 i d' hd
theorem wkH_spec : ∀ {l l' : Hp} {n : Nat}, wkH n l l' → ∀ i o', getF l' i = some o' → ∃ o, getF l i = some o ∧ wkO n o o'
  | _, [], _, _ => fun i o' h => by simp [getF] at h
  | [], y :: _, _, h => by cases y <;> exact (h : False).elim
  | x :: l, none :: l', n, h => by
    have h' : wkH n l l' := by cases x <;> exact h
    intro i o' hd
    cases i with
    | zero => cases hd
    | succ i => exact wkH_spec h' i o' hd
  | none :: l, some y :: l', n, h => h.elim
  | some x :: l, some y :: l', n, h => by
    have h' : wkO n x y ∧ wkH n l l' := h
    intro i o' hd
    cases i with
    | zero =>
      simp only [getF, Option.some.injEq] at hd
      subst hd
      exact ⟨x, rfl, h'.1⟩
    | succ i => exact wkH_spec h'.2 i o' hd
theorem vle_cellB {d d' : V} (h : vle d d') (hc : cellB d = true) : cellB d' = true := by
  unfold vle at h
  split at h
  · rfl
  · rfl
  · subst h; exact hc
theorem allC_of : ∀ {l : List V}, (∀ d ∈ l, cellB d = true) → allC l = true
  | [], _ => rfl
  | x :: l, h => by
    simp only [allC, andB_eq, Bool.and_eq_true]
    exact ⟨h x (by simp), allC_of fun d hd => h d (by simp [hd])⟩
theorem SM.weak0 {a : Act} {fr fr' : Fr} {h h' : Hp} {lo : Nat} (s : SM B w0 c a fr h) (hw : lo ≤ h'.length ∧ h'.length ≤ h.length ∧ wkF h'.length fr fr' ∧ wkH h'.length h h') : Cx.leL lo c (c.cut h'.length) ∧ SM B w0 (c.cut h'.length) a fr' h' := by
  obtain ⟨w1, w2, w3, w4⟩ := hw
  obtain ⟨f1, f2⟩ := wkF_spec w3
  have hob := wkH_spec w4
  have hcut : ∀ {i l}, (c.cut h'.length).ρ i = some l → c.ρ i = some l := by
    intro i l hi
    simp only [Cx.cut] at hi
    split at hi
    · exact hi
    · cases hi
  refine ⟨Cx.cut_leL w1 c, ⟨by rw [← f1]; exact s.fm.1, fun i d' hd => ?_⟩, ⟨fun i hi => by simp only [Cx.cut]; rw [if_neg (by omega)], fun i o' ho => ?_, fun i j o1 o2 b l l' hi hj h1 h2 => ?_, fun i o' l b ho hl ha => ?_, s.hm.Flt, s.hm.Blt, s.hm.below⟩⟩
  · obtain ⟨d, hd1, hd2, hd3⟩ := f2 i d' hd
    obtain ⟨v, hv, hR⟩ := s.fm.2 i d hd1
    exact ⟨v, hv, (vle_R hR hd2).cut hd3⟩
  · have hlt := getF_lt ho
    obtain ⟨o, ho1, ho2⟩ := hob i o' ho
    have hom := s.hm.ob i o ho1
    have hρ : ∀ {l}, c.ρ i = some l → (c.cut h'.length).ρ i = some l := fun x => by simp only [Cx.cut]; rw [if_pos hlt]; exact x
    cases o with
    | box cs =>
      cases o' with
      | seq => exact ho2.elim
      | box cs' =>
        obtain ⟨b, arr, T, e, hg, hs, hal, hr⟩ := hom
        obtain ⟨k1, k2⟩ := wkL_spec ho2
        refine ⟨b, arr, T, hρ e, hg, by omega, ?_, fun j v d' hv hd => ?_⟩
        · refine allC_of fun d' hd' => ?_
          obtain ⟨j, hj⟩ := List.getElem?_of_mem hd'
          have hjl := (List.getElem?_eq_some_iff.1 hj).1
          have hc : cs[j]? = some (cs[j]'(by omega)) := by simp
          exact vle_cellB (k2 j _ d' hc hj).1 (allC_mem hal _ (by simp))
        · have hjl := (List.getElem?_eq_some_iff.1 hd).1
          have hc : cs[j]? = some (cs[j]'(by omega)) := by simp
          obtain ⟨q1, q2⟩ := k2 j _ d' hc hd
          exact (vle_R (hr j v _ hv hc) q1).cut q2
    | seq E sz m g =>
      cases o' with
      | box => exact ho2.elim
      | seq E' sz' m' g' =>
        obtain ⟨rfl, rfl, rfl, hg⟩ := ho2
        obtain ⟨a', cap, e, h1, h2, h3, h4⟩ := hom
        refine ⟨a', cap, hρ e, h1, h2, fun k hk => by rw [← hg k hk]; exact h3 k hk, h4.imp (fun x => x) ?_⟩
        rintro ⟨b, arr, ha, hgg, hs, hk⟩
        exact ⟨b, arr, ha, hgg, hs, fun k hk' j d hd => hk k hk' j d (by rw [hg k hk']; exact hd)⟩
  · obtain ⟨p1, q1, _⟩ := hob i o1 hi
    obtain ⟨p2, q2, _⟩ := hob j o2 hj
    exact s.hm.inj i j p1 p2 b l l' q1 q2 (hcut h1) (hcut h2)
  · obtain ⟨p1, q1, _⟩ := hob i o' ho
    exact s.hm.fresh i p1 l b q1 (hcut hl) ha

theorem fgF_spec : ∀ {l l' : Fr}, fgF l l' → l.length = l'.length ∧ ∀ i d', getF l' i = some d' → getF l i = some d'
  | [], [], _ => ⟨rfl, fun i d' h => by simp [getF] at h⟩
  | [], _ :: _, h => by cases h
  | _ :: _, [], h => by exact (h : False).elim
  | x :: l, none :: l', h => by
    have h' : fgF l l' := by cases x <;> exact h
    obtain ⟨h1, h2⟩ := fgF_spec h'
    refine ⟨by simp [h1], fun i d' hd => ?_⟩
    cases i with
    | zero => cases hd
    | succ i => exact h2 i d' hd
  | none :: l, some y :: l', h => h.elim
  | some x :: l, some y :: l', h => by
    have h' : x = y ∧ fgF l l' := h
    obtain ⟨h1, h2⟩ := fgF_spec h'.2
    refine ⟨by simp [h1], fun i d' hd => ?_⟩
    cases i with
    | zero => rw [h'.1]; exact hd
    | succ i => exact h2 i d' hd
theorem fgF_refl : ∀ l : Fr, fgF l l
  | [] => trivial
  | none :: l => fgF_refl l
  | some _ :: l => ⟨rfl, fgF_refl l⟩
theorem fgF_keep (ks : List Nat) : ∀ (l : Fr) (p : Nat), fgF l (keepF ks p l)
  | [], _ => trivial
  | x :: l, p => by
    simp only [keepF]
    cases inN p ks with
    | false => cases x <;> exact fgF_keep ks l (p + 1)
    | true =>
      cases x with
      | none => exact fgF_keep ks l (p + 1)
      | some v => exact ⟨rfl, fgF_keep ks l (p + 1)⟩
def Cx.ren (c : Cx) (s : Nat → Nat) (n : Nat) : Cx := { c with ρ := fun i => if i < n then c.ρ (s i) else none }
theorem mapSL_len (s : Nat → Nat) : ∀ l : List V, (mapSL s l).length = l.length
  | [] => by simp [mapSL]
  | d :: l => by simp [mapSL, mapSL_len s l]
theorem mapSL_get (s : Nat → Nat) : ∀ (l : List V) (j : Nat), (mapSL s l)[j]? = (l[j]?).map (mapS s)
  | [], j => by simp [mapSL]
  | d :: l, 0 => by simp [mapSL]
  | d :: l, j + 1 => by simp only [mapSL, List.getElem?_cons_succ]; exact mapSL_get s l j
theorem mapS_cellB (s : Nat → Nat) (d : V) : cellB (mapS s d) = cellB d := by cases d <;> simp [mapS, cellB]
theorem R.ren {s : Nat → Nat} {n : Nat} {v : Value} {d : V} (h : R c v (mapS s d)) : idsB n d → R (c.ren s n) v d := by
  have hρ : ∀ {i l}, i < n → c.ρ (s i) = some l → (c.ren s n).ρ i = some l := fun hi x => by simp only [Cx.ren]; rw [if_pos hi]; exact x
  generalize he : mapS s d = e at h
  induction h generalizing d with
  | pure hp =>
    intro _
    cases hp with
    | bool b => cases d <;> simp only [mapS, reduceCtorEq, V.bool.injEq] at he; subst he; exact .pure (.bool _)
    | int k n => cases d <;> simp only [mapS, reduceCtorEq, V.int.injEq] at he; obtain ⟨rfl, rfl⟩ := he; exact .pure (.int _ _)
    | str b => cases d <;> simp only [mapS, reduceCtorEq, V.str.injEq] at he; subst he; exact .pure (.str _)
    | nsl => cases d <;> simp only [mapS, reduceCtorEq] at he; exact .pure .nsl
    | cst v => cases d <;> simp only [mapS, reduceCtorEq, V.cst.injEq] at he; subst he; exact .pure (.cst _)
    | imm a nn cap sz g cv h1 h2 h3 hl hc hr =>
      cases d <;> simp only [mapS, reduceCtorEq, V.imm.injEq] at he
      obtain ⟨rfl, rfl, rfl⟩ := he
      exact .pure (.imm a _ cap _ _ cv h1 h2 h3 hl hc hr)
  | ptr id off b e =>
    intro hi
    cases d <;> simp only [mapS, reduceCtorEq, V.ptr.injEq] at he
    obtain ⟨rfl, rfl⟩ := he
    simp only [idsB] at hi
    exact .ptr _ _ b (hρ hi e)
  | eptr id sz i k b cap e =>
    intro hi
    cases d <;> simp only [mapS, reduceCtorEq, V.eptr.injEq] at he
    obtain ⟨rfl, rfl, rfl, rfl⟩ := he
    simp only [idsB] at hi
    exact .eptr _ _ _ _ b cap (hρ hi e)
  | iptr cs ad cv hc hr =>
    intro _
    cases d <;> simp only [mapS, reduceCtorEq, V.iptr.injEq] at he
    subst he
    exact .iptr _ ad cv hc hr
  | own id sz off n a cap v e hv =>
    intro hi
    cases d <;> simp only [mapS, reduceCtorEq, V.own.injEq] at he
    obtain ⟨rfl, rfl, rfl, rfl⟩ := he
    simp only [idsB] at hi
    exact .own _ _ _ _ a cap v (hρ hi e) hv
  | arr id sz co n b a' cap' e h1 h2 h3 h4 =>
    intro hi
    cases d <;> simp only [mapS, reduceCtorEq, V.arr.injEq] at he
    obtain ⟨rfl, rfl, rfl, rfl⟩ := he
    simp only [idsB] at hi
    exact .arr _ _ _ _ b a' cap' (hρ hi e) h1 h2 h3 h4
  | agg vs cs hl _ ih =>
    intro hi
    cases d <;> simp only [mapS, reduceCtorEq, V.agg.injEq] at he
    rename_i cs'
    subst he
    simp only [idsB] at hi
    rw [mapSL_len] at hl
    refine .agg vs cs' hl fun j v d hv hd => ih j v (mapS s d) hv (by rw [mapSL_get, hd]; rfl) rfl (idsL_mem hi d (List.mem_of_getElem? hd))
  | tup vs cs hl _ ih =>
    intro hi
    cases d <;> simp only [mapS, reduceCtorEq, V.tup.injEq] at he
    rename_i cs'
    subst he
    simp only [idsB] at hi
    rw [mapSL_len] at hl
    refine .tup vs cs' hl fun j v d hv hd => ih j v (mapS s d) hv (by rw [mapSL_get, hd]; rfl) rfl (idsL_mem hi d (List.mem_of_getElem? hd))
  | clo f xs ys as bs h1 h2 _ _ ih1 ih2 =>
    intro hi
    cases d <;> simp only [mapS, reduceCtorEq, V.clo.injEq] at he
    rename_i f' as' bs'
    obtain ⟨rfl, rfl, rfl⟩ := he
    simp only [idsB] at hi
    rw [mapSL_len] at h1 h2
    exact .clo _ xs ys as' bs' h1 h2 (fun j v d hv hd => ih1 j v (mapS s d) hv (by rw [mapSL_get, hd]; rfl) rfl (idsL_mem hi.1 d (List.mem_of_getElem? hd)))
      (fun j v d hv hd => ih2 j v (mapS s d) hv (by rw [mapSL_get, hd]; rfl) rfl (idsL_mem hi.2 d (List.mem_of_getElem? hd)))
  | ifc t v d' _ ih =>
    intro hi
    cases d <;> simp only [mapS, reduceCtorEq, V.ifc.injEq] at he
    obtain ⟨rfl, rfl⟩ := he
    simp only [idsB] at hi
    exact .ifc _ v _ (ih rfl hi)
theorem SM.weak {a : Act} {fr fr' : Fr} {h h' : Hp} {lo : Nat} (s : SM B w0 c a fr h) (hw : wk lo fr h fr' h') : ∃ c', c'.w = c.w ∧ Cx.leL lo c c' ∧ SM B w0 c' a fr' h' := by
  rcases hw with ⟨rfl, hf⟩ | hw | hw
  · obtain ⟨f1, f2⟩ := fgF_spec hf
    exact ⟨c, rfl, Cx.leL_refl lo c, ⟨by rw [← f1]; exact s.fm.1, fun i d hd => s.fm.2 i d (f2 i d hd)⟩, s.hm⟩
  · obtain ⟨h1, h2⟩ := s.weak0 hw
    exact ⟨c.cut h'.length, rfl, h1, h2⟩
  · obtain ⟨σ, w1, w2, w3, w4, w5, w6, w7⟩ := hw
    refine ⟨c.ren σ h'.length, rfl, ⟨fun i l hi hx => ?_, fun _ x => x, fun _ _ => rfl⟩, ⟨by rw [← w4]; exact s.fm.1, fun i d' hd => ?_⟩, ⟨fun i hi => by simp only [Cx.ren]; rw [if_neg (by omega)], fun i o' ho => ?_, fun i j o1 o2 b l l' hi hj h1 h2 a1 a2 => ?_, fun i o' l b ho hl ha => ?_, s.hm.Flt, s.hm.Blt, s.hm.below⟩⟩
    · simp only [Cx.ren]; rw [if_pos (by omega), w2 i hi]; exact hx
    · obtain ⟨i1, i2⟩ := w5 i d' hd
      obtain ⟨v, hv, hR⟩ := s.fm.2 i _ i2
      exact ⟨v, hv, hR.ren i1⟩
    · have hlt := getF_lt ho
      have hρ : (c.ren σ h'.length).ρ i = c.ρ (σ i) := by simp only [Cx.ren]; rw [if_pos hlt]
      cases o' with
      | box cs' =>
        obtain ⟨i1, i2⟩ := w6 i cs' ho
        obtain ⟨b, arr, T, e, hg, hs, hal, hr⟩ := s.hm.ob _ _ i2
        have hlen := mapSL_len σ cs'
        refine ⟨b, arr, T, by rw [hρ]; exact e, hg, by omega, allC_of fun d' hd' => ?_, fun j v d' hv hd => ?_⟩
        · obtain ⟨j, hj⟩ := List.getElem?_of_mem hd'
          have : (mapSL σ cs')[j]? = some (mapS σ d') := by rw [mapSL_get, hj]; rfl
          exact mapS_cellB σ d' ▸ allC_mem hal _ (List.mem_of_getElem? this)
        · have : (mapSL σ cs')[j]? = some (mapS σ d') := by rw [mapSL_get, hd]; rfl
          exact (hr j v _ hv this).ren (idsL_mem i1 d' (List.mem_of_getElem? hd))
      | seq E sz m g =>
        obtain ⟨a', cap, e, h1, h2, h3, h4⟩ := s.hm.ob _ _ (w7 i E sz m g ho)
        exact ⟨a', cap, by rw [hρ]; exact e, h1, h2, h3, h4⟩
    · have l1 := getF_lt hi
      have l2 := getF_lt hj
      have g1 : ∃ p, getF h (σ i) = some p := by
        cases o1 with
        | box cs => exact ⟨_, (w6 i cs hi).2⟩
        | seq E sz m g => exact ⟨_, w7 i E sz m g hi⟩
      have g2 : ∃ p, getF h (σ j) = some p := by
        cases o2 with
        | box cs => exact ⟨_, (w6 j cs hj).2⟩
        | seq E sz m g => exact ⟨_, w7 j E sz m g hj⟩
      obtain ⟨p1, q1⟩ := g1
      obtain ⟨p2, q2⟩ := g2
      simp only [Cx.ren] at h1 h2
      rw [if_pos l1] at h1
      rw [if_pos l2] at h2
      exact w3 i j l1 l2 (s.hm.inj _ _ p1 p2 b l l' q1 q2 h1 h2 a1 a2)
    · have l1 := getF_lt ho
      have g1 : ∃ p, getF h (σ i) = some p := by
        cases o' with
        | box cs => exact ⟨_, (w6 i cs ho).2⟩
        | seq E sz m g => exact ⟨_, w7 i E sz m g ho⟩
      obtain ⟨p1, q1⟩ := g1
      simp only [Cx.ren] at hl
      rw [if_pos l1] at hl
      exact s.hm.fresh _ p1 l b q1 hl ha

/-! ### Code -/
def ExM (c : Cx) : Exit → Ex → Prop
  | .normal, .normal => True
  | .exit i, .exit j => i = j
  | .ret, .ret => True
  | .panic chain, .panic d => ∃ v, chain = [{ v := v, recovered := false }] ∧ R c v d
  | _, _ => False
def CPost (c : Cx) (lo B : Nat) (w0 : World) (df : List Deferred) (Q : Post) : Exit → Act → World → Prop := fun e a' w' =>
  ∃ ex c' fr' h', ExM c' e ex ∧ c'.w = w' ∧ Cx.leL lo c c' ∧ SM B w0 c' a' fr' h' ∧ a'.defers = df ∧ Q ex fr' h'
theorem CPost.le {c c1 : Cx} {lo : Nat} {df : List Deferred} {Q : Post} {e : Exit} {a' : Act} {w' : World} (hle : Cx.leL lo c c1) (h : CPost c1 lo B w0 df Q e a' w') : CPost c lo B w0 df Q e a' w' := by
  obtain ⟨ex, c', fr', h', e1, e2, e3, e4⟩ := h
  exact ⟨ex, c', fr', h', e1, e2, Cx.leL_trans hle e3, e4⟩
/-- of regions whose order is open -/
def DrawOk (P : Program) (ty : TypeId → Option Ty) (quiet : FuncId → Bool) (cw : CallW) : Prop := ∀ (c : Cx) (B : Nat) (w0 : World) (h : Hp) (id : Nat) (opsA : Array Oper) (K : Fr → Hp → Prop) (Kp : V → Hp → Prop) (Q : Exit → Act → World → Prop) (a : Act) (fr : Fr),
  SM B w0 c a fr h → PanAll c B w0 a.defers (clearD opsA.toList fr) Kp Q → (∀ a' w', StPost c B w0 a.defers K a' w' → Q .normal a' w') → drawW ty quiet cw opsA K Kp fr h → (Code.region id opsA true).wp P Q a c.w


theorem awp_ok (hty : ∀ t y, ty t = some y → TyOk P t y) (heq : EqOk P ty) {quiet : FuncId → Bool} {cw : CallW} (hcw : CallOk P cw) (hdr : DrawOk P ty quiet cw) (lo : Nat) :
    ∀ (code : Code) (Q : Post) (c : Cx) (B : Nat) (w0 : World) (a : Act) (fr : Fr) (h : Hp), SM B w0 c a fr h → AWP ty quiet cw lo code Q fr h → code.wp P (CPost c lo B w0 a.defers Q) a c.w := by
  intro code
  induction code with
  | skip => exact fun Q c B w0 a fr h s hA => wp_skip ⟨.normal, c, fr, h, trivial, rfl, Cx.leL_refl lo c, s, rfl, hA⟩
  | label l => exact fun Q c B w0 a fr h s hA => wp_label ⟨.normal, c, fr, h, trivial, rfl, Cx.leL_refl lo c, s, rfl, hA⟩
  | exit id => exact fun Q c B w0 a fr h s hA => wp_exit ⟨.exit id, c, fr, h, rfl, rfl, Cx.leL_refl lo c, s, rfl, hA⟩
  | ret => exact fun Q c B w0 a fr h s hA => wp_ret ⟨.ret, c, fr, h, trivial, rfl, Cx.leL_refl lo c, s, rfl, hA⟩
  | region id ops draw =>
    intro Q c B w0 a fr h s hA
    have hp : PanAll c B w0 a.defers (clearD ops.toList fr) (fun v h' => Q (.panic v) (clearD ops.toList fr) h') (CPost c lo B w0 a.defers Q) := by
      intro c' a' hle hf hd v w' hA'
      obtain ⟨d, c2, h2, rfl, hle2, hm2, hR2, hQ2⟩ := hA'
      exact ⟨.panic d, c2, _, h2, ⟨v, rfl, hR2⟩, rfl, Cx.leL_trans (hle.low lo) (hle2.low lo), ⟨hf.mono hle2, hm2⟩, hd, hQ2⟩
    have hn : ∀ a' w', StPost c B w0 a.defers (Q .normal) a' w' → CPost c lo B w0 a.defers Q .normal a' w' := by
      rintro a' w' ⟨c', fr', h', rfl, hle, s', hd, hQ⟩
      exact ⟨.normal, c', fr', h', trivial, rfl, hle.low lo, s', hd, hQ⟩
    cases draw with
    | false => exact region_ok hty heq hcw s hp hn hA
    | true => exact hdr c B w0 h id ops _ _ _ a fr s hp hn hA
  | seq x y ihx ihy =>
    intro Q c B w0 a fr h s hA
    refine wp_seq (wp_mono (ihx _ c B w0 a fr h s hA) ?_)
    rintro e a' w' ⟨ex, c', fr', h', he, rfl, hle, s', hd, hQ⟩
    cases e <;> cases ex <;> first | exact he.elim | skip
    · rw [← hd]
      exact wp_mono (ihy Q c' B w0 a' fr' h' s' hQ) (fun e a w hc => hc.le hle)
    · exact ⟨_, c', fr', h', he, rfl, hle, s', hd, hQ⟩
    · exact ⟨_, c', fr', h', he, rfl, hle, s', hd, hQ⟩
    · exact ⟨_, c', fr', h', he, rfl, hle, s', hd, hQ⟩
  | cond x y z ihx ihy =>
    intro Q c B w0 a fr h s hA
    simp only [AWP] at hA
    split at hA
    · rename_i b hb
      rw [splitB_eq] at hA
      have hv := (s.fm.eval x _ hb).boolI
      have hlit : ∀ (b' : Bool) (k : Fr → Prop), b = b' → litK fr x b' k = k fr := by
        intro b' k hbb
        subst hbb
        cases x with
        | tmp t => simp only [litK, setK_eq]; rw [setF_self hb]
        | _ => rfl
      cases b with
      | true =>
        simp only [hlit true _ rfl] at hA
        exact wp_cond_true hv (ihx Q c B w0 a fr h s hA)
      | false =>
        simp only [hlit false _ rfl] at hA
        exact wp_cond_false hv (ihy Q c B w0 a fr h s hA)
    · exact hA.elim
  | block id x ih =>
    intro Q c B w0 a fr h s hA
    refine wp_block (wp_mono (ih _ c B w0 a fr h s hA) ?_)
    rintro e a' w' ⟨ex, c', fr', h', he, rfl, hle, s', hd, hQ⟩
    cases e <;> cases ex <;> first | exact he.elim | skip
    · exact ⟨_, c', fr', h', he, rfl, hle, s', hd, hQ⟩
    · rename_i i j
      have : i = j := he
      subst this
      simp only [Exit.inBlock]
      by_cases hi : i = id
      · rw [if_pos hi]
        subst hi
        simp only [blockQ, Nat.beq_refl] at hQ
        exact ⟨.normal, c', fr', h', trivial, rfl, hle, s', hd, hQ⟩
      · rw [if_neg hi]
        have hb : Nat.beq i id = false := by
          cases hx : Nat.beq i id with
          | false => rfl
          | true => exact absurd (nbeq hx) hi
        simp only [blockQ, hb] at hQ
        exact ⟨.exit i, c', fr', h', rfl, rfl, hle, s', hd, hQ⟩
    · exact ⟨_, c', fr', h', he, rfl, hle, s', hd, hQ⟩
    · exact ⟨_, c', fr', h', he, rfl, hle, s', hd, hQ⟩
  | loop x ih =>
    intro Q c B w0 a fr h s hA
    simp only [AWP] at hA
    unfold LoopW at hA
    obtain ⟨I, ⟨n0, fr0, h0, hw0, hI0⟩, hround⟩ := hA
    obtain ⟨c0, e0, l0, s0⟩ := s.weak hw0
    refine wp_loop_ghost (fun n a' w' => ∃ c' fr' h', c'.w = w' ∧ Cx.leL lo c c' ∧ SM B w0 c' a' fr' h' ∧ a'.defers = a.defers ∧ I n fr' h') n0 ⟨c0, fr0, h0, e0, l0, s0, rfl, hI0⟩ ?_
    rintro n a' w' ⟨c', fr', h', rfl, hle, s', hd, hI⟩
    refine wp_mono (ih _ c' B w0 a' fr' h' s' (hround n fr' h' hI)) ?_
    rintro e a2 w2 ⟨ex, c2, fr2, h2, he, rfl, hle2, s2, hd2, hQ⟩
    cases e <;> cases ex <;> first | exact he.elim | skip
    · obtain ⟨m, fr3, h3, hlt, hw3, hI3⟩ := hQ
      obtain ⟨c3, e3, l3, s3⟩ := s2.weak hw3
      exact ⟨m, hlt, c3, fr3, h3, e3, Cx.leL_trans hle (Cx.leL_trans hle2 l3), s3, by rw [hd2, hd], hI3⟩
    · exact ⟨_, c2, fr2, h2, he, rfl, Cx.leL_trans hle hle2, s2, by rw [hd2, hd], hQ⟩
    · exact ⟨_, c2, fr2, h2, he, rfl, Cx.leL_trans hle hle2, s2, by rw [hd2, hd], hQ⟩
    · exact ⟨_, c2, fr2, h2, he, rfl, Cx.leL_trans hle hle2, s2, by rw [hd2, hd], hQ⟩
  | _ => intro Q c B w0 a fr h s hA; exact (hA : False).elim
end Go.Ev
