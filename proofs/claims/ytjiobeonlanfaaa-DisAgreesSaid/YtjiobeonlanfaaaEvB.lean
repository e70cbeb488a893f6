import Derived.Test.YtjiobeonlanfaaaEvA
namespace Go.Ev
set_option linter.unusedSimpArgs false
set_option linter.unusedVariables false
open Go.RowKit

variable {P : Program} {ty : TypeId → Option Ty} {c : Cx} {B : Nat} {w0 : World} {h : Hp}

theorem appG_len {n m sz : Nat} {g g' : Nat → List V} (h1 : ∀ k, k < n → (g k).length = sz) (h2 : ∀ k, k < m → (g' k).length = sz) : ∀ k, k < n + m → (appG n g g' k).length = sz := by
  intro k hk
  unfold appG
  split
  · exact h1 k (by assumption)
  · exact h2 _ (by omega)
/-- a new own row at the end of the heap, nil as yet -/
theorem new_nil (hm : HM B w0 c h) {E sz : Nat} {g : Nat → List V} {K : V → Hp → Prop} (hk : K (.own h.length sz 0 0) (h ++ [some (.seq E sz 0 g)])) : Aft c B w0 K (.slice none 0 0) c.w := by
  obtain ⟨m, le⟩ := hm.upd (i := h.length) (o := .seq E sz 0 g) (l := .row none 0) (w := c.w) (h' := h ++ [some (.seq E sz 0 g)]) (.inl (hm.none_ge _ (Nat.le_refl _)))
    (by rw [getF_snoc, if_pos rfl]) (fun j o hj ho => by rw [getF_snoc, if_neg hj] at ho; exact ho) (by simp) (fun k _ _ => rfl) (Nat.le_refl _) hm.below (fun b hb => by simp [Loc.at] at hb)
    (fun le => ⟨none, 0, by simp [Cx.upd], Nat.le_refl _, Nat.zero_le _, fun k hk => absurd hk (by omega), .inl ⟨rfl, rfl⟩⟩)
  exact ⟨_, c.upd h.length (.row none 0) c.w, _, rfl, le, m, .own _ _ _ _ none 0 _ (by simp [Cx.upd]) ⟨none, rfl, by omega, fun h => absurd h (by omega), fun _ => rfl, fun _ => rfl⟩, hk⟩

theorem grown_arr {xs news zs : List Value} {sz n m q : Nat} (h1 : xs.length = n * sz) (h2 : news.length = m * sz) (h3 : zs.length = q * sz) : (xs.toArray ++ news.toArray ++ zs.toArray).size = (n + m + q) * sz := by
  simp only [Array.size_append, List.size_toArray, h1, h2, h3, Nat.add_mul]

theorem app_get {sz n m : Nat} {g g' : Nat → List V} {xs news : List Value} (hx : xs.length = n * sz) (hn : News c sz m g' news) (hg : ∀ k, k < n → (g k).length = sz)
    (hxs : ∀ k, k < n → ∀ (j : Nat) d, (g k)[j]? = some d → ∃ v, xs[k * sz + j]? = some v ∧ RP c.F c.w v d ∧ v.oneCell' = true) (rest : List Value) :
    ∀ k, k < n + m → ∀ (j : Nat) d, (appG n g g' k)[j]? = some d → ∃ v, (xs ++ news ++ rest)[k * sz + j]? = some v ∧ RP c.F c.w v d ∧ v.oneCell' = true := by
  intro k hk j d hd
  unfold appG at hd
  split at hd
  · rename_i hkn
    obtain ⟨v, v1, v2, v3⟩ := hxs k hkn j d hd
    have hlt := (List.getElem?_eq_some_iff.1 v1).1
    exact ⟨v, by rw [List.append_assoc, List.getElem?_append_left hlt]; exact v1, v2, v3⟩
  · rename_i hkn
    obtain ⟨v, v1, v2⟩ := hn.get (k - n) (by omega) j d hd
    have hlt := (List.getElem?_eq_some_iff.1 v1).1
    have he : k * sz + j = n * sz + ((k - n) * sz + j) := by
      have : k = n + (k - n) := by omega
      rw [← Nat.add_assoc, ← Nat.add_mul, ← this]
    refine ⟨v, ?_, v2, hn.one v (List.mem_of_getElem? v1)⟩
    rw [List.append_assoc, List.getElem?_append_right (by omega), hx, he, Nat.add_sub_cancel_left, List.getElem?_append_left hlt]
    exact v1

def AppK (h : Hp) (u : Ty) (e : TypeId) (m : Nat) (g' : Nat → List V) (K : V → Hp → Prop) : V → Prop
  | .nsl => (m * u.bytes ≤ bigB ∧ m ≤ maxL) ∧ K (.own h.length u.size 0 m) (h ++ [some (.seq e u.size m g')])
  | .own id sz off n => ∃ L g, getF h id = some (.seq e u.size L g) ∧ sz = u.size ∧ (off = 0 ∧ n = L ∧ (n + m) * u.bytes ≤ bigB ∧ n + m ≤ maxL) ∧ K (.own h.length u.size 0 (n + m)) (setF h id none ++ [some (.seq e u.size (n + m) (appG n g g'))])
  | _ => False
theorem app_ok (hty : ∀ t y, ty t = some y → TyOk P t y) (hm : HM B w0 c h) {t t2 T e : TypeId} {y u : Ty} (hy : ty t = some y) (hk : y.kind = .slice e) (hu : ty e = some u) {vd vs : Value} {d : V} {m : Nat} {g' : Nat → List V} {news : List Value}
    (hs : Src P c.w t2 vs u.size m news) (hn : News c u.size m g' news) (hd : R c vd d) {K : V → Hp → Prop}
    (hK : AppK h u e m g' K d) :
    ∃ v w', (Builtin.append_ #[t, t2] T #[vd, vs]).run P c.w = .ok v w' ∧ Aft c B w0 K v w' := by
  have Y := hty _ _ hy
  have U := hty _ _ hu
  have ht := Y.slice hk
  obtain ⟨ti, z, hi, hsz, hby, hzz, hzc⟩ := U.info
  have hzs : z.cells.size = u.size := by rw [← U.zlen, ← hzc]; simp
  rw [← hsz] at hs
  have hz0 : ∀ q, (Builtin.zeroCells z.cells q).toList.length = q * u.size := fun q => by rw [Array.length_toList, size_zeroCells, hzs]
  cases d with
  | nsl =>
    obtain ⟨⟨hb, hmx⟩, hK⟩ := hK
    have := hd.nslI; subst this
    by_cases h0 : m = 0
    · subst h0
      exact ⟨_, _, run_app_room0 ht hi hs, new_nil hm hK⟩
    · have hr := run_app_grow (T := T) ht hi hzz hs none 0 0 [] (fun w' _ => rfl) (by omega) (by omega) (by rw [hby, Nat.zero_add]; exact hb)
      simp only [Nat.zero_add] at hr
      refine ⟨_, _, hr, ?_⟩
      have hge := grownCap_ge c.w m 0 e
      have hcm : grownCap c.w m 0 e ≤ maxL := grownCap_le_maxLen c.w m 0 e hmx
      have hnid : NidOk c h none := fun i hi => by cases hi
      refine new_seq hm hnid (E := e) (sz := u.size) (g := g') (i := h.length) (h' := h ++ [some (.seq e u.size m g')]) rfl c.w.drew rfl hm.below.drew _ (grownCap c.w m 0 e) hge hcm ?_ hn.gl (fun k hk j d hd => ?_) hK
      · have := grown_arr (xs := []) (news := news) (zs := (Builtin.zeroCells z.cells (grownCap c.w m 0 e - m)).toList) (sz := u.size) (n := 0) (m := m) (q := grownCap c.w m 0 e - m) (by simp) hn.len (hz0 _)
        simp only [Array.toArray_toList] at this
        rw [this]
        congr 1; omega
      · obtain ⟨x, x1, x2⟩ := hn.get k hk j d hd
        have hlt := (List.getElem?_eq_some_iff.1 x1).1
        refine ⟨x, ?_, x2, hn.one x (List.mem_of_getElem? x1)⟩
        simp only [Array.append_assoc]
        rw [Array.getElem?_append_right (by simp), Array.getElem?_append_left (by simpa using hlt)]
        simpa using x1
  | own id sz off n =>
    obtain ⟨L, g, hi', rfl, ⟨rfl, rfl, hb, hmx⟩, hK⟩ := hK
    obtain ⟨a, cap, hρ, a', rfl, q1, q2, q3, q4⟩ := hd.ownI
    obtain ⟨a1, cap1, e0, e1, e2, e3, e4⟩ := hm.ob id _ hi'
    rw [hρ] at e0; cases e0
    have hk1 := hm.kill id
    have hlk : (setF h id none).length = h.length := len_set _ _ _
    rw [← hlk] at hK
    rcases e4 with ⟨rfl, rfl⟩ | ⟨b, arr, rfl, hg, hs', hkk⟩
    · have hn0 : n = 0 := by omega
      subst hn0
      have := q3 rfl
      subst this
      by_cases h0 : m = 0
      · subst h0
        exact ⟨_, _, run_app_room0 ht hi hs, new_nil hk1 hK⟩
      · have hr := run_app_grow (T := T) ht hi hzz hs none 0 0 [] (fun w' _ => rfl) (by omega) (by omega) (by rw [hby]; exact hb)
        refine ⟨_, _, hr, ?_⟩
        have hge := grownCap_ge c.w (0 + m) 0 e
        have hcm : grownCap c.w (0 + m) 0 e ≤ maxL := grownCap_le_maxLen c.w (0 + m) 0 e hmx
        have hnid : NidOk c (setF h id none) none := fun i hi => by cases hi
        refine new_seq hk1 hnid (E := e) (sz := u.size) (g := appG 0 g g') (i := (setF h id none).length) (h' := setF h id none ++ [some (.seq e u.size (0 + m) (appG 0 g g'))]) rfl c.w.drew rfl hm.below.drew _ (grownCap c.w (0 + m) 0 e) hge hcm ?_
          (appG_len e3 hn.gl) (fun k hk j d hd => ?_) hK
        · have := grown_arr (xs := []) (news := news) (zs := (Builtin.zeroCells z.cells (grownCap c.w (0 + m) 0 e - (0 + m))).toList) (sz := u.size) (n := 0) (m := m) (q := grownCap c.w (0 + m) 0 e - (0 + m)) (by simp) hn.len (hz0 _)
          simp only [Array.toArray_toList] at this
          rw [this]
          congr 1; omega
        · have := app_get (c := c) (g := g) (n := 0) (xs := []) (by simp) hn e3 (fun k hk => absurd hk (by omega)) (Builtin.zeroCells z.cells (grownCap c.w (0 + m) 0 e - (0 + m))).toList k hk j d hd
          obtain ⟨v, v1, v2, v3⟩ := this
          exact ⟨v, by rw [← Array.getElem?_toList]; simpa only [Array.toList_append] using v1, v2, v3⟩
    · have ha' := q3 rfl
      simp only [Option.map_some] at ha'
      subst ha'
      have hxs : ∀ k, k < n → ∀ (j : Nat) d, (g k)[j]? = some d → ∃ v, (arr.toList.take (n * u.size))[k * u.size + j]? = some v ∧ RP c.F c.w v d ∧ v.oneCell' = true := by
        intro k hk j d hd
        have hj : j < u.size := by have := (List.getElem?_eq_some_iff.1 hd).1; rw [e3 k hk] at this; exact this
        have hle := Nat.mul_le_mul_right u.size (show k + 1 ≤ n by omega)
        rw [Nat.add_mul, Nat.one_mul] at hle
        obtain ⟨v, x, y, z⟩ := hkk k hk j d hd
        exact ⟨v, by rw [List.getElem?_take_of_lt (by omega)]; simpa using x, y, z⟩
      have hcs := Nat.mul_le_mul_right u.size e1
      have hxl : (arr.toList.take (n * u.size)).length = n * u.size := by rw [List.length_take, Array.length_toList]; omega
      by_cases hroom : n + m ≤ cap
      · have hrm := Nat.mul_le_mul_right u.size hroom
        rw [Nat.add_mul] at hrm
        have hst := run_storeCells_at P b (n * u.size) e news 0 arr c.w hg (by rw [hn.len]; omega) hn.one
        simp only [Nat.add_zero] at hst
        have hr := run_app_room (T := T) ht hi hs ⟨b, 0, none⟩ n cap hroom (w' := c.w.setRow b (over arr (n * u.size) news)) (by rw [add_lit, Nat.zero_add, hsz]; exact hst)
        refine ⟨_, _, hr, ?_⟩
        have hnew := setRow_heap c.w b arr (over arr (n * u.size) news) e (0, 0) hg
        have hfr := hm.fresh id _ _ b hi' hρ rfl
        have hlen2 : n * u.size + news.length ≤ arr.size := by rw [hn.len]; omega
        obtain ⟨mm, le⟩ := hk1.upd (i := (setF h id none).length) (o := .seq e u.size (n + m) (appG n g g')) (l := .row (some b) cap) (w := c.w.setRow b (over arr (n * u.size) news)) (h' := setF h id none ++ [some (.seq e u.size (n + m) (appG n g g'))])
          (.inl (hk1.none_ge _ (Nat.le_refl _))) (by rw [getF_snoc, if_pos rfl]) (fun j o hj ho => by rw [getF_snoc, if_neg hj] at ho; exact ho) (by simp)
          (fun k _ hk => setRow_other c.w b k _ (fun e => hk (by simp [Loc.at, e]))) (by simp [World.setRow]) (Below.row hm.below hfr.2 _)
          (fun b2 hb2 => by
            simp only [Loc.at, Option.some.injEq] at hb2
            subst hb2
            refine ⟨hfr.1, hfr.2, fun j o' l' hj hj' hl' ha => ?_⟩
            rw [getF_set] at hj'
            split at hj'
            · cases hj'
            · rename_i hne
              have := hm.inj j id o' _ b l' _ hj' hi' hl' hρ ha rfl
              subst this
              exact hne ⟨rfl, getF_lt hi'⟩)
          (fun le => ⟨some b, cap, by simp [Cx.upd], hroom, e2, appG_len e3 hn.gl, .inr ⟨b, _, rfl, hnew, by rw [over_size hlen2, hs'], fun k hk j d hd => by
            have := app_get (c := c) (g := g) (n := n) hxl hn e3 hxs (arr.toList.drop (n * u.size + news.length)) k hk j d hd
            obtain ⟨v, v1, v2, v3⟩ := this
            exact ⟨v, by simpa [over] using v1, v2.le le, v3⟩⟩⟩)
        exact ⟨_, _, _, rfl, le, mm, .own _ _ _ _ (some b) cap _ (by simp [Cx.upd]) ⟨some ⟨b, 0, none⟩, by rw [Nat.sub_zero], by omega, fun _ => ⟨b, rfl, by simp⟩, fun _ => rfl, fun h => by cases h⟩, hK⟩
      · have hr := run_app_grow (T := T) ht hi hzz hs (some ⟨b, 0, none⟩) n cap (arr.toList.take (n * u.size)) (fun w' hw => by
          rw [hsz]
          exact run_firstCells_some (P := P) w' u.size n ⟨b, 0, none⟩ n cap _ hxl (fun j v hv => by
            have hj := (List.getElem?_eq_some_iff.1 hv).1
            rw [List.getElem?_take_of_lt (by omega)] at hv
            rw [add_lit, Nat.zero_add, cell_of_row w' b j arr e (0, 0) (by rw [hw]; exact hg)]
            simpa using hv)) (by omega) (by omega) (by rw [hby]; exact hb)
        refine ⟨_, _, hr, ?_⟩
        have hge := grownCap_ge c.w (n + m) cap e
        have hcm : grownCap c.w (n + m) cap e ≤ maxL := grownCap_le_maxLen c.w (n + m) cap e hmx
        have hnid : NidOk c (setF h id none) none := fun i hi => by cases hi
        refine new_seq hk1 hnid (E := e) (sz := u.size) (g := appG n g g') (i := (setF h id none).length) (h' := setF h id none ++ [some (.seq e u.size (n + m) (appG n g g'))]) rfl c.w.drew rfl hm.below.drew _ (grownCap c.w (n + m) cap e) hge hcm ?_
          (appG_len e3 hn.gl) (fun k hk j d hd => ?_) hK
        · have := grown_arr (xs := arr.toList.take (n * u.size)) (news := news) (zs := (Builtin.zeroCells z.cells (grownCap c.w (n + m) cap e - (n + m))).toList) (sz := u.size) (n := n) (m := m) (q := grownCap c.w (n + m) cap e - (n + m)) hxl hn.len (hz0 _)
          simp only [Array.toArray_toList] at this
          rw [this]
          congr 1; omega
        · have := app_get (c := c) (g := g) (n := n) hxl hn e3 hxs (Builtin.zeroCells z.cells (grownCap c.w (n + m) cap e - (n + m))).toList k hk j d hd
          obtain ⟨v, v1, v2, v3⟩ := this
          exact ⟨v, by rw [← Array.getElem?_toList]; simpa only [Array.toList_append] using v1, v2, v3⟩
  | _ => exact hK.elim
end Go.Ev
