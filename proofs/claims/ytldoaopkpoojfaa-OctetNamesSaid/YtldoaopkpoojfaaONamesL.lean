/- Names of routers: every name has its text and is read again from it; the laws. -/
import Derived.Test.YtldoaopkpoojfaaODocParse
namespace Go.Proofs.Ytldoaopkpoojfaa
open Go.Ev
set_option linter.unusedVariables false
set_option linter.unusedSimpArgs false
set_option maxRecDepth 100000
set_option maxHeartbeats 2000000
theorem hx_dg {k : Nat} (hk : k < 16) : dg ((hx k).toNat : Int) = k := by
  rcases (by omega : k = 0 ∨ k = 1 ∨ k = 2 ∨ k = 3 ∨ k = 4 ∨ k = 5 ∨ k = 6 ∨ k = 7 ∨ k = 8 ∨ k = 9 ∨ k = 10 ∨ k = 11 ∨ k = 12 ∨ k = 13 ∨ k = 14 ∨ k = 15) with h | h | h | h | h | h | h | h | h | h | h | h | h | h | h | h <;> subst h <;> decide +kernel
theorem dg_hx {c : UInt8} (h : 0 ≤ dg (c.toNat : Int)) : hx (dg (c.toNat : Int)).toNat = c := by
  have : ∀ c : Fin 256, 0 ≤ dg (c.val : Int) → hx (dg (c.val : Int)).toNat = UInt8.ofNat c.val := by decide +kernel
  have := this ⟨c.toNat, UInt8.toNat_lt c⟩ h
  simpa using this
theorem fb_upto {s : ByteArray} : ∀ (k : Nat), (∀ i, i < k → bad s i = false) → k ≤ 14 → fb s 14 0 = fb s (14 - k) k
  | 0, _, _ => rfl
  | k + 1, h, hk => by
    rw [fb_upto k (fun i hi => h i (by omega)) (by omega), show 14 - k = (14 - (k + 1)) + 1 by omega, fb_ok (h k (by omega))]
/-- what the characters of a name's text are -/
theorem wL_ok (a b c d e f : Nat) (ha : a < 256) (hb : b < 256) (hc : c < 256) (hd : d < 256) (he : e < 256) (hf : f < 256) : ∀ i, i < 14 → (if dotB i then (((wL a b c d e f).getD i 0).toNat : Int) != 46 else decide (dg (((wL a b c d e f).getD i 0).toNat : Int) < 0)) = false := by
  intro i hi
  rcases (by omega : i = 0 ∨ i = 1 ∨ i = 2 ∨ i = 3 ∨ i = 4 ∨ i = 5 ∨ i = 6 ∨ i = 7 ∨ i = 8 ∨ i = 9 ∨ i = 10 ∨ i = 11 ∨ i = 12 ∨ i = 13) with h | h | h | h | h | h | h | h | h | h | h | h | h | h <;> subst h
  all_goals first
    | rfl
    | (show decide (dg ((hx _).toNat : Int) < 0) = false; rw [hx_dg (by omega)]; exact decide_eq_false (by omega))
theorem notbad {s : ByteArray} {a b c d e f : Nat} (ha : a < 256) (hb : b < 256) (hc : c < 256) (hd : d < 256) (he : e < 256) (hf : f < 256) {i : Nat} (hi : i < 14) (hl : i < s.size) (h : s.data.toList.getD i 0 = (wL a b c d e f).getD i 0) : bad s i = false := by
  have hw := wL_ok a b c d e f ha hb hc hd he hf i hi
  have : decide (i = s.size) = false := decide_eq_false (by omega)
  unfold bad ch
  rw [h, this, hw]
  rfl
theorem wS_size (a b c d e f : Nat) : (wS a b c d e f).size = 14 := rfl
theorem wS_list (a b c d e f : Nat) : (wS a b c d e f).data.toList = wL a b c d e f := rfl
theorem parse_wS (a b c d e f : Nat) (ha : a < 256) (hb : b < 256) (hc : c < 256) (hd : d < 256) (he : e < 256) (hf : f < 256) :
    parseV (wS a b c d e f) = .tup [.agg [.int .u8 (a : Nat), .int .u8 (b : Nat), .int .u8 (c : Nat), .int .u8 (d : Nat), .int .u8 (e : Nat), .int .u8 (f : Nat)], .int .i64 0, .int .i64 0] := by
  have h : fb (wS a b c d e f) 14 0 = none := by
    rw [fb_upto 14 (fun i hi => notbad ha hb hc hd he hf hi (by rw [wS_size]; exact hi) rfl) (Nat.le_refl _)]
    show fb _ 0 14 = none
    unfold fb
    rw [if_neg (by rw [wS_size]; omega)]
  unfold parseV
  rw [h]
  have ed : ∀ m, m < 12 → Ed (wS a b c d e f) m = dg (((wL a b c d e f).getD (pos m) 0).toNat : Int) := fun m _ => rfl
  have cell : ∀ j x, Ed (wS a b c d e f) (2 * j) = ((x / 16 : Nat) : Int) → Ed (wS a b c d e f) (2 * j + 1) = ((x % 16 : Nat) : Int) → j < 6 → cellAt (wS a b c d e f) 12 j = (x : Int) := by
    intro j x h1 h2 hj
    unfold cellAt
    rw [if_pos (by omega), h1, h2]
    omega
  have D : ∀ k : Nat, k < 16 → dg ((hx k).toNat : Int) = (k : Int) := fun k hk => hx_dg hk
  simp only [cellsS]
  rw [cell 0 a (D _ (by omega)) (D _ (by omega)) (by omega), cell 1 b (D _ (by omega)) (D _ (by omega)) (by omega), cell 2 c (D _ (by omega)) (D _ (by omega)) (by omega),
    cell 3 d (D _ (by omega)) (D _ (by omega)) (by omega), cell 4 e (D _ (by omega)) (D _ (by omega)) (by omega), cell 5 f (D _ (by omega)) (D _ (by omega)) (by omega)]
theorem fb_none : ∀ {s : ByteArray} {k i : Nat}, fb s k i = none → (∀ j, i ≤ j → j < i + k → bad s j = false) ∧ s.size ≤ 14
  | s, 0, i, h => by
    unfold fb at h
    split at h
    · cases h
    · exact ⟨fun j h1 h2 => by omega, by omega⟩
  | s, k + 1, i, h => by
    unfold fb at h
    split at h
    · cases h
    · rename_i hb
      obtain ⟨h1, h2⟩ := fb_none h
      refine ⟨fun j h3 h4 => ?_, h2⟩
      rcases Nat.lt_or_ge i j with h5 | h5
      · exact h1 j (by omega) (by omega)
      · have : j = i := by omega
        subst this
        simpa using hb
/-- a text that is read is the text of what is read -/
theorem wS_parse {s : ByteArray} (h : fb s 14 0 = none) : ∃ a b c d e f : Nat, a < 256 ∧ b < 256 ∧ c < 256 ∧ d < 256 ∧ e < 256 ∧ f < 256 ∧
    cellsS s 12 = [.int .u8 (a : Nat), .int .u8 (b : Nat), .int .u8 (c : Nat), .int .u8 (d : Nat), .int .u8 (e : Nat), .int .u8 (f : Nat)] ∧ wS a b c d e f = s := by
  obtain ⟨h1, h2⟩ := fb_none h
  have ns : ∀ i, i < 14 → i ≠ s.size := fun i hi e => by
    have := h1 i (by omega) (by omega)
    rw [bad_end e] at this
    cases this
  have hsz : s.size = 14 := by
    have := ns s.size
    omega
  have hlen : s.data.toList.length = 14 := by rw [Array.length_toList]; exact hsz
  have dig : ∀ i, i < 14 → dotB i = false → 0 ≤ dg (ch s i) := fun i hi hd => by
    have hb := h1 i (by omega) (by omega)
    rcases Int.lt_or_le (dg (ch s i)) 0 with hlt | hge
    · rw [bad_dig hd (decide_eq_true hlt)] at hb; cases hb
    · exact hge
  have dot : ∀ i, i < 14 → dotB i = true → ch s i = 46 := fun i hi hd => by
    have hb := h1 i (by omega) (by omega)
    by_cases hx : ch s i = 46
    · exact hx
    · rw [bad_dot hd (by simpa using hx)] at hb; cases hb
  have hE : ∀ m, m < 12 → 0 ≤ Ed s m ∧ Ed s m ≤ 15 := fun m hm => by
    refine ⟨dig (pos m) ?_ ?_, (dg_rng _).2⟩
    · unfold pos; split <;> (try split) <;> omega
    · rcases (by omega : m = 0 ∨ m = 1 ∨ m = 2 ∨ m = 3 ∨ m = 4 ∨ m = 5 ∨ m = 6 ∨ m = 7 ∨ m = 8 ∨ m = 9 ∨ m = 10 ∨ m = 11) with h | h | h | h | h | h | h | h | h | h | h | h <;> subst h <;> rfl
  have cell : ∀ j, j < 6 → cellAt s 12 j = (((Ed s (2 * j)).toNat * 16 + (Ed s (2 * j + 1)).toNat : Nat) : Int) := fun j hj => by
    have e1 := hE (2 * j) (by omega)
    have e2 := hE (2 * j + 1) (by omega)
    unfold cellAt
    rw [if_pos (by omega)]
    omega
  have hr : ∀ j, j < 6 → (Ed s (2 * j)).toNat * 16 + (Ed s (2 * j + 1)).toNat < 256 := fun j hj => by
    have e1 := hE (2 * j) (by omega)
    have e2 := hE (2 * j + 1) (by omega)
    omega
  have dv : ∀ j, j < 6 → ((Ed s (2 * j)).toNat * 16 + (Ed s (2 * j + 1)).toNat) / 16 = (Ed s (2 * j)).toNat ∧ ((Ed s (2 * j)).toNat * 16 + (Ed s (2 * j + 1)).toNat) % 16 = (Ed s (2 * j + 1)).toNat := fun j hj => by
    have e1 := hE (2 * j) (by omega)
    have e2 := hE (2 * j + 1) (by omega)
    omega
  refine ⟨_, _, _, _, _, _, hr 0 (by omega), hr 1 (by omega), hr 2 (by omega), hr 3 (by omega), hr 4 (by omega), hr 5 (by omega), ?_, ?_⟩
  · unfold cellsS
    rw [cell 0 (by omega), cell 1 (by omega), cell 2 (by omega), cell 3 (by omega), cell 4 (by omega), cell 5 (by omega)]
  · apply ByteArray.ext
    apply Array.toList_inj.1
    rw [wS_list]
    unfold wL
    rw [(dv 0 (by omega)).1, (dv 0 (by omega)).2, (dv 1 (by omega)).1, (dv 1 (by omega)).2, (dv 2 (by omega)).1, (dv 2 (by omega)).2, (dv 3 (by omega)).1, (dv 3 (by omega)).2, (dv 4 (by omega)).1, (dv 4 (by omega)).2, (dv 5 (by omega)).1, (dv 5 (by omega)).2]
    have D : ∀ m, m < 12 → hx (Ed s m).toNat = s.data.toList.getD (pos m) 0 := fun m hm => dg_hx (hE m hm).1
    have P : ∀ i, i < 14 → dotB i = true → s.data.toList.getD i 0 = 46 := fun i hi hd => by
      have := dot i hi hd
      unfold ch at this
      have h46 : (s.data.toList.getD i 0).toNat = (46 : UInt8).toNat := by rw [show (46 : UInt8).toNat = 46 from rfl]; omega
      exact UInt8.toNat_inj.1 h46
    rw [D 0 (by omega), D (2 * 0 + 1) (by omega), D (2 * 1) (by omega), D (2 * 1 + 1) (by omega), D (2 * 2) (by omega), D (2 * 2 + 1) (by omega), D (2 * 3) (by omega), D (2 * 3 + 1) (by omega), D (2 * 4) (by omega), D (2 * 4 + 1) (by omega), D (2 * 5) (by omega), D (2 * 5 + 1) (by omega)]
    refine List.ext_getElem (by rw [hlen]; rfl) (fun i h3 h4 => ?_)
    have hi : i < 14 := by omega
    have hg : s.data.toList[i] = s.data.toList.getD i 0 := by rw [List.getD_eq_getElem?_getD, List.getElem?_eq_getElem h4]; rfl
    rw [hg]
    rcases (by omega : i = 0 ∨ i = 1 ∨ i = 2 ∨ i = 3 ∨ i = 4 ∨ i = 5 ∨ i = 6 ∨ i = 7 ∨ i = 8 ∨ i = 9 ∨ i = 10 ∨ i = 11 ∨ i = 12 ∨ i = 13) with h | h | h | h | h | h | h | h | h | h | h | h | h | h <;> subst h
    all_goals first
      | rfl
      | exact (P _ (by omega) rfl).symm
theorem parseV_scal (s : ByteArray) : scalV (parseV s) = true := by
  unfold parseV
  split <;> rfl
def spParse : List V → V → Prop := fun us d => ∃ s : ByteArray, us = [.str s] ∧ s.size ≤ 140737488351233 ∧ d = parseV s
def spWrite : List V → V → Prop := fun us r => ∃ a b c d e f : Nat, us = [.agg [.int .u8 (a : Nat), .int .u8 (b : Nat), .int .u8 (c : Nat), .int .u8 (d : Nat), .int .u8 (e : Nat), .int .u8 (f : Nat)]] ∧ a < 256 ∧ b < 256 ∧ c < 256 ∧ d < 256 ∧ e < 256 ∧ f < 256 ∧ r = .str (wS a b c d e f)
noncomputable def EP2 : Env := ((((E1.add 28 (pcon spParse) true).add 29 (pcon spParse) true).add 27 (pcon spWrite) true).add 30 (pcon spWrite) true)
theorem okP2 : EnvOk Try.prog EP2 :=
  ok0.pcon2 (ok0.pcon2 (okP1.pcon2 (okP1.pcon2 ok1
    (fn := Try.f28) rfl (by kernel_rfl) 3 (fun us d ⟨s, _, _, e⟩ => by rw [e]; exact parseV_scal s) (fun us d ⟨s, h1, h2, e⟩ => by rw [h1, e]; exact parse28 s h2))
    (fn := Try.f29) rfl (by kernel_rfl) 3 (fun us d ⟨s, _, _, e⟩ => by rw [e]; exact parseV_scal s) (fun us d ⟨s, h1, h2, e⟩ => by rw [h1, e]; exact parse29 s h2))
    (fn := Try.f27) rfl (by kernel_rfl) 3 (fun us r ⟨a, b, c, d, e, f, _, _, _, _, _, _, _, q⟩ => by rw [q]; rfl) (fun us r ⟨a, b, c, d, e, f, h, h1, h2, h3, h4, h5, h6, q⟩ => by rw [h, q]; exact wr27 a b c d e f h1 h2 h3 h4 h5 h6))
    (fn := Try.f30) rfl (by kernel_rfl) 3 (fun us r ⟨a, b, c, d, e, f, _, _, _, _, _, _, _, q⟩ => by rw [q]; rfl) (fun us r ⟨a, b, c, d, e, f, h, h1, h2, h3, h4, h5, h6, q⟩ => by rw [h, q]; exact wr30 a b c d e f h1 h2 h3 h4 h5 h6)
theorem namesB (a b c d e f : Nat) (ha : a < 256) (hb : b < 256) (hc : c < 256) (hd : d < 256) (he : e < 256) (hf : f < 256) (s : ByteArray) (hs : s.size ≤ 140737488351232) :
    callW EP2 4 10 [.agg [.int .u8 (a : Nat), .int .u8 (b : Nat), .int .u8 (c : Nat), .int .u8 (d : Nat), .int .u8 (e : Nat), .int .u8 (f : Nat)], .str s] [] (fun d _ => d = .bool true) (fun _ _ => False) := by
  conv => whnf
  refine ⟨.bool true, ⟨rfl, rfl⟩, ?_⟩
  conv => whnf
  repeat first
    | (refine And.intro (by first | exact trivial | omega) ?_; conv => whnf)
  refine ⟨_, ⟨a, b, c, d, e, f, rfl, ha, hb, hc, hd, he, hf, rfl⟩, ?_⟩
  conv => whnf
  refine ⟨_, ⟨_, rfl, by rw [wS_size]; omega, rfl⟩, ?_⟩
  rw [parse_wS a b c d e f ha hb hc hd he hf]
  conv => whnf
  refine ⟨_, ⟨_, rfl, by omega, rfl⟩, ?_⟩
  have qi : ∀ x : Int, (x == x) = true := fun x => by simp
  have qn : ∀ x : Int, (x != x) = false := fun x => by simp
  have qs : ∀ x : ByteArray, (x.toList == x.toList) = true := fun x => by simp
  have qt : (!true) = false := rfl
  have qf : (!false) = true := rfl
  rcases hfb : fb s 14 0 with _ | i
  · obtain ⟨a', b', c', d', e', f', ha', hb', hc', hd', he', hf', hcell, hS⟩ := wS_parse hfb
    have hp : parseV s = .tup [.agg [.int .u8 (a' : Nat), .int .u8 (b' : Nat), .int .u8 (c' : Nat), .int .u8 (d' : Nat), .int .u8 (e' : Nat), .int .u8 (f' : Nat)], .int .i64 0, .int .i64 0] := by
      unfold parseV
      rw [hfb]
      simp only [hcell]
    rw [hp]
    conv => whnf
    refine ⟨_, ⟨_, rfl, by omega, rfl⟩, ?_⟩
    rw [hp]
    conv => whnf
    repeat first
      | (refine And.intro (by first | exact trivial | omega) ?_; conv => whnf)
    refine ⟨_, ⟨a, b, c, d, e, f, rfl, ha, hb, hc, hd, he, hf, rfl⟩, ?_⟩
    conv => whnf
    repeat first
      | (rw [qs]; conv => whnf)
      | (rw [qi]; conv => whnf)
      | (rw [qn]; conv => whnf)
      | (refine And.intro (by first | exact trivial | omega) ?_; conv => whnf)
    refine ⟨_, ⟨a', b', c', d', e', f', rfl, ha', hb', hc', hd', he', hf', rfl⟩, ?_⟩
    rw [hS]
    conv => whnf
    rw [qs]
  · have hp : parseV s = .tup [.agg zer, .int .i64 (i : Nat), .int .i64 5] := by unfold parseV; rw [hfb]
    rw [hp]
    conv => whnf
    refine ⟨_, ⟨_, rfl, by omega, rfl⟩, ?_⟩
    rw [hp]
    conv => whnf
    repeat first
      | (refine And.intro (by first | exact trivial | omega) ?_; conv => whnf)
    refine ⟨_, ⟨a, b, c, d, e, f, rfl, ha, hb, hc, hd, he, hf, rfl⟩, ?_⟩
    conv => whnf
    repeat first
      | (rw [qs]; conv => whnf)
      | (rw [qi]; conv => whnf)
      | (rw [qn]; conv => whnf)
      | (refine And.intro (by first | exact trivial | omega) ?_; conv => whnf)
theorem names (us : List V) (hu : okArgs [(true, [.int .u8, .int .u8, .int .u8, .int .u8, .int .u8, .int .u8]), (false, [.str])] us) : ∃ us', vleL us us' ∧ callW EP2 4 10 us' [] (fun d _ => d = .bool true) (fun _ _ => False) := by
  match us, hu with
  | [u, v], hu =>
    obtain ⟨⟨ds, rfl, hds⟩, hv, _⟩ := hu
    simp only [okArg, okSh] at hv
    obtain ⟨s, rfl, hs⟩ := hv
    match ds, hds with
    | [x0, x1, x2, x3, x4, x5], hds =>
      simp only [okShs, okSh] at hds
      obtain ⟨⟨a, rfl, ha⟩, ⟨b, rfl, hb⟩, ⟨c, rfl, hc⟩, ⟨d, rfl, hd⟩, ⟨e, rfl, he⟩, ⟨f, rfl, hf⟩, _⟩ := hds
      have ra := rngU8 ha; have rb := rngU8 hb; have rc := rngU8 hc; have rd := rngU8 hd; have re := rngU8 he; have rf := rngU8 hf
      obtain ⟨a, rfl⟩ := Int.eq_ofNat_of_zero_le ra.1
      obtain ⟨b, rfl⟩ := Int.eq_ofNat_of_zero_le rb.1
      obtain ⟨c, rfl⟩ := Int.eq_ofNat_of_zero_le rc.1
      obtain ⟨d, rfl⟩ := Int.eq_ofNat_of_zero_le rd.1
      obtain ⟨e, rfl⟩ := Int.eq_ofNat_of_zero_le re.1
      obtain ⟨f, rfl⟩ := Int.eq_ofNat_of_zero_le rf.1
      exact ⟨_, vleL_refl _, namesB a b c d e f (by omega) (by omega) (by omega) (by omega) (by omega) (by omega) s hs⟩
end Go.Proofs.Ytldoaopkpoojfaa
