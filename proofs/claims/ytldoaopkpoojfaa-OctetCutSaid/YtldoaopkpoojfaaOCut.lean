/- Names of routers: every beginning of a name's text is refused at its end, and whatever stands behind it where it ends. -/
import Derived.Test.YtldoaopkpoojfaaONamesL
namespace Go.Proofs.Ytldoaopkpoojfaa
open Go.Ev
set_option linter.unusedVariables false
set_option linter.unusedSimpArgs false
set_option maxRecDepth 100000
set_option maxHeartbeats 2000000
theorem parse_cut (a b c d e f : Nat) (ha : a < 256) (hb : b < 256) (hc : c < 256) (hd : d < 256) (he : e < 256) (hf : f < 256) (k : Nat) (hk : k < 14) : ((wS a b c d e f).extract 0 k).size = k ∧ parseV ((wS a b c d e f).extract 0 k) = .tup [.agg zer, .int .i64 (k : Nat), .int .i64 5] := by
  have hs : ((wS a b c d e f).extract 0 k).size = k := by rw [ByteArray.size_extract, wS_size]; omega
  refine ⟨hs, ?_⟩
  have hget : ∀ i, i < k → ((wS a b c d e f).extract 0 k).data.toList.getD i 0 = (wL a b c d e f).getD i 0 := fun i hi => by
    rw [ByteArray.data_extract, Array.toList_extract, wS_list]
    simp [List.getD_eq_getElem?_getD, List.getElem?_take, hi]
  have h := fb_upto (s := (wS a b c d e f).extract 0 k) k (fun i hi => notbad ha hb hc hd he hf (by omega) (by rw [hs]; exact hi) (hget i hi)) (by omega)
  rw [show 14 - k = (13 - k) + 1 by omega] at h
  exact parse_fail h (bad_end hs.symm)
theorem parse_more (a b c d e f : Nat) (ha : a < 256) (hb : b < 256) (hc : c < 256) (hd : d < 256) (he : e < 256) (hf : f < 256) (t : ByteArray) (ht : t.size = 1) : ((wS a b c d e f) ++ t).size = 15 ∧ parseV ((wS a b c d e f) ++ t) = .tup [.agg zer, .int .i64 14, .int .i64 5] := by
  have hs : ((wS a b c d e f) ++ t).size = 15 := by rw [ByteArray.size_append, wS_size, ht]
  refine ⟨hs, ?_⟩
  have hget : ∀ i, i < 14 → ((wS a b c d e f) ++ t).data.toList.getD i 0 = (wL a b c d e f).getD i 0 := fun i hi => by
    rw [ByteArray.data_append, Array.toList_append, wS_list]
    have hl : i < (wL a b c d e f).length := hi
    simp [List.getD_eq_getElem?_getD, List.getElem?_append_left hl]
  have h := fb_upto (s := (wS a b c d e f) ++ t) 14 (fun i hi => notbad ha hb hc hd he hf hi (by rw [hs]; omega) (hget i hi)) (by omega)
  unfold parseV
  rw [h, show fb ((wS a b c d e f) ++ t) (14 - 14) 14 = some 14 by show fb _ 0 14 = _; unfold fb; rw [if_pos (by rw [hs]; omega)]]
  rfl
theorem cutB (a b c d e f : Nat) (ha : a < 256) (hb : b < 256) (hc : c < 256) (hd : d < 256) (he : e < 256) (hf : f < 256) (n m : Int) (hn : 0 ≤ n ∧ n ≤ 255) (hm : 0 ≤ m ∧ m ≤ 255) :
    callW EP2 4 11 [.agg [.int .u8 (a : Nat), .int .u8 (b : Nat), .int .u8 (c : Nat), .int .u8 (d : Nat), .int .u8 (e : Nat), .int .u8 (f : Nat)], .int .u8 n, .int .u8 m] [] (fun d _ => d = .bool true) (fun _ _ => False) := by
  obtain ⟨k, hk, hk2⟩ : ∃ k : Nat, IntKind.i64.wrap (n.tmod 14) = (k : Int) ∧ k < 14 := by
    rw [Int.tmod_eq_emod_of_nonneg hn.1, wrapI64_of (by omega) (by omega)]
    exact ⟨(n % 14).toNat, by omega, by omega⟩
  have hm2 : 0 ≤ m.tmod 128 ∧ m.tmod 128 ≤ 255 := by rw [Int.tmod_eq_emod_of_nonneg hm.1]; omega
  obtain ⟨c1, c2⟩ := parse_cut a b c d e f ha hb hc hd he hf k hk2
  conv => whnf
  refine ⟨.bool true, ⟨rfl, rfl⟩, ?_⟩
  conv => whnf
  repeat first
    | (refine And.intro (by first | exact trivial | omega) ?_; conv => whnf)
  refine ⟨_, ⟨a, b, c, d, e, f, rfl, ha, hb, hc, hd, he, hf, rfl⟩, ?_⟩
  conv => whnf
  repeat first
    | (refine And.intro (by first | exact trivial | decide | omega | (rw [hk, wS_size]; omega)) ?_; conv => whnf)
  rw [hk, Int.toNat_natCast]
  rw [show Int.toNat 0 = 0 from rfl]
  refine ⟨_, ⟨_, rfl, by rw [c1]; omega, rfl⟩, ?_⟩
  rw [c2]
  conv => whnf
  have hby : ∀ g : Nat → List V, g 0 = [.int .u8 (m.tmod 128)] → bytesG 1 g ∧ (strOf 1 g).size = 1 := fun g hg => by
    refine ⟨fun i hi => ⟨(m.tmod 128).toNat, by omega, ?_⟩, rfl⟩
    have : i = 0 := by omega
    subst this
    rw [hg]
    congr 2
    omega
  repeat first
    | (refine And.intro (by first | exact trivial | decide | omega) ?_; conv => whnf)
    | (refine And.intro (And.intro (by omega) (hby _ rfl).1) ?_; conv => whnf)
    | (refine And.intro (by rw [wS_size, (hby _ rfl).2]; omega) ?_; conv => whnf)
  obtain ⟨p1, p2⟩ := parse_more a b c d e f ha hb hc hd he hf (strOf 1 (subG 0 (litG ty5.size [V.int IntKind.u8 (m.tmod 128)]))) (hby _ rfl).2
  refine ⟨_, ⟨_, rfl, by rw [p1]; omega, rfl⟩, ?_⟩
  rw [p2]
  have qi : ∀ x : Int, (x == x) = true := fun x => by simp
  conv => whnf
  repeat first
    | (rw [qi]; conv => whnf)
    | (refine And.intro (by first | exact trivial | decide | omega) ?_; conv => whnf)
  rfl
theorem cuts (us : List V) (hu : okArgs [(true, [.int .u8, .int .u8, .int .u8, .int .u8, .int .u8, .int .u8]), (false, [.int .u8]), (false, [.int .u8])] us) : ∃ us', vleL us us' ∧ callW EP2 4 11 us' [] (fun d _ => d = .bool true) (fun _ _ => False) := by
  match us, hu with
  | [u, v, w], hu =>
    obtain ⟨⟨ds, rfl, hds⟩, hv, hw, _⟩ := hu
    simp only [okArg, okSh] at hv hw
    obtain ⟨n, rfl, hn⟩ := hv
    obtain ⟨m, rfl, hm⟩ := hw
    match ds, hds with
    | [x0, x1, x2, x3, x4, x5], hds =>
      simp only [okShs, okSh] at hds
      obtain ⟨⟨a, rfl, ha⟩, ⟨b, rfl, hb⟩, ⟨c, rfl, hc⟩, ⟨d, rfl, hd⟩, ⟨e, rfl, he⟩, ⟨f, rfl, hf⟩, _⟩ := hds
      have ra := rngU8 ha; have rb := rngU8 hb; have rc := rngU8 hc; have rd := rngU8 hd; have re := rngU8 he; have rf := rngU8 hf
      obtain ⟨a, rfl⟩ := Int.eq_ofNat_of_zero_le ra.1
      obtain ⟨b, rfl⟩ := Int.eq_ofNat_of_zero_le rb.1
      obtain ⟨c, rfl⟩ := Int.eq_ofNat_of_zero_le rc.1
      obtain ⟨d, rfl⟩ := Int.eq_ofNat_of_zero_le rd.1
      obtain ⟨e, rfl⟩ := Int.eq_ofNat_of_zero_le re.1
      obtain ⟨f, rfl⟩ := Int.eq_ofNat_of_zero_le rf.1
      exact ⟨_, vleL_refl _, cutB a b c d e f (by omega) (by omega) (by omega) (by omega) (by omega) (by omega) n m (rngU8 hn) (rngU8 hm)⟩
end Go.Proofs.Ytldoaopkpoojfaa
