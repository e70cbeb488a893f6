/- Names of routers: their texts, and what is read out of a text. -/
import Derived.Test.YtldoaopkpoojfaaEvFr
import Derived.Test.YtldoaopkpoojfaaOAwake
namespace Go.Proofs.Ytldoaopkpoojfaa
open Go.Ev
set_option linter.unusedVariables false
set_option linter.unusedSimpArgs false
set_option maxRecDepth 100000
set_option maxHeartbeats 1000000
def tbl : List UInt8 := [48, 49, 50, 51, 52, 53, 54, 55, 56, 57, 97, 98, 99, 100, 101, 102]
def hx (k : Nat) : UInt8 := tbl.getD k 0
def wL (a b c d e f : Nat) : List UInt8 := [hx (a / 16), hx (a % 16), hx (b / 16), hx (b % 16), 46, hx (c / 16), hx (c % 16), hx (d / 16), hx (d % 16), 46, hx (e / 16), hx (e % 16), hx (f / 16), hx (f % 16)]
def wS (a b c d e f : Nat) : ByteArray := ⟨(wL a b c d e f).toArray⟩
theorem strOf_eq {n : Nat} {g : Nat → List V} {L : List UInt8} (hl : L.length = n) (hg : ∀ i, i < n → g i = [.int .u8 ((L.getD i 0).toNat : Int)]) : strOf n g = ⟨L.toArray⟩ := by
  unfold strOf
  have : ((List.range n).map fun i => UInt8.ofNat (byteI (g i)).toNat) = L := by
    apply List.ext_getElem
    · simp [hl]
    · intro i h1 h2
      simp only [List.length_map, List.length_range] at h1
      simp only [List.getElem_map, List.getElem_range]
      rw [hg i h1]
      simp [byteI, h2]
  rw [this]
theorem bytesG_of {n : Nat} {g : Nat → List V} {L : List UInt8} (hg : ∀ i, i < n → g i = [.int .u8 ((L.getD i 0).toNat : Int)]) : bytesG n g := fun i hi => ⟨(L.getD i 0).toNat, UInt8.toNat_lt _, hg i hi⟩
theorem wr27 (a b c d e f : Nat) (ha : a < 256) (hb : b < 256) (hc : c < 256) (hd : d < 256) (he : e < 256) (hf : f < 256) :
    callW E0 3 27 [.agg [.int .u8 (a : Nat), .int .u8 (b : Nat), .int .u8 (c : Nat), .int .u8 (d : Nat), .int .u8 (e : Nat), .int .u8 (f : Nat)]] [] (fun r _ => r = .str (wS a b c d e f)) (fun _ _ => False) := by
  have s1 : ∀ k : Nat, k < 256 → shrI .u8 (k : Int) 4 = ((k / 16 : Nat) : Int) := by
    intro k hk
    show (k : Int).fdiv (2 ^ (min (4 : Int).toNat 8)) = _
    rw [show (2 : Int) ^ (min (4 : Int).toNat 8) = 16 by decide, Int.fdiv_eq_ediv_of_nonneg _ (by omega)]
    omega
  have s2 : ∀ k : Nat, k < 256 → bitsOf .and .u8 (k : Int) 15 = ((k % 16 : Nat) : Int) := by
    intro k hk
    show IntKind.u8.wrap ((BitVec.ofInt 8 (k : Int) &&& BitVec.ofInt 8 15).toNat : Int) = _
    have : (BitVec.ofInt 8 (k : Int) &&& BitVec.ofInt 8 15).toNat = k % 16 := by
      rw [BitVec.toNat_and]
      have t1 : (BitVec.ofInt 8 (k : Int)).toNat = k := by rw [BitVec.toNat_ofInt]; omega
      have t2 : (BitVec.ofInt 8 15).toNat = 2 ^ 4 - 1 := by decide
      rw [t1, t2, Nat.and_two_pow_sub_one_eq_mod]
    rw [this, wrapU8]
    omega
  have r1 : ∀ k : Nat, k < 256 → 0 ≤ shrI .u8 (k : Int) 4 ∧ shrI .u8 (k : Int) 4 < ((⟨#[48, 49, 50, 51, 52, 53, 54, 55, 56, 57, 97, 98, 99, 100, 101, 102]⟩ : ByteArray).size : Int) := fun k hk => by
    rw [s1 k hk, show (⟨#[48, 49, 50, 51, 52, 53, 54, 55, 56, 57, 97, 98, 99, 100, 101, 102]⟩ : ByteArray).size = 16 from rfl]; omega
  have r2 : ∀ k : Nat, k < 256 → 0 ≤ bitsOf .and .u8 (k : Int) 15 ∧ bitsOf .and .u8 (k : Int) 15 < ((⟨#[48, 49, 50, 51, 52, 53, 54, 55, 56, 57, 97, 98, 99, 100, 101, 102]⟩ : ByteArray).size : Int) := fun k hk => by
    rw [s2 k hk, show (⟨#[48, 49, 50, 51, 52, 53, 54, 55, 56, 57, 97, 98, 99, 100, 101, 102]⟩ : ByteArray).size = 16 from rfl]; omega
  conv => whnf
  repeat first
    | (refine loopN ok0 7 ?_; conv => whnf)
    | (refine And.intro (by first | exact trivial | decide | exact r1 _ ha | exact r1 _ hb | exact r1 _ hc | exact r1 _ hd | exact r1 _ he | exact r1 _ hf | exact r2 _ ha | exact r2 _ hb | exact r2 _ hc | exact r2 _ hd | exact r2 _ he | exact r2 _ hf) ?_; conv => whnf)
  simp only [s1 _ ha, s1 _ hb, s1 _ hc, s1 _ hd, s1 _ he, s1 _ hf, s2 _ ha, s2 _ hb, s2 _ hc, s2 _ hd, s2 _ he, s2 _ hf]
  refine And.intro (And.intro (by omega) (bytesG_of (L := wL a b c d e f) (fun i hi => ?_))) ?_
  · rcases (by omega : i = 0 ∨ i = 1 ∨ i = 2 ∨ i = 3 ∨ i = 4 ∨ i = 5 ∨ i = 6 ∨ i = 7 ∨ i = 8 ∨ i = 9 ∨ i = 10 ∨ i = 11 ∨ i = 12 ∨ i = 13) with h | h | h | h | h | h | h | h | h | h | h | h | h | h <;> subst h <;> rfl
  · conv => whnf
    refine congrArg V.str (strOf_eq (L := wL a b c d e f) rfl (fun i hi => ?_))
    rcases (by omega : i = 0 ∨ i = 1 ∨ i = 2 ∨ i = 3 ∨ i = 4 ∨ i = 5 ∨ i = 6 ∨ i = 7 ∨ i = 8 ∨ i = 9 ∨ i = 10 ∨ i = 11 ∨ i = 12 ∨ i = 13) with h | h | h | h | h | h | h | h | h | h | h | h | h | h <;> subst h <;> rfl
theorem wr30 (a b c d e f : Nat) (ha : a < 256) (hb : b < 256) (hc : c < 256) (hd : d < 256) (he : e < 256) (hf : f < 256) :
    callW E0 3 30 [.agg [.int .u8 (a : Nat), .int .u8 (b : Nat), .int .u8 (c : Nat), .int .u8 (d : Nat), .int .u8 (e : Nat), .int .u8 (f : Nat)]] [] (fun r _ => r = .str (wS a b c d e f)) (fun _ _ => False) := by
  have u1 : ∀ k : Nat, k < 256 → IntKind.u8.wrap ((k : Int).tdiv 16) = ((k / 16 : Nat) : Int) := fun k hk => by rw [Int.tdiv_eq_ediv_of_nonneg (by omega), wrapU8]; omega
  have u2 : ∀ k : Nat, k < 256 → (k : Int).tmod 16 = ((k % 16 : Nat) : Int) := fun k hk => by rw [Int.tmod_eq_emod_of_nonneg (by omega)]; omega
  have sz : (⟨#[48, 49, 50, 51, 52, 53, 54, 55, 56, 57, 97, 98, 99, 100, 101, 102]⟩ : ByteArray).size = 16 := rfl
  have u3 : ∀ m : Nat, m < 16 → IntKind.u8.wrap ((m : Int) + 1) = ((m + 1 : Nat) : Int) := fun m hm => by rw [wrapU8]; omega
  have x0 : ∀ m : Nat, m < 16 → (⟨#[48, 49, 50, 51, 52, 53, 54, 55, 56, 57, 97, 98, 99, 100, 101, 102]⟩ : ByteArray).extract m (m + 1) = ⟨#[hx m]⟩ := fun m hm => by
    rcases (by omega : m = 0 ∨ m = 1 ∨ m = 2 ∨ m = 3 ∨ m = 4 ∨ m = 5 ∨ m = 6 ∨ m = 7 ∨ m = 8 ∨ m = 9 ∨ m = 10 ∨ m = 11 ∨ m = 12 ∨ m = 13 ∨ m = 14 ∨ m = 15) with h | h | h | h | h | h | h | h | h | h | h | h | h | h | h | h <;> subst h <;> decide +kernel
  have r3 : ∀ k : Nat, k < 256 → 0 ≤ IntKind.u8.wrap ((k : Int).tdiv 16) ∧ IntKind.u8.wrap ((k : Int).tdiv 16) ≤ IntKind.u8.wrap (IntKind.u8.wrap ((k : Int).tdiv 16) + 1) ∧ IntKind.u8.wrap (IntKind.u8.wrap ((k : Int).tdiv 16) + 1) ≤ ((⟨#[48, 49, 50, 51, 52, 53, 54, 55, 56, 57, 97, 98, 99, 100, 101, 102]⟩ : ByteArray).size : Int) := fun k hk => by
    rw [u1 k hk, u3 _ (by omega), sz]; omega
  have r4 : ∀ k : Nat, k < 256 → 0 ≤ (k : Int).tmod 16 ∧ (k : Int).tmod 16 ≤ IntKind.u8.wrap ((k : Int).tmod 16 + 1) ∧ IntKind.u8.wrap ((k : Int).tmod 16 + 1) ≤ ((⟨#[48, 49, 50, 51, 52, 53, 54, 55, 56, 57, 97, 98, 99, 100, 101, 102]⟩ : ByteArray).size : Int) := fun k hk => by
    rw [u2 k hk, u3 _ (by omega), sz]; omega
  have x3 : ∀ k : Nat, k < 256 → (⟨#[48, 49, 50, 51, 52, 53, 54, 55, 56, 57, 97, 98, 99, 100, 101, 102]⟩ : ByteArray).extract (IntKind.u8.wrap ((k : Int).tdiv 16)).toNat (IntKind.u8.wrap (IntKind.u8.wrap ((k : Int).tdiv 16) + 1)).toNat = ⟨#[hx (k / 16)]⟩ := fun k hk => by
    rw [u1 k hk, u3 _ (by omega), Int.toNat_natCast, Int.toNat_natCast, x0 _ (by omega)]
  have x4 : ∀ k : Nat, k < 256 → (⟨#[48, 49, 50, 51, 52, 53, 54, 55, 56, 57, 97, 98, 99, 100, 101, 102]⟩ : ByteArray).extract ((k : Int).tmod 16).toNat (IntKind.u8.wrap ((k : Int).tmod 16 + 1)).toNat = ⟨#[hx (k % 16)]⟩ := fun k hk => by
    rw [u2 k hk, u3 _ (by omega), Int.toNat_natCast, Int.toNat_natCast, x0 _ (by omega)]
  conv => whnf
  repeat first
    | (refine loopN ok0 7 ?_; conv => whnf)
    | (refine And.intro (by exact r3 _ ha) ?_; conv => whnf; rw [x3 _ ha]; conv => whnf)
    | (refine And.intro (by exact r4 _ ha) ?_; conv => whnf; rw [x4 _ ha]; conv => whnf)
    | (refine And.intro (by exact r3 _ hb) ?_; conv => whnf; rw [x3 _ hb]; conv => whnf)
    | (refine And.intro (by exact r4 _ hb) ?_; conv => whnf; rw [x4 _ hb]; conv => whnf)
    | (refine And.intro (by exact r3 _ hc) ?_; conv => whnf; rw [x3 _ hc]; conv => whnf)
    | (refine And.intro (by exact r4 _ hc) ?_; conv => whnf; rw [x4 _ hc]; conv => whnf)
    | (refine And.intro (by exact r3 _ hd) ?_; conv => whnf; rw [x3 _ hd]; conv => whnf)
    | (refine And.intro (by exact r4 _ hd) ?_; conv => whnf; rw [x4 _ hd]; conv => whnf)
    | (refine And.intro (by exact r3 _ he) ?_; conv => whnf; rw [x3 _ he]; conv => whnf)
    | (refine And.intro (by exact r4 _ he) ?_; conv => whnf; rw [x4 _ he]; conv => whnf)
    | (refine And.intro (by exact r3 _ hf) ?_; conv => whnf; rw [x3 _ hf]; conv => whnf)
    | (refine And.intro (by exact r4 _ hf) ?_; conv => whnf; rw [x4 _ hf]; conv => whnf)
    | (refine And.intro (by first | exact trivial | decide | (simp [ByteArray.size_append, ByteArray.size]; done)) ?_; conv => whnf)
  refine congrArg V.str (ByteArray.ext ?_)
  simp [ByteArray.data_append, wS, wL]
end Go.Proofs.Ytldoaopkpoojfaa
