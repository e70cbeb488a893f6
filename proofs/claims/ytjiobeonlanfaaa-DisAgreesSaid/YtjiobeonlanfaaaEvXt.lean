import Derived.Test.YtjiobeonlanfaaaEvFr
import Derived.Laws.Externs
import Derived.Lib.Bytealg
import Derived.Lib.Bytes
import Derived.Lib.BytesEntry
namespace Go.Ev
set_option linter.unusedSimpArgs false
set_option linter.unusedVariables false
open Go.RowKit

variable {P : Program}

/-! ### Functions that the model answers at once -/
theorem EnvOk.xcon {E' : Env} (o' : EnvOk P E') {f : FuncId} {sp : List V → V → Prop} (hs : ∀ us d, sp us d → scalV d = true)
    (hx : ∀ us d, sp us d → ∀ (w : World) (vs : Array Value), vs.size = us.length → (∀ (j : Nat) v u, vs[j]? = some v → us[j]? = some u → R (Cx.all w) v u) → ∃ v, (callFunc f vs).run P w = .ok (.value v) w ∧ R (Cx.all w) v d) :
    EnvOk P (E'.add f (Ev.pcon (vcl sp)) true) where
  ty := o'.ty
  eq := o'.eq
  fn := o'.fn
  ct := fun g k hg args h K Kp hk c B w0 vs m hl hr => by
    simp only [Env.add] at hg
    split at hg
    · rename_i e
      cases hg
      cases nbeq e
      unfold Ev.pcon at hk
      split at hk
      · rename_i p us ha
        obtain ⟨hp, d, ⟨us', hv, h1⟩, h2⟩ := (rqW_iff _ _).1 hk
        obtain ⟨v1, v2⟩ := vleL_get hv
        obtain ⟨k1, k2⟩ := argsI_ok m ha hp
        obtain ⟨v, hrun, hR⟩ := hx us' d h1 c.w vs (by omega) (fun j v u' hv hu' => by
          have hju : j < us.length := by have := (List.getElem?_eq_some_iff.1 hu').1; omega
          have hu : us[j]? = some us[j] := by simp [hju]
          refine vle_R ?_ (v2 j us[j] u' hu hu')
          have hj : j < args.length := by have := (List.getElem?_eq_some_iff.1 hu).1; omega
          obtain ⟨q, q1, q2⟩ := k2 j args[j] us[j] (by simp [hj]) hu
          exact argI_ok m (hr j v args[j] hv (by simp [hj])) q1 q2)
        exact .inr ⟨v, c.w, hrun, d, c, h, rfl, Cx.le_refl c, m, hR.scal (hs _ _ h1), h2⟩
      · exact hk.elim
    · exact o'.ct g k hg args h K Kp hk c B w0 vs m hl hr
  mono := fun g k hg => by
    simp only [Env.add] at hg
    split at hg
    · cases hg; exact pcon_mono _
    · exact o'.mono g k hg
  quiet := fun g hg => by
    simp only [Env.add] at hg ⊢
    split at hg
    · exact ⟨_, rfl, pcon_quiet _⟩
    · exact o'.quiet g hg
  orders := o'.orders

/-! ### bytealg.Compare -/
/-- the first place of k from i on where they differ, else what is said of the lengths -/
def cmpF (A B : Nat → Int) (e : Int) : Nat → Nat → Int
  | 0, _ => e
  | k + 1, i => if A i = B i then cmpF A B e k (i + 1) else if A i < B i then -1 else 1
def cmpB (A : Nat → Int) (n : Nat) (B : Nat → Int) (m : Nat) : Int := cmpF A B (if n < m then -1 else if m < n then 1 else 0) (min n m) 0
def bytesL (A : Nat → Int) (n : Nat) : List Int := (List.range n).map A
theorem bytesL_get (A : Nat → Int) (n j : Nat) (h : j < n) : (bytesL A n)[j]? = some (A j) := by simp [bytesL, h]
theorem imm_bytes {w : World} {v : Value} {A : Nat → Int} {n : Nat} (h : R (Cx.all w) v (.imm n 1 fun i => [.int .u8 (A i)])) : (Extern.Bytes.bytesOf v).run P w = .ok ⟨(Lib.bytesOf (bytesL A n)).toArray⟩ w := by
  cases h with
  | pure hp =>
    cases hp with
    | imm a n cap sz g cv h1 h2 h3 hl hc hr =>
      cases a with
      | none =>
        have : n = 0 := h3 rfl
        subst this
        rfl
      | some ad =>
        have hcell : ∀ j x, (bytesL A n)[j]? = some x → w.cell? (ad.add j) = some (.int .u8 x) := fun j x hx => by
          have hj : j < n := by have := (List.getElem?_eq_some_iff.1 hx).1; simpa [bytesL] using this
          rw [bytesL_get A n j hj] at hx
          cases hx
          obtain ⟨_, c1, _⟩ := hc ad rfl j hj 0 (by omega)
          rw [Nat.mul_one, Nat.add_zero] at c1
          have r1 := hr j hj 0 _ rfl
          have : cv j 0 = .int .u8 (A j) := by
            generalize cv j 0 = q at r1
            cases r1; rfl
          rw [this] at c1
          exact c1
        have hlen : (bytesL A n).length = n := by simp [bytesL]
        have := Lib.run_loadBytesX (P := P) w (bytesL A n) ad .empty hcell
        rw [hlen] at this
        show (Extern.Bytes.loadBytes ad n .empty).run P w = _
        rw [this]
        congr 1
        apply ByteArray.ext
        show (#[] : Array UInt8) ++ _ = _
        simp
theorem cmp_find (a b : ByteArray) (A B : Nat → Int) (e : Int) (ha : ∀ i, i < a.size → (a[i]!.toNat : Int) = A i) (hb : ∀ i, i < b.size → (b[i]!.toNat : Int) = B i) : ∀ (k i : Nat), i + k ≤ a.size → i + k ≤ b.size →
    (match ((List.range' i k).find? fun i => a[i]! != b[i]!) with
      | some i => if a[i]! < b[i]! then -1 else 1
      | none => e) = cmpF A B e k i
  | 0, i, _, _ => rfl
  | k + 1, i, h1, h2 => by
    rw [List.range'_succ, List.find?_cons]
    have e1 := ha i (by omega)
    have e2 := hb i (by omega)
    simp only [cmpF]
    by_cases h : a[i]! = b[i]!
    · rw [show (a[i]! != b[i]!) = false by simp [h], if_pos (by rw [← e1, ← e2, h])]
      exact cmp_find a b A B e ha hb k (i + 1) (by omega) (by omega)
    · have hne : A i ≠ B i := fun hh => h (UInt8.toNat_inj.1 (by omega))
      rw [show (a[i]! != b[i]!) = true by simpa using h, if_neg hne]
      simp only [UInt8.lt_iff_toNat_lt]
      by_cases hlt : a[i]!.toNat < b[i]!.toNat
      · rw [if_pos hlt, if_pos (by omega)]
      · rw [if_neg hlt, if_neg (by omega)]
theorem bytesOf_get (A : Nat → Int) (n : Nat) (hA : ∀ i, 0 ≤ A i ∧ A i ≤ 255) : ∀ i, i < (⟨(Lib.bytesOf (bytesL A n)).toArray⟩ : ByteArray).size → (((⟨(Lib.bytesOf (bytesL A n)).toArray⟩ : ByteArray)[i]!).toNat : Int) = A i := fun i hi => by
  have hn : (⟨(Lib.bytesOf (bytesL A n)).toArray⟩ : ByteArray).size = n := by simp [ByteArray.size, Lib.bytesOf, bytesL]
  have hi' : i < n := by omega
  rw [getElem!_pos _ i hi]
  have : (⟨(Lib.bytesOf (bytesL A n)).toArray⟩ : ByteArray)[i] = UInt8.ofNat (A i).toNat := by
    show (Lib.bytesOf (bytesL A n)).toArray[i] = _
    simp [Lib.bytesOf, bytesL]
  rw [this]
  have := hA i
  simp only [UInt8.toNat_ofNat']
  omega
def spCmp : List V → V → Prop := fun us d => ∃ (A B : Nat → Int) (n m : Nat), us = [.imm n 1 fun i => [.int .u8 (A i)], .imm m 1 fun i => [.int .u8 (B i)]] ∧ (∀ i, 0 ≤ A i ∧ A i ≤ 255) ∧ (∀ i, 0 ≤ B i ∧ B i ≤ 255) ∧ d = .int .i64 (cmpB A n B m)
theorem cmp_run {f : FuncId} {fn : Func} (hf : P.funcs[f]? = some fn) (hname : (fn.name == "runtime.NumGoroutine") = false) (hb : fn.body.isNone = true) (hn : Extern.findNext fn = none) (he : Extern.find fn = some Extern.BytealgCompare.compare) :
    ∀ us d, spCmp us d → ∀ (w : World) (vs : Array Value), vs.size = us.length → (∀ (j : Nat) v u, vs[j]? = some v → us[j]? = some u → R (Cx.all w) v u) → ∃ v, (callFunc f vs).run P w = .ok (.value v) w ∧ R (Cx.all w) v d := by
  rintro us d ⟨A, B, n, m, rfl, hA, hB, rfl⟩ w vs hl hr
  obtain ⟨va, vb, rfl⟩ : ∃ va vb, vs = #[va, vb] := by
    rcases vs with ⟨l⟩
    match l, hl with
    | [a, b], _ => exact ⟨a, b, rfl⟩
  refine ⟨.int .i64 (cmpB A n B m), ?_, .pure (.int _ _)⟩
  rw [run_callFunc_extern hf hname hb hn he]
  have r1 := imm_bytes (P := P) (hr 0 va _ rfl rfl)
  have r2 := imm_bytes (P := P) (hr 1 vb _ rfl rfl)
  have : (Extern.BytealgCompare.compare #[va, vb]).run P w = .ok (goInt (Extern.BytealgCompare.cmp ⟨(Lib.bytesOf (bytesL A n)).toArray⟩ ⟨(Lib.bytesOf (bytesL B m)).toArray⟩)) w := by
    show Sem.run P (do pure (goInt (Extern.BytealgCompare.cmp (← Extern.Bytes.bytesOf va) (← Extern.Bytes.bytesOf vb)))) w = _
    simp only [Sem.run_bind, r1, r2, Sem.run_pure, Result.andThen_ok]
  rw [this]
  simp only [Result.andThen_ok]
  congr 2
  have hsa : (⟨(Lib.bytesOf (bytesL A n)).toArray⟩ : ByteArray).size = n := by simp [ByteArray.size, Lib.bytesOf, bytesL]
  have hsb : (⟨(Lib.bytesOf (bytesL B m)).toArray⟩ : ByteArray).size = m := by simp [ByteArray.size, Lib.bytesOf, bytesL]
  have key := cmp_find _ _ A B (if n < m then -1 else if m < n then 1 else 0) (bytesOf_get A n hA) (bytesOf_get B m hB) (min n m) 0 (by omega) (by omega)
  unfold cmpB
  rw [← key]
  unfold Extern.BytealgCompare.cmp goInt
  rw [hsa, hsb, List.range_eq_range']
  rfl
end Go.Ev
