/- All elect the same: in whatever order the members are known, the same one speaks, if no two have one priority and one MAC; and whoever has the greatest priority alone speaks, if it is up. -/
import Derived.Test.YtjiobeonlanfaaaRows
import Derived.Test.YtjiobeonlanfaaaEvFr
import Derived.Test.YtjiobeonlanfaaaDLaw
namespace Go.Proofs.Ytjiobeonlanfaaa.disAgrees
open Go.ChangeShapes Go.WideShapes Go.ChangeAt Go.RowKit
set_option linter.unusedVariables false

theorem own : ownKnob Try.prog.godebug = none := by kernel_rfl
theorem laidOut : laidOutB Try.prog = true := by kernel_rfl
def shs : List (Bool × List Go.Ev.Sh) := [(false, [.sl 14 [.int .u8, .int .u8, .int .u8, .int .u8, .int .u8, .int .u8, .int .u8, .int .u8, .int .u8, .int .u8, .int .u8, .int .u8, .int .u8, .bool]]), (false, [.int .i64]), (false, [.int .u8])]
theorem shapes : Go.Ev.argShs Try.prog [22, 3, 5] = some shs := by kernel_rfl
theorem reads : (([22, 3, 5] : List TypeId).all fun t => Try.prog.readableRec t && decide (t < Try.prog.types.size)) = true := by kernel_rfl

set_option maxRecDepth 100000 in
theorem lifted (os : Os) (started : os.Started) (H : Type) (enc : TypeId × Value → H) :
    ReturnsInHanded {} Try.checked os 3 .any (Rows.disAgreesSpec.pre6 enc Try.prog Try.f3 Rows.disAgreesRow.domain false) (Rows.disAgreesSpec.post enc Try.prog Try.f3 false true false false) := by
  refine returnsInHanded_of_change_sized (C := Try.checked) own started (by kernel_rfl) Try.func3
    (ChangeSpec.witness6 (enc := enc) (C := Try.checked) false ⟨#[], #[.slice none 0 0, .int .i64 0, .int .u8 0], []⟩ 12 (by kernel_rfl) (by kernel_rfl) (by kernel_rfl) (by kernel_rfl)) ?_
  intro W base args ds gs before hval0 hW hcnd hsz _
  have hval : ∀ (j : Nat) t v, Try.f3.params[j]? = some t → args[j]? = some v → Value.okWide Try.prog W .any base t v := hval0
  have hW' := hW
  obtain ⟨p, q, hA0, hV, rfl, hfz, hnd⟩ := hW
  have hA : DataW.TrodAll enc Try.prog W 0 (fun _ => true) true Try.f3.params.toList args.toList ds p := hA0
  have hT : Try.f3.params = #[22, 3, 5] := Try.params3
  have hwt := Go.Ev.weights_left hsz
  rw [hT] at hA hval
  have hwt' : ∀ m ∈ DataW.weightsEach Try.prog [22, 3, 5] ds, m ≤ 140737488351232 := hwt
  obtain ⟨us, hok, hlen, hR⟩ := Go.Ev.open_args (r := .any) (base := base) shapes hA (fun j t v ht hv => hval j t v (by simpa using ht) (by simpa using hv)) hwt'
  obtain ⟨us', hv, hc⟩ := Go.Proofs.Ytjiobeonlanfaaa.agrees us hok
  have hsh := fun (W' : World) (bel : Below W.heap.size W W') => Go.Ev.shut_args laidOut bel reads hA
  obtain ⟨v0, vs0, d0, ds0, p0, q0, hargs, rfl, rfl, h0, r0⟩ := trodAll_cons hA
  obtain ⟨v1, vs1, d1, ds1, p1, q1, rfl, rfl, rfl, h1, r1⟩ := trodAll_cons r0
  obtain ⟨v2, vs2, d2, ds2, p2, q2, rfl, rfl, rfl, h2, r2⟩ := trodAll_cons r1
  obtain ⟨rfl, rfl, rfl⟩ := trodAll_nil r2
  obtain ⟨rfl, rfl⟩ := trodVars_none hV
  clear hA0 hval0
  refine (Go.Proofs.Ytjiobeonlanfaaa.okD5.lawV hv hc ⟨_, Go.Ev.FnOk.of Try.func3 (by kernel_rfl), by kernel_rfl⟩ hlen hR).mono fun e W' ⟨he, bel⟩ => ?_
  subst he
  exact ⟨_, rfl, _, _, _, [], _, [], hW', trodAll_mk1 (shut_bool Try.underlying4 _), hsh W' bel, rfl, bel.frame _, fun h => by cases h⟩

theorem over : Rows.disAgreesRow.holds Try.pinned (OpenSpec.ofChange Rows.disAgreesSpec) :=
  OpenClaim.holds_of_wide 3 Try.f3 rfl rfl rfl rfl rfl rfl rfl ⟨rfl, rfl, rfl, rfl, rfl⟩ rfl rfl rfl rfl rfl (by kernel_rfl) Try.func3 (by kernel_rfl)
    (of_decide_eq_true (by kernel_rfl)) (by unfold Func.isWrapper; first | (rw [if_pos (by decide +kernel)]; kernel_rfl) | (rw [if_neg (by decide +kernel)]; exact ⟨rfl, rfl⟩))
    (fun os started H enc _ => lifted os started H enc)

theorem proved : Rows.DisAgreesSaid := over
#print axioms proved
end Go.Proofs.Ytjiobeonlanfaaa.disAgrees
