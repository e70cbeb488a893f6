import Derived.Test.YtldoaopkpoojfaaProg
import Derived.Test.YtldoaopkpoojfaaEvNa
namespace Go.Proofs.Ytldoaopkpoojfaa
open Go.Ev
set_option linter.unusedVariables false
set_option maxRecDepth 100000
def ty2 : Ty := { size := 1, bytes := 8, kind := .int .i64, zero := [.int .i64 0], eq := false }
def ty3 : Ty := { size := 1, bytes := 8, kind := .int .i64, zero := [.int .i64 0], eq := false }
def ty4 : Ty := { size := 1, bytes := 1, kind := .bool, zero := [.bool false], eq := false }
def ty5 : Ty := { size := 1, bytes := 1, kind := .int .u8, zero := [.int .u8 0], eq := false }
def ty9 : Ty := { size := 1, bytes := 16, kind := .str, zero := [.string ⟨#[]⟩], eq := false }
def ty12 : Ty := { size := 1, bytes := 8, kind := .int .u64, zero := [.int .u64 0], eq := false }
def ty21 : Ty := { size := 1, bytes := 4, kind := .int .i32, zero := [.int .i32 0], eq := false }
def ty22 : Ty := { size := 1, bytes := 24, kind := .slice 5, zero := [.slice none 0 0], eq := false }
def ty24 : Ty := { size := 1, bytes := 8, kind := .int .u64, zero := [.int .u64 0], eq := false }
def ty25 : Ty := { size := 1, bytes := 8, kind := .int .i64, zero := [.int .i64 0], eq := false }
def ty29 : Ty := { size := 1, bytes := 4, kind := .int .u32, zero := [.int .u32 0], eq := false }
def ty34 : Ty := { size := 1, bytes := 2, kind := .int .u16, zero := [.int .u16 0], eq := false }
def ty45 : Ty := { size := 1, bytes := 8, kind := .int .u64, zero := [.int .u64 0], eq := false }
def ty48 : Ty := { size := 1, bytes := 24, kind := .slice 3, zero := [.slice none 0 0], eq := false }
def ty57 : Ty := { size := 6, bytes := 6, kind := .array 6 5, zero := [.int .u8 0, .int .u8 0, .int .u8 0, .int .u8 0, .int .u8 0, .int .u8 0], eq := true }
def ty58 : Ty := { size := 6, bytes := 6, kind := .array 6 5, zero := [.int .u8 0, .int .u8 0, .int .u8 0, .int .u8 0, .int .u8 0, .int .u8 0], eq := true }
def ty84 : Ty := { size := 1, bytes := 8, kind := .other, zero := [.pointer none], eq := false }
def tyT : TypeId → Option Ty
  | 2 => some ty2
  | 3 => some ty3
  | 4 => some ty4
  | 5 => some ty5
  | 9 => some ty9
  | 12 => some ty12
  | 21 => some ty21
  | 22 => some ty22
  | 24 => some ty24
  | 25 => some ty25
  | 29 => some ty29
  | 34 => some ty34
  | 45 => some ty45
  | 48 => some ty48
  | 57 => some ty57
  | 58 => some ty58
  | 84 => some ty84
  | _ => none
noncomputable def fnT : FuncId → Option Func
  | 3 => some Try.f3
  | 4 => some Try.f4
  | 5 => some Try.f5
  | 6 => some Try.f6
  | 7 => some Try.f7
  | 8 => some Try.f8
  | 9 => some Try.f9
  | 10 => some Try.f10
  | 11 => some Try.f11
  | 12 => some Try.f12
  | 13 => some Try.f13
  | 14 => some Try.f14
  | 15 => some Try.f15
  | 16 => some Try.f16
  | 17 => some Try.f17
  | 18 => some Try.f18
  | 19 => some Try.f19
  | 20 => some Try.f20
  | 21 => some Try.f21
  | 22 => some Try.f22
  | 23 => some Try.f23
  | 24 => some Try.f24
  | 25 => some Try.f25
  | 26 => some Try.f26
  | 27 => some Try.f27
  | 28 => some Try.f28
  | 29 => some Try.f29
  | 30 => some Try.f30
  | 31 => some Try.f31
  | 32 => some Try.f32
  | 33 => some Try.f33
  | 34 => some Try.f34
  | 35 => some Try.f35
  | 36 => some Try.f36
  | 37 => some Try.f37
  | 38 => some Try.f38
  | 39 => some Try.f39
  | _ => none
theorem tyOk2 : TyOk Try.prog 2 ty2 := TyOk.of (by kernel_rfl) (by kernel_rfl) (by kernel_rfl)
theorem tyOk3 : TyOk Try.prog 3 ty3 := TyOk.of (by kernel_rfl) (by kernel_rfl) (by kernel_rfl)
theorem tyOk4 : TyOk Try.prog 4 ty4 := TyOk.of (by kernel_rfl) (by kernel_rfl) (by kernel_rfl)
theorem tyOk5 : TyOk Try.prog 5 ty5 := TyOk.of (by kernel_rfl) (by kernel_rfl) (by kernel_rfl)
theorem tyOk9 : TyOk Try.prog 9 ty9 := TyOk.of (by kernel_rfl) (by kernel_rfl) (by kernel_rfl)
theorem tyOk12 : TyOk Try.prog 12 ty12 := TyOk.of (by kernel_rfl) (by kernel_rfl) (by kernel_rfl)
theorem tyOk21 : TyOk Try.prog 21 ty21 := TyOk.of (by kernel_rfl) (by kernel_rfl) (by kernel_rfl)
theorem tyOk22 : TyOk Try.prog 22 ty22 := TyOk.of (by kernel_rfl) (by kernel_rfl) (by kernel_rfl)
theorem tyOk24 : TyOk Try.prog 24 ty24 := TyOk.of (by kernel_rfl) (by kernel_rfl) (by kernel_rfl)
theorem tyOk25 : TyOk Try.prog 25 ty25 := TyOk.of (by kernel_rfl) (by kernel_rfl) (by kernel_rfl)
theorem tyOk29 : TyOk Try.prog 29 ty29 := TyOk.of (by kernel_rfl) (by kernel_rfl) (by kernel_rfl)
theorem tyOk34 : TyOk Try.prog 34 ty34 := TyOk.of (by kernel_rfl) (by kernel_rfl) (by kernel_rfl)
theorem tyOk45 : TyOk Try.prog 45 ty45 := TyOk.of (by kernel_rfl) (by kernel_rfl) (by kernel_rfl)
theorem tyOk48 : TyOk Try.prog 48 ty48 := TyOk.of (by kernel_rfl) (by kernel_rfl) (by kernel_rfl)
theorem tyOk57 : TyOk Try.prog 57 ty57 := TyOk.of (by kernel_rfl) (by kernel_rfl) (by kernel_rfl)
theorem tyOk58 : TyOk Try.prog 58 ty58 := TyOk.of (by kernel_rfl) (by kernel_rfl) (by kernel_rfl)
theorem tyOk84 : TyOk Try.prog 84 ty84 := TyOk.of (by kernel_rfl) (by kernel_rfl) (by kernel_rfl)
theorem tyOk : ∀ t y, tyT t = some y → TyOk Try.prog t y := by
  intro t y h
  unfold tyT at h
  split at h
  · cases h; exact tyOk2
  · cases h; exact tyOk3
  · cases h; exact tyOk4
  · cases h; exact tyOk5
  · cases h; exact tyOk9
  · cases h; exact tyOk12
  · cases h; exact tyOk21
  · cases h; exact tyOk22
  · cases h; exact tyOk24
  · cases h; exact tyOk25
  · cases h; exact tyOk29
  · cases h; exact tyOk34
  · cases h; exact tyOk45
  · cases h; exact tyOk48
  · cases h; exact tyOk57
  · cases h; exact tyOk58
  · cases h; exact tyOk84
  · cases h
theorem eqT57 : Try.prog.eqGuardType Try.prog.depth 57 = false ∧ ∃ d, d ≤ 10000 ∧ ty57.isAgg = true ∧ eqB Try.prog tyT d 57 ty57.zero = true := ⟨by kernel_rfl, 12, by decide, rfl, by kernel_rfl⟩
theorem eqT58 : Try.prog.eqGuardType Try.prog.depth 58 = false ∧ ∃ d, d ≤ 10000 ∧ ty58.isAgg = true ∧ eqB Try.prog tyT d 58 ty58.zero = true := ⟨by kernel_rfl, 12, by decide, rfl, by kernel_rfl⟩
theorem eqOk : EqOk Try.prog tyT := EqOk.of tyOk (by
  intro t y h e
  unfold tyT at h
  split at h
  · cases h; cases e
  · cases h; cases e
  · cases h; cases e
  · cases h; cases e
  · cases h; cases e
  · cases h; cases e
  · cases h; cases e
  · cases h; cases e
  · cases h; cases e
  · cases h; cases e
  · cases h; cases e
  · cases h; cases e
  · cases h; cases e
  · cases h; cases e
  · cases h; exact eqT57
  · cases h; exact eqT58
  · cases h; cases e
  · cases h)
theorem fnOk3 : FnOk Try.prog 3 Try.f3 := FnOk.of (by kernel_rfl) (by kernel_rfl)
theorem fnOk4 : FnOk Try.prog 4 Try.f4 := FnOk.of (by kernel_rfl) (by kernel_rfl)
theorem fnOk5 : FnOk Try.prog 5 Try.f5 := FnOk.of (by kernel_rfl) (by kernel_rfl)
theorem fnOk6 : FnOk Try.prog 6 Try.f6 := FnOk.of (by kernel_rfl) (by kernel_rfl)
theorem fnOk7 : FnOk Try.prog 7 Try.f7 := FnOk.of (by kernel_rfl) (by kernel_rfl)
theorem fnOk8 : FnOk Try.prog 8 Try.f8 := FnOk.of (by kernel_rfl) (by kernel_rfl)
theorem fnOk9 : FnOk Try.prog 9 Try.f9 := FnOk.of (by kernel_rfl) (by kernel_rfl)
theorem fnOk10 : FnOk Try.prog 10 Try.f10 := FnOk.of (by kernel_rfl) (by kernel_rfl)
theorem fnOk11 : FnOk Try.prog 11 Try.f11 := FnOk.of (by kernel_rfl) (by kernel_rfl)
theorem fnOk12 : FnOk Try.prog 12 Try.f12 := FnOk.of (by kernel_rfl) (by kernel_rfl)
theorem fnOk13 : FnOk Try.prog 13 Try.f13 := FnOk.of (by kernel_rfl) (by kernel_rfl)
theorem fnOk14 : FnOk Try.prog 14 Try.f14 := FnOk.of (by kernel_rfl) (by kernel_rfl)
theorem fnOk15 : FnOk Try.prog 15 Try.f15 := FnOk.of (by kernel_rfl) (by kernel_rfl)
theorem fnOk16 : FnOk Try.prog 16 Try.f16 := FnOk.of (by kernel_rfl) (by kernel_rfl)
theorem fnOk17 : FnOk Try.prog 17 Try.f17 := FnOk.of (by kernel_rfl) (by kernel_rfl)
theorem fnOk18 : FnOk Try.prog 18 Try.f18 := FnOk.of (by kernel_rfl) (by kernel_rfl)
theorem fnOk19 : FnOk Try.prog 19 Try.f19 := FnOk.of (by kernel_rfl) (by kernel_rfl)
theorem fnOk20 : FnOk Try.prog 20 Try.f20 := FnOk.of (by kernel_rfl) (by kernel_rfl)
theorem fnOk21 : FnOk Try.prog 21 Try.f21 := FnOk.of (by kernel_rfl) (by kernel_rfl)
theorem fnOk22 : FnOk Try.prog 22 Try.f22 := FnOk.of (by kernel_rfl) (by kernel_rfl)
theorem fnOk23 : FnOk Try.prog 23 Try.f23 := FnOk.of (by kernel_rfl) (by kernel_rfl)
theorem fnOk24 : FnOk Try.prog 24 Try.f24 := FnOk.of (by kernel_rfl) (by kernel_rfl)
theorem fnOk25 : FnOk Try.prog 25 Try.f25 := FnOk.of (by kernel_rfl) (by kernel_rfl)
theorem fnOk26 : FnOk Try.prog 26 Try.f26 := FnOk.of (by kernel_rfl) (by kernel_rfl)
theorem fnOk27 : FnOk Try.prog 27 Try.f27 := FnOk.of (by kernel_rfl) (by kernel_rfl)
theorem fnOk28 : FnOk Try.prog 28 Try.f28 := FnOk.of (by kernel_rfl) (by kernel_rfl)
theorem fnOk29 : FnOk Try.prog 29 Try.f29 := FnOk.of (by kernel_rfl) (by kernel_rfl)
theorem fnOk30 : FnOk Try.prog 30 Try.f30 := FnOk.of (by kernel_rfl) (by kernel_rfl)
theorem fnOk31 : FnOk Try.prog 31 Try.f31 := FnOk.of (by kernel_rfl) (by kernel_rfl)
theorem fnOk32 : FnOk Try.prog 32 Try.f32 := FnOk.of (by kernel_rfl) (by kernel_rfl)
theorem fnOk33 : FnOk Try.prog 33 Try.f33 := FnOk.of (by kernel_rfl) (by kernel_rfl)
theorem fnOk34 : FnOk Try.prog 34 Try.f34 := FnOk.of (by kernel_rfl) (by kernel_rfl)
theorem fnOk35 : FnOk Try.prog 35 Try.f35 := FnOk.of (by kernel_rfl) (by kernel_rfl)
theorem fnOk36 : FnOk Try.prog 36 Try.f36 := FnOk.of (by kernel_rfl) (by kernel_rfl)
theorem fnOk37 : FnOk Try.prog 37 Try.f37 := FnOk.of (by kernel_rfl) (by kernel_rfl)
theorem fnOk38 : FnOk Try.prog 38 Try.f38 := FnOk.of (by kernel_rfl) (by kernel_rfl)
theorem fnOk39 : FnOk Try.prog 39 Try.f39 := FnOk.of (by kernel_rfl) (by kernel_rfl)
theorem fnOk : ∀ f fn, fnT f = some fn → FnOk Try.prog f fn := by
  intro f fn h
  unfold fnT at h
  split at h
  · cases h; exact fnOk3
  · cases h; exact fnOk4
  · cases h; exact fnOk5
  · cases h; exact fnOk6
  · cases h; exact fnOk7
  · cases h; exact fnOk8
  · cases h; exact fnOk9
  · cases h; exact fnOk10
  · cases h; exact fnOk11
  · cases h; exact fnOk12
  · cases h; exact fnOk13
  · cases h; exact fnOk14
  · cases h; exact fnOk15
  · cases h; exact fnOk16
  · cases h; exact fnOk17
  · cases h; exact fnOk18
  · cases h; exact fnOk19
  · cases h; exact fnOk20
  · cases h; exact fnOk21
  · cases h; exact fnOk22
  · cases h; exact fnOk23
  · cases h; exact fnOk24
  · cases h; exact fnOk25
  · cases h; exact fnOk26
  · cases h; exact fnOk27
  · cases h; exact fnOk28
  · cases h; exact fnOk29
  · cases h; exact fnOk30
  · cases h; exact fnOk31
  · cases h; exact fnOk32
  · cases h; exact fnOk33
  · cases h; exact fnOk34
  · cases h; exact fnOk35
  · cases h; exact fnOk36
  · cases h; exact fnOk37
  · cases h; exact fnOk38
  · cases h; exact fnOk39
  · cases h
noncomputable def E0 : Env := { ty := tyT, fn := fnT, ct := fun _ => none, quiet := fun _ => false }
theorem ok0 : EnvOk Try.prog E0 where
  ty := tyOk
  eq := eqOk
  fn := fnOk
  ct := fun f k h => by cases h
  mono := fun f k h => by cases h
  quiet := fun f h => by cases h
  orders := by kernel_rfl
end Go.Proofs.Ytldoaopkpoojfaa
