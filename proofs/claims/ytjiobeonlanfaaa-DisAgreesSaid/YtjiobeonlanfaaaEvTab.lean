import Derived.Test.YtjiobeonlanfaaaProg
import Derived.Test.YtjiobeonlanfaaaEvLb
namespace Go.Proofs.Ytjiobeonlanfaaa
open Go.Ev
set_option linter.unusedVariables false
set_option maxRecDepth 100000
def ty2 : Ty := { size := 1, bytes := 8, kind := .int .i64, zero := [.int .i64 0], eq := false }
def ty3 : Ty := { size := 1, bytes := 8, kind := .int .i64, zero := [.int .i64 0], eq := false }
def ty4 : Ty := { size := 1, bytes := 1, kind := .bool, zero := [.bool false], eq := false }
def ty5 : Ty := { size := 1, bytes := 1, kind := .int .u8, zero := [.int .u8 0], eq := false }
def ty9 : Ty := { size := 1, bytes := 16, kind := .str, zero := [.string ⟨#[]⟩], eq := false }
def ty12 : Ty := { size := 1, bytes := 8, kind := .int .u64, zero := [.int .u64 0], eq := false }
def ty21 : Ty := { size := 1, bytes := 4, kind := .int .i32, zero := [.int .i32 0], eq := false }
def ty22 : Ty := { size := 1, bytes := 24, kind := .slice 27, zero := [.slice none 0 0], eq := false }
def ty24 : Ty := { size := 6, bytes := 6, kind := .array 6 5, zero := [.int .u8 0, .int .u8 0, .int .u8 0, .int .u8 0, .int .u8 0, .int .u8 0], eq := true }
def ty25 : Ty := { size := 6, bytes := 6, kind := .array 6 5, zero := [.int .u8 0, .int .u8 0, .int .u8 0, .int .u8 0, .int .u8 0, .int .u8 0], eq := true }
def ty26 : Ty := { size := 14, bytes := 14, kind := .struct [(0, 25), (6, 24), (12, 5), (13, 4)], zero := [.int .u8 0, .int .u8 0, .int .u8 0, .int .u8 0, .int .u8 0, .int .u8 0, .int .u8 0, .int .u8 0, .int .u8 0, .int .u8 0, .int .u8 0, .int .u8 0, .int .u8 0, .bool false], eq := true }
def ty27 : Ty := { size := 14, bytes := 14, kind := .struct [(0, 25), (6, 24), (12, 5), (13, 4)], zero := [.int .u8 0, .int .u8 0, .int .u8 0, .int .u8 0, .int .u8 0, .int .u8 0, .int .u8 0, .int .u8 0, .int .u8 0, .int .u8 0, .int .u8 0, .int .u8 0, .int .u8 0, .bool false], eq := true }
def ty28 : Ty := { size := 1, bytes := 8, kind := .int .u64, zero := [.int .u64 0], eq := false }
def ty29 : Ty := { size := 1, bytes := 24, kind := .slice 34, zero := [.slice none 0 0], eq := false }
def ty31 : Ty := { size := 1, bytes := 8, kind := .int .i64, zero := [.int .i64 0], eq := false }
def ty34 : Ty := { size := 14, bytes := 14, kind := .struct [(0, 25), (6, 24), (12, 5), (13, 4)], zero := [.int .u8 0, .int .u8 0, .int .u8 0, .int .u8 0, .int .u8 0, .int .u8 0, .int .u8 0, .int .u8 0, .int .u8 0, .int .u8 0, .int .u8 0, .int .u8 0, .int .u8 0, .bool false], eq := true }
def ty36 : Ty := { size := 1, bytes := 24, kind := .slice 5, zero := [.slice none 0 0], eq := false }
def ty47 : Ty := { size := 1, bytes := 24, kind := .slice 58, zero := [.slice none 0 0], eq := false }
def ty54 : Ty := { size := 7, bytes := 7, kind := .struct [(0, 25), (6, 5)], zero := [.int .u8 0, .int .u8 0, .int .u8 0, .int .u8 0, .int .u8 0, .int .u8 0, .int .u8 0], eq := true }
def ty55 : Ty := { size := 7, bytes := 7, kind := .struct [(0, 25), (6, 5)], zero := [.int .u8 0, .int .u8 0, .int .u8 0, .int .u8 0, .int .u8 0, .int .u8 0, .int .u8 0], eq := true }
def ty56 : Ty := { size := 1, bytes := 4, kind := .int .u32, zero := [.int .u32 0], eq := false }
def ty57 : Ty := { size := 8, bytes := 12, kind := .struct [(0, 55), (7, 56)], zero := [.int .u8 0, .int .u8 0, .int .u8 0, .int .u8 0, .int .u8 0, .int .u8 0, .int .u8 0, .int .u32 0], eq := true }
def ty58 : Ty := { size := 8, bytes := 12, kind := .struct [(0, 55), (7, 56)], zero := [.int .u8 0, .int .u8 0, .int .u8 0, .int .u8 0, .int .u8 0, .int .u8 0, .int .u8 0, .int .u32 0], eq := true }
def ty67 : Ty := { size := 1, bytes := 8, kind := .int .u64, zero := [.int .u64 0], eq := false }
def ty72 : Ty := { size := 1, bytes := 24, kind := .slice 3, zero := [.slice none 0 0], eq := false }
def ty78 : Ty := { size := 1, bytes := 8, kind := .int .i64, zero := [.int .i64 0], eq := false }
def ty87 : Ty := { size := 1, bytes := 8, kind := .int .u64, zero := [.int .u64 0], eq := false }
def ty91 : Ty := { size := 1, bytes := 8, kind := .other, zero := [.pointer none], eq := false }
def ty93 : Ty := { size := 1, bytes := 8, kind := .other, zero := [.pointer none], eq := false }
def ty105 : Ty := { size := 1, bytes := 8, kind := .other, zero := [.pointer none], eq := false }
def tyT : TypeId → Option Ty
  | 2 => some ty2
  | 3 => some ty3
  | 4 => some ty4
  | 5 => some ty5
  | 9 => some ty9
  | 12 => some ty12
  | 21 => some ty21
  | 22 => some ty22
  | 24 => some ty24
  | 25 => some ty25
  | 26 => some ty26
  | 27 => some ty27
  | 28 => some ty28
  | 29 => some ty29
  | 31 => some ty31
  | 34 => some ty34
  | 36 => some ty36
  | 47 => some ty47
  | 54 => some ty54
  | 55 => some ty55
  | 56 => some ty56
  | 57 => some ty57
  | 58 => some ty58
  | 67 => some ty67
  | 72 => some ty72
  | 78 => some ty78
  | 87 => some ty87
  | 91 => some ty91
  | 93 => some ty93
  | 105 => some ty105
  | _ => none
noncomputable def fnT : FuncId → Option Func
  | 3 => some Try.f3
  | 4 => some Try.f4
  | 5 => some Try.f5
  | 6 => some Try.f6
  | 7 => some Try.f7
  | 8 => some Try.f8
  | 9 => some Try.f9
  | 10 => some Try.f10
  | 11 => some Try.f11
  | 12 => some Try.f12
  | 13 => some Try.f13
  | 14 => some Try.f14
  | 15 => some Try.f15
  | 16 => some Try.f16
  | 17 => some Try.f17
  | 18 => some Try.f18
  | 19 => some Try.f19
  | 20 => some Try.f20
  | 21 => some Try.f21
  | 22 => some Try.f22
  | 23 => some Try.f23
  | 24 => some Try.f24
  | 25 => some Try.f25
  | 26 => some Try.f26
  | 27 => some Try.f27
  | 28 => some Try.f28
  | 30 => some Try.f30
  | 31 => some Try.f31
  | 32 => some Try.f32
  | 33 => some Try.f33
  | 34 => some Try.f34
  | 35 => some Try.f35
  | 36 => some Try.f36
  | 37 => some Try.f37
  | 38 => some Try.f38
  | 39 => some Try.f39
  | 40 => some Try.f40
  | 41 => some Try.f41
  | 42 => some Try.f42
  | 43 => some Try.f43
  | 44 => some Try.f44
  | 45 => some Try.f45
  | 46 => some Try.f46
  | 47 => some Try.f47
  | 48 => some Try.f48
  | _ => none
theorem tyOk2 : TyOk Try.prog 2 ty2 := TyOk.of (by kernel_rfl) (by kernel_rfl) (by kernel_rfl)
theorem tyOk3 : TyOk Try.prog 3 ty3 := TyOk.of (by kernel_rfl) (by kernel_rfl) (by kernel_rfl)
theorem tyOk4 : TyOk Try.prog 4 ty4 := TyOk.of (by kernel_rfl) (by kernel_rfl) (by kernel_rfl)
theorem tyOk5 : TyOk Try.prog 5 ty5 := TyOk.of (by kernel_rfl) (by kernel_rfl) (by kernel_rfl)
theorem tyOk9 : TyOk Try.prog 9 ty9 := TyOk.of (by kernel_rfl) (by kernel_rfl) (by kernel_rfl)
theorem tyOk12 : TyOk Try.prog 12 ty12 := TyOk.of (by kernel_rfl) (by kernel_rfl) (by kernel_rfl)
theorem tyOk21 : TyOk Try.prog 21 ty21 := TyOk.of (by kernel_rfl) (by kernel_rfl) (by kernel_rfl)
theorem tyOk22 : TyOk Try.prog 22 ty22 := TyOk.of (by kernel_rfl) (by kernel_rfl) (by kernel_rfl)
theorem tyOk24 : TyOk Try.prog 24 ty24 := TyOk.of (by kernel_rfl) (by kernel_rfl) (by kernel_rfl)
theorem tyOk25 : TyOk Try.prog 25 ty25 := TyOk.of (by kernel_rfl) (by kernel_rfl) (by kernel_rfl)
theorem tyOk26 : TyOk Try.prog 26 ty26 := TyOk.of (by kernel_rfl) (by kernel_rfl) (by kernel_rfl)
theorem tyOk27 : TyOk Try.prog 27 ty27 := TyOk.of (by kernel_rfl) (by kernel_rfl) (by kernel_rfl)
theorem tyOk28 : TyOk Try.prog 28 ty28 := TyOk.of (by kernel_rfl) (by kernel_rfl) (by kernel_rfl)
theorem tyOk29 : TyOk Try.prog 29 ty29 := TyOk.of (by kernel_rfl) (by kernel_rfl) (by kernel_rfl)
theorem tyOk31 : TyOk Try.prog 31 ty31 := TyOk.of (by kernel_rfl) (by kernel_rfl) (by kernel_rfl)
theorem tyOk34 : TyOk Try.prog 34 ty34 := TyOk.of (by kernel_rfl) (by kernel_rfl) (by kernel_rfl)
theorem tyOk36 : TyOk Try.prog 36 ty36 := TyOk.of (by kernel_rfl) (by kernel_rfl) (by kernel_rfl)
theorem tyOk47 : TyOk Try.prog 47 ty47 := TyOk.of (by kernel_rfl) (by kernel_rfl) (by kernel_rfl)
theorem tyOk54 : TyOk Try.prog 54 ty54 := TyOk.of (by kernel_rfl) (by kernel_rfl) (by kernel_rfl)
theorem tyOk55 : TyOk Try.prog 55 ty55 := TyOk.of (by kernel_rfl) (by kernel_rfl) (by kernel_rfl)
theorem tyOk56 : TyOk Try.prog 56 ty56 := TyOk.of (by kernel_rfl) (by kernel_rfl) (by kernel_rfl)
theorem tyOk57 : TyOk Try.prog 57 ty57 := TyOk.of (by kernel_rfl) (by kernel_rfl) (by kernel_rfl)
theorem tyOk58 : TyOk Try.prog 58 ty58 := TyOk.of (by kernel_rfl) (by kernel_rfl) (by kernel_rfl)
theorem tyOk67 : TyOk Try.prog 67 ty67 := TyOk.of (by kernel_rfl) (by kernel_rfl) (by kernel_rfl)
theorem tyOk72 : TyOk Try.prog 72 ty72 := TyOk.of (by kernel_rfl) (by kernel_rfl) (by kernel_rfl)
theorem tyOk78 : TyOk Try.prog 78 ty78 := TyOk.of (by kernel_rfl) (by kernel_rfl) (by kernel_rfl)
theorem tyOk87 : TyOk Try.prog 87 ty87 := TyOk.of (by kernel_rfl) (by kernel_rfl) (by kernel_rfl)
theorem tyOk91 : TyOk Try.prog 91 ty91 := TyOk.of (by kernel_rfl) (by kernel_rfl) (by kernel_rfl)
theorem tyOk93 : TyOk Try.prog 93 ty93 := TyOk.of (by kernel_rfl) (by kernel_rfl) (by kernel_rfl)
theorem tyOk105 : TyOk Try.prog 105 ty105 := TyOk.of (by kernel_rfl) (by kernel_rfl) (by kernel_rfl)
theorem tyOk : ∀ t y, tyT t = some y → TyOk Try.prog t y := by
  intro t y h
  unfold tyT at h
  split at h
  · cases h; exact tyOk2
  · cases h; exact tyOk3
  · cases h; exact tyOk4
  · cases h; exact tyOk5
  · cases h; exact tyOk9
  · cases h; exact tyOk12
  · cases h; exact tyOk21
  · cases h; exact tyOk22
  · cases h; exact tyOk24
  · cases h; exact tyOk25
  · cases h; exact tyOk26
  · cases h; exact tyOk27
  · cases h; exact tyOk28
  · cases h; exact tyOk29
  · cases h; exact tyOk31
  · cases h; exact tyOk34
  · cases h; exact tyOk36
  · cases h; exact tyOk47
  · cases h; exact tyOk54
  · cases h; exact tyOk55
  · cases h; exact tyOk56
  · cases h; exact tyOk57
  · cases h; exact tyOk58
  · cases h; exact tyOk67
  · cases h; exact tyOk72
  · cases h; exact tyOk78
  · cases h; exact tyOk87
  · cases h; exact tyOk91
  · cases h; exact tyOk93
  · cases h; exact tyOk105
  · cases h
theorem eqT24 : Try.prog.eqGuardType Try.prog.depth 24 = false ∧ ∃ d, d ≤ 10000 ∧ ty24.isAgg = true ∧ eqB Try.prog tyT d 24 ty24.zero = true := ⟨by kernel_rfl, 12, by decide, rfl, by kernel_rfl⟩
theorem eqT25 : Try.prog.eqGuardType Try.prog.depth 25 = false ∧ ∃ d, d ≤ 10000 ∧ ty25.isAgg = true ∧ eqB Try.prog tyT d 25 ty25.zero = true := ⟨by kernel_rfl, 12, by decide, rfl, by kernel_rfl⟩
theorem eqT26 : Try.prog.eqGuardType Try.prog.depth 26 = false ∧ ∃ d, d ≤ 10000 ∧ ty26.isAgg = true ∧ eqB Try.prog tyT d 26 ty26.zero = true := ⟨by kernel_rfl, 12, by decide, rfl, by kernel_rfl⟩
theorem eqT27 : Try.prog.eqGuardType Try.prog.depth 27 = false ∧ ∃ d, d ≤ 10000 ∧ ty27.isAgg = true ∧ eqB Try.prog tyT d 27 ty27.zero = true := ⟨by kernel_rfl, 12, by decide, rfl, by kernel_rfl⟩
theorem eqT34 : Try.prog.eqGuardType Try.prog.depth 34 = false ∧ ∃ d, d ≤ 10000 ∧ ty34.isAgg = true ∧ eqB Try.prog tyT d 34 ty34.zero = true := ⟨by kernel_rfl, 12, by decide, rfl, by kernel_rfl⟩
theorem eqT54 : Try.prog.eqGuardType Try.prog.depth 54 = false ∧ ∃ d, d ≤ 10000 ∧ ty54.isAgg = true ∧ eqB Try.prog tyT d 54 ty54.zero = true := ⟨by kernel_rfl, 12, by decide, rfl, by kernel_rfl⟩
theorem eqT55 : Try.prog.eqGuardType Try.prog.depth 55 = false ∧ ∃ d, d ≤ 10000 ∧ ty55.isAgg = true ∧ eqB Try.prog tyT d 55 ty55.zero = true := ⟨by kernel_rfl, 12, by decide, rfl, by kernel_rfl⟩
theorem eqT57 : Try.prog.eqGuardType Try.prog.depth 57 = false ∧ ∃ d, d ≤ 10000 ∧ ty57.isAgg = true ∧ eqB Try.prog tyT d 57 ty57.zero = true := ⟨by kernel_rfl, 12, by decide, rfl, by kernel_rfl⟩
theorem eqT58 : Try.prog.eqGuardType Try.prog.depth 58 = false ∧ ∃ d, d ≤ 10000 ∧ ty58.isAgg = true ∧ eqB Try.prog tyT d 58 ty58.zero = true := ⟨by kernel_rfl, 12, by decide, rfl, by kernel_rfl⟩
theorem eqOk : EqOk Try.prog tyT := EqOk.of tyOk (by
  intro t y h e
  unfold tyT at h
  split at h
  · cases h; cases e
  · cases h; cases e
  · cases h; cases e
  · cases h; cases e
  · cases h; cases e
  · cases h; cases e
  · cases h; cases e
  · cases h; cases e
  · cases h; exact eqT24
  · cases h; exact eqT25
  · cases h; exact eqT26
  · cases h; exact eqT27
  · cases h; cases e
  · cases h; cases e
  · cases h; cases e
  · cases h; exact eqT34
  · cases h; cases e
  · cases h; cases e
  · cases h; exact eqT54
  · cases h; exact eqT55
  · cases h; cases e
  · cases h; exact eqT57
  · cases h; exact eqT58
  · cases h; cases e
  · cases h; cases e
  · cases h; cases e
  · cases h; cases e
  · cases h; cases e
  · cases h; cases e
  · cases h; cases e
  · cases h)
theorem fnOk3 : FnOk Try.prog 3 Try.f3 := FnOk.of (by kernel_rfl) (by kernel_rfl)
theorem fnOk4 : FnOk Try.prog 4 Try.f4 := FnOk.of (by kernel_rfl) (by kernel_rfl)
theorem fnOk5 : FnOk Try.prog 5 Try.f5 := FnOk.of (by kernel_rfl) (by kernel_rfl)
theorem fnOk6 : FnOk Try.prog 6 Try.f6 := FnOk.of (by kernel_rfl) (by kernel_rfl)
theorem fnOk7 : FnOk Try.prog 7 Try.f7 := FnOk.of (by kernel_rfl) (by kernel_rfl)
theorem fnOk8 : FnOk Try.prog 8 Try.f8 := FnOk.of (by kernel_rfl) (by kernel_rfl)
theorem fnOk9 : FnOk Try.prog 9 Try.f9 := FnOk.of (by kernel_rfl) (by kernel_rfl)
theorem fnOk10 : FnOk Try.prog 10 Try.f10 := FnOk.of (by kernel_rfl) (by kernel_rfl)
theorem fnOk11 : FnOk Try.prog 11 Try.f11 := FnOk.of (by kernel_rfl) (by kernel_rfl)
theorem fnOk12 : FnOk Try.prog 12 Try.f12 := FnOk.of (by kernel_rfl) (by kernel_rfl)
theorem fnOk13 : FnOk Try.prog 13 Try.f13 := FnOk.of (by kernel_rfl) (by kernel_rfl)
theorem fnOk14 : FnOk Try.prog 14 Try.f14 := FnOk.of (by kernel_rfl) (by kernel_rfl)
theorem fnOk15 : FnOk Try.prog 15 Try.f15 := FnOk.of (by kernel_rfl) (by kernel_rfl)
theorem fnOk16 : FnOk Try.prog 16 Try.f16 := FnOk.of (by kernel_rfl) (by kernel_rfl)
theorem fnOk17 : FnOk Try.prog 17 Try.f17 := FnOk.of (by kernel_rfl) (by kernel_rfl)
theorem fnOk18 : FnOk Try.prog 18 Try.f18 := FnOk.of (by kernel_rfl) (by kernel_rfl)
theorem fnOk19 : FnOk Try.prog 19 Try.f19 := FnOk.of (by kernel_rfl) (by kernel_rfl)
theorem fnOk20 : FnOk Try.prog 20 Try.f20 := FnOk.of (by kernel_rfl) (by kernel_rfl)
theorem fnOk21 : FnOk Try.prog 21 Try.f21 := FnOk.of (by kernel_rfl) (by kernel_rfl)
theorem fnOk22 : FnOk Try.prog 22 Try.f22 := FnOk.of (by kernel_rfl) (by kernel_rfl)
theorem fnOk23 : FnOk Try.prog 23 Try.f23 := FnOk.of (by kernel_rfl) (by kernel_rfl)
theorem fnOk24 : FnOk Try.prog 24 Try.f24 := FnOk.of (by kernel_rfl) (by kernel_rfl)
theorem fnOk25 : FnOk Try.prog 25 Try.f25 := FnOk.of (by kernel_rfl) (by kernel_rfl)
theorem fnOk26 : FnOk Try.prog 26 Try.f26 := FnOk.of (by kernel_rfl) (by kernel_rfl)
theorem fnOk27 : FnOk Try.prog 27 Try.f27 := FnOk.of (by kernel_rfl) (by kernel_rfl)
theorem fnOk28 : FnOk Try.prog 28 Try.f28 := FnOk.of (by kernel_rfl) (by kernel_rfl)
theorem fnOk30 : FnOk Try.prog 30 Try.f30 := FnOk.of (by kernel_rfl) (by kernel_rfl)
theorem fnOk31 : FnOk Try.prog 31 Try.f31 := FnOk.of (by kernel_rfl) (by kernel_rfl)
theorem fnOk32 : FnOk Try.prog 32 Try.f32 := FnOk.of (by kernel_rfl) (by kernel_rfl)
theorem fnOk33 : FnOk Try.prog 33 Try.f33 := FnOk.of (by kernel_rfl) (by kernel_rfl)
theorem fnOk34 : FnOk Try.prog 34 Try.f34 := FnOk.of (by kernel_rfl) (by kernel_rfl)
theorem fnOk35 : FnOk Try.prog 35 Try.f35 := FnOk.of (by kernel_rfl) (by kernel_rfl)
theorem fnOk36 : FnOk Try.prog 36 Try.f36 := FnOk.of (by kernel_rfl) (by kernel_rfl)
theorem fnOk37 : FnOk Try.prog 37 Try.f37 := FnOk.of (by kernel_rfl) (by kernel_rfl)
theorem fnOk38 : FnOk Try.prog 38 Try.f38 := FnOk.of (by kernel_rfl) (by kernel_rfl)
theorem fnOk39 : FnOk Try.prog 39 Try.f39 := FnOk.of (by kernel_rfl) (by kernel_rfl)
theorem fnOk40 : FnOk Try.prog 40 Try.f40 := FnOk.of (by kernel_rfl) (by kernel_rfl)
theorem fnOk41 : FnOk Try.prog 41 Try.f41 := FnOk.of (by kernel_rfl) (by kernel_rfl)
theorem fnOk42 : FnOk Try.prog 42 Try.f42 := FnOk.of (by kernel_rfl) (by kernel_rfl)
theorem fnOk43 : FnOk Try.prog 43 Try.f43 := FnOk.of (by kernel_rfl) (by kernel_rfl)
theorem fnOk44 : FnOk Try.prog 44 Try.f44 := FnOk.of (by kernel_rfl) (by kernel_rfl)
theorem fnOk45 : FnOk Try.prog 45 Try.f45 := FnOk.of (by kernel_rfl) (by kernel_rfl)
theorem fnOk46 : FnOk Try.prog 46 Try.f46 := FnOk.of (by kernel_rfl) (by kernel_rfl)
theorem fnOk47 : FnOk Try.prog 47 Try.f47 := FnOk.of (by kernel_rfl) (by kernel_rfl)
theorem fnOk48 : FnOk Try.prog 48 Try.f48 := FnOk.of (by kernel_rfl) (by kernel_rfl)
theorem fnOk : ∀ f fn, fnT f = some fn → FnOk Try.prog f fn := by
  intro f fn h
  unfold fnT at h
  split at h
  · cases h; exact fnOk3
  · cases h; exact fnOk4
  · cases h; exact fnOk5
  · cases h; exact fnOk6
  · cases h; exact fnOk7
  · cases h; exact fnOk8
  · cases h; exact fnOk9
  · cases h; exact fnOk10
  · cases h; exact fnOk11
  · cases h; exact fnOk12
  · cases h; exact fnOk13
  · cases h; exact fnOk14
  · cases h; exact fnOk15
  · cases h; exact fnOk16
  · cases h; exact fnOk17
  · cases h; exact fnOk18
  · cases h; exact fnOk19
  · cases h; exact fnOk20
  · cases h; exact fnOk21
  · cases h; exact fnOk22
  · cases h; exact fnOk23
  · cases h; exact fnOk24
  · cases h; exact fnOk25
  · cases h; exact fnOk26
  · cases h; exact fnOk27
  · cases h; exact fnOk28
  · cases h; exact fnOk30
  · cases h; exact fnOk31
  · cases h; exact fnOk32
  · cases h; exact fnOk33
  · cases h; exact fnOk34
  · cases h; exact fnOk35
  · cases h; exact fnOk36
  · cases h; exact fnOk37
  · cases h; exact fnOk38
  · cases h; exact fnOk39
  · cases h; exact fnOk40
  · cases h; exact fnOk41
  · cases h; exact fnOk42
  · cases h; exact fnOk43
  · cases h; exact fnOk44
  · cases h; exact fnOk45
  · cases h; exact fnOk46
  · cases h; exact fnOk47
  · cases h; exact fnOk48
  · cases h
noncomputable def E0 : Env := { ty := tyT, fn := fnT, ct := fun _ => none, quiet := fun _ => false }
theorem ok0 : EnvOk Try.prog E0 where
  ty := tyOk
  eq := eqOk
  fn := fnOk
  ct := fun f k h => by cases h
  mono := fun f k h => by cases h
  quiet := fun f h => by cases h
  orders := by kernel_rfl
end Go.Proofs.Ytjiobeonlanfaaa
