/- Printed by gen.py. Conditions: none. -/
import Derived.Test.YtgcnlfchpjbhkaaFn
import Derived.KernelRfl
set_option linter.unusedVariables false
set_option maxRecDepth 100000
namespace Go.Proofs.Ytgcnlfchpjbhkaa
open Go.Eng
theorem so28 : SlOk Try.prog 28 1 (.bool false) := SlOk.of (by kernel_rfl)
theorem ty24 : TyOk Try.prog 24 true 8 := TyOk.of (by kernel_rfl)
theorem ty25 : TyOk Try.prog 25 true 8 := TyOk.of (by kernel_rfl)
theorem ty27 : TyOk Try.prog 27 true 3 := TyOk.of (by kernel_rfl)
theorem fl27_1 : FldOk Try.prog 27 1 1 := FldOk.of (by kernel_rfl)
theorem ty3 : TyOk Try.prog 3 false 1 := TyOk.of (by kernel_rfl)
theorem el25 : ElOk Try.prog 25 (some 8) 1 := ElOk.of (by kernel_rfl)
theorem ty22 : TyOk Try.prog 22 false 1 := TyOk.of (by kernel_rfl)
theorem fo19 : FnOk Try.prog 19 := FnOk.of (by kernel_rfl)
theorem fl27_0 : FldOk Try.prog 27 0 0 := FldOk.of (by kernel_rfl)
theorem el24 : ElOk Try.prog 24 (some 8) 1 := ElOk.of (by kernel_rfl)
theorem mixed : Try.prog.follows .mixedOrders = true := by kernel_rfl
theorem ua25 : Try.prog.underlying 25 = some (.array 8 22) := by kernel_rfl
theorem so50 : SlOk Try.prog 50 1 (.int .i64 0) := SlOk.of (by kernel_rfl)
theorem ap50 : ApOk Try.prog 50 1 8 := ApOk.of (by kernel_rfl)
theorem fo22 : FnOk Try.prog 22 := FnOk.of (by kernel_rfl)
theorem el50 : ElOk Try.prog 50 none 1 := ElOk.of (by kernel_rfl)
theorem fo11 : FnOk Try.prog 11 := FnOk.of (by kernel_rfl)
theorem fo20 : FnOk Try.prog 20 := FnOk.of (by kernel_rfl)
theorem fo8 : FnOk Try.prog 8 := FnOk.of (by kernel_rfl)
theorem fo23 : FnOk Try.prog 23 := FnOk.of (by kernel_rfl)
theorem fo21 : FnOk Try.prog 21 := FnOk.of (by kernel_rfl)
theorem fo9 : FnOk Try.prog 9 := FnOk.of (by kernel_rfl)
theorem ap28 : ApOk Try.prog 28 1 1 := ApOk.of (by kernel_rfl)
theorem bo25 : BldOk Try.prog 25 (.ar 8 1) (fun j => (.int .u32 ((fun _ => 0) j))) := BldOk.of (by kernel_rfl)
theorem zr25 : ZeroOk Try.prog 25 (e_a8_u32 (fun _ => 0)) := ZeroOk.of (by kernel_rfl)
theorem bo24 : BldOk Try.prog 24 (.ar 8 1) (fun j => (.int .u32 ((fun _ => 0) j))) := BldOk.of (by kernel_rfl)
theorem zr24 : ZeroOk Try.prog 24 (e_a8_u32 (fun _ => 0)) := ZeroOk.of (by kernel_rfl)
theorem bo27 : BldOk Try.prog 27 (.st [1, 1, 1]) (c_api_Place z_api_Place) := BldOk.of (by kernel_rfl)
theorem zr27 : ZeroOk Try.prog 27 (e_api_Place z_api_Place) := ZeroOk.of (by kernel_rfl)
theorem fo17 : FnOk Try.prog 17 := FnOk.of (by kernel_rfl)
theorem eg27 : Try.prog.eqGuardType Try.prog.depth 27 = false := by kernel_rfl
theorem sh27 : shB Try.prog 9 (e_api_Place z_api_Place) 27 = true := by kernel_rfl
theorem fo12 : FnOk Try.prog 12 := FnOk.of (by kernel_rfl)
theorem fo10 : FnOk Try.prog 10 := FnOk.of (by kernel_rfl)
theorem el28 : ElOk Try.prog 28 none 1 := ElOk.of (by kernel_rfl)
theorem ty4 : TyOk Try.prog 4 false 1 := TyOk.of (by kernel_rfl)
theorem fo13 : FnOk Try.prog 13 := FnOk.of (by kernel_rfl)
theorem fl37_0 : FldOk Try.prog 37 0 0 := FldOk.of (by kernel_rfl)
theorem fo14 : FnOk Try.prog 14 := FnOk.of (by kernel_rfl)
theorem fl37_1 : FldOk Try.prog 37 1 3 := FldOk.of (by kernel_rfl)
theorem fo27 : FnOk Try.prog 27 := FnOk.of (by kernel_rfl)
theorem fo25 : FnOk Try.prog 25 := FnOk.of (by kernel_rfl)
theorem fo28 : FnOk Try.prog 28 := FnOk.of (by kernel_rfl)
theorem fo26 : FnOk Try.prog 26 := FnOk.of (by kernel_rfl)
theorem fl27_2 : FldOk Try.prog 27 2 2 := FldOk.of (by kernel_rfl)
theorem fo24 : FnOk Try.prog 24 := FnOk.of (by kernel_rfl)
theorem fo15 : FnOk Try.prog 15 := FnOk.of (by kernel_rfl)
theorem fo16 : FnOk Try.prog 16 := FnOk.of (by kernel_rfl)
theorem fo18 : FnOk Try.prog 18 := FnOk.of (by kernel_rfl)
theorem fl42_0 : FldOk Try.prog 42 0 0 := FldOk.of (by kernel_rfl)
theorem fl42_1 : FldOk Try.prog 42 1 8 := FldOk.of (by kernel_rfl)
theorem fl45_0 : FldOk Try.prog 45 0 0 := FldOk.of (by kernel_rfl)
theorem fl45_1 : FldOk Try.prog 45 1 8 := FldOk.of (by kernel_rfl)
end Go.Proofs.Ytgcnlfchpjbhkaa
