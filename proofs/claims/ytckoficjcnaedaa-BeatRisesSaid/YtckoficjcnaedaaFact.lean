/- Printed by gen.py. Conditions: none. -/
import Derived.Test.YtckoficjcnaedaaFn
import Derived.KernelRfl
set_option linter.unusedVariables false
set_option maxRecDepth 100000
namespace Go.Proofs.Ytckoficjcnaedaa
open Go.Eng
theorem ty25 : TyOk Try.prog 25 true 17 := TyOk.of (by kernel_rfl)
theorem fl27_0 : FldOk Try.prog 27 0 0 := FldOk.of (by kernel_rfl)
theorem ty3 : TyOk Try.prog 3 false 1 := TyOk.of (by kernel_rfl)
theorem fl27_1 : FldOk Try.prog 27 1 1 := FldOk.of (by kernel_rfl)
theorem ty22 : TyOk Try.prog 22 false 1 := TyOk.of (by kernel_rfl)
theorem zr25 : ZeroOk Try.prog 25 (e_api_Beat z_api_Beat) := ZeroOk.of (by kernel_rfl)
theorem fl25_0 : FldOk Try.prog 25 0 0 := FldOk.of (by kernel_rfl)
theorem fl25_2 : FldOk Try.prog 25 2 9 := FldOk.of (by kernel_rfl)
theorem el23 : ElOk Try.prog 23 (some 8) 1 := ElOk.of (by kernel_rfl)
theorem fl25_1 : FldOk Try.prog 25 1 1 := FldOk.of (by kernel_rfl)
theorem fo7 : FnOk Try.prog 7 := FnOk.of (by kernel_rfl)
theorem fo8 : FnOk Try.prog 8 := FnOk.of (by kernel_rfl)
theorem bo25 : BldOk Try.prog 25 (.st [1, 8, 8]) (c_api_Beat z_api_Beat) := BldOk.of (by kernel_rfl)
theorem fo10 : FnOk Try.prog 10 := FnOk.of (by kernel_rfl)
theorem zr32 : ZeroOk Try.prog 32 (e_a8_u32 (fun _ => 0)) := ZeroOk.of (by kernel_rfl)
theorem ty23 : TyOk Try.prog 23 true 8 := TyOk.of (by kernel_rfl)
theorem ua23 : Try.prog.underlying 23 = some (.array 8 22) := by kernel_rfl
theorem el32 : ElOk Try.prog 32 (some 8) 1 := ElOk.of (by kernel_rfl)
theorem ty32 : TyOk Try.prog 32 true 8 := TyOk.of (by kernel_rfl)
theorem fo12 : FnOk Try.prog 12 := FnOk.of (by kernel_rfl)
theorem bo32 : BldOk Try.prog 32 (.ar 8 1) (fun j => (.int .u32 ((fun _ => 0) j))) := BldOk.of (by kernel_rfl)
theorem eg32 : Try.prog.eqGuardType Try.prog.depth 32 = false := by kernel_rfl
theorem sh32 : shB Try.prog 9 (e_a8_u32 (fun _ => 0)) 32 = true := by kernel_rfl
theorem fo9 : FnOk Try.prog 9 := FnOk.of (by kernel_rfl)
theorem fo11 : FnOk Try.prog 11 := FnOk.of (by kernel_rfl)
theorem eg25 : Try.prog.eqGuardType Try.prog.depth 25 = false := by kernel_rfl
theorem sh25 : shB Try.prog 9 (e_api_Beat z_api_Beat) 25 = true := by kernel_rfl
theorem fo13 : FnOk Try.prog 13 := FnOk.of (by kernel_rfl)
theorem mixed : Try.prog.follows .mixedOrders = true := by kernel_rfl
theorem el35 : ElOk Try.prog 35 none 2 := ElOk.of (by kernel_rfl)
end Go.Proofs.Ytckoficjcnaedaa
