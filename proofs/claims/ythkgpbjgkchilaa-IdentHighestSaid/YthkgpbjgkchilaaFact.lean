/- Printed by gen.py. Conditions: none. -/
import Derived.Test.YthkgpbjgkchilaaFn
import Derived.KernelRfl
set_option linter.unusedVariables false
set_option maxRecDepth 100000
namespace Go.Proofs.Ythkgpbjgkchilaa
open Go.Eng
theorem ty24 : TyOk Try.prog 24 true 3 := TyOk.of (by kernel_rfl)
theorem fl24_0 : FldOk Try.prog 24 0 0 := FldOk.of (by kernel_rfl)
theorem ty22 : TyOk Try.prog 22 false 1 := TyOk.of (by kernel_rfl)
theorem fo23 : FnOk Try.prog 23 := FnOk.of (by kernel_rfl)
theorem fo21 : FnOk Try.prog 21 := FnOk.of (by kernel_rfl)
theorem fl24_1 : FldOk Try.prog 24 1 1 := FldOk.of (by kernel_rfl)
theorem fl24_2 : FldOk Try.prog 24 2 2 := FldOk.of (by kernel_rfl)
theorem so33 : SlOk Try.prog 33 1 (.int .i64 0) := SlOk.of (by kernel_rfl)
theorem el33 : ElOk Try.prog 33 none 1 := ElOk.of (by kernel_rfl)
theorem ty3 : TyOk Try.prog 3 false 1 := TyOk.of (by kernel_rfl)
theorem fo20 : FnOk Try.prog 20 := FnOk.of (by kernel_rfl)
theorem mixed : Try.prog.follows .mixedOrders = true := by kernel_rfl
theorem fo8 : FnOk Try.prog 8 := FnOk.of (by kernel_rfl)
theorem bo24 : BldOk Try.prog 24 (.st [1, 1, 1]) (c_api_Id z_api_Id) := BldOk.of (by kernel_rfl)
theorem zr24 : ZeroOk Try.prog 24 (e_api_Id z_api_Id) := ZeroOk.of (by kernel_rfl)
theorem bo32 : BldOk Try.prog 32 (.ar 8 1) (fun j => (.int .u32 ((fun _ => 0) j))) := BldOk.of (by kernel_rfl)
theorem zr32 : ZeroOk Try.prog 32 (e_a8_u32 (fun _ => 0)) := ZeroOk.of (by kernel_rfl)
theorem ty32 : TyOk Try.prog 32 true 8 := TyOk.of (by kernel_rfl)
theorem ua32 : Try.prog.underlying 32 = some (.array 8 22) := by kernel_rfl
theorem ap33 : ApOk Try.prog 33 1 8 := ApOk.of (by kernel_rfl)
theorem fo11 : FnOk Try.prog 11 := FnOk.of (by kernel_rfl)
theorem fo12 : FnOk Try.prog 12 := FnOk.of (by kernel_rfl)
theorem so28 : SlOk Try.prog 28 3 (e_api_Id z_api_Id) := SlOk.of (by kernel_rfl)
theorem el28 : ElOk Try.prog 28 none 3 := ElOk.of (by kernel_rfl)
theorem fo10 : FnOk Try.prog 10 := FnOk.of (by kernel_rfl)
theorem eg24 : Try.prog.eqGuardType Try.prog.depth 24 = false := by kernel_rfl
theorem sh24 : shB Try.prog 9 (e_api_Id z_api_Id) 24 = true := by kernel_rfl
theorem fo13 : FnOk Try.prog 13 := FnOk.of (by kernel_rfl)
theorem el32 : ElOk Try.prog 32 (some 8) 1 := ElOk.of (by kernel_rfl)
theorem fo14 : FnOk Try.prog 14 := FnOk.of (by kernel_rfl)
theorem fo9 : FnOk Try.prog 9 := FnOk.of (by kernel_rfl)
theorem ap28 : ApOk Try.prog 28 3 12 := ApOk.of (by kernel_rfl)
theorem fl41_0 : FldOk Try.prog 41 0 0 := FldOk.of (by kernel_rfl)
theorem fo15 : FnOk Try.prog 15 := FnOk.of (by kernel_rfl)
theorem fl41_2 : FldOk Try.prog 41 2 16 := FldOk.of (by kernel_rfl)
theorem fl41_3 : FldOk Try.prog 41 3 17 := FldOk.of (by kernel_rfl)
theorem zr48 : ZeroOk Try.prog 48 (e_a3_u32 (fun _ => 0)) := ZeroOk.of (by kernel_rfl)
theorem bo48 : BldOk Try.prog 48 (.ar 3 1) (fun j => (.int .u32 ((fun _ => 0) j))) := BldOk.of (by kernel_rfl)
theorem ty48 : TyOk Try.prog 48 true 3 := TyOk.of (by kernel_rfl)
theorem fo22 : FnOk Try.prog 22 := FnOk.of (by kernel_rfl)
theorem el48 : ElOk Try.prog 48 (some 3) 1 := ElOk.of (by kernel_rfl)
theorem fo16 : FnOk Try.prog 16 := FnOk.of (by kernel_rfl)
theorem fo17 : FnOk Try.prog 17 := FnOk.of (by kernel_rfl)
theorem fl41_1 : FldOk Try.prog 41 1 8 := FldOk.of (by kernel_rfl)
theorem fo18 : FnOk Try.prog 18 := FnOk.of (by kernel_rfl)
theorem fo19 : FnOk Try.prog 19 := FnOk.of (by kernel_rfl)
theorem eg32 : Try.prog.eqGuardType Try.prog.depth 32 = false := by kernel_rfl
theorem sh32 : shB Try.prog 9 (e_a8_u32 (fun _ => 0)) 32 = true := by kernel_rfl
end Go.Proofs.Ythkgpbjgkchilaa
