/- Printed by gen.py. Conditions: none. -/
import Derived.Test.YtffnegdahhlncaaFn
import Derived.KernelRfl
set_option linter.unusedVariables false
set_option maxRecDepth 100000
namespace Go.Proofs.Ytffnegdahhlncaa
open Go.Eng
theorem fl25_1 : FldOk Try.prog 25 1 1 := FldOk.of (by kernel_rfl)
theorem ty23 : TyOk Try.prog 23 false 1 := TyOk.of (by kernel_rfl)
theorem fl25_2 : FldOk Try.prog 25 2 2 := FldOk.of (by kernel_rfl)
theorem fl25_3 : FldOk Try.prog 25 3 3 := FldOk.of (by kernel_rfl)
theorem ty3 : TyOk Try.prog 3 false 1 := TyOk.of (by kernel_rfl)
theorem fo20 : FnOk Try.prog 20 := FnOk.of (by kernel_rfl)
theorem el22 : ElOk Try.prog 22 none 4 := ElOk.of (by kernel_rfl)
theorem ty46 : TyOk Try.prog 46 true 4 := TyOk.of (by kernel_rfl)
theorem fl46_0 : FldOk Try.prog 46 0 0 := FldOk.of (by kernel_rfl)
theorem fo27 : FnOk Try.prog 27 := FnOk.of (by kernel_rfl)
theorem fo26 : FnOk Try.prog 26 := FnOk.of (by kernel_rfl)
theorem fo21 : FnOk Try.prog 21 := FnOk.of (by kernel_rfl)
theorem us22 : Try.prog.underlying 22 = some (.slice 46) := by kernel_rfl
theorem so22 : SlOk Try.prog 22 4 (e_api_Right z_api_Right) := SlOk.of (by kernel_rfl)
theorem ap22 : ApOk Try.prog 22 4 32 := ApOk.of (by kernel_rfl)
theorem fo22 : FnOk Try.prog 22 := FnOk.of (by kernel_rfl)
theorem bo46 : BldOk Try.prog 46 (.st [1, 1, 1, 1]) (c_api_Right z_api_Right) := BldOk.of (by kernel_rfl)
theorem fo7 : FnOk Try.prog 7 := FnOk.of (by kernel_rfl)
theorem fo23 : FnOk Try.prog 23 := FnOk.of (by kernel_rfl)
theorem fo8 : FnOk Try.prog 8 := FnOk.of (by kernel_rfl)
theorem fl46_3 : FldOk Try.prog 46 3 3 := FldOk.of (by kernel_rfl)
theorem ty4 : TyOk Try.prog 4 false 1 := TyOk.of (by kernel_rfl)
theorem fl46_2 : FldOk Try.prog 46 2 2 := FldOk.of (by kernel_rfl)
theorem fl46_1 : FldOk Try.prog 46 1 1 := FldOk.of (by kernel_rfl)
theorem fo9 : FnOk Try.prog 9 := FnOk.of (by kernel_rfl)
theorem fo10 : FnOk Try.prog 10 := FnOk.of (by kernel_rfl)
theorem fo11 : FnOk Try.prog 11 := FnOk.of (by kernel_rfl)
theorem fo12 : FnOk Try.prog 12 := FnOk.of (by kernel_rfl)
theorem zr46 : ZeroOk Try.prog 46 (e_api_Right z_api_Right) := ZeroOk.of (by kernel_rfl)
theorem fo17 : FnOk Try.prog 17 := FnOk.of (by kernel_rfl)
theorem fo13 : FnOk Try.prog 13 := FnOk.of (by kernel_rfl)
theorem eg46 : Try.prog.eqGuardType Try.prog.depth 46 = false := by kernel_rfl
theorem sh46 : shB Try.prog 9 (e_api_Right z_api_Right) 46 = true := by kernel_rfl
theorem mixed : Try.prog.follows .mixedOrders = true := by kernel_rfl
theorem fo14 : FnOk Try.prog 14 := FnOk.of (by kernel_rfl)
theorem fo25 : FnOk Try.prog 25 := FnOk.of (by kernel_rfl)
theorem fo24 : FnOk Try.prog 24 := FnOk.of (by kernel_rfl)
theorem fo15 : FnOk Try.prog 15 := FnOk.of (by kernel_rfl)
theorem fo16 : FnOk Try.prog 16 := FnOk.of (by kernel_rfl)
theorem fo18 : FnOk Try.prog 18 := FnOk.of (by kernel_rfl)
theorem el37 : ElOk Try.prog 37 none 4 := ElOk.of (by kernel_rfl)
theorem ty25 : TyOk Try.prog 25 true 4 := TyOk.of (by kernel_rfl)
theorem zr25 : ZeroOk Try.prog 25 (e_congresslaw16_Do z_congresslaw16_Do) := ZeroOk.of (by kernel_rfl)
theorem fl25_0 : FldOk Try.prog 25 0 0 := FldOk.of (by kernel_rfl)
theorem fo19 : FnOk Try.prog 19 := FnOk.of (by kernel_rfl)
end Go.Proofs.Ytffnegdahhlncaa
