/- Printed by gen.py. Conditions: none. -/
import Derived.Test.YtbcjnggdielljaaFn
import Derived.KernelRfl
set_option linter.unusedVariables false
set_option maxRecDepth 100000
namespace Go.Proofs.Ytbcjnggdielljaa
open Go.Eng
theorem ty25 : TyOk Try.prog 25 true 2 := TyOk.of (by kernel_rfl)
theorem zr25 : ZeroOk Try.prog 25 (e_api_Roster z_api_Roster) := ZeroOk.of (by kernel_rfl)
theorem fl25_1 : FldOk Try.prog 25 1 1 := FldOk.of (by kernel_rfl)
theorem ty23 : TyOk Try.prog 23 false 1 := TyOk.of (by kernel_rfl)
theorem el23 : ElOk Try.prog 23 none 2 := ElOk.of (by kernel_rfl)
theorem fl25_0 : FldOk Try.prog 25 0 0 := FldOk.of (by kernel_rfl)
theorem ty22 : TyOk Try.prog 22 false 1 := TyOk.of (by kernel_rfl)
theorem bo25 : BldOk Try.prog 25 (.st [1, 1]) (c_api_Roster z_api_Roster) := BldOk.of (by kernel_rfl)
theorem us23 : Try.prog.underlying 23 = some (.slice 41) := by kernel_rfl
theorem so23 : SlOk Try.prog 23 2 (e_api_Session z_api_Session) := SlOk.of (by kernel_rfl)
theorem ap23 : ApOk Try.prog 23 2 16 := ApOk.of (by kernel_rfl)
theorem fo22 : FnOk Try.prog 22 := FnOk.of (by kernel_rfl)
theorem fo19 : FnOk Try.prog 19 := FnOk.of (by kernel_rfl)
theorem bo41 : BldOk Try.prog 41 (.st [1, 1]) (c_api_Session z_api_Session) := BldOk.of (by kernel_rfl)
theorem mixed : Try.prog.follows .mixedOrders = true := by kernel_rfl
theorem fo7 : FnOk Try.prog 7 := FnOk.of (by kernel_rfl)
theorem fo8 : FnOk Try.prog 8 := FnOk.of (by kernel_rfl)
theorem ty41 : TyOk Try.prog 41 true 2 := TyOk.of (by kernel_rfl)
theorem fl41_0 : FldOk Try.prog 41 0 0 := FldOk.of (by kernel_rfl)
theorem fo24 : FnOk Try.prog 24 := FnOk.of (by kernel_rfl)
theorem fo23 : FnOk Try.prog 23 := FnOk.of (by kernel_rfl)
theorem fo20 : FnOk Try.prog 20 := FnOk.of (by kernel_rfl)
theorem fo21 : FnOk Try.prog 21 := FnOk.of (by kernel_rfl)
theorem fo9 : FnOk Try.prog 9 := FnOk.of (by kernel_rfl)
theorem fo16 : FnOk Try.prog 16 := FnOk.of (by kernel_rfl)
theorem fo10 : FnOk Try.prog 10 := FnOk.of (by kernel_rfl)
theorem fl41_1 : FldOk Try.prog 41 1 1 := FldOk.of (by kernel_rfl)
theorem fo11 : FnOk Try.prog 11 := FnOk.of (by kernel_rfl)
theorem fo12 : FnOk Try.prog 12 := FnOk.of (by kernel_rfl)
theorem fo15 : FnOk Try.prog 15 := FnOk.of (by kernel_rfl)
theorem zr41 : ZeroOk Try.prog 41 (e_api_Session z_api_Session) := ZeroOk.of (by kernel_rfl)
theorem fo17 : FnOk Try.prog 17 := FnOk.of (by kernel_rfl)
theorem fo13 : FnOk Try.prog 13 := FnOk.of (by kernel_rfl)
theorem eg41 : Try.prog.eqGuardType Try.prog.depth 41 = false := by kernel_rfl
theorem sh41 : shB Try.prog 9 (e_api_Session z_api_Session) 41 = true := by kernel_rfl
theorem fo14 : FnOk Try.prog 14 := FnOk.of (by kernel_rfl)
theorem fo18 : FnOk Try.prog 18 := FnOk.of (by kernel_rfl)
theorem el37 : ElOk Try.prog 37 none 2 := ElOk.of (by kernel_rfl)
theorem fl39_0 : FldOk Try.prog 39 0 0 := FldOk.of (by kernel_rfl)
theorem ty3 : TyOk Try.prog 3 false 1 := TyOk.of (by kernel_rfl)
theorem fl39_1 : FldOk Try.prog 39 1 1 := FldOk.of (by kernel_rfl)
end Go.Proofs.Ytbcjnggdielljaa
