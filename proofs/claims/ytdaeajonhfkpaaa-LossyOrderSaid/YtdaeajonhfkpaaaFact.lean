/- Printed by gen.py. Conditions: none. -/
import Derived.Test.YtdaeajonhfkpaaaFn
import Derived.KernelRfl
set_option linter.unusedVariables false
set_option maxRecDepth 100000
namespace Go.Proofs.Ytdaeajonhfkpaaa
open Go.Eng
theorem fl25_0 : FldOk Try.prog 25 0 0 := FldOk.of (by kernel_rfl)
theorem ty3 : TyOk Try.prog 3 false 1 := TyOk.of (by kernel_rfl)
theorem fl25_1 : FldOk Try.prog 25 1 1 := FldOk.of (by kernel_rfl)
theorem fl25_2 : FldOk Try.prog 25 2 2 := FldOk.of (by kernel_rfl)
theorem zr27 : ZeroOk Try.prog 27 (e_api_Letter z_api_Letter) := ZeroOk.of (by kernel_rfl)
theorem us22 : Try.prog.underlying 22 = some (.slice 27) := by kernel_rfl
theorem so22 : SlOk Try.prog 22 4 (e_api_Letter z_api_Letter) := SlOk.of (by kernel_rfl)
theorem ap22 : ApOk Try.prog 22 4 40 := ApOk.of (by kernel_rfl)
theorem fo20 : FnOk Try.prog 20 := FnOk.of (by kernel_rfl)
theorem el22 : ElOk Try.prog 22 none 4 := ElOk.of (by kernel_rfl)
theorem ty27 : TyOk Try.prog 27 true 4 := TyOk.of (by kernel_rfl)
theorem fl27_0 : FldOk Try.prog 27 0 0 := FldOk.of (by kernel_rfl)
theorem fl27_1 : FldOk Try.prog 27 1 1 := FldOk.of (by kernel_rfl)
theorem so46 : SlOk Try.prog 46 1 (.int .i64 0) := SlOk.of (by kernel_rfl)
theorem ap46 : ApOk Try.prog 46 1 8 := ApOk.of (by kernel_rfl)
theorem fo22 : FnOk Try.prog 22 := FnOk.of (by kernel_rfl)
theorem el46 : ElOk Try.prog 46 none 1 := ElOk.of (by kernel_rfl)
theorem fo10 : FnOk Try.prog 10 := FnOk.of (by kernel_rfl)
theorem bo27 : BldOk Try.prog 27 (.st [1, 1, 1, 1]) (c_api_Letter z_api_Letter) := BldOk.of (by kernel_rfl)
theorem mixed : Try.prog.follows .mixedOrders = true := by kernel_rfl
theorem fo21 : FnOk Try.prog 21 := FnOk.of (by kernel_rfl)
theorem fo8 : FnOk Try.prog 8 := FnOk.of (by kernel_rfl)
theorem fo19 : FnOk Try.prog 19 := FnOk.of (by kernel_rfl)
theorem fo11 : FnOk Try.prog 11 := FnOk.of (by kernel_rfl)
theorem fo9 : FnOk Try.prog 9 := FnOk.of (by kernel_rfl)
theorem fl25_3 : FldOk Try.prog 25 3 3 := FldOk.of (by kernel_rfl)
theorem fl25_4 : FldOk Try.prog 25 4 4 := FldOk.of (by kernel_rfl)
theorem ty23 : TyOk Try.prog 23 false 1 := TyOk.of (by kernel_rfl)
theorem fl27_2 : FldOk Try.prog 27 2 2 := FldOk.of (by kernel_rfl)
theorem ty9 : TyOk Try.prog 9 false 1 := TyOk.of (by kernel_rfl)
theorem fl27_3 : FldOk Try.prog 27 3 3 := FldOk.of (by kernel_rfl)
theorem ty4 : TyOk Try.prog 4 false 1 := TyOk.of (by kernel_rfl)
theorem us9 : Try.prog.underlying 9 = some .string := by kernel_rfl
theorem us48 : Try.prog.underlying 48 = some (.slice 5) := by kernel_rfl
theorem ui5 : Try.prog.underlying 5 = some (.int .u8) := by kernel_rfl
theorem el48 : ElOk Try.prog 48 none 1 := ElOk.of (by kernel_rfl)
theorem ty5 : TyOk Try.prog 5 false 1 := TyOk.of (by kernel_rfl)
theorem fo13 : FnOk Try.prog 13 := FnOk.of (by kernel_rfl)
theorem so48 : SlOk Try.prog 48 1 (.int .u8 0) := SlOk.of (by kernel_rfl)
theorem ap48 : ApOk Try.prog 48 1 1 := ApOk.of (by kernel_rfl)
theorem fo26 : FnOk Try.prog 26 := FnOk.of (by kernel_rfl)
theorem fo23 : FnOk Try.prog 23 := FnOk.of (by kernel_rfl)
theorem fo14 : FnOk Try.prog 14 := FnOk.of (by kernel_rfl)
theorem eg27 : Try.prog.eqGuardType Try.prog.depth 27 = false := by kernel_rfl
theorem sh27 : shB Try.prog 9 (e_api_Letter z_api_Letter) 27 = true := by kernel_rfl
theorem fo12 : FnOk Try.prog 12 := FnOk.of (by kernel_rfl)
theorem fo24 : FnOk Try.prog 24 := FnOk.of (by kernel_rfl)
theorem fo18 : FnOk Try.prog 18 := FnOk.of (by kernel_rfl)
theorem so53 : SlOk Try.prog 53 1 (e_s_api_Letter []) := SlOk.of (by kernel_rfl)
theorem el53 : ElOk Try.prog 53 none 1 := ElOk.of (by kernel_rfl)
theorem ty22 : TyOk Try.prog 22 false 1 := TyOk.of (by kernel_rfl)
theorem ui3 : Try.prog.underlying 3 = some (.int .i64) := by kernel_rfl
theorem fo27 : FnOk Try.prog 27 := FnOk.of (by kernel_rfl)
theorem fo25 : FnOk Try.prog 25 := FnOk.of (by kernel_rfl)
theorem fo16 : FnOk Try.prog 16 := FnOk.of (by kernel_rfl)
theorem fo15 : FnOk Try.prog 15 := FnOk.of (by kernel_rfl)
theorem fo17 : FnOk Try.prog 17 := FnOk.of (by kernel_rfl)
theorem el39 : ElOk Try.prog 39 none 1 := ElOk.of (by kernel_rfl)
end Go.Proofs.Ytdaeajonhfkpaaa
