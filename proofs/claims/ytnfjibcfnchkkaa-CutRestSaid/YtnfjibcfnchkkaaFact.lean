/- Printed by gen.py. Conditions: none. -/
import Derived.Test.YtnfjibcfnchkkaaFn
import Derived.Test.YtnfjibcfnchkkaaLay
import Derived.KernelRfl
set_option linter.unusedVariables false
set_option maxRecDepth 100000
namespace Go.Proofs.Ytnfjibcfnchkkaa
open Go.Eng
theorem bo26 : BldOk Try.prog 26 (.ar 8 1) (fun j => (.int .u32 ((fun _ => 0) j))) := BldOk.of (by kernel_rfl)
theorem zr26 : ZeroOk Try.prog 26 (e_a8_u32 (fun _ => 0)) := ZeroOk.of (by kernel_rfl)
theorem ty26 : TyOk Try.prog 26 true 8 := TyOk.of (by kernel_rfl)
theorem bo25 : BldOk Try.prog 25 (.ar 8 1) (fun j => (.int .u32 ((fun _ => 0) j))) := BldOk.of (by kernel_rfl)
theorem ty25 : TyOk Try.prog 25 true 8 := TyOk.of (by kernel_rfl)
theorem ua26 : Try.prog.underlying 26 = some (.array 8 23) := by kernel_rfl
theorem ty23 : TyOk Try.prog 23 false 1 := TyOk.of (by kernel_rfl)
theorem so51 : SlOk Try.prog 51 1 (.int .i64 0) := SlOk.of (by kernel_rfl)
theorem ap51 : ApOk Try.prog 51 1 8 := ApOk.of (by kernel_rfl)
theorem fo25 : FnOk Try.prog 25 := FnOk.of (by kernel_rfl)
theorem el51 : ElOk Try.prog 51 none 1 := ElOk.of (by kernel_rfl)
theorem ty3 : TyOk Try.prog 3 false 1 := TyOk.of (by kernel_rfl)
theorem el25 : ElOk Try.prog 25 (some 8) 1 := ElOk.of (by kernel_rfl)
theorem bo28 : BldOk Try.prog 28 (.st [1, 1, 1]) (c_api_Place z_api_Place) := BldOk.of (by kernel_rfl)
theorem so36 : SlOk Try.prog 36 3 (e_api_Place z_api_Place) := SlOk.of (by kernel_rfl)
theorem ap36 : ApOk Try.prog 36 3 24 := ApOk.of (by kernel_rfl)
theorem ty28 : TyOk Try.prog 28 true 3 := TyOk.of (by kernel_rfl)
theorem fl28_0 : FldOk Try.prog 28 0 0 := FldOk.of (by kernel_rfl)
theorem fo34 : FnOk Try.prog 34 := FnOk.of (by kernel_rfl)
theorem fo30 : FnOk Try.prog 30 := FnOk.of (by kernel_rfl)
theorem fl28_1 : FldOk Try.prog 28 1 1 := FldOk.of (by kernel_rfl)
theorem fo35 : FnOk Try.prog 35 := FnOk.of (by kernel_rfl)
theorem fo31 : FnOk Try.prog 31 := FnOk.of (by kernel_rfl)
theorem fl28_2 : FldOk Try.prog 28 2 2 := FldOk.of (by kernel_rfl)
theorem fo29 : FnOk Try.prog 29 := FnOk.of (by kernel_rfl)
theorem mixed : Try.prog.follows .mixedOrders = true := by kernel_rfl
theorem fo24 : FnOk Try.prog 24 := FnOk.of (by kernel_rfl)
theorem sok26 : SortOk Try.prog 26 3 := ⟨_, Try.sort26, rfl, Try.isAgg28, Try.sizeOf28⟩
theorem fo26 : FnOk Try.prog 26 := FnOk.of (by kernel_rfl)
theorem fo27 : FnOk Try.prog 27 := FnOk.of (by kernel_rfl)
theorem el36 : ElOk Try.prog 36 none 3 := ElOk.of (by kernel_rfl)
theorem fo21 : FnOk Try.prog 21 := FnOk.of (by kernel_rfl)
theorem fo20 : FnOk Try.prog 20 := FnOk.of (by kernel_rfl)
theorem fo14 : FnOk Try.prog 14 := FnOk.of (by kernel_rfl)
theorem so22 : SlOk Try.prog 22 8 (e_a8_u32 (fun _ => 0)) := SlOk.of (by kernel_rfl)
theorem zr25 : ZeroOk Try.prog 25 (e_a8_u32 (fun _ => 0)) := ZeroOk.of (by kernel_rfl)
theorem el22 : ElOk Try.prog 22 none 8 := ElOk.of (by kernel_rfl)
theorem ua25 : Try.prog.underlying 25 = some (.array 8 23) := by kernel_rfl
theorem fo9 : FnOk Try.prog 9 := FnOk.of (by kernel_rfl)
theorem eg25 : Try.prog.eqGuardType Try.prog.depth 25 = false := by kernel_rfl
theorem sh25 : shB Try.prog 9 (e_a8_u32 (fun _ => 0)) 25 = true := by kernel_rfl
theorem eg28 : Try.prog.eqGuardType Try.prog.depth 28 = false := by kernel_rfl
theorem sh28 : shB Try.prog 9 (e_api_Place z_api_Place) 28 = true := by kernel_rfl
theorem fo13 : FnOk Try.prog 13 := FnOk.of (by kernel_rfl)
theorem fo11 : FnOk Try.prog 11 := FnOk.of (by kernel_rfl)
theorem fo23 : FnOk Try.prog 23 := FnOk.of (by kernel_rfl)
theorem fo16 : FnOk Try.prog 16 := FnOk.of (by kernel_rfl)
theorem fo8 : FnOk Try.prog 8 := FnOk.of (by kernel_rfl)
theorem fo10 : FnOk Try.prog 10 := FnOk.of (by kernel_rfl)
theorem fl30_0 : FldOk Try.prog 30 0 0 := FldOk.of (by kernel_rfl)
theorem fl30_1 : FldOk Try.prog 30 1 8 := FldOk.of (by kernel_rfl)
theorem fo12 : FnOk Try.prog 12 := FnOk.of (by kernel_rfl)
theorem fl30_2 : FldOk Try.prog 30 2 16 := FldOk.of (by kernel_rfl)
theorem zr28 : ZeroOk Try.prog 28 (e_api_Place z_api_Place) := ZeroOk.of (by kernel_rfl)
theorem el26 : ElOk Try.prog 26 (some 8) 1 := ElOk.of (by kernel_rfl)
theorem fo28 : FnOk Try.prog 28 := FnOk.of (by kernel_rfl)
theorem fo19 : FnOk Try.prog 19 := FnOk.of (by kernel_rfl)
theorem fo22 : FnOk Try.prog 22 := FnOk.of (by kernel_rfl)
theorem fo15 : FnOk Try.prog 15 := FnOk.of (by kernel_rfl)
theorem fl30_3 : FldOk Try.prog 30 3 24 := FldOk.of (by kernel_rfl)
theorem fo17 : FnOk Try.prog 17 := FnOk.of (by kernel_rfl)
theorem ap22 : ApOk Try.prog 22 8 32 := ApOk.of (by kernel_rfl)
theorem fo18 : FnOk Try.prog 18 := FnOk.of (by kernel_rfl)
end Go.Proofs.Ytnfjibcfnchkkaa
