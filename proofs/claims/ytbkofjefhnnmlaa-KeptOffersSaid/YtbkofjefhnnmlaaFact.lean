/- Printed by gen.py. Conditions: none. -/
import Derived.Test.YtbkofjefhnnmlaaFn
import Derived.KernelRfl
set_option linter.unusedVariables false
set_option maxRecDepth 100000
namespace Go.Proofs.Ytbkofjefhnnmlaa
open Go.Eng
theorem fl28_0 : FldOk Try.prog 28 0 0 := FldOk.of (by kernel_rfl)
theorem ty22 : TyOk Try.prog 22 false 1 := TyOk.of (by kernel_rfl)
theorem fl28_1 : FldOk Try.prog 28 1 1 := FldOk.of (by kernel_rfl)
theorem ty25 : TyOk Try.prog 25 true 8 := TyOk.of (by kernel_rfl)
theorem fl28_2 : FldOk Try.prog 28 2 9 := FldOk.of (by kernel_rfl)
theorem ty26 : TyOk Try.prog 26 true 8 := TyOk.of (by kernel_rfl)
theorem ty36 : TyOk Try.prog 36 true 38 := TyOk.of (by kernel_rfl)
theorem zr25 : ZeroOk Try.prog 25 (e_a8_u32 (fun _ => 0)) := ZeroOk.of (by kernel_rfl)
theorem us22 : Try.prog.underlying 22 = some (.slice 36) := by kernel_rfl
theorem so22 : SlOk Try.prog 22 38 (e_api_Kept z_api_Kept) := SlOk.of (by kernel_rfl)
theorem ap22 : ApOk Try.prog 22 38 352 := ApOk.of (by kernel_rfl)
theorem fo18 : FnOk Try.prog 18 := FnOk.of (by kernel_rfl)
theorem ua26 : Try.prog.underlying 26 = some (.array 8 23) := by kernel_rfl
theorem ty23 : TyOk Try.prog 23 false 1 := TyOk.of (by kernel_rfl)
theorem so58 : SlOk Try.prog 58 1 (.int .i64 0) := SlOk.of (by kernel_rfl)
theorem ap58 : ApOk Try.prog 58 1 8 := ApOk.of (by kernel_rfl)
theorem fo20 : FnOk Try.prog 20 := FnOk.of (by kernel_rfl)
theorem fl36_0 : FldOk Try.prog 36 0 0 := FldOk.of (by kernel_rfl)
theorem ty3 : TyOk Try.prog 3 false 1 := TyOk.of (by kernel_rfl)
theorem el58 : ElOk Try.prog 58 none 1 := ElOk.of (by kernel_rfl)
theorem fo27 : FnOk Try.prog 27 := FnOk.of (by kernel_rfl)
theorem fo19 : FnOk Try.prog 19 := FnOk.of (by kernel_rfl)
theorem el25 : ElOk Try.prog 25 (some 8) 1 := ElOk.of (by kernel_rfl)
theorem fl36_1 : FldOk Try.prog 36 1 1 := FldOk.of (by kernel_rfl)
theorem mixed : Try.prog.follows .mixedOrders = true := by kernel_rfl
theorem el22 : ElOk Try.prog 22 none 38 := ElOk.of (by kernel_rfl)
theorem fo23 : FnOk Try.prog 23 := FnOk.of (by kernel_rfl)
theorem zr36 : ZeroOk Try.prog 36 (e_api_Kept z_api_Kept) := ZeroOk.of (by kernel_rfl)
theorem fo22 : FnOk Try.prog 22 := FnOk.of (by kernel_rfl)
theorem fo21 : FnOk Try.prog 21 := FnOk.of (by kernel_rfl)
theorem fo7 : FnOk Try.prog 7 := FnOk.of (by kernel_rfl)
theorem el26 : ElOk Try.prog 26 (some 8) 1 := ElOk.of (by kernel_rfl)
theorem fo15 : FnOk Try.prog 15 := FnOk.of (by kernel_rfl)
theorem fo8 : FnOk Try.prog 8 := FnOk.of (by kernel_rfl)
theorem zr34 : ZeroOk Try.prog 34 (e_a3_a2_api_Entry (fun _ => (fun _ => z_api_Entry))) := ZeroOk.of (by kernel_rfl)
theorem fo24 : FnOk Try.prog 24 := FnOk.of (by kernel_rfl)
theorem bo34 : BldOk Try.prog 34 (.ar 3 12) (fun j => (e_a2_api_Entry ((fun _ => (fun _ => z_api_Entry)) j))) := BldOk.of (by kernel_rfl)
theorem ty34 : TyOk Try.prog 34 true 36 := TyOk.of (by kernel_rfl)
theorem fl36_2 : FldOk Try.prog 36 2 2 := FldOk.of (by kernel_rfl)
theorem fo9 : FnOk Try.prog 9 := FnOk.of (by kernel_rfl)
theorem fo10 : FnOk Try.prog 10 := FnOk.of (by kernel_rfl)
theorem bo36 : BldOk Try.prog 36 (.st [1, 1, 36]) (c_api_Kept z_api_Kept) := BldOk.of (by kernel_rfl)
theorem fo11 : FnOk Try.prog 11 := FnOk.of (by kernel_rfl)
theorem fo12 : FnOk Try.prog 12 := FnOk.of (by kernel_rfl)
theorem bo26 : BldOk Try.prog 26 (.ar 8 1) (fun j => (.int .u32 ((fun _ => 0) j))) := BldOk.of (by kernel_rfl)
theorem zr26 : ZeroOk Try.prog 26 (e_a8_u32 (fun _ => 0)) := ZeroOk.of (by kernel_rfl)
theorem bo25 : BldOk Try.prog 25 (.ar 8 1) (fun j => (.int .u32 ((fun _ => 0) j))) := BldOk.of (by kernel_rfl)
theorem fo13 : FnOk Try.prog 13 := FnOk.of (by kernel_rfl)
theorem eg36 : Try.prog.eqGuardType Try.prog.depth 36 = false := by kernel_rfl
theorem sh36 : shB Try.prog 9 (e_api_Kept z_api_Kept) 36 = true := by kernel_rfl
theorem fo14 : FnOk Try.prog 14 := FnOk.of (by kernel_rfl)
theorem eg25 : Try.prog.eqGuardType Try.prog.depth 25 = false := by kernel_rfl
theorem sh25 : shB Try.prog 9 (e_a8_u32 (fun _ => 0)) 25 = true := by kernel_rfl
theorem eg34 : Try.prog.eqGuardType Try.prog.depth 34 = false := by kernel_rfl
theorem sh34 : shB Try.prog 9 (e_a3_a2_api_Entry (fun _ => (fun _ => z_api_Entry))) 34 = true := by kernel_rfl
theorem ty51 : TyOk Try.prog 51 true 145 := TyOk.of (by kernel_rfl)
theorem fl51_9 : FldOk Try.prog 51 9 34 := FldOk.of (by kernel_rfl)
theorem fl51_0 : FldOk Try.prog 51 0 0 := FldOk.of (by kernel_rfl)
theorem fl51_11 : FldOk Try.prog 51 11 71 := FldOk.of (by kernel_rfl)
theorem fl51_10 : FldOk Try.prog 51 10 35 := FldOk.of (by kernel_rfl)
theorem fl51_12 : FldOk Try.prog 51 12 107 := FldOk.of (by kernel_rfl)
theorem fl51_13 : FldOk Try.prog 51 13 108 := FldOk.of (by kernel_rfl)
theorem fl51_14 : FldOk Try.prog 51 14 109 := FldOk.of (by kernel_rfl)
theorem fo25 : FnOk Try.prog 25 := FnOk.of (by kernel_rfl)
theorem fo16 : FnOk Try.prog 16 := FnOk.of (by kernel_rfl)
theorem bo65 : BldOk Try.prog 65 (.st [1, 8, 1]) (c_congressref10_State z_congressref10_State) := BldOk.of (by kernel_rfl)
theorem zr65 : ZeroOk Try.prog 65 (e_congressref10_State z_congressref10_State) := ZeroOk.of (by kernel_rfl)
theorem ty65 : TyOk Try.prog 65 true 10 := TyOk.of (by kernel_rfl)
theorem fl65_0 : FldOk Try.prog 65 0 0 := FldOk.of (by kernel_rfl)
theorem fl65_1 : FldOk Try.prog 65 1 1 := FldOk.of (by kernel_rfl)
theorem fl65_2 : FldOk Try.prog 65 2 9 := FldOk.of (by kernel_rfl)
theorem fo26 : FnOk Try.prog 26 := FnOk.of (by kernel_rfl)
theorem fo17 : FnOk Try.prog 17 := FnOk.of (by kernel_rfl)
theorem zr51 : ZeroOk Try.prog 51 (e_api_Packet z_api_Packet) := ZeroOk.of (by kernel_rfl)
end Go.Proofs.Ytbkofjefhnnmlaa
