/- Printed by gen.py. Conditions: none. -/
import Derived.Test.YtffnegdahhlncaaFn
import Derived.Test.YtffnegdahhlncaaEngP
import Derived.KernelRfl
set_option linter.unusedVariables false
set_option maxRecDepth 100000
namespace Go.Proofs.Ytffnegdahhlncaa
open Go.Eng
def w_api_Right (x : api_Right) : Prop := ((Lit.int .u64 x.Handle).wf = true) ∧ ((Lit.int .u64 x.Session).wf = true) ∧ ((Lit.int .i64 x.Give).wf = true) ∧ (True)
theorem in23 : InOk Try.prog 23 (fun z => V.int .u64 z) (fun x => (Lit.int .u64 x).wf = true) 1 := InOk.int _ (by kernel_rfl) (by kernel_rfl)
theorem in3 : InOk Try.prog 3 (fun z => V.int .i64 z) (fun x => (Lit.int .i64 x).wf = true) 1 := InOk.int _ (by kernel_rfl) (by kernel_rfl)
theorem in4 : InOk Try.prog 4 (fun z => V.bool z) (fun x => True) 1 := InOk.bool (by kernel_rfl) (by kernel_rfl)
theorem sk46 : StOk Try.prog 46 [(23, 0), (23, 1), (3, 2), (4, 3)] 4 := StOk.of (by kernel_rfl)
theorem in46 : InOk Try.prog 46 e_api_Right w_api_Right 4 := InOk.st (szs := [1, 1, 1, 1]) (c := c_api_Right) (l := [(23, 0), (23, 1), (3, 2), (4, 3)]) sk46 fun enc w spare held m cs h => by
  obtain ⟨x0, w0, r0⟩ := InOk.fld h 0 in23 rfl
  obtain ⟨x1, w1, r1⟩ := InOk.fld h 1 in23 rfl
  obtain ⟨x2, w2, r2⟩ := InOk.fld h 2 in3 rfl
  obtain ⟨x3, w3, r3⟩ := InOk.fld h 3 in4 rfl
  exact ⟨⟨x0, x1, x2, x3⟩, ⟨w0, w1, w2, w3⟩, fun j hj => match j, hj with | 0, _ => r0 | 1, _ => r1 | 2, _ => r2 | 3, _ => r3 | k + 4, hj => absurd (show k + 4 < 4 from hj) (by omega)⟩
theorem in22 : InOk Try.prog 22 e_s_api_Right (fun x => (x.length ≤ maxLen ∧ x.length * 32 ≤ 140737488351232) ∧ ∀ j, j < x.length → w_api_Right (x.getD j z_api_Right)) 1 := InOk.sl z_api_Right (by kernel_rfl) (by kernel_rfl) (by kernel_rfl) in46 (by decide)
def w_congresslaw16_Do (x : congresslaw16_Do) : Prop := ((Lit.int .i64 x.Do).wf = true) ∧ ((Lit.int .u64 x.Handle).wf = true) ∧ ((Lit.int .u64 x.Session).wf = true) ∧ ((Lit.int .i64 x.Give).wf = true)
theorem sk25 : StOk Try.prog 25 [(3, 0), (23, 1), (23, 2), (3, 3)] 4 := StOk.of (by kernel_rfl)
theorem in25 : InOk Try.prog 25 e_congresslaw16_Do w_congresslaw16_Do 4 := InOk.st (szs := [1, 1, 1, 1]) (c := c_congresslaw16_Do) (l := [(3, 0), (23, 1), (23, 2), (3, 3)]) sk25 fun enc w spare held m cs h => by
  obtain ⟨x0, w0, r0⟩ := InOk.fld h 0 in3 rfl
  obtain ⟨x1, w1, r1⟩ := InOk.fld h 1 in23 rfl
  obtain ⟨x2, w2, r2⟩ := InOk.fld h 2 in23 rfl
  obtain ⟨x3, w3, r3⟩ := InOk.fld h 3 in3 rfl
  exact ⟨⟨x0, x1, x2, x3⟩, ⟨w0, w1, w2, w3⟩, fun j hj => match j, hj with | 0, _ => r0 | 1, _ => r1 | 2, _ => r2 | 3, _ => r3 | k + 4, hj => absurd (show k + 4 < 4 from hj) (by omega)⟩
theorem in37 : InOk Try.prog 37 e_s_congresslaw16_Do (fun x => (x.length ≤ maxLen ∧ x.length * 32 ≤ 140737488351232) ∧ ∀ j, j < x.length → w_congresslaw16_Do (x.getD j z_congresslaw16_Do)) 1 := InOk.sl z_congresslaw16_Do (by kernel_rfl) (by kernel_rfl) (by kernel_rfl) in25 (by decide)
end Go.Proofs.Ytffnegdahhlncaa
