/- Printed by gen.py. Conditions: none. -/
import Derived.Test.YtckoficjcnaedaaFn
import Derived.Test.YtckoficjcnaedaaEngP
import Derived.KernelRfl
set_option linter.unusedVariables false
set_option maxRecDepth 100000
namespace Go.Proofs.Ytckoficjcnaedaa
open Go.Eng
def w_api_Beat (x : api_Beat) : Prop := ((Lit.int .u32 x.Now).wf = true) ∧ (∀ j, j < 8 → (Lit.int .u32 (x.Heard j)).wf = true) ∧ (∀ j, j < 8 → (Lit.int .u32 (x.Inc j)).wf = true)
theorem in22 : InOk Try.prog 22 (fun z => V.int .u32 z) (fun x => (Lit.int .u32 x).wf = true) 1 := InOk.int _ (by kernel_rfl) (by kernel_rfl)
theorem in23 : InOk Try.prog 23 e_a8_u32 (fun x => ∀ j, j < 8 → (Lit.int .u32 (x j)).wf = true) 8 := InOk.arr 0 (by kernel_rfl) (by kernel_rfl) in22
theorem sk25 : StOk Try.prog 25 [(22, 0), (23, 1), (23, 9)] 17 := StOk.of (by kernel_rfl)
theorem in25 : InOk Try.prog 25 e_api_Beat w_api_Beat 17 := InOk.st (szs := [1, 8, 8]) (c := c_api_Beat) (l := [(22, 0), (23, 1), (23, 9)]) sk25 fun enc w spare held m cs h => by
  obtain ⟨x0, w0, r0⟩ := InOk.fld h 0 in22 rfl
  obtain ⟨x1, w1, r1⟩ := InOk.fld h 1 in23 rfl
  obtain ⟨x2, w2, r2⟩ := InOk.fld h 2 in23 rfl
  exact ⟨⟨x0, x1, x2⟩, ⟨w0, w1, w2⟩, fun j hj => match j, hj with | 0, _ => r0 | 1, _ => r1 | 2, _ => r2 | k + 3, hj => absurd (show k + 3 < 3 from hj) (by omega)⟩
def w_congresslaw08_Heard (x : congresslaw08_Heard) : Prop := ((Lit.int .i64 x.From).wf = true) ∧ ((Lit.int .u32 x.Inc).wf = true)
theorem in3 : InOk Try.prog 3 (fun z => V.int .i64 z) (fun x => (Lit.int .i64 x).wf = true) 1 := InOk.int _ (by kernel_rfl) (by kernel_rfl)
theorem sk27 : StOk Try.prog 27 [(3, 0), (22, 1)] 2 := StOk.of (by kernel_rfl)
theorem in27 : InOk Try.prog 27 e_congresslaw08_Heard w_congresslaw08_Heard 2 := InOk.st (szs := [1, 1]) (c := c_congresslaw08_Heard) (l := [(3, 0), (22, 1)]) sk27 fun enc w spare held m cs h => by
  obtain ⟨x0, w0, r0⟩ := InOk.fld h 0 in3 rfl
  obtain ⟨x1, w1, r1⟩ := InOk.fld h 1 in22 rfl
  exact ⟨⟨x0, x1⟩, ⟨w0, w1⟩, fun j hj => match j, hj with | 0, _ => r0 | 1, _ => r1 | k + 2, hj => absurd (show k + 2 < 2 from hj) (by omega)⟩
theorem in35 : InOk Try.prog 35 e_s_congresslaw08_Heard (fun x => x.length ≤ maxLen ∧ ∀ j, j < x.length → w_congresslaw08_Heard (x.getD j z_congresslaw08_Heard)) 1 := InOk.sl z_congresslaw08_Heard (by kernel_rfl) (by kernel_rfl) in27 (by decide)
end Go.Proofs.Ytckoficjcnaedaa
