/- Printed by gen.py. Conditions: none. -/
import Derived.Test.YtnfjibcfnchkkaaFn
import Derived.Test.YtnfjibcfnchkkaaEngP
import Derived.KernelRfl
set_option linter.unusedVariables false
set_option maxRecDepth 100000
namespace Go.Proofs.Ytnfjibcfnchkkaa
open Go.Eng
theorem in23 : InOk Try.prog 23 (fun z => V.int .u32 z) (fun x => (Lit.int .u32 x).wf = true) 1 := InOk.int _ (by kernel_rfl) (by kernel_rfl)
theorem in25 : InOk Try.prog 25 e_a8_u32 (fun x => ∀ j, j < 8 → (Lit.int .u32 (x j)).wf = true) 8 := InOk.arr 0 (by kernel_rfl) (by kernel_rfl) in23
theorem in22 : InOk Try.prog 22 e_s_a8_u32 (fun x => (x.length ≤ maxLen ∧ x.length * 32 ≤ 140737488351232) ∧ ∀ j, j < x.length → ∀ j1, j1 < 8 → (Lit.int .u32 ((x.getD j (fun _ => 0)) j1)).wf = true) 1 := InOk.sl (fun _ => 0) (by kernel_rfl) (by kernel_rfl) (by kernel_rfl) in25 (by decide)
def w_api_Place (x : api_Place) : Prop := ((Lit.int .u32 x.Round).wf = true) ∧ ((Lit.int .i64 x.From).wf = true) ∧ ((Lit.int .i64 x.Slot).wf = true)
def w_congresslaw11_Two (x : congresslaw11_Two) : Prop := (∀ j, j < 8 → (Lit.int .u32 (x.A j)).wf = true) ∧ (∀ j, j < 8 → (Lit.int .u32 (x.B j)).wf = true) ∧ (∀ j, j < 8 → (Lit.int .u32 (x.M j)).wf = true) ∧ (w_api_Place x.Given)
theorem in26 : InOk Try.prog 26 e_a8_u32 (fun x => ∀ j, j < 8 → (Lit.int .u32 (x j)).wf = true) 8 := InOk.arr 0 (by kernel_rfl) (by kernel_rfl) in23
theorem in3 : InOk Try.prog 3 (fun z => V.int .i64 z) (fun x => (Lit.int .i64 x).wf = true) 1 := InOk.int _ (by kernel_rfl) (by kernel_rfl)
theorem sk28 : StOk Try.prog 28 [(23, 0), (3, 1), (3, 2)] 3 := StOk.of (by kernel_rfl)
theorem in28 : InOk Try.prog 28 e_api_Place w_api_Place 3 := InOk.st (szs := [1, 1, 1]) (c := c_api_Place) (l := [(23, 0), (3, 1), (3, 2)]) sk28 fun enc w spare held m cs h => by
  obtain ⟨x0, w0, r0⟩ := InOk.fld h 0 in23 rfl
  obtain ⟨x1, w1, r1⟩ := InOk.fld h 1 in3 rfl
  obtain ⟨x2, w2, r2⟩ := InOk.fld h 2 in3 rfl
  exact ⟨⟨x0, x1, x2⟩, ⟨w0, w1, w2⟩, fun j hj => match j, hj with | 0, _ => r0 | 1, _ => r1 | 2, _ => r2 | k + 3, hj => absurd (show k + 3 < 3 from hj) (by omega)⟩
theorem sk30 : StOk Try.prog 30 [(25, 0), (25, 8), (26, 16), (28, 24)] 27 := StOk.of (by kernel_rfl)
theorem in30 : InOk Try.prog 30 e_congresslaw11_Two w_congresslaw11_Two 27 := InOk.st (szs := [8, 8, 8, 3]) (c := c_congresslaw11_Two) (l := [(25, 0), (25, 8), (26, 16), (28, 24)]) sk30 fun enc w spare held m cs h => by
  obtain ⟨x0, w0, r0⟩ := InOk.fld h 0 in25 rfl
  obtain ⟨x1, w1, r1⟩ := InOk.fld h 1 in25 rfl
  obtain ⟨x2, w2, r2⟩ := InOk.fld h 2 in26 rfl
  obtain ⟨x3, w3, r3⟩ := InOk.fld h 3 in28 rfl
  exact ⟨⟨x0, x1, x2, x3⟩, ⟨w0, w1, w2, w3⟩, fun j hj => match j, hj with | 0, _ => r0 | 1, _ => r1 | 2, _ => r2 | 3, _ => r3 | k + 4, hj => absurd (show k + 4 < 4 from hj) (by omega)⟩
end Go.Proofs.Ytnfjibcfnchkkaa
