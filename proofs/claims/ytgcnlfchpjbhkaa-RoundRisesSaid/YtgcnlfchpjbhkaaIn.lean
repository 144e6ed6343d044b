/- Printed by gen.py. Conditions: none. -/
import Derived.Test.YtgcnlfchpjbhkaaFn
import Derived.Test.YtgcnlfchpjbhkaaEngP
import Derived.KernelRfl
set_option linter.unusedVariables false
set_option maxRecDepth 100000
namespace Go.Proofs.Ytgcnlfchpjbhkaa
open Go.Eng
theorem in22 : InOk Try.prog 22 (fun z => V.int .u32 z) (fun x => (Lit.int .u32 x).wf = true) 1 := InOk.int _ (by kernel_rfl) (by kernel_rfl)
theorem in24 : InOk Try.prog 24 e_a8_u32 (fun x => ∀ j, j < 8 → (Lit.int .u32 (x j)).wf = true) 8 := InOk.arr 0 (by kernel_rfl) (by kernel_rfl) in22
theorem in25 : InOk Try.prog 25 e_a8_u32 (fun x => ∀ j, j < 8 → (Lit.int .u32 (x j)).wf = true) 8 := InOk.arr 0 (by kernel_rfl) (by kernel_rfl) in22
def w_api_Place (x : api_Place) : Prop := ((Lit.int .u32 x.Round).wf = true) ∧ ((Lit.int .i64 x.From).wf = true) ∧ ((Lit.int .i64 x.Slot).wf = true)
theorem in3 : InOk Try.prog 3 (fun z => V.int .i64 z) (fun x => (Lit.int .i64 x).wf = true) 1 := InOk.int _ (by kernel_rfl) (by kernel_rfl)
theorem sk27 : StOk Try.prog 27 [(22, 0), (3, 1), (3, 2)] 3 := StOk.of (by kernel_rfl)
theorem in27 : InOk Try.prog 27 e_api_Place w_api_Place 3 := InOk.st (szs := [1, 1, 1]) (c := c_api_Place) (l := [(22, 0), (3, 1), (3, 2)]) sk27 fun enc w spare held m cs h => by
  obtain ⟨x0, w0, r0⟩ := InOk.fld h 0 in22 rfl
  obtain ⟨x1, w1, r1⟩ := InOk.fld h 1 in3 rfl
  obtain ⟨x2, w2, r2⟩ := InOk.fld h 2 in3 rfl
  exact ⟨⟨x0, x1, x2⟩, ⟨w0, w1, w2⟩, fun j hj => match j, hj with | 0, _ => r0 | 1, _ => r1 | 2, _ => r2 | k + 3, hj => absurd (show k + 3 < 3 from hj) (by omega)⟩
def w_congresslaw09_Two (x : congresslaw09_Two) : Prop := (w_api_Place x.A) ∧ (w_api_Place x.B)
theorem sk37 : StOk Try.prog 37 [(27, 0), (27, 3)] 6 := StOk.of (by kernel_rfl)
theorem in37 : InOk Try.prog 37 e_congresslaw09_Two w_congresslaw09_Two 6 := InOk.st (szs := [3, 3]) (c := c_congresslaw09_Two) (l := [(27, 0), (27, 3)]) sk37 fun enc w spare held m cs h => by
  obtain ⟨x0, w0, r0⟩ := InOk.fld h 0 in27 rfl
  obtain ⟨x1, w1, r1⟩ := InOk.fld h 1 in27 rfl
  exact ⟨⟨x0, x1⟩, ⟨w0, w1⟩, fun j hj => match j, hj with | 0, _ => r0 | 1, _ => r1 | k + 2, hj => absurd (show k + 2 < 2 from hj) (by omega)⟩
def w_congresslaw09_More (x : congresslaw09_More) : Prop := (∀ j, j < 8 → (Lit.int .u32 (x.D j)).wf = true) ∧ (w_api_Place x.P)
theorem sk42 : StOk Try.prog 42 [(24, 0), (27, 8)] 11 := StOk.of (by kernel_rfl)
theorem in42 : InOk Try.prog 42 e_congresslaw09_More w_congresslaw09_More 11 := InOk.st (szs := [8, 3]) (c := c_congresslaw09_More) (l := [(24, 0), (27, 8)]) sk42 fun enc w spare held m cs h => by
  obtain ⟨x0, w0, r0⟩ := InOk.fld h 0 in24 rfl
  obtain ⟨x1, w1, r1⟩ := InOk.fld h 1 in27 rfl
  exact ⟨⟨x0, x1⟩, ⟨w0, w1⟩, fun j hj => match j, hj with | 0, _ => r0 | 1, _ => r1 | k + 2, hj => absurd (show k + 2 < 2 from hj) (by omega)⟩
def w_congresslaw09_Where (x : congresslaw09_Where) : Prop := (∀ j, j < 8 → (Lit.int .u32 (x.M j)).wf = true) ∧ (w_api_Place x.P)
theorem sk45 : StOk Try.prog 45 [(25, 0), (27, 8)] 11 := StOk.of (by kernel_rfl)
theorem in45 : InOk Try.prog 45 e_congresslaw09_Where w_congresslaw09_Where 11 := InOk.st (szs := [8, 3]) (c := c_congresslaw09_Where) (l := [(25, 0), (27, 8)]) sk45 fun enc w spare held m cs h => by
  obtain ⟨x0, w0, r0⟩ := InOk.fld h 0 in25 rfl
  obtain ⟨x1, w1, r1⟩ := InOk.fld h 1 in27 rfl
  exact ⟨⟨x0, x1⟩, ⟨w0, w1⟩, fun j hj => match j, hj with | 0, _ => r0 | 1, _ => r1 | k + 2, hj => absurd (show k + 2 < 2 from hj) (by omega)⟩
end Go.Proofs.Ytgcnlfchpjbhkaa
