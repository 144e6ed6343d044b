/- Printed by gen.py. Conditions: none. -/
import Derived.Test.YthkgpbjgkchilaaFn
import Derived.Test.YthkgpbjgkchilaaEngP
import Derived.KernelRfl
set_option linter.unusedVariables false
set_option maxRecDepth 100000
namespace Go.Proofs.Ythkgpbjgkchilaa
open Go.Eng
def w_api_Id (x : api_Id) : Prop := ((Lit.int .u32 x.Epoch).wf = true) ∧ ((Lit.int .u32 x.Coord).wf = true) ∧ ((Lit.int .u32 x.Inc).wf = true)
theorem in22 : InOk Try.prog 22 (fun z => V.int .u32 z) (fun x => (Lit.int .u32 x).wf = true) 1 := InOk.int _ (by kernel_rfl) (by kernel_rfl)
theorem sk24 : StOk Try.prog 24 [(22, 0), (22, 1), (22, 2)] 3 := StOk.of (by kernel_rfl)
theorem in24 : InOk Try.prog 24 e_api_Id w_api_Id 3 := InOk.st (szs := [1, 1, 1]) (c := c_api_Id) (l := [(22, 0), (22, 1), (22, 2)]) sk24 fun enc w spare held m cs h => by
  obtain ⟨x0, w0, r0⟩ := InOk.fld h 0 in22 rfl
  obtain ⟨x1, w1, r1⟩ := InOk.fld h 1 in22 rfl
  obtain ⟨x2, w2, r2⟩ := InOk.fld h 2 in22 rfl
  exact ⟨⟨x0, x1, x2⟩, ⟨w0, w1, w2⟩, fun j hj => match j, hj with | 0, _ => r0 | 1, _ => r1 | 2, _ => r2 | k + 3, hj => absurd (show k + 3 < 3 from hj) (by omega)⟩
theorem in28 : InOk Try.prog 28 e_s_api_Id (fun x => x.length ≤ maxLen ∧ ∀ j, j < x.length → w_api_Id (x.getD j z_api_Id)) 1 := InOk.sl z_api_Id (by kernel_rfl) (by kernel_rfl) in24 (by decide)
theorem in32 : InOk Try.prog 32 e_a8_u32 (fun x => ∀ j, j < 8 → (Lit.int .u32 (x j)).wf = true) 8 := InOk.arr 0 (by kernel_rfl) (by kernel_rfl) in22
def w_congresslaw07_Two (x : congresslaw07_Two) : Prop := (∀ j, j < 8 → (Lit.int .u32 (x.M j)).wf = true) ∧ (∀ j, j < 8 → (Lit.int .u32 (x.N j)).wf = true) ∧ ((Lit.int .i64 x.I).wf = true) ∧ ((Lit.int .u32 x.Inc).wf = true)
theorem in3 : InOk Try.prog 3 (fun z => V.int .i64 z) (fun x => (Lit.int .i64 x).wf = true) 1 := InOk.int _ (by kernel_rfl) (by kernel_rfl)
theorem sk41 : StOk Try.prog 41 [(32, 0), (32, 8), (3, 16), (22, 17)] 18 := StOk.of (by kernel_rfl)
theorem in41 : InOk Try.prog 41 e_congresslaw07_Two w_congresslaw07_Two 18 := InOk.st (szs := [8, 8, 1, 1]) (c := c_congresslaw07_Two) (l := [(32, 0), (32, 8), (3, 16), (22, 17)]) sk41 fun enc w spare held m cs h => by
  obtain ⟨x0, w0, r0⟩ := InOk.fld h 0 in32 rfl
  obtain ⟨x1, w1, r1⟩ := InOk.fld h 1 in32 rfl
  obtain ⟨x2, w2, r2⟩ := InOk.fld h 2 in3 rfl
  obtain ⟨x3, w3, r3⟩ := InOk.fld h 3 in22 rfl
  exact ⟨⟨x0, x1, x2, x3⟩, ⟨w0, w1, w2, w3⟩, fun j hj => match j, hj with | 0, _ => r0 | 1, _ => r1 | 2, _ => r2 | 3, _ => r3 | k + 4, hj => absurd (show k + 4 < 4 from hj) (by omega)⟩
end Go.Proofs.Ythkgpbjgkchilaa
