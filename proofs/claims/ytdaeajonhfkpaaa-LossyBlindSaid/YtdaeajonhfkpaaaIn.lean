/- Printed by gen.py. Conditions: none. -/
import Derived.Test.YtdaeajonhfkpaaaFn
import Derived.Test.YtdaeajonhfkpaaaEngP
import Derived.KernelRfl
set_option linter.unusedVariables false
set_option maxRecDepth 100000
namespace Go.Proofs.Ytdaeajonhfkpaaa
open Go.Eng
def w_api_Letter (x : api_Letter) : Prop := ((Lit.int .i64 x.From).wf = true) ∧ ((Lit.int .i64 x.To).wf = true) ∧ (x.Text.size ≤ 140737488351232) ∧ (True)
theorem in3 : InOk Try.prog 3 (fun z => V.int .i64 z) (fun x => (Lit.int .i64 x).wf = true) 1 := InOk.int _ (by kernel_rfl) (by kernel_rfl)
theorem in9 : InOk Try.prog 9 (fun z => V.str z) (fun x => x.size ≤ 140737488351232) 1 := InOk.str (by kernel_rfl) (by kernel_rfl)
theorem in4 : InOk Try.prog 4 (fun z => V.bool z) (fun x => True) 1 := InOk.bool (by kernel_rfl) (by kernel_rfl)
theorem sk27 : StOk Try.prog 27 [(3, 0), (3, 1), (9, 2), (4, 3)] 4 := StOk.of (by kernel_rfl)
theorem in27 : InOk Try.prog 27 e_api_Letter w_api_Letter 4 := InOk.st (szs := [1, 1, 1, 1]) (c := c_api_Letter) (l := [(3, 0), (3, 1), (9, 2), (4, 3)]) sk27 fun enc w spare held m cs h => by
  obtain ⟨x0, w0, r0⟩ := InOk.fld h 0 in3 rfl
  obtain ⟨x1, w1, r1⟩ := InOk.fld h 1 in3 rfl
  obtain ⟨x2, w2, r2⟩ := InOk.fld h 2 in9 rfl
  obtain ⟨x3, w3, r3⟩ := InOk.fld h 3 in4 rfl
  exact ⟨⟨x0, x1, x2, x3⟩, ⟨w0, w1, w2, w3⟩, fun j hj => match j, hj with | 0, _ => r0 | 1, _ => r1 | 2, _ => r2 | 3, _ => r3 | k + 4, hj => absurd (show k + 4 < 4 from hj) (by omega)⟩
theorem in22 : InOk Try.prog 22 e_s_api_Letter (fun x => (x.length ≤ maxLen ∧ x.length * 40 ≤ 140737488351232) ∧ ∀ j, j < x.length → w_api_Letter (x.getD j z_api_Letter)) 1 := InOk.sl z_api_Letter (by kernel_rfl) (by kernel_rfl) (by kernel_rfl) in27 (by decide)
def w_congresslaw14_Pick (x : congresslaw14_Pick) : Prop := ((Lit.int .i64 x.From).wf = true) ∧ ((Lit.int .i64 x.To).wf = true) ∧ ((Lit.int .i64 x.Index).wf = true) ∧ ((Lit.int .i64 x.At).wf = true) ∧ ((Lit.int .u32 x.Mask).wf = true)
theorem in23 : InOk Try.prog 23 (fun z => V.int .u32 z) (fun x => (Lit.int .u32 x).wf = true) 1 := InOk.int _ (by kernel_rfl) (by kernel_rfl)
theorem sk25 : StOk Try.prog 25 [(3, 0), (3, 1), (3, 2), (3, 3), (23, 4)] 5 := StOk.of (by kernel_rfl)
theorem in25 : InOk Try.prog 25 e_congresslaw14_Pick w_congresslaw14_Pick 5 := InOk.st (szs := [1, 1, 1, 1, 1]) (c := c_congresslaw14_Pick) (l := [(3, 0), (3, 1), (3, 2), (3, 3), (23, 4)]) sk25 fun enc w spare held m cs h => by
  obtain ⟨x0, w0, r0⟩ := InOk.fld h 0 in3 rfl
  obtain ⟨x1, w1, r1⟩ := InOk.fld h 1 in3 rfl
  obtain ⟨x2, w2, r2⟩ := InOk.fld h 2 in3 rfl
  obtain ⟨x3, w3, r3⟩ := InOk.fld h 3 in3 rfl
  obtain ⟨x4, w4, r4⟩ := InOk.fld h 4 in23 rfl
  exact ⟨⟨x0, x1, x2, x3, x4⟩, ⟨w0, w1, w2, w3, w4⟩, fun j hj => match j, hj with | 0, _ => r0 | 1, _ => r1 | 2, _ => r2 | 3, _ => r3 | 4, _ => r4 | k + 5, hj => absurd (show k + 5 < 5 from hj) (by omega)⟩
theorem in39 : InOk Try.prog 39 e_s_str (fun x => (x.length ≤ maxLen ∧ x.length * 16 ≤ 140737488351232) ∧ ∀ j, j < x.length → (x.getD j ByteArray.empty).size ≤ 140737488351232) 1 := InOk.sl ByteArray.empty (by kernel_rfl) (by kernel_rfl) (by kernel_rfl) in9 (by decide)
end Go.Proofs.Ytdaeajonhfkpaaa
