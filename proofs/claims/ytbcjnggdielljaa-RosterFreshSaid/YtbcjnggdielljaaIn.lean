/- Printed by gen.py. Conditions: none. -/
import Derived.Test.YtbcjnggdielljaaFn
import Derived.Test.YtbcjnggdielljaaEngP
import Derived.KernelRfl
set_option linter.unusedVariables false
set_option maxRecDepth 100000
namespace Go.Proofs.Ytbcjnggdielljaa
open Go.Eng
def w_api_Session (x : api_Session) : Prop := ((Lit.int .u64 x.Id).wf = true) ∧ ((Lit.int .u64 x.Number).wf = true)
def w_api_Roster (x : api_Roster) : Prop := ((Lit.int .u64 x.Last).wf = true) ∧ ((x.List.length ≤ maxLen ∧ x.List.length * 16 ≤ 140737488351232) ∧ ∀ j, j < x.List.length → w_api_Session (x.List.getD j z_api_Session))
theorem in22 : InOk Try.prog 22 (fun z => V.int .u64 z) (fun x => (Lit.int .u64 x).wf = true) 1 := InOk.int _ (by kernel_rfl) (by kernel_rfl)
theorem sk41 : StOk Try.prog 41 [(22, 0), (22, 1)] 2 := StOk.of (by kernel_rfl)
theorem in41 : InOk Try.prog 41 e_api_Session w_api_Session 2 := InOk.st (szs := [1, 1]) (c := c_api_Session) (l := [(22, 0), (22, 1)]) sk41 fun enc w spare held m cs h => by
  obtain ⟨x0, w0, r0⟩ := InOk.fld h 0 in22 rfl
  obtain ⟨x1, w1, r1⟩ := InOk.fld h 1 in22 rfl
  exact ⟨⟨x0, x1⟩, ⟨w0, w1⟩, fun j hj => match j, hj with | 0, _ => r0 | 1, _ => r1 | k + 2, hj => absurd (show k + 2 < 2 from hj) (by omega)⟩
theorem in23 : InOk Try.prog 23 e_s_api_Session (fun x => (x.length ≤ maxLen ∧ x.length * 16 ≤ 140737488351232) ∧ ∀ j, j < x.length → w_api_Session (x.getD j z_api_Session)) 1 := InOk.sl z_api_Session (by kernel_rfl) (by kernel_rfl) (by kernel_rfl) in41 (by decide)
theorem sk25 : StOk Try.prog 25 [(22, 0), (23, 1)] 2 := StOk.of (by kernel_rfl)
theorem in25 : InOk Try.prog 25 e_api_Roster w_api_Roster 2 := InOk.st (szs := [1, 1]) (c := c_api_Roster) (l := [(22, 0), (23, 1)]) sk25 fun enc w spare held m cs h => by
  obtain ⟨x0, w0, r0⟩ := InOk.fld h 0 in22 rfl
  obtain ⟨x1, w1, r1⟩ := InOk.fld h 1 in23 rfl
  exact ⟨⟨x0, x1⟩, ⟨w0, w1⟩, fun j hj => match j, hj with | 0, _ => r0 | 1, _ => r1 | k + 2, hj => absurd (show k + 2 < 2 from hj) (by omega)⟩
def w_congresslaw17_Do (x : congresslaw17_Do) : Prop := ((Lit.int .i64 x.Do).wf = true) ∧ ((Lit.int .u64 x.Id).wf = true)
theorem in3 : InOk Try.prog 3 (fun z => V.int .i64 z) (fun x => (Lit.int .i64 x).wf = true) 1 := InOk.int _ (by kernel_rfl) (by kernel_rfl)
theorem sk39 : StOk Try.prog 39 [(3, 0), (22, 1)] 2 := StOk.of (by kernel_rfl)
theorem in39 : InOk Try.prog 39 e_congresslaw17_Do w_congresslaw17_Do 2 := InOk.st (szs := [1, 1]) (c := c_congresslaw17_Do) (l := [(3, 0), (22, 1)]) sk39 fun enc w spare held m cs h => by
  obtain ⟨x0, w0, r0⟩ := InOk.fld h 0 in3 rfl
  obtain ⟨x1, w1, r1⟩ := InOk.fld h 1 in22 rfl
  exact ⟨⟨x0, x1⟩, ⟨w0, w1⟩, fun j hj => match j, hj with | 0, _ => r0 | 1, _ => r1 | k + 2, hj => absurd (show k + 2 < 2 from hj) (by omega)⟩
theorem in37 : InOk Try.prog 37 e_s_congresslaw17_Do (fun x => (x.length ≤ maxLen ∧ x.length * 16 ≤ 140737488351232) ∧ ∀ j, j < x.length → w_congresslaw17_Do (x.getD j z_congresslaw17_Do)) 1 := InOk.sl z_congresslaw17_Do (by kernel_rfl) (by kernel_rfl) (by kernel_rfl) in39 (by decide)
end Go.Proofs.Ytbcjnggdielljaa
