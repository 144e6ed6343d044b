/- Printed by gen.py. Conditions: none. -/
import Derived.Test.YtpcpfcijdliicaaFn
import Derived.Test.YtpcpfcijdliicaaEngP
import Derived.KernelRfl
set_option linter.unusedVariables false
set_option maxRecDepth 100000
namespace Go.Proofs.Ytpcpfcijdliicaa
open Go.Eng
def w_api_Member (x : api_Member) : Prop := ((Lit.int .i64 x.Group).wf = true) ∧ ((Lit.int .i64 x.Daemon).wf = true) ∧ ((Lit.int .u64 x.Session).wf = true)
theorem in3 : InOk Try.prog 3 (fun z => V.int .i64 z) (fun x => (Lit.int .i64 x).wf = true) 1 := InOk.int _ (by kernel_rfl) (by kernel_rfl)
theorem in23 : InOk Try.prog 23 (fun z => V.int .u64 z) (fun x => (Lit.int .u64 x).wf = true) 1 := InOk.int _ (by kernel_rfl) (by kernel_rfl)
theorem sk35 : StOk Try.prog 35 [(3, 0), (3, 1), (23, 2)] 3 := StOk.of (by kernel_rfl)
theorem in35 : InOk Try.prog 35 e_api_Member w_api_Member 3 := InOk.st (szs := [1, 1, 1]) (c := c_api_Member) (l := [(3, 0), (3, 1), (23, 2)]) sk35 fun enc w spare held m cs h => by
  obtain ⟨x0, w0, r0⟩ := InOk.fld h 0 in3 rfl
  obtain ⟨x1, w1, r1⟩ := InOk.fld h 1 in3 rfl
  obtain ⟨x2, w2, r2⟩ := InOk.fld h 2 in23 rfl
  exact ⟨⟨x0, x1, x2⟩, ⟨w0, w1, w2⟩, fun j hj => match j, hj with | 0, _ => r0 | 1, _ => r1 | 2, _ => r2 | k + 3, hj => absurd (show k + 3 < 3 from hj) (by omega)⟩
theorem in22 : InOk Try.prog 22 e_s_api_Member (fun x => (x.length ≤ maxLen ∧ x.length * 24 ≤ 140737488351232) ∧ ∀ j, j < x.length → w_api_Member (x.getD j z_api_Member)) 1 := InOk.sl z_api_Member (by kernel_rfl) (by kernel_rfl) (by kernel_rfl) in35 (by decide)
def w_api_Entry (x : api_Entry) : Prop := ((Lit.int .i64 x.Kind).wf = true) ∧ ((Lit.int .i64 x.Service).wf = true) ∧ ((Lit.int .i64 x.Group).wf = true) ∧ ((Lit.int .u64 x.Session).wf = true) ∧ ((Lit.int .u64 x.Number).wf = true) ∧ (x.Text.size ≤ 140737488351232)
theorem in9 : InOk Try.prog 9 (fun z => V.str z) (fun x => x.size ≤ 140737488351232) 1 := InOk.str (by kernel_rfl) (by kernel_rfl)
theorem sk25 : StOk Try.prog 25 [(3, 0), (3, 1), (3, 2), (23, 3), (23, 4), (9, 5)] 6 := StOk.of (by kernel_rfl)
theorem in25 : InOk Try.prog 25 e_api_Entry w_api_Entry 6 := InOk.st (szs := [1, 1, 1, 1, 1, 1]) (c := c_api_Entry) (l := [(3, 0), (3, 1), (3, 2), (23, 3), (23, 4), (9, 5)]) sk25 fun enc w spare held m cs h => by
  obtain ⟨x0, w0, r0⟩ := InOk.fld h 0 in3 rfl
  obtain ⟨x1, w1, r1⟩ := InOk.fld h 1 in3 rfl
  obtain ⟨x2, w2, r2⟩ := InOk.fld h 2 in3 rfl
  obtain ⟨x3, w3, r3⟩ := InOk.fld h 3 in23 rfl
  obtain ⟨x4, w4, r4⟩ := InOk.fld h 4 in23 rfl
  obtain ⟨x5, w5, r5⟩ := InOk.fld h 5 in9 rfl
  exact ⟨⟨x0, x1, x2, x3, x4, x5⟩, ⟨w0, w1, w2, w3, w4, w5⟩, fun j hj => match j, hj with | 0, _ => r0 | 1, _ => r1 | 2, _ => r2 | 3, _ => r3 | 4, _ => r4 | 5, _ => r5 | k + 6, hj => absurd (show k + 6 < 6 from hj) (by omega)⟩
def w_congresslaw18_Where (x : congresslaw18_Where) : Prop := ((Lit.int .i64 x.Daemon).wf = true) ∧ ((Lit.int .i64 x.Group).wf = true) ∧ (∀ j, j < 8 → (Lit.int .u32 (x.M j)).wf = true)
theorem in26 : InOk Try.prog 26 (fun z => V.int .u32 z) (fun x => (Lit.int .u32 x).wf = true) 1 := InOk.int _ (by kernel_rfl) (by kernel_rfl)
theorem in28 : InOk Try.prog 28 e_a8_u32 (fun x => ∀ j, j < 8 → (Lit.int .u32 (x j)).wf = true) 8 := InOk.arr 0 (by kernel_rfl) (by kernel_rfl) in26
theorem sk30 : StOk Try.prog 30 [(3, 0), (3, 1), (28, 2)] 10 := StOk.of (by kernel_rfl)
theorem in30 : InOk Try.prog 30 e_congresslaw18_Where w_congresslaw18_Where 10 := InOk.st (szs := [1, 1, 8]) (c := c_congresslaw18_Where) (l := [(3, 0), (3, 1), (28, 2)]) sk30 fun enc w spare held m cs h => by
  obtain ⟨x0, w0, r0⟩ := InOk.fld h 0 in3 rfl
  obtain ⟨x1, w1, r1⟩ := InOk.fld h 1 in3 rfl
  obtain ⟨x2, w2, r2⟩ := InOk.fld h 2 in28 rfl
  exact ⟨⟨x0, x1, x2⟩, ⟨w0, w1, w2⟩, fun j hj => match j, hj with | 0, _ => r0 | 1, _ => r1 | 2, _ => r2 | k + 3, hj => absurd (show k + 3 < 3 from hj) (by omega)⟩
def w_congresslaw18_Did (x : congresslaw18_Did) : Prop := ((Lit.int .i64 x.Daemon).wf = true) ∧ (w_api_Entry x.E)
theorem sk45 : StOk Try.prog 45 [(3, 0), (25, 1)] 7 := StOk.of (by kernel_rfl)
theorem in45 : InOk Try.prog 45 e_congresslaw18_Did w_congresslaw18_Did 7 := InOk.st (szs := [1, 6]) (c := c_congresslaw18_Did) (l := [(3, 0), (25, 1)]) sk45 fun enc w spare held m cs h => by
  obtain ⟨x0, w0, r0⟩ := InOk.fld h 0 in3 rfl
  obtain ⟨x1, w1, r1⟩ := InOk.fld h 1 in25 rfl
  exact ⟨⟨x0, x1⟩, ⟨w0, w1⟩, fun j hj => match j, hj with | 0, _ => r0 | 1, _ => r1 | k + 2, hj => absurd (show k + 2 < 2 from hj) (by omega)⟩
end Go.Proofs.Ytpcpfcijdliicaa
