/- Printed by gen.py. Conditions: none. -/
import Derived.Test.YtclblogdciebnaaFn
import Derived.Test.YtclblogdciebnaaEngP
import Derived.KernelRfl
set_option linter.unusedVariables false
set_option maxRecDepth 100000
namespace Go.Proofs.Ytclblogdciebnaa
open Go.Eng
def w_api_Place (x : api_Place) : Prop := ((Lit.int .u32 x.Round).wf = true) ∧ ((Lit.int .i64 x.From).wf = true) ∧ ((Lit.int .i64 x.Slot).wf = true)
def w_api_Entry (x : api_Entry) : Prop := ((Lit.int .i64 x.Kind).wf = true) ∧ ((Lit.int .i64 x.Service).wf = true) ∧ ((Lit.int .i64 x.Group).wf = true) ∧ ((Lit.int .u64 x.Session).wf = true) ∧ ((Lit.int .u64 x.Number).wf = true) ∧ (x.Text.size ≤ 140737488351232)
def w_api_Wait (x : api_Wait) : Prop := (w_api_Place x.Place) ∧ (w_api_Entry x.Entry)
theorem in23 : InOk Try.prog 23 (fun z => V.int .u32 z) (fun x => (Lit.int .u32 x).wf = true) 1 := InOk.int _ (by kernel_rfl) (by kernel_rfl)
theorem in3 : InOk Try.prog 3 (fun z => V.int .i64 z) (fun x => (Lit.int .i64 x).wf = true) 1 := InOk.int _ (by kernel_rfl) (by kernel_rfl)
theorem sk42 : StOk Try.prog 42 [(23, 0), (3, 1), (3, 2)] 3 := StOk.of (by kernel_rfl)
theorem in42 : InOk Try.prog 42 e_api_Place w_api_Place 3 := InOk.st (szs := [1, 1, 1]) (c := c_api_Place) (l := [(23, 0), (3, 1), (3, 2)]) sk42 fun enc w spare held m cs h => by
  obtain ⟨x0, w0, r0⟩ := InOk.fld h 0 in23 rfl
  obtain ⟨x1, w1, r1⟩ := InOk.fld h 1 in3 rfl
  obtain ⟨x2, w2, r2⟩ := InOk.fld h 2 in3 rfl
  exact ⟨⟨x0, x1, x2⟩, ⟨w0, w1, w2⟩, fun j hj => match j, hj with | 0, _ => r0 | 1, _ => r1 | 2, _ => r2 | k + 3, hj => absurd (show k + 3 < 3 from hj) (by omega)⟩
theorem in43 : InOk Try.prog 43 (fun z => V.int .u64 z) (fun x => (Lit.int .u64 x).wf = true) 1 := InOk.int _ (by kernel_rfl) (by kernel_rfl)
theorem in9 : InOk Try.prog 9 (fun z => V.str z) (fun x => x.size ≤ 140737488351232) 1 := InOk.str (by kernel_rfl) (by kernel_rfl)
theorem sk45 : StOk Try.prog 45 [(3, 0), (3, 1), (3, 2), (43, 3), (43, 4), (9, 5)] 6 := StOk.of (by kernel_rfl)
theorem in45 : InOk Try.prog 45 e_api_Entry w_api_Entry 6 := InOk.st (szs := [1, 1, 1, 1, 1, 1]) (c := c_api_Entry) (l := [(3, 0), (3, 1), (3, 2), (43, 3), (43, 4), (9, 5)]) sk45 fun enc w spare held m cs h => by
  obtain ⟨x0, w0, r0⟩ := InOk.fld h 0 in3 rfl
  obtain ⟨x1, w1, r1⟩ := InOk.fld h 1 in3 rfl
  obtain ⟨x2, w2, r2⟩ := InOk.fld h 2 in3 rfl
  obtain ⟨x3, w3, r3⟩ := InOk.fld h 3 in43 rfl
  obtain ⟨x4, w4, r4⟩ := InOk.fld h 4 in43 rfl
  obtain ⟨x5, w5, r5⟩ := InOk.fld h 5 in9 rfl
  exact ⟨⟨x0, x1, x2, x3, x4, x5⟩, ⟨w0, w1, w2, w3, w4, w5⟩, fun j hj => match j, hj with | 0, _ => r0 | 1, _ => r1 | 2, _ => r2 | 3, _ => r3 | 4, _ => r4 | 5, _ => r5 | k + 6, hj => absurd (show k + 6 < 6 from hj) (by omega)⟩
theorem sk47 : StOk Try.prog 47 [(42, 0), (45, 3)] 9 := StOk.of (by kernel_rfl)
theorem in47 : InOk Try.prog 47 e_api_Wait w_api_Wait 9 := InOk.st (szs := [3, 6]) (c := c_api_Wait) (l := [(42, 0), (45, 3)]) sk47 fun enc w spare held m cs h => by
  obtain ⟨x0, w0, r0⟩ := InOk.fld h 0 in42 rfl
  obtain ⟨x1, w1, r1⟩ := InOk.fld h 1 in45 rfl
  exact ⟨⟨x0, x1⟩, ⟨w0, w1⟩, fun j hj => match j, hj with | 0, _ => r0 | 1, _ => r1 | k + 2, hj => absurd (show k + 2 < 2 from hj) (by omega)⟩
theorem in22 : InOk Try.prog 22 e_s_api_Wait (fun x => (x.length ≤ maxLen ∧ x.length * 80 ≤ 140737488351232) ∧ ∀ j, j < x.length → w_api_Wait (x.getD j z_api_Wait)) 1 := InOk.sl z_api_Wait (by kernel_rfl) (by kernel_rfl) (by kernel_rfl) in47 (by decide)
def w_congresslaw22_Frame (x : congresslaw22_Frame) : Prop := ((Lit.int .i64 x.From).wf = true) ∧ ((Lit.int .u32 x.Round).wf = true) ∧ ((x.L.length ≤ maxLen ∧ x.L.length * 56 ≤ 140737488351232) ∧ ∀ j, j < x.L.length → w_api_Entry (x.L.getD j z_api_Entry))
theorem in24 : InOk Try.prog 24 e_s_api_Entry (fun x => (x.length ≤ maxLen ∧ x.length * 56 ≤ 140737488351232) ∧ ∀ j, j < x.length → w_api_Entry (x.getD j z_api_Entry)) 1 := InOk.sl z_api_Entry (by kernel_rfl) (by kernel_rfl) (by kernel_rfl) in45 (by decide)
theorem sk26 : StOk Try.prog 26 [(3, 0), (23, 1), (24, 2)] 3 := StOk.of (by kernel_rfl)
theorem in26 : InOk Try.prog 26 e_congresslaw22_Frame w_congresslaw22_Frame 3 := InOk.st (szs := [1, 1, 1]) (c := c_congresslaw22_Frame) (l := [(3, 0), (23, 1), (24, 2)]) sk26 fun enc w spare held m cs h => by
  obtain ⟨x0, w0, r0⟩ := InOk.fld h 0 in3 rfl
  obtain ⟨x1, w1, r1⟩ := InOk.fld h 1 in23 rfl
  obtain ⟨x2, w2, r2⟩ := InOk.fld h 2 in24 rfl
  exact ⟨⟨x0, x1, x2⟩, ⟨w0, w1, w2⟩, fun j hj => match j, hj with | 0, _ => r0 | 1, _ => r1 | 2, _ => r2 | k + 3, hj => absurd (show k + 3 < 3 from hj) (by omega)⟩
def w_congresslaw22_Where (x : congresslaw22_Where) : Prop := (∀ j, j < 8 → (Lit.int .u32 (x.C j)).wf = true) ∧ (∀ j, j < 8 → (Lit.int .u32 (x.M j)).wf = true)
theorem in28 : InOk Try.prog 28 e_a8_u32 (fun x => ∀ j, j < 8 → (Lit.int .u32 (x j)).wf = true) 8 := InOk.arr 0 (by kernel_rfl) (by kernel_rfl) in23
theorem in29 : InOk Try.prog 29 e_a8_u32 (fun x => ∀ j, j < 8 → (Lit.int .u32 (x j)).wf = true) 8 := InOk.arr 0 (by kernel_rfl) (by kernel_rfl) in23
theorem sk31 : StOk Try.prog 31 [(28, 0), (29, 8)] 16 := StOk.of (by kernel_rfl)
theorem in31 : InOk Try.prog 31 e_congresslaw22_Where w_congresslaw22_Where 16 := InOk.st (szs := [8, 8]) (c := c_congresslaw22_Where) (l := [(28, 0), (29, 8)]) sk31 fun enc w spare held m cs h => by
  obtain ⟨x0, w0, r0⟩ := InOk.fld h 0 in28 rfl
  obtain ⟨x1, w1, r1⟩ := InOk.fld h 1 in29 rfl
  exact ⟨⟨x0, x1⟩, ⟨w0, w1⟩, fun j hj => match j, hj with | 0, _ => r0 | 1, _ => r1 | k + 2, hj => absurd (show k + 2 < 2 from hj) (by omega)⟩
def w_congresslaw22_Play (x : congresslaw22_Play) : Prop := (∀ j, j < 8 → (Lit.int .u32 (x.M j)).wf = true) ∧ ((x.L.length ≤ maxLen ∧ x.L.length * 40 ≤ 140737488351232) ∧ ∀ j, j < x.L.length → w_congresslaw22_Frame (x.L.getD j z_congresslaw22_Frame))
theorem in48 : InOk Try.prog 48 e_s_congresslaw22_Frame (fun x => (x.length ≤ maxLen ∧ x.length * 40 ≤ 140737488351232) ∧ ∀ j, j < x.length → w_congresslaw22_Frame (x.getD j z_congresslaw22_Frame)) 1 := InOk.sl z_congresslaw22_Frame (by kernel_rfl) (by kernel_rfl) (by kernel_rfl) in26 (by decide)
theorem sk50 : StOk Try.prog 50 [(29, 0), (48, 8)] 9 := StOk.of (by kernel_rfl)
theorem in50 : InOk Try.prog 50 e_congresslaw22_Play w_congresslaw22_Play 9 := InOk.st (szs := [8, 1]) (c := c_congresslaw22_Play) (l := [(29, 0), (48, 8)]) sk50 fun enc w spare held m cs h => by
  obtain ⟨x0, w0, r0⟩ := InOk.fld h 0 in29 rfl
  obtain ⟨x1, w1, r1⟩ := InOk.fld h 1 in48 rfl
  exact ⟨⟨x0, x1⟩, ⟨w0, w1⟩, fun j hj => match j, hj with | 0, _ => r0 | 1, _ => r1 | k + 2, hj => absurd (show k + 2 < 2 from hj) (by omega)⟩
end Go.Proofs.Ytclblogdciebnaa
