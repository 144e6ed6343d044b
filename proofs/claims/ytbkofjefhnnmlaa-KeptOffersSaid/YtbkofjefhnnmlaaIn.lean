/- Printed by gen.py. Conditions: none. -/
import Derived.Test.YtbkofjefhnnmlaaFn
import Derived.Test.YtbkofjefhnnmlaaEngP
import Derived.KernelRfl
set_option linter.unusedVariables false
set_option maxRecDepth 100000
namespace Go.Proofs.Ytbkofjefhnnmlaa
open Go.Eng
def w_api_Entry (x : api_Entry) : Prop := ((Lit.int .i64 x.Kind).wf = true) ∧ ((Lit.int .i64 x.Service).wf = true) ∧ ((Lit.int .i64 x.Group).wf = true) ∧ ((Lit.int .u64 x.Session).wf = true) ∧ ((Lit.int .u64 x.Number).wf = true) ∧ (x.Text.size ≤ maxLen)
def w_api_Kept (x : api_Kept) : Prop := ((Lit.int .i64 x.From).wf = true) ∧ ((Lit.int .u32 x.Round).wf = true) ∧ (∀ j, j < 3 → ∀ j1, j1 < 2 → w_api_Entry ((x.Frame j) j1))
def w_congresslaw10_Was (x : congresslaw10_Was) : Prop := ((x.L.length ≤ maxLen ∧ x.L.length * 352 ≤ 140737488351232) ∧ ∀ j, j < x.L.length → w_api_Kept (x.L.getD j z_api_Kept)) ∧ (∀ j, j < 8 → (Lit.int .u32 (x.C j)).wf = true) ∧ (∀ j, j < 8 → (Lit.int .u32 (x.M j)).wf = true)
theorem in3 : InOk Try.prog 3 (fun z => V.int .i64 z) (fun x => (Lit.int .i64 x).wf = true) 1 := InOk.int _ (by kernel_rfl) (by kernel_rfl)
theorem in23 : InOk Try.prog 23 (fun z => V.int .u32 z) (fun x => (Lit.int .u32 x).wf = true) 1 := InOk.int _ (by kernel_rfl) (by kernel_rfl)
theorem in29 : InOk Try.prog 29 (fun z => V.int .u64 z) (fun x => (Lit.int .u64 x).wf = true) 1 := InOk.int _ (by kernel_rfl) (by kernel_rfl)
theorem in9 : InOk Try.prog 9 (fun z => V.str z) (fun x => x.size ≤ maxLen) 1 := InOk.str (by kernel_rfl) (by kernel_rfl)
theorem sk31 : StOk Try.prog 31 [(3, 0), (3, 1), (3, 2), (29, 3), (29, 4), (9, 5)] 6 := StOk.of (by kernel_rfl)
theorem in31 : InOk Try.prog 31 e_api_Entry w_api_Entry 6 := InOk.st (szs := [1, 1, 1, 1, 1, 1]) (c := c_api_Entry) (l := [(3, 0), (3, 1), (3, 2), (29, 3), (29, 4), (9, 5)]) sk31 fun enc w spare held m cs h => by
  obtain ⟨x0, w0, r0⟩ := InOk.fld h 0 in3 rfl
  obtain ⟨x1, w1, r1⟩ := InOk.fld h 1 in3 rfl
  obtain ⟨x2, w2, r2⟩ := InOk.fld h 2 in3 rfl
  obtain ⟨x3, w3, r3⟩ := InOk.fld h 3 in29 rfl
  obtain ⟨x4, w4, r4⟩ := InOk.fld h 4 in29 rfl
  obtain ⟨x5, w5, r5⟩ := InOk.fld h 5 in9 rfl
  exact ⟨⟨x0, x1, x2, x3, x4, x5⟩, ⟨w0, w1, w2, w3, w4, w5⟩, fun j hj => match j, hj with | 0, _ => r0 | 1, _ => r1 | 2, _ => r2 | 3, _ => r3 | 4, _ => r4 | 5, _ => r5 | k + 6, hj => absurd (show k + 6 < 6 from hj) (by omega)⟩
theorem in32 : InOk Try.prog 32 e_a2_api_Entry (fun x => ∀ j, j < 2 → w_api_Entry (x j)) 12 := InOk.arr z_api_Entry (by kernel_rfl) (by kernel_rfl) in31
theorem in34 : InOk Try.prog 34 e_a3_a2_api_Entry (fun x => ∀ j, j < 3 → ∀ j1, j1 < 2 → w_api_Entry ((x j) j1)) 36 := InOk.arr (fun _ => z_api_Entry) (by kernel_rfl) (by kernel_rfl) in32
theorem sk36 : StOk Try.prog 36 [(3, 0), (23, 1), (34, 2)] 38 := StOk.of (by kernel_rfl)
theorem in36 : InOk Try.prog 36 e_api_Kept w_api_Kept 38 := InOk.st (szs := [1, 1, 36]) (c := c_api_Kept) (l := [(3, 0), (23, 1), (34, 2)]) sk36 fun enc w spare held m cs h => by
  obtain ⟨x0, w0, r0⟩ := InOk.fld h 0 in3 rfl
  obtain ⟨x1, w1, r1⟩ := InOk.fld h 1 in23 rfl
  obtain ⟨x2, w2, r2⟩ := InOk.fld h 2 in34 rfl
  exact ⟨⟨x0, x1, x2⟩, ⟨w0, w1, w2⟩, fun j hj => match j, hj with | 0, _ => r0 | 1, _ => r1 | 2, _ => r2 | k + 3, hj => absurd (show k + 3 < 3 from hj) (by omega)⟩
theorem in22 : InOk Try.prog 22 e_s_api_Kept (fun x => (x.length ≤ maxLen ∧ x.length * 352 ≤ 140737488351232) ∧ ∀ j, j < x.length → w_api_Kept (x.getD j z_api_Kept)) 1 := InOk.sl z_api_Kept (by kernel_rfl) (by kernel_rfl) (by kernel_rfl) in36 (by decide)
theorem in25 : InOk Try.prog 25 e_a8_u32 (fun x => ∀ j, j < 8 → (Lit.int .u32 (x j)).wf = true) 8 := InOk.arr 0 (by kernel_rfl) (by kernel_rfl) in23
theorem in26 : InOk Try.prog 26 e_a8_u32 (fun x => ∀ j, j < 8 → (Lit.int .u32 (x j)).wf = true) 8 := InOk.arr 0 (by kernel_rfl) (by kernel_rfl) in23
theorem sk28 : StOk Try.prog 28 [(22, 0), (25, 1), (26, 9)] 17 := StOk.of (by kernel_rfl)
theorem in28 : InOk Try.prog 28 e_congresslaw10_Was w_congresslaw10_Was 17 := InOk.st (szs := [1, 8, 8]) (c := c_congresslaw10_Was) (l := [(22, 0), (25, 1), (26, 9)]) sk28 fun enc w spare held m cs h => by
  obtain ⟨x0, w0, r0⟩ := InOk.fld h 0 in22 rfl
  obtain ⟨x1, w1, r1⟩ := InOk.fld h 1 in25 rfl
  obtain ⟨x2, w2, r2⟩ := InOk.fld h 2 in26 rfl
  exact ⟨⟨x0, x1, x2⟩, ⟨w0, w1, w2⟩, fun j hj => match j, hj with | 0, _ => r0 | 1, _ => r1 | 2, _ => r2 | k + 3, hj => absurd (show k + 3 < 3 from hj) (by omega)⟩
def w_api_Id (x : api_Id) : Prop := ((Lit.int .u32 x.Epoch).wf = true) ∧ ((Lit.int .u32 x.Coord).wf = true) ∧ ((Lit.int .u32 x.Inc).wf = true)
def w_api_Packet (x : api_Packet) : Prop := ((Lit.int .u32 x.From).wf = true) ∧ ((Lit.int .u32 x.Inc).wf = true) ∧ (w_api_Id x.Conf) ∧ (∀ j, j < 8 → (Lit.int .u32 (x.Members j)).wf = true) ∧ (∀ j, j < 8 → (Lit.int .u32 (x.Count j)).wf = true) ∧ (w_api_Id x.Promise) ∧ (∀ j, j < 8 → (Lit.int .u32 (x.Wanted j)).wf = true) ∧ (True) ∧ ((Lit.int .u32 x.Epoch).wf = true) ∧ ((Lit.int .u32 x.Round).wf = true) ∧ (∀ j, j < 3 → ∀ j1, j1 < 2 → w_api_Entry ((x.Newest j) j1)) ∧ (∀ j, j < 3 → ∀ j1, j1 < 2 → w_api_Entry ((x.Older j) j1)) ∧ ((Lit.int .u32 x.RelayOf).wf = true) ∧ ((Lit.int .u32 x.RelayRound).wf = true) ∧ (∀ j, j < 3 → ∀ j1, j1 < 2 → w_api_Entry ((x.Relay j) j1))
theorem sk49 : StOk Try.prog 49 [(23, 0), (23, 1), (23, 2)] 3 := StOk.of (by kernel_rfl)
theorem in49 : InOk Try.prog 49 e_api_Id w_api_Id 3 := InOk.st (szs := [1, 1, 1]) (c := c_api_Id) (l := [(23, 0), (23, 1), (23, 2)]) sk49 fun enc w spare held m cs h => by
  obtain ⟨x0, w0, r0⟩ := InOk.fld h 0 in23 rfl
  obtain ⟨x1, w1, r1⟩ := InOk.fld h 1 in23 rfl
  obtain ⟨x2, w2, r2⟩ := InOk.fld h 2 in23 rfl
  exact ⟨⟨x0, x1, x2⟩, ⟨w0, w1, w2⟩, fun j hj => match j, hj with | 0, _ => r0 | 1, _ => r1 | 2, _ => r2 | k + 3, hj => absurd (show k + 3 < 3 from hj) (by omega)⟩
theorem in4 : InOk Try.prog 4 (fun z => V.bool z) (fun x => True) 1 := InOk.bool (by kernel_rfl) (by kernel_rfl)
theorem sk51 : StOk Try.prog 51 [(23, 0), (23, 1), (49, 2), (26, 5), (25, 13), (49, 21), (26, 24), (4, 32), (23, 33), (23, 34), (34, 35), (34, 71), (23, 107), (23, 108), (34, 109)] 145 := StOk.of (by kernel_rfl)
theorem in51 : InOk Try.prog 51 e_api_Packet w_api_Packet 145 := InOk.st (szs := [1, 1, 3, 8, 8, 3, 8, 1, 1, 1, 36, 36, 1, 1, 36]) (c := c_api_Packet) (l := [(23, 0), (23, 1), (49, 2), (26, 5), (25, 13), (49, 21), (26, 24), (4, 32), (23, 33), (23, 34), (34, 35), (34, 71), (23, 107), (23, 108), (34, 109)]) sk51 fun enc w spare held m cs h => by
  obtain ⟨x0, w0, r0⟩ := InOk.fld h 0 in23 rfl
  obtain ⟨x1, w1, r1⟩ := InOk.fld h 1 in23 rfl
  obtain ⟨x2, w2, r2⟩ := InOk.fld h 2 in49 rfl
  obtain ⟨x3, w3, r3⟩ := InOk.fld h 3 in26 rfl
  obtain ⟨x4, w4, r4⟩ := InOk.fld h 4 in25 rfl
  obtain ⟨x5, w5, r5⟩ := InOk.fld h 5 in49 rfl
  obtain ⟨x6, w6, r6⟩ := InOk.fld h 6 in26 rfl
  obtain ⟨x7, w7, r7⟩ := InOk.fld h 7 in4 rfl
  obtain ⟨x8, w8, r8⟩ := InOk.fld h 8 in23 rfl
  obtain ⟨x9, w9, r9⟩ := InOk.fld h 9 in23 rfl
  obtain ⟨x10, w10, r10⟩ := InOk.fld h 10 in34 rfl
  obtain ⟨x11, w11, r11⟩ := InOk.fld h 11 in34 rfl
  obtain ⟨x12, w12, r12⟩ := InOk.fld h 12 in23 rfl
  obtain ⟨x13, w13, r13⟩ := InOk.fld h 13 in23 rfl
  obtain ⟨x14, w14, r14⟩ := InOk.fld h 14 in34 rfl
  exact ⟨⟨x0, x1, x2, x3, x4, x5, x6, x7, x8, x9, x10, x11, x12, x13, x14⟩, ⟨w0, w1, w2, w3, w4, w5, w6, w7, w8, w9, w10, w11, w12, w13, w14⟩, fun j hj => match j, hj with | 0, _ => r0 | 1, _ => r1 | 2, _ => r2 | 3, _ => r3 | 4, _ => r4 | 5, _ => r5 | 6, _ => r6 | 7, _ => r7 | 8, _ => r8 | 9, _ => r9 | 10, _ => r10 | 11, _ => r11 | 12, _ => r12 | 13, _ => r13 | 14, _ => r14 | k + 15, hj => absurd (show k + 15 < 15 from hj) (by omega)⟩
end Go.Proofs.Ytbkofjefhnnmlaa
