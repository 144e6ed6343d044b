/- Printed by gen.py. Conditions: none. -/
import Derived.Test.YteajgbkgijaebaaFn
import Derived.Test.YteajgbkgijaebaaEngP
import Derived.KernelRfl
set_option linter.unusedVariables false
set_option maxRecDepth 100000
namespace Go.Proofs.Yteajgbkgijaebaa
open Go.Eng
def w_api_Beat (x : api_Beat) : Prop := ((Lit.int .u32 x.Now).wf = true) ∧ (∀ j, j < 8 → (Lit.int .u32 (x.Heard j)).wf = true) ∧ (∀ j, j < 8 → (Lit.int .u32 (x.Inc j)).wf = true)
def w_api_Id (x : api_Id) : Prop := ((Lit.int .u32 x.Epoch).wf = true) ∧ ((Lit.int .u32 x.Coord).wf = true) ∧ ((Lit.int .u32 x.Inc).wf = true)
def w_api_Entry (x : api_Entry) : Prop := ((Lit.int .i64 x.Kind).wf = true) ∧ ((Lit.int .i64 x.Service).wf = true) ∧ ((Lit.int .i64 x.Group).wf = true) ∧ ((Lit.int .u64 x.Session).wf = true) ∧ ((Lit.int .u64 x.Number).wf = true) ∧ (x.Text.size ≤ maxLen)
def w_api_Kept (x : api_Kept) : Prop := ((Lit.int .i64 x.From).wf = true) ∧ ((Lit.int .u32 x.Round).wf = true) ∧ (∀ j, j < 3 → ∀ j1, j1 < 2 → w_api_Entry ((x.Frame j) j1))
def w_api_Peer (x : api_Peer) : Prop := ((Lit.int .u32 x.Inc).wf = true) ∧ (w_api_Id x.Conf) ∧ (w_api_Id x.Promise) ∧ (∀ j, j < 8 → (Lit.int .u32 (x.Cut j)).wf = true) ∧ (True)
def w_api_Core (x : api_Core) : Prop := ((Lit.int .i64 x.Self).wf = true) ∧ ((Lit.int .i64 x.Wait).wf = true) ∧ ((Lit.int .u32 x.Own).wf = true) ∧ (w_api_Beat x.Beat) ∧ (w_api_Id x.Conf) ∧ (∀ j, j < 8 → (Lit.int .u32 (x.Members j)).wf = true) ∧ (∀ j, j < 8 → (Lit.int .u32 (x.Count j)).wf = true) ∧ ((x.Kept.length ≤ maxLen ∧ x.Kept.length * 352 ≤ 140737488351232) ∧ ∀ j, j < x.Kept.length → w_api_Kept (x.Kept.getD j z_api_Kept)) ∧ (w_api_Id x.Promise) ∧ (∀ j, j < 8 → (Lit.int .u32 (x.Wanted j)).wf = true) ∧ (∀ j, j < 8 → (Lit.int .u32 (x.Cut j)).wf = true) ∧ (True) ∧ (∀ j, j < 8 → w_api_Peer (x.Peers j)) ∧ ((Lit.int .u32 x.Epoch).wf = true)
theorem in3 : InOk Try.prog 3 (fun z => V.int .i64 z) (fun x => (Lit.int .i64 x).wf = true) 1 := InOk.int _ (by kernel_rfl) (by kernel_rfl)
theorem in22 : InOk Try.prog 22 (fun z => V.int .u32 z) (fun x => (Lit.int .u32 x).wf = true) 1 := InOk.int _ (by kernel_rfl) (by kernel_rfl)
theorem in23 : InOk Try.prog 23 e_a8_u32 (fun x => ∀ j, j < 8 → (Lit.int .u32 (x j)).wf = true) 8 := InOk.arr 0 (by kernel_rfl) (by kernel_rfl) in22
theorem sk25 : StOk Try.prog 25 [(22, 0), (23, 1), (23, 9)] 17 := StOk.of (by kernel_rfl)
theorem in25 : InOk Try.prog 25 e_api_Beat w_api_Beat 17 := InOk.st (szs := [1, 8, 8]) (c := c_api_Beat) (l := [(22, 0), (23, 1), (23, 9)]) sk25 fun enc w spare held m cs h => by
  obtain ⟨x0, w0, r0⟩ := InOk.fld h 0 in22 rfl
  obtain ⟨x1, w1, r1⟩ := InOk.fld h 1 in23 rfl
  obtain ⟨x2, w2, r2⟩ := InOk.fld h 2 in23 rfl
  exact ⟨⟨x0, x1, x2⟩, ⟨w0, w1, w2⟩, fun j hj => match j, hj with | 0, _ => r0 | 1, _ => r1 | 2, _ => r2 | k + 3, hj => absurd (show k + 3 < 3 from hj) (by omega)⟩
theorem sk27 : StOk Try.prog 27 [(22, 0), (22, 1), (22, 2)] 3 := StOk.of (by kernel_rfl)
theorem in27 : InOk Try.prog 27 e_api_Id w_api_Id 3 := InOk.st (szs := [1, 1, 1]) (c := c_api_Id) (l := [(22, 0), (22, 1), (22, 2)]) sk27 fun enc w spare held m cs h => by
  obtain ⟨x0, w0, r0⟩ := InOk.fld h 0 in22 rfl
  obtain ⟨x1, w1, r1⟩ := InOk.fld h 1 in22 rfl
  obtain ⟨x2, w2, r2⟩ := InOk.fld h 2 in22 rfl
  exact ⟨⟨x0, x1, x2⟩, ⟨w0, w1, w2⟩, fun j hj => match j, hj with | 0, _ => r0 | 1, _ => r1 | 2, _ => r2 | k + 3, hj => absurd (show k + 3 < 3 from hj) (by omega)⟩
theorem in28 : InOk Try.prog 28 e_a8_u32 (fun x => ∀ j, j < 8 → (Lit.int .u32 (x j)).wf = true) 8 := InOk.arr 0 (by kernel_rfl) (by kernel_rfl) in22
theorem in29 : InOk Try.prog 29 e_a8_u32 (fun x => ∀ j, j < 8 → (Lit.int .u32 (x j)).wf = true) 8 := InOk.arr 0 (by kernel_rfl) (by kernel_rfl) in22
theorem in36 : InOk Try.prog 36 (fun z => V.int .u64 z) (fun x => (Lit.int .u64 x).wf = true) 1 := InOk.int _ (by kernel_rfl) (by kernel_rfl)
theorem in9 : InOk Try.prog 9 (fun z => V.str z) (fun x => x.size ≤ maxLen) 1 := InOk.str (by kernel_rfl) (by kernel_rfl)
theorem sk38 : StOk Try.prog 38 [(3, 0), (3, 1), (3, 2), (36, 3), (36, 4), (9, 5)] 6 := StOk.of (by kernel_rfl)
theorem in38 : InOk Try.prog 38 e_api_Entry w_api_Entry 6 := InOk.st (szs := [1, 1, 1, 1, 1, 1]) (c := c_api_Entry) (l := [(3, 0), (3, 1), (3, 2), (36, 3), (36, 4), (9, 5)]) sk38 fun enc w spare held m cs h => by
  obtain ⟨x0, w0, r0⟩ := InOk.fld h 0 in3 rfl
  obtain ⟨x1, w1, r1⟩ := InOk.fld h 1 in3 rfl
  obtain ⟨x2, w2, r2⟩ := InOk.fld h 2 in3 rfl
  obtain ⟨x3, w3, r3⟩ := InOk.fld h 3 in36 rfl
  obtain ⟨x4, w4, r4⟩ := InOk.fld h 4 in36 rfl
  obtain ⟨x5, w5, r5⟩ := InOk.fld h 5 in9 rfl
  exact ⟨⟨x0, x1, x2, x3, x4, x5⟩, ⟨w0, w1, w2, w3, w4, w5⟩, fun j hj => match j, hj with | 0, _ => r0 | 1, _ => r1 | 2, _ => r2 | 3, _ => r3 | 4, _ => r4 | 5, _ => r5 | k + 6, hj => absurd (show k + 6 < 6 from hj) (by omega)⟩
theorem in39 : InOk Try.prog 39 e_a2_api_Entry (fun x => ∀ j, j < 2 → w_api_Entry (x j)) 12 := InOk.arr z_api_Entry (by kernel_rfl) (by kernel_rfl) in38
theorem in41 : InOk Try.prog 41 e_a3_a2_api_Entry (fun x => ∀ j, j < 3 → ∀ j1, j1 < 2 → w_api_Entry ((x j) j1)) 36 := InOk.arr (fun _ => z_api_Entry) (by kernel_rfl) (by kernel_rfl) in39
theorem sk90 : StOk Try.prog 90 [(3, 0), (22, 1), (41, 2)] 38 := StOk.of (by kernel_rfl)
theorem in90 : InOk Try.prog 90 e_api_Kept w_api_Kept 38 := InOk.st (szs := [1, 1, 36]) (c := c_api_Kept) (l := [(3, 0), (22, 1), (41, 2)]) sk90 fun enc w spare held m cs h => by
  obtain ⟨x0, w0, r0⟩ := InOk.fld h 0 in3 rfl
  obtain ⟨x1, w1, r1⟩ := InOk.fld h 1 in22 rfl
  obtain ⟨x2, w2, r2⟩ := InOk.fld h 2 in41 rfl
  exact ⟨⟨x0, x1, x2⟩, ⟨w0, w1, w2⟩, fun j hj => match j, hj with | 0, _ => r0 | 1, _ => r1 | 2, _ => r2 | k + 3, hj => absurd (show k + 3 < 3 from hj) (by omega)⟩
theorem in30 : InOk Try.prog 30 e_s_api_Kept (fun x => (x.length ≤ maxLen ∧ x.length * 352 ≤ 140737488351232) ∧ ∀ j, j < x.length → w_api_Kept (x.getD j z_api_Kept)) 1 := InOk.sl z_api_Kept (by kernel_rfl) (by kernel_rfl) (by kernel_rfl) in90 (by decide)
theorem in4 : InOk Try.prog 4 (fun z => V.bool z) (fun x => True) 1 := InOk.bool (by kernel_rfl) (by kernel_rfl)
theorem sk32 : StOk Try.prog 32 [(22, 0), (27, 1), (27, 4), (29, 7), (4, 15)] 16 := StOk.of (by kernel_rfl)
theorem in32 : InOk Try.prog 32 e_api_Peer w_api_Peer 16 := InOk.st (szs := [1, 3, 3, 8, 1]) (c := c_api_Peer) (l := [(22, 0), (27, 1), (27, 4), (29, 7), (4, 15)]) sk32 fun enc w spare held m cs h => by
  obtain ⟨x0, w0, r0⟩ := InOk.fld h 0 in22 rfl
  obtain ⟨x1, w1, r1⟩ := InOk.fld h 1 in27 rfl
  obtain ⟨x2, w2, r2⟩ := InOk.fld h 2 in27 rfl
  obtain ⟨x3, w3, r3⟩ := InOk.fld h 3 in29 rfl
  obtain ⟨x4, w4, r4⟩ := InOk.fld h 4 in4 rfl
  exact ⟨⟨x0, x1, x2, x3, x4⟩, ⟨w0, w1, w2, w3, w4⟩, fun j hj => match j, hj with | 0, _ => r0 | 1, _ => r1 | 2, _ => r2 | 3, _ => r3 | 4, _ => r4 | k + 5, hj => absurd (show k + 5 < 5 from hj) (by omega)⟩
theorem in33 : InOk Try.prog 33 e_a8_api_Peer (fun x => ∀ j, j < 8 → w_api_Peer (x j)) 128 := InOk.arr z_api_Peer (by kernel_rfl) (by kernel_rfl) in32
theorem sk35 : StOk Try.prog 35 [(3, 0), (3, 1), (22, 2), (25, 3), (27, 20), (28, 23), (29, 31), (30, 39), (27, 40), (28, 43), (29, 51), (4, 59), (33, 60), (22, 188)] 189 := StOk.of (by kernel_rfl)
theorem in35 : InOk Try.prog 35 e_api_Core w_api_Core 189 := InOk.st (szs := [1, 1, 1, 17, 3, 8, 8, 1, 3, 8, 8, 1, 128, 1]) (c := c_api_Core) (l := [(3, 0), (3, 1), (22, 2), (25, 3), (27, 20), (28, 23), (29, 31), (30, 39), (27, 40), (28, 43), (29, 51), (4, 59), (33, 60), (22, 188)]) sk35 fun enc w spare held m cs h => by
  obtain ⟨x0, w0, r0⟩ := InOk.fld h 0 in3 rfl
  obtain ⟨x1, w1, r1⟩ := InOk.fld h 1 in3 rfl
  obtain ⟨x2, w2, r2⟩ := InOk.fld h 2 in22 rfl
  obtain ⟨x3, w3, r3⟩ := InOk.fld h 3 in25 rfl
  obtain ⟨x4, w4, r4⟩ := InOk.fld h 4 in27 rfl
  obtain ⟨x5, w5, r5⟩ := InOk.fld h 5 in28 rfl
  obtain ⟨x6, w6, r6⟩ := InOk.fld h 6 in29 rfl
  obtain ⟨x7, w7, r7⟩ := InOk.fld h 7 in30 rfl
  obtain ⟨x8, w8, r8⟩ := InOk.fld h 8 in27 rfl
  obtain ⟨x9, w9, r9⟩ := InOk.fld h 9 in28 rfl
  obtain ⟨x10, w10, r10⟩ := InOk.fld h 10 in29 rfl
  obtain ⟨x11, w11, r11⟩ := InOk.fld h 11 in4 rfl
  obtain ⟨x12, w12, r12⟩ := InOk.fld h 12 in33 rfl
  obtain ⟨x13, w13, r13⟩ := InOk.fld h 13 in22 rfl
  exact ⟨⟨x0, x1, x2, x3, x4, x5, x6, x7, x8, x9, x10, x11, x12, x13⟩, ⟨w0, w1, w2, w3, w4, w5, w6, w7, w8, w9, w10, w11, w12, w13⟩, fun j hj => match j, hj with | 0, _ => r0 | 1, _ => r1 | 2, _ => r2 | 3, _ => r3 | 4, _ => r4 | 5, _ => r5 | 6, _ => r6 | 7, _ => r7 | 8, _ => r8 | 9, _ => r9 | 10, _ => r10 | 11, _ => r11 | 12, _ => r12 | 13, _ => r13 | k + 14, hj => absurd (show k + 14 < 14 from hj) (by omega)⟩
def w_api_Packet (x : api_Packet) : Prop := ((Lit.int .u32 x.From).wf = true) ∧ ((Lit.int .u32 x.Inc).wf = true) ∧ (w_api_Id x.Conf) ∧ (∀ j, j < 8 → (Lit.int .u32 (x.Members j)).wf = true) ∧ (∀ j, j < 8 → (Lit.int .u32 (x.Count j)).wf = true) ∧ (w_api_Id x.Promise) ∧ (∀ j, j < 8 → (Lit.int .u32 (x.Wanted j)).wf = true) ∧ (True) ∧ ((Lit.int .u32 x.Epoch).wf = true) ∧ ((Lit.int .u32 x.Round).wf = true) ∧ (∀ j, j < 3 → ∀ j1, j1 < 2 → w_api_Entry ((x.Newest j) j1)) ∧ (∀ j, j < 3 → ∀ j1, j1 < 2 → w_api_Entry ((x.Older j) j1)) ∧ ((Lit.int .u32 x.RelayOf).wf = true) ∧ ((Lit.int .u32 x.RelayRound).wf = true) ∧ (∀ j, j < 3 → ∀ j1, j1 < 2 → w_api_Entry ((x.Relay j) j1))
theorem sk43 : StOk Try.prog 43 [(22, 0), (22, 1), (27, 2), (28, 5), (29, 13), (27, 21), (28, 24), (4, 32), (22, 33), (22, 34), (41, 35), (41, 71), (22, 107), (22, 108), (41, 109)] 145 := StOk.of (by kernel_rfl)
theorem in43 : InOk Try.prog 43 e_api_Packet w_api_Packet 145 := InOk.st (szs := [1, 1, 3, 8, 8, 3, 8, 1, 1, 1, 36, 36, 1, 1, 36]) (c := c_api_Packet) (l := [(22, 0), (22, 1), (27, 2), (28, 5), (29, 13), (27, 21), (28, 24), (4, 32), (22, 33), (22, 34), (41, 35), (41, 71), (22, 107), (22, 108), (41, 109)]) sk43 fun enc w spare held m cs h => by
  obtain ⟨x0, w0, r0⟩ := InOk.fld h 0 in22 rfl
  obtain ⟨x1, w1, r1⟩ := InOk.fld h 1 in22 rfl
  obtain ⟨x2, w2, r2⟩ := InOk.fld h 2 in27 rfl
  obtain ⟨x3, w3, r3⟩ := InOk.fld h 3 in28 rfl
  obtain ⟨x4, w4, r4⟩ := InOk.fld h 4 in29 rfl
  obtain ⟨x5, w5, r5⟩ := InOk.fld h 5 in27 rfl
  obtain ⟨x6, w6, r6⟩ := InOk.fld h 6 in28 rfl
  obtain ⟨x7, w7, r7⟩ := InOk.fld h 7 in4 rfl
  obtain ⟨x8, w8, r8⟩ := InOk.fld h 8 in22 rfl
  obtain ⟨x9, w9, r9⟩ := InOk.fld h 9 in22 rfl
  obtain ⟨x10, w10, r10⟩ := InOk.fld h 10 in41 rfl
  obtain ⟨x11, w11, r11⟩ := InOk.fld h 11 in41 rfl
  obtain ⟨x12, w12, r12⟩ := InOk.fld h 12 in22 rfl
  obtain ⟨x13, w13, r13⟩ := InOk.fld h 13 in22 rfl
  obtain ⟨x14, w14, r14⟩ := InOk.fld h 14 in41 rfl
  exact ⟨⟨x0, x1, x2, x3, x4, x5, x6, x7, x8, x9, x10, x11, x12, x13, x14⟩, ⟨w0, w1, w2, w3, w4, w5, w6, w7, w8, w9, w10, w11, w12, w13, w14⟩, fun j hj => match j, hj with | 0, _ => r0 | 1, _ => r1 | 2, _ => r2 | 3, _ => r3 | 4, _ => r4 | 5, _ => r5 | 6, _ => r6 | 7, _ => r7 | 8, _ => r8 | 9, _ => r9 | 10, _ => r10 | 11, _ => r11 | 12, _ => r12 | 13, _ => r13 | 14, _ => r14 | k + 15, hj => absurd (show k + 15 < 15 from hj) (by omega)⟩
end Go.Proofs.Yteajgbkgijaebaa
