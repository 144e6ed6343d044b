/- Printed by gen.py. Conditions: none. -/
import Derived.Test.YtbkofjefhnnmlaaEngX
import Derived.Test.YtbkofjefhnnmlaaProg
import Derived.KernelRfl
set_option linter.unusedVariables false
set_option maxRecDepth 100000
namespace Go.Proofs.Ytbkofjefhnnmlaa
open Go.Eng
structure api_Entry where
  Kind : Int
  Service : Int
  Group : Int
  Session : Int
  Number : Int
  Text : ByteArray
def z_api_Entry : api_Entry := { Kind := 0, Service := 0, Group := 0, Session := 0, Number := 0, Text := ByteArray.empty }
def c_api_Entry (x : api_Entry) : Nat → V
  | 0 => (.int .i64 x.Kind)
  | 1 => (.int .i64 x.Service)
  | 2 => (.int .i64 x.Group)
  | 3 => (.int .u64 x.Session)
  | 4 => (.int .u64 x.Number)
  | 5 => (.str x.Text)
  | _ => .bool false
def e_api_Entry (x : api_Entry) : V := .agg (.st [1, 1, 1, 1, 1, 1]) (c_api_Entry x)
theorem d_api_Entry (x : api_Entry) : (e_api_Entry x).Data := fun j => match j with
  | 0 => trivial
  | 1 => trivial
  | 2 => trivial
  | 3 => trivial
  | 4 => trivial
  | 5 => trivial
  | _ + 6 => trivial
theorem f_api_Entry (x : api_Entry) : (e_api_Entry x).Flat := fun j => match j with
  | 0 => trivial
  | 1 => trivial
  | 2 => trivial
  | 3 => trivial
  | 4 => trivial
  | 5 => trivial
  | _ + 6 => trivial
def b_api_Entry (x y : api_Entry) : Bool := (x.Kind == y.Kind) && ((x.Service == y.Service) && ((x.Group == y.Group) && ((x.Session == y.Session) && ((x.Number == y.Number) && ((x.Text == y.Text))))))
theorem q_api_Entry (x y : api_Entry) : eqV (e_api_Entry x) (e_api_Entry y) = b_api_Entry x y := by
  have h : eqV (e_api_Entry x) (e_api_Entry y) = ((List.range 6).all fun j => eqV (c_api_Entry x j) (c_api_Entry y j)) := rfl
  have hr : List.range 6 = [0, 1, 2, 3, 4, 5] := rfl
  rw [h, hr]
  simp only [List.all_cons, List.all_nil, Bool.and_true, c_api_Entry, b_api_Entry, eqV]
theorem al_api_Entry (x y : api_Entry) : Akin (e_api_Entry x) (e_api_Entry y) := .agg _ _ _ fun j h => match j, h with
  | 0, _ => .int _ _ _
  | 1, _ => .int _ _ _
  | 2, _ => .int _ _ _
  | 3, _ => .int _ _ _
  | 4, _ => .int _ _ _
  | 5, _ => .str _ _
  | n + 6, h => absurd (show n + 6 < 6 from h) (by omega)
theorem st_api_Entry_0 (x : api_Entry) (v : Int) : vupd (c_api_Entry x) 0 (.int .i64 v) = c_api_Entry { x with Kind := v } := by
  funext j; match j with
  | 0 => rfl
  | 1 => rfl
  | 2 => rfl
  | 3 => rfl
  | 4 => rfl
  | 5 => rfl
  | _ + 6 => rfl
theorem st_api_Entry_1 (x : api_Entry) (v : Int) : vupd (c_api_Entry x) 1 (.int .i64 v) = c_api_Entry { x with Service := v } := by
  funext j; match j with
  | 0 => rfl
  | 1 => rfl
  | 2 => rfl
  | 3 => rfl
  | 4 => rfl
  | 5 => rfl
  | _ + 6 => rfl
theorem st_api_Entry_2 (x : api_Entry) (v : Int) : vupd (c_api_Entry x) 2 (.int .i64 v) = c_api_Entry { x with Group := v } := by
  funext j; match j with
  | 0 => rfl
  | 1 => rfl
  | 2 => rfl
  | 3 => rfl
  | 4 => rfl
  | 5 => rfl
  | _ + 6 => rfl
theorem st_api_Entry_3 (x : api_Entry) (v : Int) : vupd (c_api_Entry x) 3 (.int .u64 v) = c_api_Entry { x with Session := v } := by
  funext j; match j with
  | 0 => rfl
  | 1 => rfl
  | 2 => rfl
  | 3 => rfl
  | 4 => rfl
  | 5 => rfl
  | _ + 6 => rfl
theorem st_api_Entry_4 (x : api_Entry) (v : Int) : vupd (c_api_Entry x) 4 (.int .u64 v) = c_api_Entry { x with Number := v } := by
  funext j; match j with
  | 0 => rfl
  | 1 => rfl
  | 2 => rfl
  | 3 => rfl
  | 4 => rfl
  | 5 => rfl
  | _ + 6 => rfl
theorem st_api_Entry_5 (x : api_Entry) (v : ByteArray) : vupd (c_api_Entry x) 5 (.str v) = c_api_Entry { x with Text := v } := by
  funext j; match j with
  | 0 => rfl
  | 1 => rfl
  | 2 => rfl
  | 3 => rfl
  | 4 => rfl
  | 5 => rfl
  | _ + 6 => rfl
def e_a2_api_Entry (x : Nat → api_Entry) : V := .agg (.ar 2 6) fun j => (e_api_Entry (x j))
theorem d_a2_api_Entry (x : Nat → api_Entry) : (e_a2_api_Entry x).Data := fun j => (d_api_Entry (x j))
theorem f_a2_api_Entry (x : Nat → api_Entry) : (e_a2_api_Entry x).Flat := fun j => (f_api_Entry (x j))
def b_a2_api_Entry (x y : Nat → api_Entry) : Bool := (List.range 2).all fun j => (b_api_Entry (x j) (y j))
theorem q_a2_api_Entry (x y : Nat → api_Entry) : eqV (e_a2_api_Entry x) (e_a2_api_Entry y) = b_a2_api_Entry x y := by
  have h : eqV (e_a2_api_Entry x) (e_a2_api_Entry y) = ((List.range 2).all fun j => eqV (e_api_Entry (x j)) (e_api_Entry (y j))) := rfl
  rw [h]; simp only [b_a2_api_Entry, q_api_Entry]
theorem al_a2_api_Entry (x y : Nat → api_Entry) : Akin (e_a2_api_Entry x) (e_a2_api_Entry y) := .agg _ _ _ fun j _ => al_api_Entry _ _
def e_a3_a2_api_Entry (x : Nat → (Nat → api_Entry)) : V := .agg (.ar 3 12) fun j => (e_a2_api_Entry (x j))
theorem d_a3_a2_api_Entry (x : Nat → (Nat → api_Entry)) : (e_a3_a2_api_Entry x).Data := fun j => (d_a2_api_Entry (x j))
theorem f_a3_a2_api_Entry (x : Nat → (Nat → api_Entry)) : (e_a3_a2_api_Entry x).Flat := fun j => (f_a2_api_Entry (x j))
def b_a3_a2_api_Entry (x y : Nat → (Nat → api_Entry)) : Bool := (List.range 3).all fun j => (b_a2_api_Entry (x j) (y j))
theorem q_a3_a2_api_Entry (x y : Nat → (Nat → api_Entry)) : eqV (e_a3_a2_api_Entry x) (e_a3_a2_api_Entry y) = b_a3_a2_api_Entry x y := by
  have h : eqV (e_a3_a2_api_Entry x) (e_a3_a2_api_Entry y) = ((List.range 3).all fun j => eqV (e_a2_api_Entry (x j)) (e_a2_api_Entry (y j))) := rfl
  rw [h]; simp only [b_a3_a2_api_Entry, q_a2_api_Entry]
theorem al_a3_a2_api_Entry (x y : Nat → (Nat → api_Entry)) : Akin (e_a3_a2_api_Entry x) (e_a3_a2_api_Entry y) := .agg _ _ _ fun j _ => al_a2_api_Entry _ _
structure api_Kept where
  From : Int
  Round : Int
  Frame : (Nat → (Nat → api_Entry))
def z_api_Kept : api_Kept := { From := 0, Round := 0, Frame := (fun _ => (fun _ => z_api_Entry)) }
def c_api_Kept (x : api_Kept) : Nat → V
  | 0 => (.int .i64 x.From)
  | 1 => (.int .u32 x.Round)
  | 2 => (e_a3_a2_api_Entry x.Frame)
  | _ => .bool false
def e_api_Kept (x : api_Kept) : V := .agg (.st [1, 1, 36]) (c_api_Kept x)
theorem d_api_Kept (x : api_Kept) : (e_api_Kept x).Data := fun j => match j with
  | 0 => trivial
  | 1 => trivial
  | 2 => (d_a3_a2_api_Entry x.Frame)
  | _ + 3 => trivial
theorem f_api_Kept (x : api_Kept) : (e_api_Kept x).Flat := fun j => match j with
  | 0 => trivial
  | 1 => trivial
  | 2 => (f_a3_a2_api_Entry x.Frame)
  | _ + 3 => trivial
def b_api_Kept (x y : api_Kept) : Bool := (x.From == y.From) && ((x.Round == y.Round) && ((b_a3_a2_api_Entry x.Frame y.Frame)))
theorem q_api_Kept (x y : api_Kept) : eqV (e_api_Kept x) (e_api_Kept y) = b_api_Kept x y := by
  have h : eqV (e_api_Kept x) (e_api_Kept y) = ((List.range 3).all fun j => eqV (c_api_Kept x j) (c_api_Kept y j)) := rfl
  have hr : List.range 3 = [0, 1, 2] := rfl
  rw [h, hr]
  simp only [List.all_cons, List.all_nil, Bool.and_true, c_api_Kept, b_api_Kept, eqV, q_a3_a2_api_Entry]
theorem al_api_Kept (x y : api_Kept) : Akin (e_api_Kept x) (e_api_Kept y) := .agg _ _ _ fun j h => match j, h with
  | 0, _ => .int _ _ _
  | 1, _ => .int _ _ _
  | 2, _ => al_a3_a2_api_Entry _ _
  | n + 3, h => absurd (show n + 3 < 3 from h) (by omega)
theorem st_api_Kept_0 (x : api_Kept) (v : Int) : vupd (c_api_Kept x) 0 (.int .i64 v) = c_api_Kept { x with From := v } := by
  funext j; match j with
  | 0 => rfl
  | 1 => rfl
  | 2 => rfl
  | _ + 3 => rfl
theorem st_api_Kept_1 (x : api_Kept) (v : Int) : vupd (c_api_Kept x) 1 (.int .u32 v) = c_api_Kept { x with Round := v } := by
  funext j; match j with
  | 0 => rfl
  | 1 => rfl
  | 2 => rfl
  | _ + 3 => rfl
theorem st_api_Kept_2 (x : api_Kept) (v : (Nat → (Nat → api_Entry))) : vupd (c_api_Kept x) 2 (e_a3_a2_api_Entry v) = c_api_Kept { x with Frame := v } := by
  funext j; match j with
  | 0 => rfl
  | 1 => rfl
  | 2 => rfl
  | _ + 3 => rfl
def e_s_api_Kept (x : _root_.List api_Kept) : V := .sl 38 x.length fun j => (e_api_Kept (x.getD j z_api_Kept))
theorem d_s_api_Kept (x : _root_.List api_Kept) : (e_s_api_Kept x).Data := fun j => (d_api_Kept (x.getD j z_api_Kept))
def e_a8_u32 (x : Nat → Int) : V := .agg (.ar 8 1) fun j => (.int .u32 (x j))
theorem d_a8_u32 (x : Nat → Int) : (e_a8_u32 x).Data := fun _ => trivial
theorem f_a8_u32 (x : Nat → Int) : (e_a8_u32 x).Flat := fun _ => trivial
def b_a8_u32 (x y : Nat → Int) : Bool := (List.range 8).all fun j => ((x j) == (y j))
theorem q_a8_u32 (x y : Nat → Int) : eqV (e_a8_u32 x) (e_a8_u32 y) = b_a8_u32 x y := by
  have h : eqV (e_a8_u32 x) (e_a8_u32 y) = ((List.range 8).all fun j => eqV (.int .u32 (x j)) (.int .u32 (y j))) := rfl
  rw [h]; simp only [b_a8_u32, eqV]
theorem al_a8_u32 (x y : Nat → Int) : Akin (e_a8_u32 x) (e_a8_u32 y) := .agg _ _ _ fun j _ => .int _ _ _
structure congresslaw10_Was where
  L : (_root_.List api_Kept)
  C : (Nat → Int)
  M : (Nat → Int)
def z_congresslaw10_Was : congresslaw10_Was := { L := [], C := (fun _ => 0), M := (fun _ => 0) }
def c_congresslaw10_Was (x : congresslaw10_Was) : Nat → V
  | 0 => (e_s_api_Kept x.L)
  | 1 => (e_a8_u32 x.C)
  | 2 => (e_a8_u32 x.M)
  | _ => .bool false
def e_congresslaw10_Was (x : congresslaw10_Was) : V := .agg (.st [1, 8, 8]) (c_congresslaw10_Was x)
theorem d_congresslaw10_Was (x : congresslaw10_Was) : (e_congresslaw10_Was x).Data := fun j => match j with
  | 0 => (d_s_api_Kept x.L)
  | 1 => (d_a8_u32 x.C)
  | 2 => (d_a8_u32 x.M)
  | _ + 3 => trivial
theorem st_congresslaw10_Was_0 (x : congresslaw10_Was) (v : (_root_.List api_Kept)) : vupd (c_congresslaw10_Was x) 0 (e_s_api_Kept v) = c_congresslaw10_Was { x with L := v } := by
  funext j; match j with
  | 0 => rfl
  | 1 => rfl
  | 2 => rfl
  | _ + 3 => rfl
theorem st_congresslaw10_Was_1 (x : congresslaw10_Was) (v : (Nat → Int)) : vupd (c_congresslaw10_Was x) 1 (e_a8_u32 v) = c_congresslaw10_Was { x with C := v } := by
  funext j; match j with
  | 0 => rfl
  | 1 => rfl
  | 2 => rfl
  | _ + 3 => rfl
theorem st_congresslaw10_Was_2 (x : congresslaw10_Was) (v : (Nat → Int)) : vupd (c_congresslaw10_Was x) 2 (e_a8_u32 v) = c_congresslaw10_Was { x with M := v } := by
  funext j; match j with
  | 0 => rfl
  | 1 => rfl
  | 2 => rfl
  | _ + 3 => rfl
def e_s_i64 (x : _root_.List Int) : V := .sl 1 x.length fun j => (.int .i64 (x.getD j 0))
theorem d_s_i64 (x : _root_.List Int) : (e_s_i64 x).Data := fun _ => trivial
structure api_Id where
  Epoch : Int
  Coord : Int
  Inc : Int
def z_api_Id : api_Id := { Epoch := 0, Coord := 0, Inc := 0 }
def c_api_Id (x : api_Id) : Nat → V
  | 0 => (.int .u32 x.Epoch)
  | 1 => (.int .u32 x.Coord)
  | 2 => (.int .u32 x.Inc)
  | _ => .bool false
def e_api_Id (x : api_Id) : V := .agg (.st [1, 1, 1]) (c_api_Id x)
theorem d_api_Id (x : api_Id) : (e_api_Id x).Data := fun j => match j with
  | 0 => trivial
  | 1 => trivial
  | 2 => trivial
  | _ + 3 => trivial
theorem f_api_Id (x : api_Id) : (e_api_Id x).Flat := fun j => match j with
  | 0 => trivial
  | 1 => trivial
  | 2 => trivial
  | _ + 3 => trivial
def b_api_Id (x y : api_Id) : Bool := (x.Epoch == y.Epoch) && ((x.Coord == y.Coord) && ((x.Inc == y.Inc)))
theorem q_api_Id (x y : api_Id) : eqV (e_api_Id x) (e_api_Id y) = b_api_Id x y := by
  have h : eqV (e_api_Id x) (e_api_Id y) = ((List.range 3).all fun j => eqV (c_api_Id x j) (c_api_Id y j)) := rfl
  have hr : List.range 3 = [0, 1, 2] := rfl
  rw [h, hr]
  simp only [List.all_cons, List.all_nil, Bool.and_true, c_api_Id, b_api_Id, eqV]
theorem al_api_Id (x y : api_Id) : Akin (e_api_Id x) (e_api_Id y) := .agg _ _ _ fun j h => match j, h with
  | 0, _ => .int _ _ _
  | 1, _ => .int _ _ _
  | 2, _ => .int _ _ _
  | n + 3, h => absurd (show n + 3 < 3 from h) (by omega)
theorem st_api_Id_0 (x : api_Id) (v : Int) : vupd (c_api_Id x) 0 (.int .u32 v) = c_api_Id { x with Epoch := v } := by
  funext j; match j with
  | 0 => rfl
  | 1 => rfl
  | 2 => rfl
  | _ + 3 => rfl
theorem st_api_Id_1 (x : api_Id) (v : Int) : vupd (c_api_Id x) 1 (.int .u32 v) = c_api_Id { x with Coord := v } := by
  funext j; match j with
  | 0 => rfl
  | 1 => rfl
  | 2 => rfl
  | _ + 3 => rfl
theorem st_api_Id_2 (x : api_Id) (v : Int) : vupd (c_api_Id x) 2 (.int .u32 v) = c_api_Id { x with Inc := v } := by
  funext j; match j with
  | 0 => rfl
  | 1 => rfl
  | 2 => rfl
  | _ + 3 => rfl
structure api_Packet where
  From : Int
  Inc : Int
  Conf : api_Id
  Members : (Nat → Int)
  Count : (Nat → Int)
  Promise : api_Id
  Wanted : (Nat → Int)
  Ready : Bool
  Epoch : Int
  Round : Int
  Newest : (Nat → (Nat → api_Entry))
  Older : (Nat → (Nat → api_Entry))
  RelayOf : Int
  RelayRound : Int
  Relay : (Nat → (Nat → api_Entry))
def z_api_Packet : api_Packet := { From := 0, Inc := 0, Conf := z_api_Id, Members := (fun _ => 0), Count := (fun _ => 0), Promise := z_api_Id, Wanted := (fun _ => 0), Ready := false, Epoch := 0, Round := 0, Newest := (fun _ => (fun _ => z_api_Entry)), Older := (fun _ => (fun _ => z_api_Entry)), RelayOf := 0, RelayRound := 0, Relay := (fun _ => (fun _ => z_api_Entry)) }
def c_api_Packet (x : api_Packet) : Nat → V
  | 0 => (.int .u32 x.From)
  | 1 => (.int .u32 x.Inc)
  | 2 => (e_api_Id x.Conf)
  | 3 => (e_a8_u32 x.Members)
  | 4 => (e_a8_u32 x.Count)
  | 5 => (e_api_Id x.Promise)
  | 6 => (e_a8_u32 x.Wanted)
  | 7 => (.bool x.Ready)
  | 8 => (.int .u32 x.Epoch)
  | 9 => (.int .u32 x.Round)
  | 10 => (e_a3_a2_api_Entry x.Newest)
  | 11 => (e_a3_a2_api_Entry x.Older)
  | 12 => (.int .u32 x.RelayOf)
  | 13 => (.int .u32 x.RelayRound)
  | 14 => (e_a3_a2_api_Entry x.Relay)
  | _ => .bool false
def e_api_Packet (x : api_Packet) : V := .agg (.st [1, 1, 3, 8, 8, 3, 8, 1, 1, 1, 36, 36, 1, 1, 36]) (c_api_Packet x)
theorem d_api_Packet (x : api_Packet) : (e_api_Packet x).Data := fun j => match j with
  | 0 => trivial
  | 1 => trivial
  | 2 => (d_api_Id x.Conf)
  | 3 => (d_a8_u32 x.Members)
  | 4 => (d_a8_u32 x.Count)
  | 5 => (d_api_Id x.Promise)
  | 6 => (d_a8_u32 x.Wanted)
  | 7 => trivial
  | 8 => trivial
  | 9 => trivial
  | 10 => (d_a3_a2_api_Entry x.Newest)
  | 11 => (d_a3_a2_api_Entry x.Older)
  | 12 => trivial
  | 13 => trivial
  | 14 => (d_a3_a2_api_Entry x.Relay)
  | _ + 15 => trivial
theorem f_api_Packet (x : api_Packet) : (e_api_Packet x).Flat := fun j => match j with
  | 0 => trivial
  | 1 => trivial
  | 2 => (f_api_Id x.Conf)
  | 3 => (f_a8_u32 x.Members)
  | 4 => (f_a8_u32 x.Count)
  | 5 => (f_api_Id x.Promise)
  | 6 => (f_a8_u32 x.Wanted)
  | 7 => trivial
  | 8 => trivial
  | 9 => trivial
  | 10 => (f_a3_a2_api_Entry x.Newest)
  | 11 => (f_a3_a2_api_Entry x.Older)
  | 12 => trivial
  | 13 => trivial
  | 14 => (f_a3_a2_api_Entry x.Relay)
  | _ + 15 => trivial
def b_api_Packet (x y : api_Packet) : Bool := (x.From == y.From) && ((x.Inc == y.Inc) && ((b_api_Id x.Conf y.Conf) && ((b_a8_u32 x.Members y.Members) && ((b_a8_u32 x.Count y.Count) && ((b_api_Id x.Promise y.Promise) && ((b_a8_u32 x.Wanted y.Wanted) && ((x.Ready == y.Ready) && ((x.Epoch == y.Epoch) && ((x.Round == y.Round) && ((b_a3_a2_api_Entry x.Newest y.Newest) && ((b_a3_a2_api_Entry x.Older y.Older) && ((x.RelayOf == y.RelayOf) && ((x.RelayRound == y.RelayRound) && ((b_a3_a2_api_Entry x.Relay y.Relay)))))))))))))))
theorem q_api_Packet (x y : api_Packet) : eqV (e_api_Packet x) (e_api_Packet y) = b_api_Packet x y := by
  have h : eqV (e_api_Packet x) (e_api_Packet y) = ((List.range 15).all fun j => eqV (c_api_Packet x j) (c_api_Packet y j)) := rfl
  have hr : List.range 15 = [0, 1, 2, 3, 4, 5, 6, 7, 8, 9, 10, 11, 12, 13, 14] := rfl
  rw [h, hr]
  simp only [List.all_cons, List.all_nil, Bool.and_true, c_api_Packet, b_api_Packet, eqV, q_api_Id, q_a8_u32, q_a3_a2_api_Entry]
theorem al_api_Packet (x y : api_Packet) : Akin (e_api_Packet x) (e_api_Packet y) := .agg _ _ _ fun j h => match j, h with
  | 0, _ => .int _ _ _
  | 1, _ => .int _ _ _
  | 2, _ => al_api_Id _ _
  | 3, _ => al_a8_u32 _ _
  | 4, _ => al_a8_u32 _ _
  | 5, _ => al_api_Id _ _
  | 6, _ => al_a8_u32 _ _
  | 7, _ => .bool _ _
  | 8, _ => .int _ _ _
  | 9, _ => .int _ _ _
  | 10, _ => al_a3_a2_api_Entry _ _
  | 11, _ => al_a3_a2_api_Entry _ _
  | 12, _ => .int _ _ _
  | 13, _ => .int _ _ _
  | 14, _ => al_a3_a2_api_Entry _ _
  | n + 15, h => absurd (show n + 15 < 15 from h) (by omega)
theorem st_api_Packet_0 (x : api_Packet) (v : Int) : vupd (c_api_Packet x) 0 (.int .u32 v) = c_api_Packet { x with From := v } := by
  funext j; match j with
  | 0 => rfl
  | 1 => rfl
  | 2 => rfl
  | 3 => rfl
  | 4 => rfl
  | 5 => rfl
  | 6 => rfl
  | 7 => rfl
  | 8 => rfl
  | 9 => rfl
  | 10 => rfl
  | 11 => rfl
  | 12 => rfl
  | 13 => rfl
  | 14 => rfl
  | _ + 15 => rfl
theorem st_api_Packet_1 (x : api_Packet) (v : Int) : vupd (c_api_Packet x) 1 (.int .u32 v) = c_api_Packet { x with Inc := v } := by
  funext j; match j with
  | 0 => rfl
  | 1 => rfl
  | 2 => rfl
  | 3 => rfl
  | 4 => rfl
  | 5 => rfl
  | 6 => rfl
  | 7 => rfl
  | 8 => rfl
  | 9 => rfl
  | 10 => rfl
  | 11 => rfl
  | 12 => rfl
  | 13 => rfl
  | 14 => rfl
  | _ + 15 => rfl
theorem st_api_Packet_2 (x : api_Packet) (v : api_Id) : vupd (c_api_Packet x) 2 (e_api_Id v) = c_api_Packet { x with Conf := v } := by
  funext j; match j with
  | 0 => rfl
  | 1 => rfl
  | 2 => rfl
  | 3 => rfl
  | 4 => rfl
  | 5 => rfl
  | 6 => rfl
  | 7 => rfl
  | 8 => rfl
  | 9 => rfl
  | 10 => rfl
  | 11 => rfl
  | 12 => rfl
  | 13 => rfl
  | 14 => rfl
  | _ + 15 => rfl
theorem st_api_Packet_3 (x : api_Packet) (v : (Nat → Int)) : vupd (c_api_Packet x) 3 (e_a8_u32 v) = c_api_Packet { x with Members := v } := by
  funext j; match j with
  | 0 => rfl
  | 1 => rfl
  | 2 => rfl
  | 3 => rfl
  | 4 => rfl
  | 5 => rfl
  | 6 => rfl
  | 7 => rfl
  | 8 => rfl
  | 9 => rfl
  | 10 => rfl
  | 11 => rfl
  | 12 => rfl
  | 13 => rfl
  | 14 => rfl
  | _ + 15 => rfl
theorem st_api_Packet_4 (x : api_Packet) (v : (Nat → Int)) : vupd (c_api_Packet x) 4 (e_a8_u32 v) = c_api_Packet { x with Count := v } := by
  funext j; match j with
  | 0 => rfl
  | 1 => rfl
  | 2 => rfl
  | 3 => rfl
  | 4 => rfl
  | 5 => rfl
  | 6 => rfl
  | 7 => rfl
  | 8 => rfl
  | 9 => rfl
  | 10 => rfl
  | 11 => rfl
  | 12 => rfl
  | 13 => rfl
  | 14 => rfl
  | _ + 15 => rfl
theorem st_api_Packet_5 (x : api_Packet) (v : api_Id) : vupd (c_api_Packet x) 5 (e_api_Id v) = c_api_Packet { x with Promise := v } := by
  funext j; match j with
  | 0 => rfl
  | 1 => rfl
  | 2 => rfl
  | 3 => rfl
  | 4 => rfl
  | 5 => rfl
  | 6 => rfl
  | 7 => rfl
  | 8 => rfl
  | 9 => rfl
  | 10 => rfl
  | 11 => rfl
  | 12 => rfl
  | 13 => rfl
  | 14 => rfl
  | _ + 15 => rfl
theorem st_api_Packet_6 (x : api_Packet) (v : (Nat → Int)) : vupd (c_api_Packet x) 6 (e_a8_u32 v) = c_api_Packet { x with Wanted := v } := by
  funext j; match j with
  | 0 => rfl
  | 1 => rfl
  | 2 => rfl
  | 3 => rfl
  | 4 => rfl
  | 5 => rfl
  | 6 => rfl
  | 7 => rfl
  | 8 => rfl
  | 9 => rfl
  | 10 => rfl
  | 11 => rfl
  | 12 => rfl
  | 13 => rfl
  | 14 => rfl
  | _ + 15 => rfl
theorem st_api_Packet_7 (x : api_Packet) (v : Bool) : vupd (c_api_Packet x) 7 (.bool v) = c_api_Packet { x with Ready := v } := by
  funext j; match j with
  | 0 => rfl
  | 1 => rfl
  | 2 => rfl
  | 3 => rfl
  | 4 => rfl
  | 5 => rfl
  | 6 => rfl
  | 7 => rfl
  | 8 => rfl
  | 9 => rfl
  | 10 => rfl
  | 11 => rfl
  | 12 => rfl
  | 13 => rfl
  | 14 => rfl
  | _ + 15 => rfl
theorem st_api_Packet_8 (x : api_Packet) (v : Int) : vupd (c_api_Packet x) 8 (.int .u32 v) = c_api_Packet { x with Epoch := v } := by
  funext j; match j with
  | 0 => rfl
  | 1 => rfl
  | 2 => rfl
  | 3 => rfl
  | 4 => rfl
  | 5 => rfl
  | 6 => rfl
  | 7 => rfl
  | 8 => rfl
  | 9 => rfl
  | 10 => rfl
  | 11 => rfl
  | 12 => rfl
  | 13 => rfl
  | 14 => rfl
  | _ + 15 => rfl
theorem st_api_Packet_9 (x : api_Packet) (v : Int) : vupd (c_api_Packet x) 9 (.int .u32 v) = c_api_Packet { x with Round := v } := by
  funext j; match j with
  | 0 => rfl
  | 1 => rfl
  | 2 => rfl
  | 3 => rfl
  | 4 => rfl
  | 5 => rfl
  | 6 => rfl
  | 7 => rfl
  | 8 => rfl
  | 9 => rfl
  | 10 => rfl
  | 11 => rfl
  | 12 => rfl
  | 13 => rfl
  | 14 => rfl
  | _ + 15 => rfl
theorem st_api_Packet_10 (x : api_Packet) (v : (Nat → (Nat → api_Entry))) : vupd (c_api_Packet x) 10 (e_a3_a2_api_Entry v) = c_api_Packet { x with Newest := v } := by
  funext j; match j with
  | 0 => rfl
  | 1 => rfl
  | 2 => rfl
  | 3 => rfl
  | 4 => rfl
  | 5 => rfl
  | 6 => rfl
  | 7 => rfl
  | 8 => rfl
  | 9 => rfl
  | 10 => rfl
  | 11 => rfl
  | 12 => rfl
  | 13 => rfl
  | 14 => rfl
  | _ + 15 => rfl
theorem st_api_Packet_11 (x : api_Packet) (v : (Nat → (Nat → api_Entry))) : vupd (c_api_Packet x) 11 (e_a3_a2_api_Entry v) = c_api_Packet { x with Older := v } := by
  funext j; match j with
  | 0 => rfl
  | 1 => rfl
  | 2 => rfl
  | 3 => rfl
  | 4 => rfl
  | 5 => rfl
  | 6 => rfl
  | 7 => rfl
  | 8 => rfl
  | 9 => rfl
  | 10 => rfl
  | 11 => rfl
  | 12 => rfl
  | 13 => rfl
  | 14 => rfl
  | _ + 15 => rfl
theorem st_api_Packet_12 (x : api_Packet) (v : Int) : vupd (c_api_Packet x) 12 (.int .u32 v) = c_api_Packet { x with RelayOf := v } := by
  funext j; match j with
  | 0 => rfl
  | 1 => rfl
  | 2 => rfl
  | 3 => rfl
  | 4 => rfl
  | 5 => rfl
  | 6 => rfl
  | 7 => rfl
  | 8 => rfl
  | 9 => rfl
  | 10 => rfl
  | 11 => rfl
  | 12 => rfl
  | 13 => rfl
  | 14 => rfl
  | _ + 15 => rfl
theorem st_api_Packet_13 (x : api_Packet) (v : Int) : vupd (c_api_Packet x) 13 (.int .u32 v) = c_api_Packet { x with RelayRound := v } := by
  funext j; match j with
  | 0 => rfl
  | 1 => rfl
  | 2 => rfl
  | 3 => rfl
  | 4 => rfl
  | 5 => rfl
  | 6 => rfl
  | 7 => rfl
  | 8 => rfl
  | 9 => rfl
  | 10 => rfl
  | 11 => rfl
  | 12 => rfl
  | 13 => rfl
  | 14 => rfl
  | _ + 15 => rfl
theorem st_api_Packet_14 (x : api_Packet) (v : (Nat → (Nat → api_Entry))) : vupd (c_api_Packet x) 14 (e_a3_a2_api_Entry v) = c_api_Packet { x with Relay := v } := by
  funext j; match j with
  | 0 => rfl
  | 1 => rfl
  | 2 => rfl
  | 3 => rfl
  | 4 => rfl
  | 5 => rfl
  | 6 => rfl
  | 7 => rfl
  | 8 => rfl
  | 9 => rfl
  | 10 => rfl
  | 11 => rfl
  | 12 => rfl
  | 13 => rfl
  | 14 => rfl
  | _ + 15 => rfl
structure congressref10_State where
  L : (_root_.List api_Kept)
  C : (Nat → Int)
  Taken : (_root_.List api_Kept)
def z_congressref10_State : congressref10_State := { L := [], C := (fun _ => 0), Taken := [] }
def c_congressref10_State (x : congressref10_State) : Nat → V
  | 0 => (e_s_api_Kept x.L)
  | 1 => (e_a8_u32 x.C)
  | 2 => (e_s_api_Kept x.Taken)
  | _ => .bool false
def e_congressref10_State (x : congressref10_State) : V := .agg (.st [1, 8, 1]) (c_congressref10_State x)
theorem d_congressref10_State (x : congressref10_State) : (e_congressref10_State x).Data := fun j => match j with
  | 0 => (d_s_api_Kept x.L)
  | 1 => (d_a8_u32 x.C)
  | 2 => (d_s_api_Kept x.Taken)
  | _ + 3 => trivial
theorem st_congressref10_State_0 (x : congressref10_State) (v : (_root_.List api_Kept)) : vupd (c_congressref10_State x) 0 (e_s_api_Kept v) = c_congressref10_State { x with L := v } := by
  funext j; match j with
  | 0 => rfl
  | 1 => rfl
  | 2 => rfl
  | _ + 3 => rfl
theorem st_congressref10_State_1 (x : congressref10_State) (v : (Nat → Int)) : vupd (c_congressref10_State x) 1 (e_a8_u32 v) = c_congressref10_State { x with C := v } := by
  funext j; match j with
  | 0 => rfl
  | 1 => rfl
  | 2 => rfl
  | _ + 3 => rfl
theorem st_congressref10_State_2 (x : congressref10_State) (v : (_root_.List api_Kept)) : vupd (c_congressref10_State x) 2 (e_s_api_Kept v) = c_congressref10_State { x with Taken := v } := by
  funext j; match j with
  | 0 => rfl
  | 1 => rfl
  | 2 => rfl
  | _ + 3 => rfl

noncomputable def slices_Clone_api_Kept_api_Kept (p0 : (_root_.List api_Kept)) : Option ((_root_.List api_Kept)) :=
  nilq p0.length (
    some ([] : _root_.List api_Kept)) (
    (fit (([] : _root_.List api_Kept) ++ p0).length 352).bind fun _ =>
    some (([] : _root_.List api_Kept) ++ p0))

noncomputable def ident_List (p0 : (Nat → Int)) : Option ((_root_.List Int)) :=
  (loop (ω := Fl ((_root_.List Int)) (_root_.List Int)) (fun (x1 : Int × _root_.List Int) =>
    if (decide (x1.1 < 8)) then
      jn (fun x6 : _root_.List Int =>
        some (.next ((IntKind.i64.wrap (x1.1 + 1)), x6))) fun j3 =>
      (ib x1.1 8).bind fun _ =>
      if ((p0 x1.1.toNat) != 0) then
        (fit (x1.2 ++ ([x1.1] : _root_.List Int)).length 8).bind fun _ =>
        j3 ((x1.2 ++ ([x1.1] : _root_.List Int)))
      else
        j3 (x1.2)
    else
      some (.done (.nx (x1.2)))) (0, ([] : _root_.List Int))).bind fun wn2 => Fl.elim wn2 (fun y7 =>
    some y7) (fun r => some r)

noncomputable def slices_Index_int_int (p0 : (_root_.List Int)) (p1 : Int) : Option (Int) :=
  (loop (ω := Fl (Int) (Unit)) (fun (x1 : Int) =>
    if (decide (x1 < (p0.length : Int))) then
      (ib x1 p0.length).bind fun _ =>
      if (p1 == (p0.getD x1.toNat 0)) then
        some (.done (.rt x1))
      else
        some (.next ((IntKind.i64.wrap (x1 + 1))))
    else
      some (.done (.nx ()))) (0)).bind fun wn2 => Fl.elim wn2 (fun y4 =>
    some (-1)) (fun r => some r)

noncomputable def slices_Contains_int_int (p0 : (_root_.List Int)) (p1 : Int) : Option (Bool) :=
  (slices_Index_int_int p0 p1).bind fun v1 =>
  some (decide (v1 ≥ 0))

noncomputable def slices_IndexFunc_api_Kept_api_Kept (p0 : (_root_.List api_Kept)) (p1 : (api_Kept → Option (Bool))) : Option (Int) :=
  (loop (ω := Fl (Int) (Unit)) (fun (x1 : Int) =>
    if (decide (x1 < (p0.length : Int))) then
      (ib x1 p0.length).bind fun _ =>
      (p1 (p0.getD x1.toNat z_api_Kept)).bind fun v4 =>
      if v4 then
        some (.done (.rt x1))
      else
        some (.next ((IntKind.i64.wrap (x1 + 1))))
    else
      some (.done (.nx ()))) (0)).bind fun wn2 => Fl.elim wn2 (fun y6 =>
    some (-1)) (fun r => some r)

noncomputable def slices_DeleteFunc_api_Kept_api_Kept (p0 : (_root_.List api_Kept)) (p1 : (api_Kept → Option (Bool))) : Option ((_root_.List api_Kept)) :=
  (slices_IndexFunc_api_Kept_api_Kept p0 p1).bind fun v1 =>
  if (v1 == (-1)) then
    some p0
  else
    (loop (ω := Fl ((_root_.List api_Kept)) (Int × _root_.List api_Kept)) (fun (x3 : Int × Int × _root_.List api_Kept) =>
      if (decide (x3.2.1 < (x3.2.2.length : Int))) then
        jn (fun x10 : Int × _root_.List api_Kept =>
          some (.next (x10.1, (IntKind.i64.wrap (x3.2.1 + 1)), x10.2))) fun j5 =>
        (ib x3.2.1 x3.2.2.length).bind fun _ =>
        (p1 (x3.2.2.getD x3.2.1.toNat z_api_Kept)).bind fun v7 =>
        if (!v7) then
          (ib x3.1 x3.2.2.length).bind fun _ =>
          j5 ((IntKind.i64.wrap (x3.1 + 1)), x3.2.2.set x3.1.toNat (x3.2.2.getD x3.2.1.toNat z_api_Kept))
        else
          j5 (x3.1, x3.2.2)
      else
        some (.done (.nx (x3.1, x3.2.2)))) (v1, (IntKind.i64.wrap (v1 + 1)), p0)).bind fun wn4 => Fl.elim wn4 (fun y11 =>
      (sb y11.1 ((y11.2.length : Nat) : Int) y11.2.length).bind fun _ =>
      (inb (y11.1.toNat + (y11.2.length - y11.1.toNat)) y11.2.length).bind fun _ =>
      (sb 0 y11.1 ((clr y11.2 z_api_Kept y11.1.toNat (y11.2.length - y11.1.toNat)).length)).bind fun _ =>
      (inb (y11.1.toNat - 0) (clr y11.2 z_api_Kept y11.1.toNat (y11.2.length - y11.1.toNat)).length).bind fun _ =>
      some ((clr y11.2 z_api_Kept y11.1.toNat (y11.2.length - y11.1.toNat)).take (y11.1.toNat - 0))) (fun r => some r)

noncomputable def kept_Take_1 (p0 : api_Kept) (q0 : api_Kept) : Option (Bool) :=
  lt ((((p0.From == q0.From) && (decide (q0.Round ≥ 3))) && (decide (p0.Round ≤ (IntKind.u32.wrap (q0.Round - 3))))) : Bool) fun v1 =>
  some v1

noncomputable def kept_Take (p0 : (_root_.List api_Kept)) (p1 : (Nat → Int)) (p2 : (Nat → Int)) (p3 : api_Kept) : Option ((_root_.List api_Kept) × (Nat → Int) × Bool) :=
  (slices_Clone_api_Kept_api_Kept p0).bind fun v1 =>
  (ident_List p2).bind fun v3 =>
  (slices_Contains_int_int v3 p3.From).bind fun v5 =>
  (ibg (!(!v5)) p3.From 8).bind fun _ =>
  (ibg (!((!v5) || ((p1 p3.From.toNat) == 4294967295))) p3.From 8).bind fun _ =>
  lt ((((!v5) || ((p1 p3.From.toNat) == 4294967295)) || (p3.Round != (IntKind.u32.wrap ((p1 p3.From.toNat) + 1)))) : Bool) fun v9 =>
  if v9 then
    some (v1, p1, false)
  else
    (slices_DeleteFunc_api_Kept_api_Kept v1 (fun z0 => kept_Take_1 z0 p3)).bind fun v10 =>
    (ib p3.From 8).bind fun _ =>
    (fit (v10 ++ ([p3] : _root_.List api_Kept)).length 352).bind fun _ =>
    some ((v10 ++ ([p3] : _root_.List api_Kept)), aupd p1 p3.From.toNat p3.Round, true)

noncomputable def congressref10_Is (p0 : (Nat → Int)) (p1 : Int) : Option (Bool) :=
  (ibg ((decide (p1 ≥ 0)) && (decide (p1 < 8))) p1 8).bind fun _ =>
  some (((decide (p1 ≥ 0)) && (decide (p1 < 8))) && ((p0 p1.toNat) != 0))

noncomputable def congressref10_Take (p0 : (_root_.List api_Kept)) (p1 : (Nat → Int)) (p2 : (Nat → Int)) (p3 : api_Kept) : Option ((_root_.List api_Kept) × (Nat → Int) × Bool) :=
  (congressref10_Is p2 p3.From).bind fun v1 =>
  (ibg (!(!v1)) p3.From 8).bind fun _ =>
  lt (((!v1) || ((IntKind.u64.wrap (p3.Round)) != (IntKind.u64.wrap ((IntKind.u64.wrap (p1 p3.From.toNat)) + 1)))) : Bool) fun v4 =>
  if v4 then
    some (p0, p1, false)
  else
    (loop (ω := Fl ((_root_.List api_Kept) × (Nat → Int) × Bool) (_root_.List api_Kept)) (fun (x5 : Int × _root_.List api_Kept) =>
      if (decide (x5.1 < (p0.length : Int))) then
        jn (fun x13 : _root_.List api_Kept =>
          some (.next ((IntKind.i64.wrap (x5.1 + 1)), x13))) fun j7 =>
        (ib x5.1 p0.length).bind fun _ =>
        (ibg (!(((p0.getD x5.1.toNat z_api_Kept).From) != p3.From)) x5.1 p0.length).bind fun _ =>
        lt (((((p0.getD x5.1.toNat z_api_Kept).From) != p3.From) || (decide ((IntKind.u64.wrap ((IntKind.u64.wrap ((p0.getD x5.1.toNat z_api_Kept).Round)) + 3)) > (IntKind.u64.wrap (p3.Round))))) : Bool) fun v10 =>
        if v10 then
          (ib x5.1 p0.length).bind fun _ =>
          (fit (x5.2 ++ ([p0.getD x5.1.toNat z_api_Kept] : _root_.List api_Kept)).length 352).bind fun _ =>
          j7 ((x5.2 ++ ([p0.getD x5.1.toNat z_api_Kept] : _root_.List api_Kept)))
        else
          j7 (x5.2)
      else
        some (.done (.nx (x5.2)))) (0, ([] : _root_.List api_Kept))).bind fun wn6 => Fl.elim wn6 (fun y14 =>
      (fit (y14 ++ ([p3] : _root_.List api_Kept)).length 352).bind fun _ =>
      (ib p3.From 8).bind fun _ =>
      some ((y14 ++ ([p3] : _root_.List api_Kept)), aupd p1 p3.From.toNat p3.Round, true)) (fun r => some r)

noncomputable def kept_Get_1 (p0 : api_Kept) (q0 : Int) (q1 : Int) : Option (Bool) :=
  some ((p0.From == q0) && (p0.Round == q1))

noncomputable def kept_Get (p0 : (_root_.List api_Kept)) (p1 : Int) (p2 : Int) : Option ((Nat → (Nat → api_Entry)) × Bool) :=
  (slices_IndexFunc_api_Kept_api_Kept p0 (fun z0 => kept_Get_1 z0 p1 p2)).bind fun v1 =>
  if (decide (v1 < 0)) then
    some ((aset (fun _ => (fun _ => z_api_Entry)) []), false)
  else
    (ib v1 p0.length).bind fun _ =>
    some ((p0.getD v1.toNat z_api_Kept).Frame, true)

noncomputable def congressref10_Get (p0 : (_root_.List api_Kept)) (p1 : Int) (p2 : Int) : Option ((Nat → (Nat → api_Entry)) × Bool) :=
  (loop (ω := Fl ((Nat → (Nat → api_Entry)) × Bool) (Unit)) (fun (x1 : Int) =>
    if (decide (x1 < (p0.length : Int))) then
      (ib x1 p0.length).bind fun _ =>
      (ibg (((p0.getD x1.toNat z_api_Kept).From) == p1) x1 p0.length).bind fun _ =>
      lt (((((p0.getD x1.toNat z_api_Kept).From) == p1) && (((p0.getD x1.toNat z_api_Kept).Round) == p2)) : Bool) fun v5 =>
      if v5 then
        (ib x1 p0.length).bind fun _ =>
        some (.done (.rt ((p0.getD x1.toNat z_api_Kept).Frame, true)))
      else
        some (.next ((IntKind.i64.wrap (x1 + 1))))
    else
      some (.done (.nx ()))) (0)).bind fun wn2 => Fl.elim wn2 (fun y7 =>
    some ((aset (fun _ => (fun _ => z_api_Entry)) []), false)) (fun r => some r)

noncomputable def kept_Pick (p0 : (_root_.List api_Kept)) (p1 : Int) : Option (api_Kept × Bool) :=
  if ((p0.length : Int) == 0) then
    lt (({ From := 0, Round := 0, Frame := (fun _ => (fun _ => z_api_Entry)) } : api_Kept) : api_Kept) fun v1 =>
    some (v1, false)
  else
    (nz (IntKind.u64.wrap ((p0.length : Int)))).bind fun _ =>
    (ib ((IntKind.u64.wrap (p1)).tmod (IntKind.u64.wrap ((p0.length : Int)))) p0.length).bind fun _ =>
    lt (p0.getD (((IntKind.u64.wrap (p1)).tmod (IntKind.u64.wrap ((p0.length : Int)))).toNat) z_api_Kept : api_Kept) fun v4 =>
    some (v4, true)

noncomputable def congressref10_Pick (p0 : (_root_.List api_Kept)) (p1 : Int) : Option (api_Kept × Bool) :=
  if ((p0.length : Int) == 0) then
    lt (({ From := 0, Round := 0, Frame := (fun _ => (fun _ => z_api_Entry)) } : api_Kept) : api_Kept) fun v1 =>
    some (v1, false)
  else
    (nz (IntKind.u64.wrap ((p0.length : Int)))).bind fun _ =>
    (ib (IntKind.i64.wrap (((IntKind.u64.wrap (p1)).tmod (IntKind.u64.wrap ((p0.length : Int)))))) p0.length).bind fun _ =>
    lt (p0.getD ((IntKind.i64.wrap (((IntKind.u64.wrap (p1)).tmod (IntKind.u64.wrap ((p0.length : Int)))))).toNat) z_api_Kept : api_Kept) fun v4 =>
    some (v4, true)

noncomputable def congresslaw10_fixed : Option (Bool) :=
  (kept_Take [] (aset (fun _ => 0) []) (aset (fun _ => 0) [(0, 1)]) ({ From := 0, Round := 1, Frame := (fun _ => (fun _ => z_api_Entry)) } : api_Kept)).bind fun v1 =>
  (kept_Take v1.1 v1.2.1 (aset (fun _ => 0) [(0, 1)]) ({ From := 0, Round := 3, Frame := (fun _ => (fun _ => z_api_Entry)) } : api_Kept)).bind fun v3 =>
  (kept_Take v1.1 v1.2.1 (aset (fun _ => 0) [(0, 1)]) ({ From := 0, Round := 2, Frame := (fun _ => (fun _ => z_api_Entry)) } : api_Kept)).bind fun v5 =>
  (kept_Take v5.1 v5.2.1 (aset (fun _ => 0) [(0, 1)]) ({ From := 0, Round := 2, Frame := (fun _ => (fun _ => z_api_Entry)) } : api_Kept)).bind fun v7 =>
  (kept_Get v5.1 0 3).bind fun v9 =>
  (kept_Get v5.1 0 1).bind fun v11 =>
  (kept_Pick v5.1 3).bind fun v13 =>
  lt ((((((((((v1.2.2 && (!v3.2.2)) && v5.2.2) && (!v7.2.2)) && (!v9.2)) && v11.2) && v13.2) && (v13.1.Round == 2)) && ((v5.1.length : Int) == 2)) && ((v5.2.1 0) == 2)) : Bool) fun v15 =>
  some v15

noncomputable def congressref10_Same (p0 : (_root_.List api_Kept)) (p1 : (_root_.List api_Kept)) : Option (Bool) :=
  if ((p0.length : Int) != (p1.length : Int)) then
    some false
  else
    (loop (ω := Fl (Bool) (Unit)) (fun (x1 : Int) =>
      if (decide (x1 < (p0.length : Int))) then
        (ib x1 p0.length).bind fun _ =>
        (ib x1 p1.length).bind fun _ =>
        lt ((!(b_api_Kept (p0.getD x1.toNat z_api_Kept) (p1.getD x1.toNat z_api_Kept))) : Bool) fun v5 =>
        if v5 then
          some (.done (.rt false))
        else
          some (.next ((IntKind.i64.wrap (x1 + 1))))
      else
        some (.done (.nx ()))) (0)).bind fun wn2 => Fl.elim wn2 (fun y6 =>
      some true) (fun r => some r)

noncomputable def congresslaw10_KeptTakes (p0 : congresslaw10_Was) (p1 : api_Kept) (p2 : Int) : Option (Bool) :=
  (kept_Take p0.L p0.C p0.M p1).bind fun v1 =>
  (congressref10_Take p0.L p0.C p0.M p1).bind fun v3 =>
  (kept_Get p0.L p1.From p1.Round).bind fun v5 =>
  (congressref10_Get p0.L p1.From p1.Round).bind fun v7 =>
  (kept_Pick p0.L p2).bind fun v9 =>
  (congressref10_Pick p0.L p2).bind fun v11 =>
  (congresslaw10_fixed).bind fun v13 =>
  (whn v13 (congressref10_Same v1.1 v3.1) false).bind fun v15 =>
  lt ((((((((v13 && v15) && (b_a8_u32 v1.2.1 v3.2.1)) && (v1.2.2 == v3.2.2)) && (b_a3_a2_api_Entry v5.1 v7.1)) && (v5.2 == v7.2)) && (b_api_Kept v9.1 v11.1)) && (v9.2 == v11.2)) : Bool) fun v17 =>
  some v17

noncomputable def congresslaw10_KeptOnce (p0 : (Nat → Int)) (p1 : (_root_.List api_Kept)) : Option (Bool) :=
  (loop (ω := Fl (Bool) (_root_.List api_Kept × (Nat → Int) × (Nat → Int))) (fun (x1 : Int × _root_.List api_Kept × (Nat → Int) × (Nat → Int)) =>
    if ((decide (x1.1 < (p1.length : Int))) && (decide (x1.1 < 200))) then
      (ib x1.1 p1.length).bind fun _ =>
      (kept_Take x1.2.1 x1.2.2.1 p0 (p1.getD x1.1.toNat z_api_Kept)).bind fun v4 =>
      jn (fun x18 : (Nat → Int) =>
        (ib x1.1 p1.length).bind fun _ =>
        (congressref10_Is p0 ((p1.getD x1.1.toNat z_api_Kept).From)).bind fun v20 =>
        (whn ((!(v4.2.2 != (v20 && (!(b_a8_u32 v4.2.1 x1.2.2.1))))) && (!v4.2.2)) (congressref10_Same v4.1 x1.2.1) false).bind fun v22 =>
        lt (((v4.2.2 != (v20 && (!(b_a8_u32 v4.2.1 x1.2.2.1)))) || ((!v4.2.2) && (!v22))) : Bool) fun v24 =>
        if v24 then
          some (.done (.rt false))
        else
          some (.next ((IntKind.i64.wrap (x1.1 + 1)), v4.1, v4.2.1, x18))) fun j6 =>
      if v4.2.2 then
        (ib x1.1 p1.length).bind fun _ =>
        (ib (iand .i64 ((p1.getD x1.1.toNat z_api_Kept).From) 7) 8).bind fun _ =>
        (ib (iand .i64 ((p1.getD x1.1.toNat z_api_Kept).From) 7) 8).bind fun _ =>
        lt (aupd x1.2.2.2 ((iand .i64 ((p1.getD x1.1.toNat z_api_Kept).From) 7).toNat) (IntKind.u32.wrap ((x1.2.2.2 ((iand .i64 ((p1.getD x1.1.toNat z_api_Kept).From) 7).toNat)) + 1)) : (Nat → Int)) fun v10 =>
        (ib x1.1 p1.length).bind fun _ =>
        (congressref10_Is p0 ((p1.getD x1.1.toNat z_api_Kept).From)).bind fun v12 =>
        (ibg (!(!v12)) x1.1 p1.length).bind fun _ =>
        (ibg (!(!v12)) x1.1 p1.length).bind fun _ =>
        (ibg (!(!v12)) (iand .i64 ((p1.getD x1.1.toNat z_api_Kept).From) 7) 8).bind fun _ =>
        lt (((!v12) || (((p1.getD x1.1.toNat z_api_Kept).Round) != (v10 ((iand .i64 ((p1.getD x1.1.toNat z_api_Kept).From) 7).toNat)))) : Bool) fun v17 =>
        if v17 then
          some (.done (.rt false))
        else
          j6 (v10)
      else
        j6 (x1.2.2.2)
    else
      some (.done (.nx (x1.2.1, x1.2.2.1, x1.2.2.2)))) (0, ([] : _root_.List api_Kept), (aset (fun _ => 0) []), (aset (fun _ => 0) []))).bind fun wn2 => Fl.elim wn2 (fun y25 =>
    (congresslaw10_fixed).bind fun v26 =>
    if ((!v26) || (!(b_a8_u32 y25.2.1 y25.2.2))) then
      some false
    else
      (loop (ω := Fl (Bool) (Int)) (fun (x28 : Int × Int) =>
        if (decide (x28.2 < 8)) then
          (loop (ω := Fl (Bool) (Int)) (fun (x30 : Int × Int) =>
            (ib x28.2 8).bind fun _ =>
            if (decide (x30.2 ≤ (y25.2.1 x28.2.toNat))) then
              jn (fun x38 : Int =>
                some (.next (x38, (IntKind.u32.wrap (x30.2 + 1))))) fun j33 =>
              (kept_Get y25.1 x28.2 x30.2).bind fun v34 =>
              (ib x28.2 8).bind fun _ =>
              lt ((v34.2 != (decide ((IntKind.u32.wrap (x30.2 + 3)) > (y25.2.1 x28.2.toNat)))) : Bool) fun v37 =>
              if v37 then
                some (.done (.rt false))
              else
                if v34.2 then
                  j33 ((IntKind.i64.wrap (x30.1 + 1)))
                else
                  j33 (x30.1)
            else
              some (.done (.nx (x30.1)))) (x28.1, 1)).bind fun wn31 => Fl.elim wn31 (fun y39 =>
            some (.next (y39, (IntKind.i64.wrap (x28.2 + 1))))) (fun r => some (.done (.rt r)))
        else
          some (.done (.nx (x28.1)))) (0, 0)).bind fun wn29 => Fl.elim wn29 (fun y40 =>
        some (y40 == (y25.1.length : Int))) (fun r => some r)) (fun r => some r)

noncomputable def kept_offered (p0 : api_Packet) : Option ((_root_.List api_Kept)) :=
  jn (fun x3 : _root_.List api_Kept =>
    (fit (x3 ++ ([({ From := (IntKind.i64.wrap (p0.From)), Round := p0.Round, Frame := p0.Newest } : api_Kept), ({ From := (IntKind.i64.wrap (p0.RelayOf)), Round := p0.RelayRound, Frame := p0.Relay } : api_Kept)] : _root_.List api_Kept)).length 352).bind fun _ =>
    lt ((x3 ++ ([({ From := (IntKind.i64.wrap (p0.From)), Round := p0.Round, Frame := p0.Newest } : api_Kept), ({ From := (IntKind.i64.wrap (p0.RelayOf)), Round := p0.RelayRound, Frame := p0.Relay } : api_Kept)] : _root_.List api_Kept)) : _root_.List api_Kept) fun v5 =>
    some v5) fun j1 =>
  if (decide (p0.Round > 1)) then
    (fit (([] : _root_.List api_Kept) ++ ([({ From := (IntKind.i64.wrap (p0.From)), Round := (IntKind.u32.wrap (p0.Round - 1)), Frame := p0.Older } : api_Kept)] : _root_.List api_Kept)).length 352).bind fun _ =>
    j1 ((([] : _root_.List api_Kept) ++ ([({ From := (IntKind.i64.wrap (p0.From)), Round := (IntKind.u32.wrap (p0.Round - 1)), Frame := p0.Older } : api_Kept)] : _root_.List api_Kept)))
  else
    j1 (([] : _root_.List api_Kept))

noncomputable def kept_Offer (p0 : (_root_.List api_Kept)) (p1 : (Nat → Int)) (p2 : (Nat → Int)) (p3 : api_Packet) (p4 : (Nat → Int)) : Option ((_root_.List api_Kept) × (Nat → Int) × (_root_.List api_Kept)) :=
  (slices_Clone_api_Kept_api_Kept p0).bind fun v1 =>
  (kept_offered p3).bind fun v3 =>
  (loop (ω := Fl ((_root_.List api_Kept) × (Nat → Int) × (_root_.List api_Kept)) ((Nat → Int) × _root_.List api_Kept × _root_.List api_Kept)) (fun (x5 : Int × (Nat → Int) × _root_.List api_Kept × _root_.List api_Kept) =>
    if (decide (x5.1 < (v3.length : Int))) then
      jn (fun x14 : (Nat → Int) × _root_.List api_Kept × _root_.List api_Kept =>
        some (.next ((IntKind.i64.wrap (x5.1 + 1)), x14.1, x14.2.1, x14.2.2))) fun j7 =>
      (ib x5.1 v3.length).bind fun _ =>
      (ibg (!(decide (((v3.getD x5.1.toNat z_api_Kept).From) ≥ 8))) ((v3.getD x5.1.toNat z_api_Kept).From) 8).bind fun _ =>
      lt (((decide (((v3.getD x5.1.toNat z_api_Kept).From) ≥ 8)) || (decide (((v3.getD x5.1.toNat z_api_Kept).Round) > (p4 (((v3.getD x5.1.toNat z_api_Kept).From).toNat))))) : Bool) fun v10 =>
      if v10 then
        j7 (x5.2.1, x5.2.2.1, x5.2.2.2)
      else
        (kept_Take x5.2.2.1 x5.2.1 p2 (v3.getD x5.1.toNat z_api_Kept)).bind fun v11 =>
        if v11.2.2 then
          (fit (x5.2.2.2 ++ ([v3.getD x5.1.toNat z_api_Kept] : _root_.List api_Kept)).length 352).bind fun _ =>
          j7 (v11.2.1, v11.1, (x5.2.2.2 ++ ([v3.getD x5.1.toNat z_api_Kept] : _root_.List api_Kept)))
        else
          j7 (v11.2.1, v11.1, x5.2.2.2)
    else
      some (.done (.nx (x5.2.1, x5.2.2.1, x5.2.2.2)))) (0, p1, v1, ([] : _root_.List api_Kept))).bind fun wn6 => Fl.elim wn6 (fun y15 =>
    some (y15.2.1, y15.1, y15.2.2)) (fun r => some r)

noncomputable def congressref10_offer (p0 : congressref10_State) (p1 : (Nat → Int)) (p2 : api_Kept) (p3 : (Nat → Int)) : Option (congressref10_State) :=
  (ibg (!((decide (p2.From < 0)) || (decide (p2.From > 7)))) (p2.From.tmod 8) 8).bind fun _ =>
  lt ((((decide (p2.From < 0)) || (decide (p2.From > 7))) || (decide (p2.Round > (p3 ((p2.From.tmod 8).toNat))))) : Bool) fun v2 =>
  if v2 then
    some ({ p0 with Taken := p0.Taken })
  else
    (congressref10_Take p0.L p0.C p1 p2).bind fun v3 =>
    jn (fun x8 : congressref10_State × _root_.List api_Kept =>
      some ({ x8.1 with Taken := x8.2 })) fun j5 =>
    if v3.2.2 then
      lt ({ { p0 with L := v3.1 } with C := v3.2.1 } : congressref10_State) fun v6 =>
      (fit (p0.Taken ++ ([p2] : _root_.List api_Kept)).length 352).bind fun _ =>
      j5 (v6, (p0.Taken ++ ([p2] : _root_.List api_Kept)))
    else
      j5 (p0, p0.Taken)

noncomputable def congressref10_Offer (p0 : (_root_.List api_Kept)) (p1 : (Nat → Int)) (p2 : (Nat → Int)) (p3 : api_Packet) (p4 : (Nat → Int)) : Option ((_root_.List api_Kept) × (Nat → Int) × (_root_.List api_Kept)) :=
  jn (fun x4 : congressref10_State × _root_.List api_Kept =>
    (congressref10_offer ({ x4.1 with Taken := x4.2 }) p2 ({ From := (IntKind.i64.wrap (p3.From)), Round := p3.Round, Frame := p3.Newest } : api_Kept) p4).bind fun v5 =>
    (congressref10_offer ({ v5 with Taken := v5.Taken }) p2 ({ From := (IntKind.i64.wrap (p3.RelayOf)), Round := p3.RelayRound, Frame := p3.Relay } : api_Kept) p4).bind fun v7 =>
    some (v7.L, v7.C, v7.Taken)) fun j1 =>
  if (decide (p3.Round > 1)) then
    (congressref10_offer ({ ({ L := p0, C := p1, Taken := [] } : congressref10_State) with Taken := ([] : _root_.List api_Kept) }) p2 ({ From := (IntKind.i64.wrap (p3.From)), Round := (IntKind.u32.wrap (p3.Round - 1)), Frame := p3.Older } : api_Kept) p4).bind fun v2 =>
    j1 (v2, v2.Taken)
  else
    j1 (({ L := p0, C := p1, Taken := [] } : congressref10_State), ([] : _root_.List api_Kept))

noncomputable def congresslaw10_KeptOffers (p0 : congresslaw10_Was) (p1 : api_Packet) (p2 : (Nat → Int)) : Option (Bool) :=
  (kept_Offer p0.L p0.C p0.M p1 p2).bind fun v1 =>
  (congressref10_Offer p0.L p0.C p0.M p1 p2).bind fun v3 =>
  (congresslaw10_fixed).bind fun v5 =>
  (whn v5 (congressref10_Same v1.1 v3.1) false).bind fun v7 =>
  (whn ((v5 && v7) && (b_a8_u32 v1.2.1 v3.2.1)) (congressref10_Same v1.2.2 v3.2.2) false).bind fun v9 =>
  some (((v5 && v7) && (b_a8_u32 v1.2.1 v3.2.1)) && v9)

noncomputable def congresslaw10_KeptBlind (p0 : congresslaw10_Was) (p1 : api_Packet) (p2 : (Nat → (Nat → api_Entry))) : Option (Bool) :=
  (loop (ω := Fl (Bool) ((Nat → Int))) (fun (x1 : Int × (Nat → Int)) =>
    if (decide (x1.1 < 8)) then
      (ib x1.1 8).bind fun _ =>
      some (.next ((IntKind.i64.wrap (x1.1 + 1)), aupd x1.2 x1.1.toNat 4294967295))
    else
      some (.done (.nx (x1.2)))) (0, (aset (fun _ => 0) []))).bind fun wn2 => Fl.elim wn2 (fun y4 =>
    lt ({ { p1 with Newest := p2 } with Older := p2 } : api_Packet) fun v5 =>
    (kept_Offer p0.L p0.C p0.M p1 y4).bind fun v6 =>
    (kept_Offer p0.L p0.C p0.M ({ v5 with Relay := p2 }) y4).bind fun v8 =>
    (congresslaw10_fixed).bind fun v10 =>
    lt (((((!v10) || (!(b_a8_u32 v6.2.1 v8.2.1))) || ((v6.1.length : Int) != (v8.1.length : Int))) || ((v6.2.2.length : Int) != (v8.2.2.length : Int))) : Bool) fun v12 =>
    if v12 then
      some false
    else
      (loop (ω := Fl (Bool) (Unit)) (fun (x13 : Int) =>
        if (decide (x13 < (v6.1.length : Int))) then
          (ib x13 v6.1.length).bind fun _ =>
          (ib x13 v8.1.length).bind fun _ =>
          (ibg (!(((v6.1.getD x13.toNat z_api_Kept).From) != ((v8.1.getD x13.toNat z_api_Kept).From))) x13 v6.1.length).bind fun _ =>
          (ibg (!(((v6.1.getD x13.toNat z_api_Kept).From) != ((v8.1.getD x13.toNat z_api_Kept).From))) x13 v8.1.length).bind fun _ =>
          lt (((((v6.1.getD x13.toNat z_api_Kept).From) != ((v8.1.getD x13.toNat z_api_Kept).From)) || (((v6.1.getD x13.toNat z_api_Kept).Round) != ((v8.1.getD x13.toNat z_api_Kept).Round))) : Bool) fun v19 =>
          if v19 then
            some (.done (.rt false))
          else
            some (.next ((IntKind.i64.wrap (x13 + 1))))
        else
          some (.done (.nx ()))) (0)).bind fun wn14 => Fl.elim wn14 (fun y20 =>
        (loop (ω := Fl (Bool) (Unit)) (fun (x21 : Int) =>
          if (decide (x21 < (v6.2.2.length : Int))) then
            (ib x21 v6.2.2.length).bind fun _ =>
            (ib x21 v8.2.2.length).bind fun _ =>
            (ibg (!(((v6.2.2.getD x21.toNat z_api_Kept).From) != ((v8.2.2.getD x21.toNat z_api_Kept).From))) x21 v6.2.2.length).bind fun _ =>
            (ibg (!(((v6.2.2.getD x21.toNat z_api_Kept).From) != ((v8.2.2.getD x21.toNat z_api_Kept).From))) x21 v8.2.2.length).bind fun _ =>
            (ibg (!((((v6.2.2.getD x21.toNat z_api_Kept).From) != ((v8.2.2.getD x21.toNat z_api_Kept).From)) || (((v6.2.2.getD x21.toNat z_api_Kept).Round) != ((v8.2.2.getD x21.toNat z_api_Kept).Round)))) x21 v8.2.2.length).bind fun _ =>
            lt ((((((v6.2.2.getD x21.toNat z_api_Kept).From) != ((v8.2.2.getD x21.toNat z_api_Kept).From)) || (((v6.2.2.getD x21.toNat z_api_Kept).Round) != ((v8.2.2.getD x21.toNat z_api_Kept).Round))) || (!(b_a3_a2_api_Entry ((v8.2.2.getD x21.toNat z_api_Kept).Frame) p2))) : Bool) fun v28 =>
            if v28 then
              some (.done (.rt false))
            else
              some (.next ((IntKind.i64.wrap (x21 + 1))))
          else
            some (.done (.nx ()))) (0)).bind fun wn22 => Fl.elim wn22 (fun y29 =>
          some true) (fun r => some r)) (fun r => some r)) (fun r => some r)
end Go.Proofs.Ytbkofjefhnnmlaa
