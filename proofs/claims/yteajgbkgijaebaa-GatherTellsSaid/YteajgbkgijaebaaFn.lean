/- Printed by gen.py. Conditions: none. -/
import Derived.Test.YteajgbkgijaebaaEngV
import Derived.Test.YteajgbkgijaebaaProg
import Derived.KernelRfl
set_option linter.unusedVariables false
set_option maxRecDepth 100000
namespace Go.Proofs.Yteajgbkgijaebaa
open Go.Eng
def e_a8_u32 (x : Nat → Int) : V := .agg (.ar 8 1) fun j => (.int .u32 (x j))
theorem d_a8_u32 (x : Nat → Int) : (e_a8_u32 x).Data := fun _ => trivial
theorem f_a8_u32 (x : Nat → Int) : (e_a8_u32 x).Flat := fun _ => trivial
def b_a8_u32 (x y : Nat → Int) : Bool := (List.range 8).all fun j => ((x j) == (y j))
theorem q_a8_u32 (x y : Nat → Int) : eqV (e_a8_u32 x) (e_a8_u32 y) = b_a8_u32 x y := by
  have h : eqV (e_a8_u32 x) (e_a8_u32 y) = ((List.range 8).all fun j => eqV (.int .u32 (x j)) (.int .u32 (y j))) := rfl
  rw [h]; simp only [b_a8_u32, eqV]
theorem al_a8_u32 (x y : Nat → Int) : Akin (e_a8_u32 x) (e_a8_u32 y) := .agg _ _ _ fun j _ => .int _ _ _
structure api_Beat where
  Now : Int
  Heard : (Nat → Int)
  Inc : (Nat → Int)
def z_api_Beat : api_Beat := { Now := 0, Heard := (fun _ => 0), Inc := (fun _ => 0) }
def c_api_Beat (x : api_Beat) : Nat → V
  | 0 => (.int .u32 x.Now)
  | 1 => (e_a8_u32 x.Heard)
  | 2 => (e_a8_u32 x.Inc)
  | _ => .bool false
def e_api_Beat (x : api_Beat) : V := .agg (.st [1, 8, 8]) (c_api_Beat x)
theorem d_api_Beat (x : api_Beat) : (e_api_Beat x).Data := fun j => match j with
  | 0 => trivial
  | 1 => (d_a8_u32 x.Heard)
  | 2 => (d_a8_u32 x.Inc)
  | _ + 3 => trivial
theorem f_api_Beat (x : api_Beat) : (e_api_Beat x).Flat := fun j => match j with
  | 0 => trivial
  | 1 => (f_a8_u32 x.Heard)
  | 2 => (f_a8_u32 x.Inc)
  | _ + 3 => trivial
def b_api_Beat (x y : api_Beat) : Bool := (x.Now == y.Now) && ((b_a8_u32 x.Heard y.Heard) && ((b_a8_u32 x.Inc y.Inc)))
theorem q_api_Beat (x y : api_Beat) : eqV (e_api_Beat x) (e_api_Beat y) = b_api_Beat x y := by
  have h : eqV (e_api_Beat x) (e_api_Beat y) = ((List.range 3).all fun j => eqV (c_api_Beat x j) (c_api_Beat y j)) := rfl
  have hr : List.range 3 = [0, 1, 2] := rfl
  rw [h, hr]
  simp only [List.all_cons, List.all_nil, Bool.and_true, c_api_Beat, b_api_Beat, eqV, q_a8_u32]
theorem al_api_Beat (x y : api_Beat) : Akin (e_api_Beat x) (e_api_Beat y) := .agg _ _ _ fun j h => match j, h with
  | 0, _ => .int _ _ _
  | 1, _ => al_a8_u32 _ _
  | 2, _ => al_a8_u32 _ _
  | n + 3, h => absurd (show n + 3 < 3 from h) (by omega)
theorem st_api_Beat_0 (x : api_Beat) (v : Int) : vupd (c_api_Beat x) 0 (.int .u32 v) = c_api_Beat { x with Now := v } := by
  funext j; match j with
  | 0 => rfl
  | 1 => rfl
  | 2 => rfl
  | _ + 3 => rfl
theorem st_api_Beat_1 (x : api_Beat) (v : (Nat → Int)) : vupd (c_api_Beat x) 1 (e_a8_u32 v) = c_api_Beat { x with Heard := v } := by
  funext j; match j with
  | 0 => rfl
  | 1 => rfl
  | 2 => rfl
  | _ + 3 => rfl
theorem st_api_Beat_2 (x : api_Beat) (v : (Nat → Int)) : vupd (c_api_Beat x) 2 (e_a8_u32 v) = c_api_Beat { x with Inc := v } := by
  funext j; match j with
  | 0 => rfl
  | 1 => rfl
  | 2 => rfl
  | _ + 3 => rfl
structure api_Id where
  Epoch : Int
  Coord : Int
  Inc : Int
def z_api_Id : api_Id := { Epoch := 0, Coord := 0, Inc := 0 }
def c_api_Id (x : api_Id) : Nat → V
  | 0 => (.int .u32 x.Epoch)
  | 1 => (.int .u32 x.Coord)
  | 2 => (.int .u32 x.Inc)
  | _ => .bool false
def e_api_Id (x : api_Id) : V := .agg (.st [1, 1, 1]) (c_api_Id x)
theorem d_api_Id (x : api_Id) : (e_api_Id x).Data := fun j => match j with
  | 0 => trivial
  | 1 => trivial
  | 2 => trivial
  | _ + 3 => trivial
theorem f_api_Id (x : api_Id) : (e_api_Id x).Flat := fun j => match j with
  | 0 => trivial
  | 1 => trivial
  | 2 => trivial
  | _ + 3 => trivial
def b_api_Id (x y : api_Id) : Bool := (x.Epoch == y.Epoch) && ((x.Coord == y.Coord) && ((x.Inc == y.Inc)))
theorem q_api_Id (x y : api_Id) : eqV (e_api_Id x) (e_api_Id y) = b_api_Id x y := by
  have h : eqV (e_api_Id x) (e_api_Id y) = ((List.range 3).all fun j => eqV (c_api_Id x j) (c_api_Id y j)) := rfl
  have hr : List.range 3 = [0, 1, 2] := rfl
  rw [h, hr]
  simp only [List.all_cons, List.all_nil, Bool.and_true, c_api_Id, b_api_Id, eqV]
theorem al_api_Id (x y : api_Id) : Akin (e_api_Id x) (e_api_Id y) := .agg _ _ _ fun j h => match j, h with
  | 0, _ => .int _ _ _
  | 1, _ => .int _ _ _
  | 2, _ => .int _ _ _
  | n + 3, h => absurd (show n + 3 < 3 from h) (by omega)
theorem st_api_Id_0 (x : api_Id) (v : Int) : vupd (c_api_Id x) 0 (.int .u32 v) = c_api_Id { x with Epoch := v } := by
  funext j; match j with
  | 0 => rfl
  | 1 => rfl
  | 2 => rfl
  | _ + 3 => rfl
theorem st_api_Id_1 (x : api_Id) (v : Int) : vupd (c_api_Id x) 1 (.int .u32 v) = c_api_Id { x with Coord := v } := by
  funext j; match j with
  | 0 => rfl
  | 1 => rfl
  | 2 => rfl
  | _ + 3 => rfl
theorem st_api_Id_2 (x : api_Id) (v : Int) : vupd (c_api_Id x) 2 (.int .u32 v) = c_api_Id { x with Inc := v } := by
  funext j; match j with
  | 0 => rfl
  | 1 => rfl
  | 2 => rfl
  | _ + 3 => rfl
structure api_Entry where
  Kind : Int
  Service : Int
  Group : Int
  Session : Int
  Number : Int
  Text : ByteArray
def z_api_Entry : api_Entry := { Kind := 0, Service := 0, Group := 0, Session := 0, Number := 0, Text := ByteArray.empty }
def c_api_Entry (x : api_Entry) : Nat → V
  | 0 => (.int .i64 x.Kind)
  | 1 => (.int .i64 x.Service)
  | 2 => (.int .i64 x.Group)
  | 3 => (.int .u64 x.Session)
  | 4 => (.int .u64 x.Number)
  | 5 => (.str x.Text)
  | _ => .bool false
def e_api_Entry (x : api_Entry) : V := .agg (.st [1, 1, 1, 1, 1, 1]) (c_api_Entry x)
theorem d_api_Entry (x : api_Entry) : (e_api_Entry x).Data := fun j => match j with
  | 0 => trivial
  | 1 => trivial
  | 2 => trivial
  | 3 => trivial
  | 4 => trivial
  | 5 => trivial
  | _ + 6 => trivial
theorem f_api_Entry (x : api_Entry) : (e_api_Entry x).Flat := fun j => match j with
  | 0 => trivial
  | 1 => trivial
  | 2 => trivial
  | 3 => trivial
  | 4 => trivial
  | 5 => trivial
  | _ + 6 => trivial
def b_api_Entry (x y : api_Entry) : Bool := (x.Kind == y.Kind) && ((x.Service == y.Service) && ((x.Group == y.Group) && ((x.Session == y.Session) && ((x.Number == y.Number) && ((x.Text == y.Text))))))
theorem q_api_Entry (x y : api_Entry) : eqV (e_api_Entry x) (e_api_Entry y) = b_api_Entry x y := by
  have h : eqV (e_api_Entry x) (e_api_Entry y) = ((List.range 6).all fun j => eqV (c_api_Entry x j) (c_api_Entry y j)) := rfl
  have hr : List.range 6 = [0, 1, 2, 3, 4, 5] := rfl
  rw [h, hr]
  simp only [List.all_cons, List.all_nil, Bool.and_true, c_api_Entry, b_api_Entry, eqV]
theorem al_api_Entry (x y : api_Entry) : Akin (e_api_Entry x) (e_api_Entry y) := .agg _ _ _ fun j h => match j, h with
  | 0, _ => .int _ _ _
  | 1, _ => .int _ _ _
  | 2, _ => .int _ _ _
  | 3, _ => .int _ _ _
  | 4, _ => .int _ _ _
  | 5, _ => .str _ _
  | n + 6, h => absurd (show n + 6 < 6 from h) (by omega)
theorem st_api_Entry_0 (x : api_Entry) (v : Int) : vupd (c_api_Entry x) 0 (.int .i64 v) = c_api_Entry { x with Kind := v } := by
  funext j; match j with
  | 0 => rfl
  | 1 => rfl
  | 2 => rfl
  | 3 => rfl
  | 4 => rfl
  | 5 => rfl
  | _ + 6 => rfl
theorem st_api_Entry_1 (x : api_Entry) (v : Int) : vupd (c_api_Entry x) 1 (.int .i64 v) = c_api_Entry { x with Service := v } := by
  funext j; match j with
  | 0 => rfl
  | 1 => rfl
  | 2 => rfl
  | 3 => rfl
  | 4 => rfl
  | 5 => rfl
  | _ + 6 => rfl
theorem st_api_Entry_2 (x : api_Entry) (v : Int) : vupd (c_api_Entry x) 2 (.int .i64 v) = c_api_Entry { x with Group := v } := by
  funext j; match j with
  | 0 => rfl
  | 1 => rfl
  | 2 => rfl
  | 3 => rfl
  | 4 => rfl
  | 5 => rfl
  | _ + 6 => rfl
theorem st_api_Entry_3 (x : api_Entry) (v : Int) : vupd (c_api_Entry x) 3 (.int .u64 v) = c_api_Entry { x with Session := v } := by
  funext j; match j with
  | 0 => rfl
  | 1 => rfl
  | 2 => rfl
  | 3 => rfl
  | 4 => rfl
  | 5 => rfl
  | _ + 6 => rfl
theorem st_api_Entry_4 (x : api_Entry) (v : Int) : vupd (c_api_Entry x) 4 (.int .u64 v) = c_api_Entry { x with Number := v } := by
  funext j; match j with
  | 0 => rfl
  | 1 => rfl
  | 2 => rfl
  | 3 => rfl
  | 4 => rfl
  | 5 => rfl
  | _ + 6 => rfl
theorem st_api_Entry_5 (x : api_Entry) (v : ByteArray) : vupd (c_api_Entry x) 5 (.str v) = c_api_Entry { x with Text := v } := by
  funext j; match j with
  | 0 => rfl
  | 1 => rfl
  | 2 => rfl
  | 3 => rfl
  | 4 => rfl
  | 5 => rfl
  | _ + 6 => rfl
def e_a2_api_Entry (x : Nat → api_Entry) : V := .agg (.ar 2 6) fun j => (e_api_Entry (x j))
theorem d_a2_api_Entry (x : Nat → api_Entry) : (e_a2_api_Entry x).Data := fun j => (d_api_Entry (x j))
theorem f_a2_api_Entry (x : Nat → api_Entry) : (e_a2_api_Entry x).Flat := fun j => (f_api_Entry (x j))
def b_a2_api_Entry (x y : Nat → api_Entry) : Bool := (List.range 2).all fun j => (b_api_Entry (x j) (y j))
theorem q_a2_api_Entry (x y : Nat → api_Entry) : eqV (e_a2_api_Entry x) (e_a2_api_Entry y) = b_a2_api_Entry x y := by
  have h : eqV (e_a2_api_Entry x) (e_a2_api_Entry y) = ((List.range 2).all fun j => eqV (e_api_Entry (x j)) (e_api_Entry (y j))) := rfl
  rw [h]; simp only [b_a2_api_Entry, q_api_Entry]
theorem al_a2_api_Entry (x y : Nat → api_Entry) : Akin (e_a2_api_Entry x) (e_a2_api_Entry y) := .agg _ _ _ fun j _ => al_api_Entry _ _
def e_a3_a2_api_Entry (x : Nat → (Nat → api_Entry)) : V := .agg (.ar 3 12) fun j => (e_a2_api_Entry (x j))
theorem d_a3_a2_api_Entry (x : Nat → (Nat → api_Entry)) : (e_a3_a2_api_Entry x).Data := fun j => (d_a2_api_Entry (x j))
theorem f_a3_a2_api_Entry (x : Nat → (Nat → api_Entry)) : (e_a3_a2_api_Entry x).Flat := fun j => (f_a2_api_Entry (x j))
def b_a3_a2_api_Entry (x y : Nat → (Nat → api_Entry)) : Bool := (List.range 3).all fun j => (b_a2_api_Entry (x j) (y j))
theorem q_a3_a2_api_Entry (x y : Nat → (Nat → api_Entry)) : eqV (e_a3_a2_api_Entry x) (e_a3_a2_api_Entry y) = b_a3_a2_api_Entry x y := by
  have h : eqV (e_a3_a2_api_Entry x) (e_a3_a2_api_Entry y) = ((List.range 3).all fun j => eqV (e_a2_api_Entry (x j)) (e_a2_api_Entry (y j))) := rfl
  rw [h]; simp only [b_a3_a2_api_Entry, q_a2_api_Entry]
theorem al_a3_a2_api_Entry (x y : Nat → (Nat → api_Entry)) : Akin (e_a3_a2_api_Entry x) (e_a3_a2_api_Entry y) := .agg _ _ _ fun j _ => al_a2_api_Entry _ _
structure api_Kept where
  From : Int
  Round : Int
  Frame : (Nat → (Nat → api_Entry))
def z_api_Kept : api_Kept := { From := 0, Round := 0, Frame := (fun _ => (fun _ => z_api_Entry)) }
def c_api_Kept (x : api_Kept) : Nat → V
  | 0 => (.int .i64 x.From)
  | 1 => (.int .u32 x.Round)
  | 2 => (e_a3_a2_api_Entry x.Frame)
  | _ => .bool false
def e_api_Kept (x : api_Kept) : V := .agg (.st [1, 1, 36]) (c_api_Kept x)
theorem d_api_Kept (x : api_Kept) : (e_api_Kept x).Data := fun j => match j with
  | 0 => trivial
  | 1 => trivial
  | 2 => (d_a3_a2_api_Entry x.Frame)
  | _ + 3 => trivial
theorem f_api_Kept (x : api_Kept) : (e_api_Kept x).Flat := fun j => match j with
  | 0 => trivial
  | 1 => trivial
  | 2 => (f_a3_a2_api_Entry x.Frame)
  | _ + 3 => trivial
def b_api_Kept (x y : api_Kept) : Bool := (x.From == y.From) && ((x.Round == y.Round) && ((b_a3_a2_api_Entry x.Frame y.Frame)))
theorem q_api_Kept (x y : api_Kept) : eqV (e_api_Kept x) (e_api_Kept y) = b_api_Kept x y := by
  have h : eqV (e_api_Kept x) (e_api_Kept y) = ((List.range 3).all fun j => eqV (c_api_Kept x j) (c_api_Kept y j)) := rfl
  have hr : List.range 3 = [0, 1, 2] := rfl
  rw [h, hr]
  simp only [List.all_cons, List.all_nil, Bool.and_true, c_api_Kept, b_api_Kept, eqV, q_a3_a2_api_Entry]
theorem al_api_Kept (x y : api_Kept) : Akin (e_api_Kept x) (e_api_Kept y) := .agg _ _ _ fun j h => match j, h with
  | 0, _ => .int _ _ _
  | 1, _ => .int _ _ _
  | 2, _ => al_a3_a2_api_Entry _ _
  | n + 3, h => absurd (show n + 3 < 3 from h) (by omega)
theorem st_api_Kept_0 (x : api_Kept) (v : Int) : vupd (c_api_Kept x) 0 (.int .i64 v) = c_api_Kept { x with From := v } := by
  funext j; match j with
  | 0 => rfl
  | 1 => rfl
  | 2 => rfl
  | _ + 3 => rfl
theorem st_api_Kept_1 (x : api_Kept) (v : Int) : vupd (c_api_Kept x) 1 (.int .u32 v) = c_api_Kept { x with Round := v } := by
  funext j; match j with
  | 0 => rfl
  | 1 => rfl
  | 2 => rfl
  | _ + 3 => rfl
theorem st_api_Kept_2 (x : api_Kept) (v : (Nat → (Nat → api_Entry))) : vupd (c_api_Kept x) 2 (e_a3_a2_api_Entry v) = c_api_Kept { x with Frame := v } := by
  funext j; match j with
  | 0 => rfl
  | 1 => rfl
  | 2 => rfl
  | _ + 3 => rfl
def e_s_api_Kept (x : _root_.List api_Kept) : V := .sl 38 x.length fun j => (e_api_Kept (x.getD j z_api_Kept))
theorem d_s_api_Kept (x : _root_.List api_Kept) : (e_s_api_Kept x).Data := fun j => (d_api_Kept (x.getD j z_api_Kept))
structure api_Peer where
  Inc : Int
  Conf : api_Id
  Promise : api_Id
  Cut : (Nat → Int)
  Ready : Bool
def z_api_Peer : api_Peer := { Inc := 0, Conf := z_api_Id, Promise := z_api_Id, Cut := (fun _ => 0), Ready := false }
def c_api_Peer (x : api_Peer) : Nat → V
  | 0 => (.int .u32 x.Inc)
  | 1 => (e_api_Id x.Conf)
  | 2 => (e_api_Id x.Promise)
  | 3 => (e_a8_u32 x.Cut)
  | 4 => (.bool x.Ready)
  | _ => .bool false
def e_api_Peer (x : api_Peer) : V := .agg (.st [1, 3, 3, 8, 1]) (c_api_Peer x)
theorem d_api_Peer (x : api_Peer) : (e_api_Peer x).Data := fun j => match j with
  | 0 => trivial
  | 1 => (d_api_Id x.Conf)
  | 2 => (d_api_Id x.Promise)
  | 3 => (d_a8_u32 x.Cut)
  | 4 => trivial
  | _ + 5 => trivial
theorem f_api_Peer (x : api_Peer) : (e_api_Peer x).Flat := fun j => match j with
  | 0 => trivial
  | 1 => (f_api_Id x.Conf)
  | 2 => (f_api_Id x.Promise)
  | 3 => (f_a8_u32 x.Cut)
  | 4 => trivial
  | _ + 5 => trivial
def b_api_Peer (x y : api_Peer) : Bool := (x.Inc == y.Inc) && ((b_api_Id x.Conf y.Conf) && ((b_api_Id x.Promise y.Promise) && ((b_a8_u32 x.Cut y.Cut) && ((x.Ready == y.Ready)))))
theorem q_api_Peer (x y : api_Peer) : eqV (e_api_Peer x) (e_api_Peer y) = b_api_Peer x y := by
  have h : eqV (e_api_Peer x) (e_api_Peer y) = ((List.range 5).all fun j => eqV (c_api_Peer x j) (c_api_Peer y j)) := rfl
  have hr : List.range 5 = [0, 1, 2, 3, 4] := rfl
  rw [h, hr]
  simp only [List.all_cons, List.all_nil, Bool.and_true, c_api_Peer, b_api_Peer, eqV, q_api_Id, q_a8_u32]
theorem al_api_Peer (x y : api_Peer) : Akin (e_api_Peer x) (e_api_Peer y) := .agg _ _ _ fun j h => match j, h with
  | 0, _ => .int _ _ _
  | 1, _ => al_api_Id _ _
  | 2, _ => al_api_Id _ _
  | 3, _ => al_a8_u32 _ _
  | 4, _ => .bool _ _
  | n + 5, h => absurd (show n + 5 < 5 from h) (by omega)
theorem st_api_Peer_0 (x : api_Peer) (v : Int) : vupd (c_api_Peer x) 0 (.int .u32 v) = c_api_Peer { x with Inc := v } := by
  funext j; match j with
  | 0 => rfl
  | 1 => rfl
  | 2 => rfl
  | 3 => rfl
  | 4 => rfl
  | _ + 5 => rfl
theorem st_api_Peer_1 (x : api_Peer) (v : api_Id) : vupd (c_api_Peer x) 1 (e_api_Id v) = c_api_Peer { x with Conf := v } := by
  funext j; match j with
  | 0 => rfl
  | 1 => rfl
  | 2 => rfl
  | 3 => rfl
  | 4 => rfl
  | _ + 5 => rfl
theorem st_api_Peer_2 (x : api_Peer) (v : api_Id) : vupd (c_api_Peer x) 2 (e_api_Id v) = c_api_Peer { x with Promise := v } := by
  funext j; match j with
  | 0 => rfl
  | 1 => rfl
  | 2 => rfl
  | 3 => rfl
  | 4 => rfl
  | _ + 5 => rfl
theorem st_api_Peer_3 (x : api_Peer) (v : (Nat → Int)) : vupd (c_api_Peer x) 3 (e_a8_u32 v) = c_api_Peer { x with Cut := v } := by
  funext j; match j with
  | 0 => rfl
  | 1 => rfl
  | 2 => rfl
  | 3 => rfl
  | 4 => rfl
  | _ + 5 => rfl
theorem st_api_Peer_4 (x : api_Peer) (v : Bool) : vupd (c_api_Peer x) 4 (.bool v) = c_api_Peer { x with Ready := v } := by
  funext j; match j with
  | 0 => rfl
  | 1 => rfl
  | 2 => rfl
  | 3 => rfl
  | 4 => rfl
  | _ + 5 => rfl
def e_a8_api_Peer (x : Nat → api_Peer) : V := .agg (.ar 8 16) fun j => (e_api_Peer (x j))
theorem d_a8_api_Peer (x : Nat → api_Peer) : (e_a8_api_Peer x).Data := fun j => (d_api_Peer (x j))
theorem f_a8_api_Peer (x : Nat → api_Peer) : (e_a8_api_Peer x).Flat := fun j => (f_api_Peer (x j))
def b_a8_api_Peer (x y : Nat → api_Peer) : Bool := (List.range 8).all fun j => (b_api_Peer (x j) (y j))
theorem q_a8_api_Peer (x y : Nat → api_Peer) : eqV (e_a8_api_Peer x) (e_a8_api_Peer y) = b_a8_api_Peer x y := by
  have h : eqV (e_a8_api_Peer x) (e_a8_api_Peer y) = ((List.range 8).all fun j => eqV (e_api_Peer (x j)) (e_api_Peer (y j))) := rfl
  rw [h]; simp only [b_a8_api_Peer, q_api_Peer]
theorem al_a8_api_Peer (x y : Nat → api_Peer) : Akin (e_a8_api_Peer x) (e_a8_api_Peer y) := .agg _ _ _ fun j _ => al_api_Peer _ _
structure api_Core where
  Self : Int
  Wait : Int
  Own : Int
  Beat : api_Beat
  Conf : api_Id
  Members : (Nat → Int)
  Count : (Nat → Int)
  Kept : (_root_.List api_Kept)
  Promise : api_Id
  Wanted : (Nat → Int)
  Cut : (Nat → Int)
  Ready : Bool
  Peers : (Nat → api_Peer)
  Epoch : Int
def z_api_Core : api_Core := { Self := 0, Wait := 0, Own := 0, Beat := z_api_Beat, Conf := z_api_Id, Members := (fun _ => 0), Count := (fun _ => 0), Kept := [], Promise := z_api_Id, Wanted := (fun _ => 0), Cut := (fun _ => 0), Ready := false, Peers := (fun _ => z_api_Peer), Epoch := 0 }
def c_api_Core (x : api_Core) : Nat → V
  | 0 => (.int .i64 x.Self)
  | 1 => (.int .i64 x.Wait)
  | 2 => (.int .u32 x.Own)
  | 3 => (e_api_Beat x.Beat)
  | 4 => (e_api_Id x.Conf)
  | 5 => (e_a8_u32 x.Members)
  | 6 => (e_a8_u32 x.Count)
  | 7 => (e_s_api_Kept x.Kept)
  | 8 => (e_api_Id x.Promise)
  | 9 => (e_a8_u32 x.Wanted)
  | 10 => (e_a8_u32 x.Cut)
  | 11 => (.bool x.Ready)
  | 12 => (e_a8_api_Peer x.Peers)
  | 13 => (.int .u32 x.Epoch)
  | _ => .bool false
def e_api_Core (x : api_Core) : V := .agg (.st [1, 1, 1, 17, 3, 8, 8, 1, 3, 8, 8, 1, 128, 1]) (c_api_Core x)
theorem d_api_Core (x : api_Core) : (e_api_Core x).Data := fun j => match j with
  | 0 => trivial
  | 1 => trivial
  | 2 => trivial
  | 3 => (d_api_Beat x.Beat)
  | 4 => (d_api_Id x.Conf)
  | 5 => (d_a8_u32 x.Members)
  | 6 => (d_a8_u32 x.Count)
  | 7 => (d_s_api_Kept x.Kept)
  | 8 => (d_api_Id x.Promise)
  | 9 => (d_a8_u32 x.Wanted)
  | 10 => (d_a8_u32 x.Cut)
  | 11 => trivial
  | 12 => (d_a8_api_Peer x.Peers)
  | 13 => trivial
  | _ + 14 => trivial
theorem st_api_Core_0 (x : api_Core) (v : Int) : vupd (c_api_Core x) 0 (.int .i64 v) = c_api_Core { x with Self := v } := by
  funext j; match j with
  | 0 => rfl
  | 1 => rfl
  | 2 => rfl
  | 3 => rfl
  | 4 => rfl
  | 5 => rfl
  | 6 => rfl
  | 7 => rfl
  | 8 => rfl
  | 9 => rfl
  | 10 => rfl
  | 11 => rfl
  | 12 => rfl
  | 13 => rfl
  | _ + 14 => rfl
theorem st_api_Core_1 (x : api_Core) (v : Int) : vupd (c_api_Core x) 1 (.int .i64 v) = c_api_Core { x with Wait := v } := by
  funext j; match j with
  | 0 => rfl
  | 1 => rfl
  | 2 => rfl
  | 3 => rfl
  | 4 => rfl
  | 5 => rfl
  | 6 => rfl
  | 7 => rfl
  | 8 => rfl
  | 9 => rfl
  | 10 => rfl
  | 11 => rfl
  | 12 => rfl
  | 13 => rfl
  | _ + 14 => rfl
theorem st_api_Core_2 (x : api_Core) (v : Int) : vupd (c_api_Core x) 2 (.int .u32 v) = c_api_Core { x with Own := v } := by
  funext j; match j with
  | 0 => rfl
  | 1 => rfl
  | 2 => rfl
  | 3 => rfl
  | 4 => rfl
  | 5 => rfl
  | 6 => rfl
  | 7 => rfl
  | 8 => rfl
  | 9 => rfl
  | 10 => rfl
  | 11 => rfl
  | 12 => rfl
  | 13 => rfl
  | _ + 14 => rfl
theorem st_api_Core_3 (x : api_Core) (v : api_Beat) : vupd (c_api_Core x) 3 (e_api_Beat v) = c_api_Core { x with Beat := v } := by
  funext j; match j with
  | 0 => rfl
  | 1 => rfl
  | 2 => rfl
  | 3 => rfl
  | 4 => rfl
  | 5 => rfl
  | 6 => rfl
  | 7 => rfl
  | 8 => rfl
  | 9 => rfl
  | 10 => rfl
  | 11 => rfl
  | 12 => rfl
  | 13 => rfl
  | _ + 14 => rfl
theorem st_api_Core_4 (x : api_Core) (v : api_Id) : vupd (c_api_Core x) 4 (e_api_Id v) = c_api_Core { x with Conf := v } := by
  funext j; match j with
  | 0 => rfl
  | 1 => rfl
  | 2 => rfl
  | 3 => rfl
  | 4 => rfl
  | 5 => rfl
  | 6 => rfl
  | 7 => rfl
  | 8 => rfl
  | 9 => rfl
  | 10 => rfl
  | 11 => rfl
  | 12 => rfl
  | 13 => rfl
  | _ + 14 => rfl
theorem st_api_Core_5 (x : api_Core) (v : (Nat → Int)) : vupd (c_api_Core x) 5 (e_a8_u32 v) = c_api_Core { x with Members := v } := by
  funext j; match j with
  | 0 => rfl
  | 1 => rfl
  | 2 => rfl
  | 3 => rfl
  | 4 => rfl
  | 5 => rfl
  | 6 => rfl
  | 7 => rfl
  | 8 => rfl
  | 9 => rfl
  | 10 => rfl
  | 11 => rfl
  | 12 => rfl
  | 13 => rfl
  | _ + 14 => rfl
theorem st_api_Core_6 (x : api_Core) (v : (Nat → Int)) : vupd (c_api_Core x) 6 (e_a8_u32 v) = c_api_Core { x with Count := v } := by
  funext j; match j with
  | 0 => rfl
  | 1 => rfl
  | 2 => rfl
  | 3 => rfl
  | 4 => rfl
  | 5 => rfl
  | 6 => rfl
  | 7 => rfl
  | 8 => rfl
  | 9 => rfl
  | 10 => rfl
  | 11 => rfl
  | 12 => rfl
  | 13 => rfl
  | _ + 14 => rfl
theorem st_api_Core_7 (x : api_Core) (v : (_root_.List api_Kept)) : vupd (c_api_Core x) 7 (e_s_api_Kept v) = c_api_Core { x with Kept := v } := by
  funext j; match j with
  | 0 => rfl
  | 1 => rfl
  | 2 => rfl
  | 3 => rfl
  | 4 => rfl
  | 5 => rfl
  | 6 => rfl
  | 7 => rfl
  | 8 => rfl
  | 9 => rfl
  | 10 => rfl
  | 11 => rfl
  | 12 => rfl
  | 13 => rfl
  | _ + 14 => rfl
theorem st_api_Core_8 (x : api_Core) (v : api_Id) : vupd (c_api_Core x) 8 (e_api_Id v) = c_api_Core { x with Promise := v } := by
  funext j; match j with
  | 0 => rfl
  | 1 => rfl
  | 2 => rfl
  | 3 => rfl
  | 4 => rfl
  | 5 => rfl
  | 6 => rfl
  | 7 => rfl
  | 8 => rfl
  | 9 => rfl
  | 10 => rfl
  | 11 => rfl
  | 12 => rfl
  | 13 => rfl
  | _ + 14 => rfl
theorem st_api_Core_9 (x : api_Core) (v : (Nat → Int)) : vupd (c_api_Core x) 9 (e_a8_u32 v) = c_api_Core { x with Wanted := v } := by
  funext j; match j with
  | 0 => rfl
  | 1 => rfl
  | 2 => rfl
  | 3 => rfl
  | 4 => rfl
  | 5 => rfl
  | 6 => rfl
  | 7 => rfl
  | 8 => rfl
  | 9 => rfl
  | 10 => rfl
  | 11 => rfl
  | 12 => rfl
  | 13 => rfl
  | _ + 14 => rfl
theorem st_api_Core_10 (x : api_Core) (v : (Nat → Int)) : vupd (c_api_Core x) 10 (e_a8_u32 v) = c_api_Core { x with Cut := v } := by
  funext j; match j with
  | 0 => rfl
  | 1 => rfl
  | 2 => rfl
  | 3 => rfl
  | 4 => rfl
  | 5 => rfl
  | 6 => rfl
  | 7 => rfl
  | 8 => rfl
  | 9 => rfl
  | 10 => rfl
  | 11 => rfl
  | 12 => rfl
  | 13 => rfl
  | _ + 14 => rfl
theorem st_api_Core_11 (x : api_Core) (v : Bool) : vupd (c_api_Core x) 11 (.bool v) = c_api_Core { x with Ready := v } := by
  funext j; match j with
  | 0 => rfl
  | 1 => rfl
  | 2 => rfl
  | 3 => rfl
  | 4 => rfl
  | 5 => rfl
  | 6 => rfl
  | 7 => rfl
  | 8 => rfl
  | 9 => rfl
  | 10 => rfl
  | 11 => rfl
  | 12 => rfl
  | 13 => rfl
  | _ + 14 => rfl
theorem st_api_Core_12 (x : api_Core) (v : (Nat → api_Peer)) : vupd (c_api_Core x) 12 (e_a8_api_Peer v) = c_api_Core { x with Peers := v } := by
  funext j; match j with
  | 0 => rfl
  | 1 => rfl
  | 2 => rfl
  | 3 => rfl
  | 4 => rfl
  | 5 => rfl
  | 6 => rfl
  | 7 => rfl
  | 8 => rfl
  | 9 => rfl
  | 10 => rfl
  | 11 => rfl
  | 12 => rfl
  | 13 => rfl
  | _ + 14 => rfl
theorem st_api_Core_13 (x : api_Core) (v : Int) : vupd (c_api_Core x) 13 (.int .u32 v) = c_api_Core { x with Epoch := v } := by
  funext j; match j with
  | 0 => rfl
  | 1 => rfl
  | 2 => rfl
  | 3 => rfl
  | 4 => rfl
  | 5 => rfl
  | 6 => rfl
  | 7 => rfl
  | 8 => rfl
  | 9 => rfl
  | 10 => rfl
  | 11 => rfl
  | 12 => rfl
  | 13 => rfl
  | _ + 14 => rfl
structure api_Packet where
  From : Int
  Inc : Int
  Conf : api_Id
  Members : (Nat → Int)
  Count : (Nat → Int)
  Promise : api_Id
  Wanted : (Nat → Int)
  Ready : Bool
  Epoch : Int
  Round : Int
  Newest : (Nat → (Nat → api_Entry))
  Older : (Nat → (Nat → api_Entry))
  RelayOf : Int
  RelayRound : Int
  Relay : (Nat → (Nat → api_Entry))
def z_api_Packet : api_Packet := { From := 0, Inc := 0, Conf := z_api_Id, Members := (fun _ => 0), Count := (fun _ => 0), Promise := z_api_Id, Wanted := (fun _ => 0), Ready := false, Epoch := 0, Round := 0, Newest := (fun _ => (fun _ => z_api_Entry)), Older := (fun _ => (fun _ => z_api_Entry)), RelayOf := 0, RelayRound := 0, Relay := (fun _ => (fun _ => z_api_Entry)) }
def c_api_Packet (x : api_Packet) : Nat → V
  | 0 => (.int .u32 x.From)
  | 1 => (.int .u32 x.Inc)
  | 2 => (e_api_Id x.Conf)
  | 3 => (e_a8_u32 x.Members)
  | 4 => (e_a8_u32 x.Count)
  | 5 => (e_api_Id x.Promise)
  | 6 => (e_a8_u32 x.Wanted)
  | 7 => (.bool x.Ready)
  | 8 => (.int .u32 x.Epoch)
  | 9 => (.int .u32 x.Round)
  | 10 => (e_a3_a2_api_Entry x.Newest)
  | 11 => (e_a3_a2_api_Entry x.Older)
  | 12 => (.int .u32 x.RelayOf)
  | 13 => (.int .u32 x.RelayRound)
  | 14 => (e_a3_a2_api_Entry x.Relay)
  | _ => .bool false
def e_api_Packet (x : api_Packet) : V := .agg (.st [1, 1, 3, 8, 8, 3, 8, 1, 1, 1, 36, 36, 1, 1, 36]) (c_api_Packet x)
theorem d_api_Packet (x : api_Packet) : (e_api_Packet x).Data := fun j => match j with
  | 0 => trivial
  | 1 => trivial
  | 2 => (d_api_Id x.Conf)
  | 3 => (d_a8_u32 x.Members)
  | 4 => (d_a8_u32 x.Count)
  | 5 => (d_api_Id x.Promise)
  | 6 => (d_a8_u32 x.Wanted)
  | 7 => trivial
  | 8 => trivial
  | 9 => trivial
  | 10 => (d_a3_a2_api_Entry x.Newest)
  | 11 => (d_a3_a2_api_Entry x.Older)
  | 12 => trivial
  | 13 => trivial
  | 14 => (d_a3_a2_api_Entry x.Relay)
  | _ + 15 => trivial
theorem f_api_Packet (x : api_Packet) : (e_api_Packet x).Flat := fun j => match j with
  | 0 => trivial
  | 1 => trivial
  | 2 => (f_api_Id x.Conf)
  | 3 => (f_a8_u32 x.Members)
  | 4 => (f_a8_u32 x.Count)
  | 5 => (f_api_Id x.Promise)
  | 6 => (f_a8_u32 x.Wanted)
  | 7 => trivial
  | 8 => trivial
  | 9 => trivial
  | 10 => (f_a3_a2_api_Entry x.Newest)
  | 11 => (f_a3_a2_api_Entry x.Older)
  | 12 => trivial
  | 13 => trivial
  | 14 => (f_a3_a2_api_Entry x.Relay)
  | _ + 15 => trivial
def b_api_Packet (x y : api_Packet) : Bool := (x.From == y.From) && ((x.Inc == y.Inc) && ((b_api_Id x.Conf y.Conf) && ((b_a8_u32 x.Members y.Members) && ((b_a8_u32 x.Count y.Count) && ((b_api_Id x.Promise y.Promise) && ((b_a8_u32 x.Wanted y.Wanted) && ((x.Ready == y.Ready) && ((x.Epoch == y.Epoch) && ((x.Round == y.Round) && ((b_a3_a2_api_Entry x.Newest y.Newest) && ((b_a3_a2_api_Entry x.Older y.Older) && ((x.RelayOf == y.RelayOf) && ((x.RelayRound == y.RelayRound) && ((b_a3_a2_api_Entry x.Relay y.Relay)))))))))))))))
theorem q_api_Packet (x y : api_Packet) : eqV (e_api_Packet x) (e_api_Packet y) = b_api_Packet x y := by
  have h : eqV (e_api_Packet x) (e_api_Packet y) = ((List.range 15).all fun j => eqV (c_api_Packet x j) (c_api_Packet y j)) := rfl
  have hr : List.range 15 = [0, 1, 2, 3, 4, 5, 6, 7, 8, 9, 10, 11, 12, 13, 14] := rfl
  rw [h, hr]
  simp only [List.all_cons, List.all_nil, Bool.and_true, c_api_Packet, b_api_Packet, eqV, q_api_Id, q_a8_u32, q_a3_a2_api_Entry]
theorem al_api_Packet (x y : api_Packet) : Akin (e_api_Packet x) (e_api_Packet y) := .agg _ _ _ fun j h => match j, h with
  | 0, _ => .int _ _ _
  | 1, _ => .int _ _ _
  | 2, _ => al_api_Id _ _
  | 3, _ => al_a8_u32 _ _
  | 4, _ => al_a8_u32 _ _
  | 5, _ => al_api_Id _ _
  | 6, _ => al_a8_u32 _ _
  | 7, _ => .bool _ _
  | 8, _ => .int _ _ _
  | 9, _ => .int _ _ _
  | 10, _ => al_a3_a2_api_Entry _ _
  | 11, _ => al_a3_a2_api_Entry _ _
  | 12, _ => .int _ _ _
  | 13, _ => .int _ _ _
  | 14, _ => al_a3_a2_api_Entry _ _
  | n + 15, h => absurd (show n + 15 < 15 from h) (by omega)
theorem st_api_Packet_0 (x : api_Packet) (v : Int) : vupd (c_api_Packet x) 0 (.int .u32 v) = c_api_Packet { x with From := v } := by
  funext j; match j with
  | 0 => rfl
  | 1 => rfl
  | 2 => rfl
  | 3 => rfl
  | 4 => rfl
  | 5 => rfl
  | 6 => rfl
  | 7 => rfl
  | 8 => rfl
  | 9 => rfl
  | 10 => rfl
  | 11 => rfl
  | 12 => rfl
  | 13 => rfl
  | 14 => rfl
  | _ + 15 => rfl
theorem st_api_Packet_1 (x : api_Packet) (v : Int) : vupd (c_api_Packet x) 1 (.int .u32 v) = c_api_Packet { x with Inc := v } := by
  funext j; match j with
  | 0 => rfl
  | 1 => rfl
  | 2 => rfl
  | 3 => rfl
  | 4 => rfl
  | 5 => rfl
  | 6 => rfl
  | 7 => rfl
  | 8 => rfl
  | 9 => rfl
  | 10 => rfl
  | 11 => rfl
  | 12 => rfl
  | 13 => rfl
  | 14 => rfl
  | _ + 15 => rfl
theorem st_api_Packet_2 (x : api_Packet) (v : api_Id) : vupd (c_api_Packet x) 2 (e_api_Id v) = c_api_Packet { x with Conf := v } := by
  funext j; match j with
  | 0 => rfl
  | 1 => rfl
  | 2 => rfl
  | 3 => rfl
  | 4 => rfl
  | 5 => rfl
  | 6 => rfl
  | 7 => rfl
  | 8 => rfl
  | 9 => rfl
  | 10 => rfl
  | 11 => rfl
  | 12 => rfl
  | 13 => rfl
  | 14 => rfl
  | _ + 15 => rfl
theorem st_api_Packet_3 (x : api_Packet) (v : (Nat → Int)) : vupd (c_api_Packet x) 3 (e_a8_u32 v) = c_api_Packet { x with Members := v } := by
  funext j; match j with
  | 0 => rfl
  | 1 => rfl
  | 2 => rfl
  | 3 => rfl
  | 4 => rfl
  | 5 => rfl
  | 6 => rfl
  | 7 => rfl
  | 8 => rfl
  | 9 => rfl
  | 10 => rfl
  | 11 => rfl
  | 12 => rfl
  | 13 => rfl
  | 14 => rfl
  | _ + 15 => rfl
theorem st_api_Packet_4 (x : api_Packet) (v : (Nat → Int)) : vupd (c_api_Packet x) 4 (e_a8_u32 v) = c_api_Packet { x with Count := v } := by
  funext j; match j with
  | 0 => rfl
  | 1 => rfl
  | 2 => rfl
  | 3 => rfl
  | 4 => rfl
  | 5 => rfl
  | 6 => rfl
  | 7 => rfl
  | 8 => rfl
  | 9 => rfl
  | 10 => rfl
  | 11 => rfl
  | 12 => rfl
  | 13 => rfl
  | 14 => rfl
  | _ + 15 => rfl
theorem st_api_Packet_5 (x : api_Packet) (v : api_Id) : vupd (c_api_Packet x) 5 (e_api_Id v) = c_api_Packet { x with Promise := v } := by
  funext j; match j with
  | 0 => rfl
  | 1 => rfl
  | 2 => rfl
  | 3 => rfl
  | 4 => rfl
  | 5 => rfl
  | 6 => rfl
  | 7 => rfl
  | 8 => rfl
  | 9 => rfl
  | 10 => rfl
  | 11 => rfl
  | 12 => rfl
  | 13 => rfl
  | 14 => rfl
  | _ + 15 => rfl
theorem st_api_Packet_6 (x : api_Packet) (v : (Nat → Int)) : vupd (c_api_Packet x) 6 (e_a8_u32 v) = c_api_Packet { x with Wanted := v } := by
  funext j; match j with
  | 0 => rfl
  | 1 => rfl
  | 2 => rfl
  | 3 => rfl
  | 4 => rfl
  | 5 => rfl
  | 6 => rfl
  | 7 => rfl
  | 8 => rfl
  | 9 => rfl
  | 10 => rfl
  | 11 => rfl
  | 12 => rfl
  | 13 => rfl
  | 14 => rfl
  | _ + 15 => rfl
theorem st_api_Packet_7 (x : api_Packet) (v : Bool) : vupd (c_api_Packet x) 7 (.bool v) = c_api_Packet { x with Ready := v } := by
  funext j; match j with
  | 0 => rfl
  | 1 => rfl
  | 2 => rfl
  | 3 => rfl
  | 4 => rfl
  | 5 => rfl
  | 6 => rfl
  | 7 => rfl
  | 8 => rfl
  | 9 => rfl
  | 10 => rfl
  | 11 => rfl
  | 12 => rfl
  | 13 => rfl
  | 14 => rfl
  | _ + 15 => rfl
theorem st_api_Packet_8 (x : api_Packet) (v : Int) : vupd (c_api_Packet x) 8 (.int .u32 v) = c_api_Packet { x with Epoch := v } := by
  funext j; match j with
  | 0 => rfl
  | 1 => rfl
  | 2 => rfl
  | 3 => rfl
  | 4 => rfl
  | 5 => rfl
  | 6 => rfl
  | 7 => rfl
  | 8 => rfl
  | 9 => rfl
  | 10 => rfl
  | 11 => rfl
  | 12 => rfl
  | 13 => rfl
  | 14 => rfl
  | _ + 15 => rfl
theorem st_api_Packet_9 (x : api_Packet) (v : Int) : vupd (c_api_Packet x) 9 (.int .u32 v) = c_api_Packet { x with Round := v } := by
  funext j; match j with
  | 0 => rfl
  | 1 => rfl
  | 2 => rfl
  | 3 => rfl
  | 4 => rfl
  | 5 => rfl
  | 6 => rfl
  | 7 => rfl
  | 8 => rfl
  | 9 => rfl
  | 10 => rfl
  | 11 => rfl
  | 12 => rfl
  | 13 => rfl
  | 14 => rfl
  | _ + 15 => rfl
theorem st_api_Packet_10 (x : api_Packet) (v : (Nat → (Nat → api_Entry))) : vupd (c_api_Packet x) 10 (e_a3_a2_api_Entry v) = c_api_Packet { x with Newest := v } := by
  funext j; match j with
  | 0 => rfl
  | 1 => rfl
  | 2 => rfl
  | 3 => rfl
  | 4 => rfl
  | 5 => rfl
  | 6 => rfl
  | 7 => rfl
  | 8 => rfl
  | 9 => rfl
  | 10 => rfl
  | 11 => rfl
  | 12 => rfl
  | 13 => rfl
  | 14 => rfl
  | _ + 15 => rfl
theorem st_api_Packet_11 (x : api_Packet) (v : (Nat → (Nat → api_Entry))) : vupd (c_api_Packet x) 11 (e_a3_a2_api_Entry v) = c_api_Packet { x with Older := v } := by
  funext j; match j with
  | 0 => rfl
  | 1 => rfl
  | 2 => rfl
  | 3 => rfl
  | 4 => rfl
  | 5 => rfl
  | 6 => rfl
  | 7 => rfl
  | 8 => rfl
  | 9 => rfl
  | 10 => rfl
  | 11 => rfl
  | 12 => rfl
  | 13 => rfl
  | 14 => rfl
  | _ + 15 => rfl
theorem st_api_Packet_12 (x : api_Packet) (v : Int) : vupd (c_api_Packet x) 12 (.int .u32 v) = c_api_Packet { x with RelayOf := v } := by
  funext j; match j with
  | 0 => rfl
  | 1 => rfl
  | 2 => rfl
  | 3 => rfl
  | 4 => rfl
  | 5 => rfl
  | 6 => rfl
  | 7 => rfl
  | 8 => rfl
  | 9 => rfl
  | 10 => rfl
  | 11 => rfl
  | 12 => rfl
  | 13 => rfl
  | 14 => rfl
  | _ + 15 => rfl
theorem st_api_Packet_13 (x : api_Packet) (v : Int) : vupd (c_api_Packet x) 13 (.int .u32 v) = c_api_Packet { x with RelayRound := v } := by
  funext j; match j with
  | 0 => rfl
  | 1 => rfl
  | 2 => rfl
  | 3 => rfl
  | 4 => rfl
  | 5 => rfl
  | 6 => rfl
  | 7 => rfl
  | 8 => rfl
  | 9 => rfl
  | 10 => rfl
  | 11 => rfl
  | 12 => rfl
  | 13 => rfl
  | 14 => rfl
  | _ + 15 => rfl
theorem st_api_Packet_14 (x : api_Packet) (v : (Nat → (Nat → api_Entry))) : vupd (c_api_Packet x) 14 (e_a3_a2_api_Entry v) = c_api_Packet { x with Relay := v } := by
  funext j; match j with
  | 0 => rfl
  | 1 => rfl
  | 2 => rfl
  | 3 => rfl
  | 4 => rfl
  | 5 => rfl
  | 6 => rfl
  | 7 => rfl
  | 8 => rfl
  | 9 => rfl
  | 10 => rfl
  | 11 => rfl
  | 12 => rfl
  | 13 => rfl
  | 14 => rfl
  | _ + 15 => rfl
def e_s_i64 (x : _root_.List Int) : V := .sl 1 x.length fun j => (.int .i64 (x.getD j 0))
theorem d_s_i64 (x : _root_.List Int) : (e_s_i64 x).Data := fun _ => trivial
def e_a3_u32 (x : Nat → Int) : V := .agg (.ar 3 1) fun j => (.int .u32 (x j))
theorem d_a3_u32 (x : Nat → Int) : (e_a3_u32 x).Data := fun _ => trivial
theorem f_a3_u32 (x : Nat → Int) : (e_a3_u32 x).Flat := fun _ => trivial
def b_a3_u32 (x y : Nat → Int) : Bool := (List.range 3).all fun j => ((x j) == (y j))
theorem q_a3_u32 (x y : Nat → Int) : eqV (e_a3_u32 x) (e_a3_u32 y) = b_a3_u32 x y := by
  have h : eqV (e_a3_u32 x) (e_a3_u32 y) = ((List.range 3).all fun j => eqV (.int .u32 (x j)) (.int .u32 (y j))) := rfl
  rw [h]; simp only [b_a3_u32, eqV]
theorem al_a3_u32 (x y : Nat → Int) : Akin (e_a3_u32 x) (e_a3_u32 y) := .agg _ _ _ fun j _ => .int _ _ _
def e_s_a8_u32 (x : _root_.List (Nat → Int)) : V := .sl 8 x.length fun j => (e_a8_u32 (x.getD j (fun _ => 0)))
theorem d_s_a8_u32 (x : _root_.List (Nat → Int)) : (e_s_a8_u32 x).Data := fun j => (d_a8_u32 (x.getD j (fun _ => 0)))

noncomputable def congresslaw12_pair (p0 : api_Id) : Option (api_Core) :=
  lt (({ Self := 0, Wait := 0, Own := 1, Beat := z_api_Beat, Conf := z_api_Id, Members := (fun _ => 0), Count := (fun _ => 0), Kept := [], Promise := ({ Epoch := 1, Coord := 0, Inc := 1 } : api_Id), Wanted := (aset (fun _ => 0) [(0, 1), (1, 1)]), Cut := (fun _ => 0), Ready := false, Peers := (fun _ => z_api_Peer), Epoch := 1 } : api_Core) : api_Core) fun v1 =>
  lt ({ v1 with Peers := aupd v1.Peers 1 ({ Inc := 1, Conf := z_api_Id, Promise := p0, Cut := (fun _ => 0), Ready := false } : api_Peer) } : api_Core) fun v2 =>
  some v2

noncomputable def ident_List (p0 : (Nat → Int)) : Option ((_root_.List Int)) :=
  (loop (ω := Fl ((_root_.List Int)) (_root_.List Int)) (fun (x1 : Int × _root_.List Int) =>
    if (decide (x1.1 < 8)) then
      jn (fun x6 : _root_.List Int =>
        some (.next ((IntKind.i64.wrap (x1.1 + 1)), x6))) fun j3 =>
      (ib x1.1 8).bind fun _ =>
      if ((p0 x1.1.toNat) != 0) then
        (fit (x1.2 ++ ([x1.1] : _root_.List Int)).length 8).bind fun _ =>
        j3 ((x1.2 ++ ([x1.1] : _root_.List Int)))
      else
        j3 (x1.2)
    else
      some (.done (.nx (x1.2)))) (0, ([] : _root_.List Int))).bind fun wn2 => Fl.elim wn2 (fun y7 =>
    some y7) (fun r => some r)

noncomputable def ident_Least (p0 : (Nat → Int)) : Option (Int × Bool) :=
  (ident_List p0).bind fun v1 =>
  if ((v1.length : Int) == 0) then
    some (0, false)
  else
    (ib 0 v1.length).bind fun _ =>
    some (v1.getD 0 0, true)

noncomputable def cmp_isNaN_uint32 (p0 : Int) : Option (Bool) :=
  some (p0 != p0)

noncomputable def cmp_Compare_uint32 (p0 : Int) (p1 : Int) : Option (Int) :=
  (cmp_isNaN_uint32 p0).bind fun v1 =>
  (cmp_isNaN_uint32 p1).bind fun v3 =>
  if v1 then
    if v3 then
      some 0
    else
      some (-1)
  else
    if v3 then
      some 1
    else
      if (decide (p0 < p1)) then
        some (-1)
      else
        if (decide (p0 > p1)) then
          some 1
        else
          some 0

noncomputable def cmp_Or_int (p0 : (_root_.List Int)) : Option (Int) :=
  (loop (ω := Fl (Int) (Unit)) (fun (x1 : Int) =>
    if (decide (x1 < (p0.length : Int))) then
      (ib x1 p0.length).bind fun _ =>
      if ((p0.getD x1.toNat 0) != 0) then
        some (.done (.rt (p0.getD x1.toNat 0)))
      else
        some (.next ((IntKind.i64.wrap (x1 + 1))))
    else
      some (.done (.nx ()))) (0)).bind fun wn2 => Fl.elim wn2 (fun y4 =>
    some 0) (fun r => some r)

noncomputable def ident_Compare (p0 : api_Id) (p1 : api_Id) : Option (Int) :=
  (cmp_Compare_uint32 p0.Epoch p1.Epoch).bind fun v1 =>
  (cmp_Compare_uint32 p0.Coord p1.Coord).bind fun v3 =>
  (cmp_Compare_uint32 p0.Inc p1.Inc).bind fun v5 =>
  (cmp_Or_int ([v1, v3, v5] : _root_.List Int)).bind fun v7 =>
  some v7

noncomputable def gather_stands (p0 : api_Core) (p1 : (Nat → Int)) : Option (Bool) :=
  lt (((((IntKind.i64.wrap (p0.Promise.Coord)) != p0.Self) || (p0.Promise.Inc != p0.Own)) || (!(b_a8_u32 p0.Wanted p1))) : Bool) fun v1 =>
  if v1 then
    some false
  else
    (ident_List p1).bind fun v2 =>
    (loop (ω := Fl (Bool) (Unit)) (fun (x4 : Int) =>
      if (decide (x4 < (v2.length : Int))) then
        (ib x4 v2.length).bind fun _ =>
        (ib (v2.getD x4.toNat 0) 8).bind fun _ =>
        (ibg ((v2.getD x4.toNat 0) != p0.Self) (v2.getD x4.toNat 0) 8).bind fun _ =>
        (whn (((v2.getD x4.toNat 0) != p0.Self) && (((p0.Peers ((v2.getD x4.toNat 0).toNat)).Inc) == (p1 ((v2.getD x4.toNat 0).toNat)))) (ident_Compare ((p0.Peers ((v2.getD x4.toNat 0).toNat)).Promise) p0.Promise) 0).bind fun v9 =>
        lt (((((v2.getD x4.toNat 0) != p0.Self) && (((p0.Peers ((v2.getD x4.toNat 0).toNat)).Inc) == (p1 ((v2.getD x4.toNat 0).toNat)))) && (decide (v9 > 0))) : Bool) fun v11 =>
        if v11 then
          some (.done (.rt false))
        else
          some (.next ((IntKind.i64.wrap (x4 + 1))))
      else
        some (.done (.nx ()))) (0)).bind fun wn5 => Fl.elim wn5 (fun y12 =>
      some true) (fun r => some r)

noncomputable def gather_Propose (p0 : api_Core) (p1 : (Nat → Int)) : Option (api_Id × Bool) :=
  (ident_Least p1).bind fun v1 =>
  (whn (!(((!v1.2) || (v1.1 != p0.Self)) || (p0.Epoch == 4294967295))) (gather_stands p0 p1) false).bind fun v3 =>
  if ((((!v1.2) || (v1.1 != p0.Self)) || (p0.Epoch == 4294967295)) || v3) then
    some (({ Epoch := 0, Coord := 0, Inc := 0 } : api_Id), false)
  else
    lt (({ Epoch := (IntKind.u32.wrap (p0.Epoch + 1)), Coord := (IntKind.u32.wrap (p0.Self)), Inc := p0.Own } : api_Id) : api_Id) fun v5 =>
    some (v5, true)

noncomputable def gather_each (p0 : api_Core) (p1 : (api_Peer → Option (Bool))) : Option (Bool) :=
  (ident_List p0.Wanted).bind fun v1 =>
  (loop (ω := Fl (Bool) (Unit)) (fun (x3 : Int) =>
    if (decide (x3 < (v1.length : Int))) then
      (ib x3 v1.length).bind fun _ =>
      (ibg ((v1.getD x3.toNat 0) != p0.Self) (v1.getD x3.toNat 0) 8).bind fun _ =>
      (ibg ((v1.getD x3.toNat 0) != p0.Self) (v1.getD x3.toNat 0) 8).bind fun _ =>
      (ibg (((v1.getD x3.toNat 0) != p0.Self) && (!(((p0.Peers ((v1.getD x3.toNat 0).toNat)).Inc) != (p0.Wanted ((v1.getD x3.toNat 0).toNat))))) (v1.getD x3.toNat 0) 8).bind fun _ =>
      (whn (((v1.getD x3.toNat 0) != p0.Self) && (!(((p0.Peers ((v1.getD x3.toNat 0).toNat)).Inc) != (p0.Wanted ((v1.getD x3.toNat 0).toNat))))) (p1 (p0.Peers ((v1.getD x3.toNat 0).toNat))) false).bind fun v9 =>
      lt ((((v1.getD x3.toNat 0) != p0.Self) && ((((p0.Peers ((v1.getD x3.toNat 0).toNat)).Inc) != (p0.Wanted ((v1.getD x3.toNat 0).toNat))) || (!v9))) : Bool) fun v11 =>
      if v11 then
        some (.done (.rt false))
      else
        some (.next ((IntKind.i64.wrap (x3 + 1))))
    else
      some (.done (.nx ()))) (0)).bind fun wn4 => Fl.elim wn4 (fun y12 =>
    some true) (fun r => some r)

noncomputable def gather_All_1 (p0 : api_Peer) (q0 : api_Core) : Option (Bool) :=
  some (b_api_Id p0.Promise q0.Promise)

noncomputable def gather_All (p0 : api_Core) : Option (Bool) :=
  (gather_each p0 (fun z0 => gather_All_1 z0 p0)).bind fun v1 =>
  some v1

noncomputable def gather_Done_1 (p0 : api_Peer) (q0 : api_Core) : Option (Bool) :=
  lt ((((b_api_Id p0.Promise q0.Promise) && p0.Ready) || (b_api_Id p0.Conf q0.Promise)) : Bool) fun v1 =>
  some v1

noncomputable def gather_Done (p0 : api_Core) : Option (Bool) :=
  (gather_each p0 (fun z0 => gather_Done_1 z0 p0)).bind fun v1 =>
  some v1

noncomputable def congresslaw12_fixed : Option (Bool) :=
  (congresslaw12_pair ({ Epoch := 1, Coord := 0, Inc := 1 } : api_Id)).bind fun v1 =>
  (gather_Propose v1 (aset (fun _ => 0) [(0, 1), (1, 1)])).bind fun v3 =>
  (congresslaw12_pair ({ Epoch := 1, Coord := 1, Inc := 1 } : api_Id)).bind fun v5 =>
  (gather_Propose v5 (aset (fun _ => 0) [(0, 1), (1, 1)])).bind fun v7 =>
  (whn (((!v3.2) && v7.2) && (b_api_Id v7.1 ({ Epoch := 2, Coord := 0, Inc := 1 } : api_Id))) (congresslaw12_pair ({ Epoch := 1, Coord := 0, Inc := 1 } : api_Id)) z_api_Core).bind fun v9 =>
  (whn (((!v3.2) && v7.2) && (b_api_Id v7.1 ({ Epoch := 2, Coord := 0, Inc := 1 } : api_Id))) (gather_All v9) false).bind fun v11 =>
  (whn ((((!v3.2) && v7.2) && (b_api_Id v7.1 ({ Epoch := 2, Coord := 0, Inc := 1 } : api_Id))) && v11) (congresslaw12_pair ({ Epoch := 0, Coord := 0, Inc := 0 } : api_Id)) z_api_Core).bind fun v13 =>
  (whn ((((!v3.2) && v7.2) && (b_api_Id v7.1 ({ Epoch := 2, Coord := 0, Inc := 1 } : api_Id))) && v11) (gather_All v13) false).bind fun v15 =>
  (whn (((((!v3.2) && v7.2) && (b_api_Id v7.1 ({ Epoch := 2, Coord := 0, Inc := 1 } : api_Id))) && v11) && (!v15)) (congresslaw12_pair ({ Epoch := 1, Coord := 0, Inc := 1 } : api_Id)) z_api_Core).bind fun v17 =>
  (whn (((((!v3.2) && v7.2) && (b_api_Id v7.1 ({ Epoch := 2, Coord := 0, Inc := 1 } : api_Id))) && v11) && (!v15)) (gather_Done v17) false).bind fun v19 =>
  lt (((((((!v3.2) && v7.2) && (b_api_Id v7.1 ({ Epoch := 2, Coord := 0, Inc := 1 } : api_Id))) && v11) && (!v15)) && (!v19)) : Bool) fun v21 =>
  some v21

noncomputable def ident_Has (p0 : (Nat → Int)) (p1 : Int) (p2 : Int) : Option (Bool) :=
  (ibg (((decide (p1 ≥ 0)) && (decide (p1 < 8))) && (p2 != 0)) p1 8).bind fun _ =>
  lt (((((decide (p1 ≥ 0)) && (decide (p1 < 8))) && (p2 != 0)) && ((p0 p1.toNat) == p2)) : Bool) fun v2 =>
  some v2

noncomputable def gather_Adopt (p0 : api_Id) (p1 : Int) (p2 : Int) (p3 : api_Packet) : Option (Bool) :=
  (ident_Compare p3.Promise p0).bind fun v1 =>
  (whn (decide (v1 > 0)) (ident_Has p3.Wanted p1 p2) false).bind fun v3 =>
  some ((decide (v1 > 0)) && v3)

noncomputable def congressref07_three (p0 : api_Id) : Option ((Nat → Int)) :=
  some (aset (fun _ => 0) [(0, p0.Epoch), (1, p0.Coord), (2, p0.Inc)])

noncomputable def congressref07_Compare (p0 : api_Id) (p1 : api_Id) : Option (Int) :=
  (congressref07_three p0).bind fun v1 =>
  (congressref07_three p1).bind fun v3 =>
  (loop (ω := Fl (Int) (Unit)) (fun (x5 : Int) =>
    if (decide (x5 < 3)) then
      (ib x5 3).bind fun _ =>
      (ib x5 3).bind fun _ =>
      if (decide ((v1 x5.toNat) < (v3 x5.toNat))) then
        some (.done (.rt (-1)))
      else
        (ib x5 3).bind fun _ =>
        (ib x5 3).bind fun _ =>
        if (decide ((v1 x5.toNat) > (v3 x5.toNat))) then
          some (.done (.rt 1))
        else
          some (.next ((IntKind.i64.wrap (x5 + 1))))
    else
      some (.done (.nx ()))) (0)).bind fun wn6 => Fl.elim wn6 (fun y11 =>
    some 0) (fun r => some r)

noncomputable def congresslaw12_GatherOnce (p0 : api_Core) (p1 : api_Packet) (p2 : (Nat → Int)) : Option (Bool) :=
  (congresslaw12_fixed).bind fun v1 =>
  if (((!v1) || (decide (p0.Self < 0))) || (decide (p0.Self > 7))) then
    (congresslaw12_fixed).bind fun v3 =>
    some v3
  else
    (gather_Adopt p0.Promise p0.Self p0.Own p1).bind fun v5 =>
    (whn v5 (gather_Adopt p1.Promise p0.Self p0.Own p1) false).bind fun v7 =>
    (whn (v5 && (!v7)) (congressref07_Compare p1.Promise p0.Promise) 0).bind fun v9 =>
    if (v5 && (v7 || (v9 != 1))) then
      some false
    else
      (gather_Propose p0 p2).bind fun v11 =>
      if (!v11.2) then
        some (b_api_Id v11.1 ({ Epoch := 0, Coord := 0, Inc := 0 } : api_Id))
      else
        if (decide (p0.Epoch < p0.Promise.Epoch)) then
          some true
        else
          lt ({ { p0 with Epoch := v11.1.Epoch } with Promise := v11.1 } : api_Core) fun v13 =>
          (loop (ω := Fl (Bool) (Unit)) (fun (x14 : Int) =>
            if (decide (x14 < 8)) then
              (ib x14 8).bind fun _ =>
              lt ((decide (((((({ v13 with Wanted := p2 }).Peers) x14.toNat).Promise).Epoch) > p0.Epoch)) : Bool) fun v17 =>
              if v17 then
                some (.done (.rt true))
              else
                some (.next ((IntKind.i64.wrap (x14 + 1))))
            else
              some (.done (.nx ()))) (0)).bind fun wn15 => Fl.elim wn15 (fun y18 =>
            (gather_Propose ({ v13 with Wanted := p2 }) p2).bind fun v19 =>
            (congressref07_Compare v11.1 p0.Promise).bind fun v21 =>
            some ((v21 == 1) && (!v19.2))) (fun r => some r)

noncomputable def cut_Union (p0 : (_root_.List (Nat → Int))) : Option ((Nat → Int)) :=
  (loop (ω := Fl ((Nat → Int)) ((Nat → Int))) (fun (x1 : Int × (Nat → Int)) =>
    if (decide (x1.1 < (p0.length : Int))) then
      (ib x1.1 p0.length).bind fun _ =>
      (loop (ω := Fl ((Nat → Int)) ((Nat → Int))) (fun (x4 : Int × (Nat → Int)) =>
        if (decide (x4.1 < 8)) then
          (ib x4.1 8).bind fun _ =>
          (ib x4.1 8).bind fun _ =>
          (ib x4.1 8).bind fun _ =>
          lt (aupd x4.2 x4.1.toNat (if (x4.2 x4.1.toNat) < ((p0.getD x1.1.toNat (fun _ => 0)) x4.1.toNat) then (p0.getD x1.1.toNat (fun _ => 0)) x4.1.toNat else x4.2 x4.1.toNat) : (Nat → Int)) fun v9 =>
          some (.next ((IntKind.i64.wrap (x4.1 + 1)), v9))
        else
          some (.done (.nx (x4.2)))) (0, x1.2)).bind fun wn5 => Fl.elim wn5 (fun y10 =>
        some (.next ((IntKind.i64.wrap (x1.1 + 1)), y10))) (fun r => some (.done (.rt r)))
    else
      some (.done (.nx (x1.2)))) (0, (fun _ => 0))).bind fun wn2 => Fl.elim wn2 (fun y11 =>
    some y11) (fun r => some r)

noncomputable def gather_Target (p0 : api_Core) : Option ((Nat → Int)) :=
  (ident_List p0.Wanted).bind fun v1 =>
  (loop (ω := Fl ((Nat → Int)) ((Nat → Int))) (fun (x3 : Int × (Nat → Int)) =>
    if (decide (x3.1 < (v1.length : Int))) then
      jn (fun x12 : (Nat → Int) =>
        some (.next ((IntKind.i64.wrap (x3.1 + 1)), x12))) fun j5 =>
      (ib x3.1 v1.length).bind fun _ =>
      (ib (v1.getD x3.1.toNat 0) 8).bind fun _ =>
      (ibg ((v1.getD x3.1.toNat 0) != p0.Self) (v1.getD x3.1.toNat 0) 8).bind fun _ =>
      lt ((((((v1.getD x3.1.toNat 0) != p0.Self) && (((p0.Peers ((v1.getD x3.1.toNat 0).toNat)).Inc) == (p0.Wanted ((v1.getD x3.1.toNat 0).toNat)))) && (b_api_Id ((p0.Peers ((v1.getD x3.1.toNat 0).toNat)).Conf) p0.Conf)) && (b_api_Id ((p0.Peers ((v1.getD x3.1.toNat 0).toNat)).Promise) p0.Promise)) : Bool) fun v9 =>
      if v9 then
        (cut_Union ([x3.2, (p0.Peers ((v1.getD x3.1.toNat 0).toNat)).Cut] : _root_.List (Nat → Int))).bind fun v10 =>
        j5 (v10)
      else
        j5 (x3.2)
    else
      some (.done (.nx (x3.2)))) (0, p0.Cut)).bind fun wn4 => Fl.elim wn4 (fun y13 =>
    some y13) (fun r => some r)

noncomputable def congresslaw12_GatherSame (p0 : api_Core) (p1 : Int) (p2 : (Nat → Int)) : Option (Bool) :=
  (congresslaw12_fixed).bind fun v1 =>
  (ibg (!((((((!v1) || (decide (p0.Self < 0))) || (decide (p0.Self > 7))) || (decide (p1 < 0))) || (decide (p1 > 7))) || (p1 == p0.Self))) p0.Self 8).bind fun _ =>
  (ibg (!(((((((!v1) || (decide (p0.Self < 0))) || (decide (p0.Self > 7))) || (decide (p1 < 0))) || (decide (p1 > 7))) || (p1 == p0.Self)) || ((p0.Wanted p0.Self.toNat) == 0))) p1 8).bind fun _ =>
  lt (((((((((!v1) || (decide (p0.Self < 0))) || (decide (p0.Self > 7))) || (decide (p1 < 0))) || (decide (p1 > 7))) || (p1 == p0.Self)) || ((p0.Wanted p0.Self.toNat) == 0)) || ((p0.Wanted p1.toNat) == 0)) : Bool) fun v5 =>
  if v5 then
    (congresslaw12_fixed).bind fun v6 =>
    some v6
  else
    (ib p0.Self 8).bind fun _ =>
    lt (({ Inc := p0.Wanted p0.Self.toNat, Conf := p0.Conf, Promise := p0.Promise, Cut := p0.Cut, Ready := false } : api_Peer) : api_Peer) fun v9 =>
    (ib p1 8).bind fun _ =>
    lt (({ Inc := p0.Wanted p1.toNat, Conf := p0.Conf, Promise := p0.Promise, Cut := p2, Ready := false } : api_Peer) : api_Peer) fun v11 =>
    (ib p1 8).bind fun _ =>
    lt ({ { p0 with Self := p1 } with Cut := p2 } : api_Core) fun v13 =>
    (ib p0.Self 8).bind fun _ =>
    (gather_Target ({ p0 with Peers := aupd p0.Peers p1.toNat v11 })).bind fun v15 =>
    (gather_Target ({ v13 with Peers := aupd v13.Peers p0.Self.toNat v9 })).bind fun v17 =>
    (loop (ω := Fl (Bool) (Unit)) (fun (x19 : Int) =>
      if (decide (x19 < 8)) then
        (ib x19 8).bind fun _ =>
        (ib x19 8).bind fun _ =>
        (ibg (!(decide ((v15 x19.toNat) < (p0.Cut x19.toNat)))) x19 8).bind fun _ =>
        (ibg (!(decide ((v15 x19.toNat) < (p0.Cut x19.toNat)))) x19 8).bind fun _ =>
        lt (((decide ((v15 x19.toNat) < (p0.Cut x19.toNat))) || (decide ((v15 x19.toNat) < (p2 x19.toNat)))) : Bool) fun v25 =>
        if v25 then
          some (.done (.rt false))
        else
          some (.next ((IntKind.i64.wrap (x19 + 1))))
      else
        some (.done (.nx ()))) (0)).bind fun wn20 => Fl.elim wn20 (fun y26 =>
      some (b_a8_u32 v15 v17)) (fun r => some r)

noncomputable def gather_Update (p0 : api_Peer) (p1 : api_Packet) : Option (api_Peer) :=
  lt (({ Inc := p1.Inc, Conf := p1.Conf, Promise := p1.Promise, Cut := p1.Count, Ready := p1.Ready } : api_Peer) : api_Peer) fun v1 =>
  (ident_Compare p1.Promise p0.Promise).bind fun v2 =>
  if (decide (p1.Inc < p0.Inc)) then
    some p0
  else
    if ((decide (p1.Inc > p0.Inc)) || (decide (v2 > 0))) then
      some v1
    else
      if (decide (v2 < 0)) then
        some p0
      else
        (ident_Compare p1.Conf p0.Conf).bind fun v4 =>
        jn (fun x9 : api_Peer =>
          some ({ x9 with Ready := (x9.Ready || p1.Ready) })) fun j6 =>
        if (v4 == 1) then
          j6 ({ { p0 with Conf := p1.Conf } with Cut := p1.Count })
        else
          if (v4 == 0) then
            (cut_Union ([p0.Cut, p1.Count] : _root_.List (Nat → Int))).bind fun v7 =>
            j6 ({ p0 with Cut := v7 })
          else
            j6 (p0)

noncomputable def congresslaw12_GatherOrder (p0 : api_Peer) (p1 : api_Packet) (p2 : api_Packet) : Option (Bool) :=
  (gather_Update p0 p1).bind fun v1 =>
  (congresslaw12_fixed).bind fun v3 =>
  (whn (!(!v3)) (gather_Update v1 p1) z_api_Peer).bind fun v5 =>
  if ((!v3) || (!(b_api_Peer v5 v1))) then
    some false
  else
    (gather_Update v1 p2).bind fun v7 =>
    (gather_Update v7 p1).bind fun v9 =>
    (gather_Update v1 p2).bind fun v11 =>
    some (b_api_Peer v9 v11)

noncomputable def congresslaw12_GatherRises (p0 : api_Peer) (p1 : api_Packet) : Option (Bool) :=
  (gather_Update p0 p1).bind fun v1 =>
  (congresslaw12_fixed).bind fun v3 =>
  if ((!v3) || (decide (v1.Inc < p0.Inc))) then
    some false
  else
    if (decide (v1.Inc > p0.Inc)) then
      some (v1.Inc == p1.Inc)
    else
      (congressref07_Compare v1.Promise p0.Promise).bind fun v5 =>
      if (v5 != 0) then
        (congressref07_Compare v1.Promise p0.Promise).bind fun v7 =>
        some (v7 == 1)
      else
        (congressref07_Compare v1.Conf p0.Conf).bind fun v9 =>
        if (v9 != 0) then
          (congressref07_Compare v1.Conf p0.Conf).bind fun v11 =>
          some ((v11 == 1) && (v1.Ready || (!p0.Ready)))
        else
          (loop (ω := Fl (Bool) (Unit)) (fun (x13 : Int) =>
            if (decide (x13 < 8)) then
              (ib x13 8).bind fun _ =>
              (ib x13 8).bind fun _ =>
              if (decide ((v1.Cut x13.toNat) < (p0.Cut x13.toNat))) then
                some (.done (.rt false))
              else
                some (.next ((IntKind.i64.wrap (x13 + 1))))
            else
              some (.done (.nx ()))) (0)).bind fun wn14 => Fl.elim wn14 (fun y17 =>
            some (v1.Ready || (!p0.Ready))) (fun r => some r)

noncomputable def congressref07_List (p0 : (Nat → Int)) : Option ((_root_.List Int)) :=
  (loop (ω := Fl ((_root_.List Int)) (_root_.List Int)) (fun (x1 : Int × _root_.List Int) =>
    if (decide (x1.1 < 8)) then
      jn (fun x6 : _root_.List Int =>
        some (.next ((IntKind.i64.wrap (x1.1 + 1)), x6))) fun j3 =>
      (ib x1.1 8).bind fun _ =>
      if (decide ((p0 x1.1.toNat) > 0)) then
        (fit (x1.2 ++ ([x1.1] : _root_.List Int)).length 8).bind fun _ =>
        j3 ((x1.2 ++ ([x1.1] : _root_.List Int)))
      else
        j3 (x1.2)
    else
      some (.done (.nx (x1.2)))) (0, ([] : _root_.List Int))).bind fun wn2 => Fl.elim wn2 (fun y7 =>
    some y7) (fun r => some r)

noncomputable def congressref12_Propose (p0 : api_Core) (p1 : (Nat → Int)) : Option (api_Id × Bool) :=
  (congressref07_List p1).bind fun v1 =>
  (ibg (!((v1.length : Int) == 0)) 0 v1.length).bind fun _ =>
  lt (((((v1.length : Int) == 0) || ((v1.getD 0 0) != p0.Self)) || ((IntKind.u32.wrap (p0.Epoch + 1)) == 0)) : Bool) fun v4 =>
  if v4 then
    some (({ Epoch := 0, Coord := 0, Inc := 0 } : api_Id), false)
  else
    lt ((((p0.Promise.Coord == (IntKind.u32.wrap (p0.Self))) && (p0.Promise.Inc == p0.Own)) && (b_a8_u32 p0.Wanted p1)) : Bool) fun v5 =>
    (loop (ω := Fl (api_Id × Bool) (Bool)) (fun (x6 : Bool × Int) =>
      if (decide (x6.2 < (v1.length : Int))) then
        jn (fun x16 : Bool =>
          some (.next (x16, (IntKind.i64.wrap (x6.2 + 1))))) fun j8 =>
        (ib x6.2 v1.length).bind fun _ =>
        (ib (v1.getD x6.2.toNat 0) 8).bind fun _ =>
        (ib x6.2 v1.length).bind fun _ =>
        (ib (v1.getD x6.2.toNat 0) 8).bind fun _ =>
        (whn (((p0.Peers ((v1.getD x6.2.toNat 0).toNat)).Inc) == (p1 ((v1.getD x6.2.toNat 0).toNat))) (congressref07_Compare ((p0.Peers ((v1.getD x6.2.toNat 0).toNat)).Promise) p0.Promise) 0).bind fun v13 =>
        lt (((((p0.Peers ((v1.getD x6.2.toNat 0).toNat)).Inc) == (p1 ((v1.getD x6.2.toNat 0).toNat))) && (v13 == 1)) : Bool) fun v15 =>
        if v15 then
          j8 (false)
        else
          j8 (x6.1)
      else
        some (.done (.nx (x6.1)))) (v5, 1)).bind fun wn7 => Fl.elim wn7 (fun y17 =>
      if y17 then
        some (({ Epoch := 0, Coord := 0, Inc := 0 } : api_Id), false)
      else
        lt (({ Epoch := (IntKind.u32.wrap (p0.Epoch + 1)), Coord := (IntKind.u32.wrap (p0.Self)), Inc := p0.Own } : api_Id) : api_Id) fun v18 =>
        some (v18, true)) (fun r => some r)

noncomputable def congressref12_Adopt (p0 : api_Id) (p1 : Int) (p2 : Int) (p3 : api_Packet) : Option (Bool) :=
  if (((decide (p1 < 0)) || (decide (p1 > 7))) || (p2 == 0)) then
    some false
  else
    (congressref07_Compare p3.Promise p0).bind fun v1 =>
    (ibg (v1 == 1) p1 8).bind fun _ =>
    some ((v1 == 1) && ((p3.Wanted p1.toNat) == p2))

noncomputable def congressref11_Union (p0 : (_root_.List (Nat → Int))) : Option ((Nat → Int)) :=
  (loop (ω := Fl ((Nat → Int)) ((Nat → Int))) (fun (x1 : Int × (Nat → Int)) =>
    if (decide (x1.1 < (p0.length : Int))) then
      (loop (ω := Fl ((Nat → Int)) ((Nat → Int))) (fun (x3 : Int × (Nat → Int)) =>
        if (decide (x3.1 < 8)) then
          jn (fun x13 : (Nat → Int) =>
            some (.next ((IntKind.i64.wrap (x3.1 + 1)), x13))) fun j5 =>
          (ib x1.1 p0.length).bind fun _ =>
          (ib x3.1 8).bind fun _ =>
          (ib x3.1 8).bind fun _ =>
          lt ((decide (((p0.getD x1.1.toNat (fun _ => 0)) x3.1.toNat) > (x3.2 x3.1.toNat))) : Bool) fun v9 =>
          if v9 then
            (ib x1.1 p0.length).bind fun _ =>
            (ib x3.1 8).bind fun _ =>
            (ib x3.1 8).bind fun _ =>
            j5 (aupd x3.2 x3.1.toNat ((p0.getD x1.1.toNat (fun _ => 0)) x3.1.toNat))
          else
            j5 (x3.2)
        else
          some (.done (.nx (x3.2)))) (0, x1.2)).bind fun wn4 => Fl.elim wn4 (fun y14 =>
        some (.next ((IntKind.i64.wrap (x1.1 + 1)), y14))) (fun r => some (.done (.rt r)))
    else
      some (.done (.nx (x1.2)))) (0, (aset (fun _ => 0) []))).bind fun wn2 => Fl.elim wn2 (fun y15 =>
    some y15) (fun r => some r)

noncomputable def congressref12_Update (p0 : api_Peer) (p1 : api_Packet) : Option (api_Peer) :=
  if (decide (p1.Inc < p0.Inc)) then
    some p0
  else
    (congressref07_Compare p1.Promise p0.Promise).bind fun v1 =>
    if ((decide (p1.Inc > p0.Inc)) || (v1 == 1)) then
      lt (({ Inc := p1.Inc, Conf := p1.Conf, Promise := p1.Promise, Cut := p1.Count, Ready := p1.Ready } : api_Peer) : api_Peer) fun v3 =>
      some v3
    else
      if (v1 == (-1)) then
        some p0
      else
        (congressref07_Compare p1.Conf p0.Conf).bind fun v4 =>
        jn (fun x9 : api_Peer =>
          jn (fun x11 : api_Peer =>
            jn (fun x13 : api_Peer =>
              some x13) fun j12 =>
            if p1.Ready then
              j12 ({ x11 with Ready := true })
            else
              j12 (x11)) fun j10 =>
          if (v4 == 1) then
            j10 ({ { x9 with Conf := p1.Conf } with Cut := p1.Count })
          else
            j10 (x9)) fun j6 =>
        if (v4 == 0) then
          (congressref11_Union ([p0.Cut, p1.Count] : _root_.List (Nat → Int))).bind fun v7 =>
          j6 ({ p0 with Cut := v7 })
        else
          j6 (p0)

noncomputable def congressref12_others (p0 : api_Core) : Option ((_root_.List Int)) :=
  (congressref07_List p0.Wanted).bind fun v1 =>
  (loop (ω := Fl ((_root_.List Int)) (_root_.List Int)) (fun (x3 : Int × _root_.List Int) =>
    if (decide (x3.1 < (v1.length : Int))) then
      jn (fun x9 : _root_.List Int =>
        some (.next ((IntKind.i64.wrap (x3.1 + 1)), x9))) fun j5 =>
      (ib x3.1 v1.length).bind fun _ =>
      if ((v1.getD x3.1.toNat 0) != p0.Self) then
        (ib x3.1 v1.length).bind fun _ =>
        (fit (x3.2 ++ ([v1.getD x3.1.toNat 0] : _root_.List Int)).length 8).bind fun _ =>
        j5 ((x3.2 ++ ([v1.getD x3.1.toNat 0] : _root_.List Int)))
      else
        j5 (x3.2)
    else
      some (.done (.nx (x3.2)))) (0, ([] : _root_.List Int))).bind fun wn4 => Fl.elim wn4 (fun y10 =>
    some y10) (fun r => some r)

noncomputable def congressref12_All (p0 : api_Core) : Option (Bool) :=
  (congressref12_others p0).bind fun v1 =>
  (loop (ω := Fl (Bool) (Unit)) (fun (x3 : Int) =>
    if (decide (x3 < (v1.length : Int))) then
      (ib x3 v1.length).bind fun _ =>
      (ib (v1.getD x3.toNat 0) 8).bind fun _ =>
      (ib x3 v1.length).bind fun _ =>
      (ib (v1.getD x3.toNat 0) 8).bind fun _ =>
      lt (((((p0.Peers ((v1.getD x3.toNat 0).toNat)).Inc) != (p0.Wanted ((v1.getD x3.toNat 0).toNat))) || (!(b_api_Id ((p0.Peers ((v1.getD x3.toNat 0).toNat)).Promise) p0.Promise))) : Bool) fun v9 =>
      if v9 then
        some (.done (.rt false))
      else
        some (.next ((IntKind.i64.wrap (x3 + 1))))
    else
      some (.done (.nx ()))) (0)).bind fun wn4 => Fl.elim wn4 (fun y10 =>
    some true) (fun r => some r)

noncomputable def congressref12_Target (p0 : api_Core) : Option ((Nat → Int)) :=
  (congressref12_others p0).bind fun v1 =>
  (loop (ω := Fl ((Nat → Int)) (_root_.List (Nat → Int))) (fun (x3 : Int × _root_.List (Nat → Int)) =>
    if (decide (x3.1 < (v1.length : Int))) then
      jn (fun x12 : _root_.List (Nat → Int) =>
        some (.next ((IntKind.i64.wrap (x3.1 + 1)), x12))) fun j5 =>
      (ib x3.1 v1.length).bind fun _ =>
      (ib (v1.getD x3.1.toNat 0) 8).bind fun _ =>
      (ib x3.1 v1.length).bind fun _ =>
      (ib (v1.getD x3.1.toNat 0) 8).bind fun _ =>
      lt ((((((p0.Peers ((v1.getD x3.1.toNat 0).toNat)).Inc) == (p0.Wanted ((v1.getD x3.1.toNat 0).toNat))) && (b_api_Id ((p0.Peers ((v1.getD x3.1.toNat 0).toNat)).Promise) p0.Promise)) && (b_api_Id ((p0.Peers ((v1.getD x3.1.toNat 0).toNat)).Conf) p0.Conf)) : Bool) fun v10 =>
      if v10 then
        (fit (x3.2 ++ ([(p0.Peers ((v1.getD x3.1.toNat 0).toNat)).Cut] : _root_.List (Nat → Int))).length 32).bind fun _ =>
        j5 ((x3.2 ++ ([(p0.Peers ((v1.getD x3.1.toNat 0).toNat)).Cut] : _root_.List (Nat → Int))))
      else
        j5 (x3.2)
    else
      some (.done (.nx (x3.2)))) (0, ([p0.Cut] : _root_.List (Nat → Int)))).bind fun wn4 => Fl.elim wn4 (fun y13 =>
    (congressref11_Union y13).bind fun v14 =>
    some v14) (fun r => some r)

noncomputable def congressref12_Done (p0 : api_Core) : Option (Bool) :=
  (congressref12_others p0).bind fun v1 =>
  (loop (ω := Fl (Bool) (Unit)) (fun (x3 : Int) =>
    if (decide (x3 < (v1.length : Int))) then
      (ib x3 v1.length).bind fun _ =>
      (ib (v1.getD x3.toNat 0) 8).bind fun _ =>
      (ib x3 v1.length).bind fun _ =>
      (ib (v1.getD x3.toNat 0) 8).bind fun _ =>
      lt ((((p0.Peers ((v1.getD x3.toNat 0).toNat)).Inc) != (p0.Wanted ((v1.getD x3.toNat 0).toNat))) : Bool) fun v9 =>
      if v9 then
        some (.done (.rt false))
      else
        lt (((!(b_api_Id ((p0.Peers ((v1.getD x3.toNat 0).toNat)).Conf) p0.Promise)) && ((!(b_api_Id ((p0.Peers ((v1.getD x3.toNat 0).toNat)).Promise) p0.Promise)) || (!((p0.Peers ((v1.getD x3.toNat 0).toNat)).Ready)))) : Bool) fun v10 =>
        if v10 then
          some (.done (.rt false))
        else
          some (.next ((IntKind.i64.wrap (x3 + 1))))
    else
      some (.done (.nx ()))) (0)).bind fun wn4 => Fl.elim wn4 (fun y11 =>
    some true) (fun r => some r)

noncomputable def congresslaw12_GatherTells (p0 : api_Core) (p1 : api_Packet) (p2 : (Nat → Int)) : Option (Bool) :=
  if ((decide (p0.Self < 0)) || (decide (p0.Self > 7))) then
    (congresslaw12_fixed).bind fun v1 =>
    some v1
  else
    (ib p0.Self 8).bind fun _ =>
    (gather_Propose p0 p2).bind fun v4 =>
    (congressref12_Propose p0 p2).bind fun v6 =>
    (gather_Adopt p0.Promise p0.Self p0.Own p1).bind fun v8 =>
    (congressref12_Adopt p0.Promise p0.Self p0.Own p1).bind fun v10 =>
    (congresslaw12_fixed).bind fun v12 =>
    (whn v12 (gather_Update (p0.Peers p0.Self.toNat) p1) z_api_Peer).bind fun v14 =>
    (whn v12 (congressref12_Update (p0.Peers p0.Self.toNat) p1) z_api_Peer).bind fun v16 =>
    (whn ((((v12 && (b_api_Peer v14 v16)) && (v8 == v10)) && (b_api_Id v4.1 v6.1)) && (v4.2 == v6.2)) (gather_All p0) false).bind fun v18 =>
    (whn ((((v12 && (b_api_Peer v14 v16)) && (v8 == v10)) && (b_api_Id v4.1 v6.1)) && (v4.2 == v6.2)) (congressref12_All p0) false).bind fun v20 =>
    (whn (((((v12 && (b_api_Peer v14 v16)) && (v8 == v10)) && (b_api_Id v4.1 v6.1)) && (v4.2 == v6.2)) && (v18 == v20)) (gather_Target p0) (fun _ => 0)).bind fun v22 =>
    (whn (((((v12 && (b_api_Peer v14 v16)) && (v8 == v10)) && (b_api_Id v4.1 v6.1)) && (v4.2 == v6.2)) && (v18 == v20)) (congressref12_Target p0) (fun _ => 0)).bind fun v24 =>
    (whn ((((((v12 && (b_api_Peer v14 v16)) && (v8 == v10)) && (b_api_Id v4.1 v6.1)) && (v4.2 == v6.2)) && (v18 == v20)) && (b_a8_u32 v22 v24)) (gather_Done p0) false).bind fun v26 =>
    (whn ((((((v12 && (b_api_Peer v14 v16)) && (v8 == v10)) && (b_api_Id v4.1 v6.1)) && (v4.2 == v6.2)) && (v18 == v20)) && (b_a8_u32 v22 v24)) (congressref12_Done p0) false).bind fun v28 =>
    lt ((((((((v12 && (b_api_Peer v14 v16)) && (v8 == v10)) && (b_api_Id v4.1 v6.1)) && (v4.2 == v6.2)) && (v18 == v20)) && (b_a8_u32 v22 v24)) && (v26 == v28)) : Bool) fun v30 =>
    some v30
end Go.Proofs.Yteajgbkgijaebaa
