/- Printed by gen.py. Conditions: none. -/
import Derived.Test.YtclblogdciebnaaEngZ
import Derived.Test.YtclblogdciebnaaProg
import Derived.KernelRfl
set_option linter.unusedVariables false
set_option maxRecDepth 100000
namespace Go.Proofs.Ytclblogdciebnaa
open Go.Eng
structure api_Place where
  Round : Int
  From : Int
  Slot : Int
def z_api_Place : api_Place := { Round := 0, From := 0, Slot := 0 }
def c_api_Place (x : api_Place) : Nat → V
  | 0 => (.int .u32 x.Round)
  | 1 => (.int .i64 x.From)
  | 2 => (.int .i64 x.Slot)
  | _ => .bool false
def e_api_Place (x : api_Place) : V := .agg (.st [1, 1, 1]) (c_api_Place x)
theorem d_api_Place (x : api_Place) : (e_api_Place x).Data := fun j => match j with
  | 0 => trivial
  | 1 => trivial
  | 2 => trivial
  | _ + 3 => trivial
theorem f_api_Place (x : api_Place) : (e_api_Place x).Flat := fun j => match j with
  | 0 => trivial
  | 1 => trivial
  | 2 => trivial
  | _ + 3 => trivial
def b_api_Place (x y : api_Place) : Bool := (x.Round == y.Round) && ((x.From == y.From) && ((x.Slot == y.Slot)))
theorem q_api_Place (x y : api_Place) : eqV (e_api_Place x) (e_api_Place y) = b_api_Place x y := by
  have h : eqV (e_api_Place x) (e_api_Place y) = ((List.range 3).all fun j => eqV (c_api_Place x j) (c_api_Place y j)) := rfl
  have hr : List.range 3 = [0, 1, 2] := rfl
  rw [h, hr]
  simp only [List.all_cons, List.all_nil, Bool.and_true, c_api_Place, b_api_Place, eqV]
theorem al_api_Place (x y : api_Place) : Akin (e_api_Place x) (e_api_Place y) := .agg _ _ _ fun j h => match j, h with
  | 0, _ => .int _ _ _
  | 1, _ => .int _ _ _
  | 2, _ => .int _ _ _
  | n + 3, h => absurd (show n + 3 < 3 from h) (by omega)
theorem st_api_Place_0 (x : api_Place) (v : Int) : vupd (c_api_Place x) 0 (.int .u32 v) = c_api_Place { x with Round := v } := by
  funext j; match j with
  | 0 => rfl
  | 1 => rfl
  | 2 => rfl
  | _ + 3 => rfl
theorem st_api_Place_1 (x : api_Place) (v : Int) : vupd (c_api_Place x) 1 (.int .i64 v) = c_api_Place { x with From := v } := by
  funext j; match j with
  | 0 => rfl
  | 1 => rfl
  | 2 => rfl
  | _ + 3 => rfl
theorem st_api_Place_2 (x : api_Place) (v : Int) : vupd (c_api_Place x) 2 (.int .i64 v) = c_api_Place { x with Slot := v } := by
  funext j; match j with
  | 0 => rfl
  | 1 => rfl
  | 2 => rfl
  | _ + 3 => rfl
structure api_Entry where
  Kind : Int
  Service : Int
  Group : Int
  Session : Int
  Number : Int
  Text : ByteArray
def z_api_Entry : api_Entry := { Kind := 0, Service := 0, Group := 0, Session := 0, Number := 0, Text := ByteArray.empty }
def c_api_Entry (x : api_Entry) : Nat → V
  | 0 => (.int .i64 x.Kind)
  | 1 => (.int .i64 x.Service)
  | 2 => (.int .i64 x.Group)
  | 3 => (.int .u64 x.Session)
  | 4 => (.int .u64 x.Number)
  | 5 => (.str x.Text)
  | _ => .bool false
def e_api_Entry (x : api_Entry) : V := .agg (.st [1, 1, 1, 1, 1, 1]) (c_api_Entry x)
theorem d_api_Entry (x : api_Entry) : (e_api_Entry x).Data := fun j => match j with
  | 0 => trivial
  | 1 => trivial
  | 2 => trivial
  | 3 => trivial
  | 4 => trivial
  | 5 => trivial
  | _ + 6 => trivial
theorem f_api_Entry (x : api_Entry) : (e_api_Entry x).Flat := fun j => match j with
  | 0 => trivial
  | 1 => trivial
  | 2 => trivial
  | 3 => trivial
  | 4 => trivial
  | 5 => trivial
  | _ + 6 => trivial
def b_api_Entry (x y : api_Entry) : Bool := (x.Kind == y.Kind) && ((x.Service == y.Service) && ((x.Group == y.Group) && ((x.Session == y.Session) && ((x.Number == y.Number) && ((x.Text == y.Text))))))
theorem q_api_Entry (x y : api_Entry) : eqV (e_api_Entry x) (e_api_Entry y) = b_api_Entry x y := by
  have h : eqV (e_api_Entry x) (e_api_Entry y) = ((List.range 6).all fun j => eqV (c_api_Entry x j) (c_api_Entry y j)) := rfl
  have hr : List.range 6 = [0, 1, 2, 3, 4, 5] := rfl
  rw [h, hr]
  simp only [List.all_cons, List.all_nil, Bool.and_true, c_api_Entry, b_api_Entry, eqV]
theorem al_api_Entry (x y : api_Entry) : Akin (e_api_Entry x) (e_api_Entry y) := .agg _ _ _ fun j h => match j, h with
  | 0, _ => .int _ _ _
  | 1, _ => .int _ _ _
  | 2, _ => .int _ _ _
  | 3, _ => .int _ _ _
  | 4, _ => .int _ _ _
  | 5, _ => .str _ _
  | n + 6, h => absurd (show n + 6 < 6 from h) (by omega)
theorem st_api_Entry_0 (x : api_Entry) (v : Int) : vupd (c_api_Entry x) 0 (.int .i64 v) = c_api_Entry { x with Kind := v } := by
  funext j; match j with
  | 0 => rfl
  | 1 => rfl
  | 2 => rfl
  | 3 => rfl
  | 4 => rfl
  | 5 => rfl
  | _ + 6 => rfl
theorem st_api_Entry_1 (x : api_Entry) (v : Int) : vupd (c_api_Entry x) 1 (.int .i64 v) = c_api_Entry { x with Service := v } := by
  funext j; match j with
  | 0 => rfl
  | 1 => rfl
  | 2 => rfl
  | 3 => rfl
  | 4 => rfl
  | 5 => rfl
  | _ + 6 => rfl
theorem st_api_Entry_2 (x : api_Entry) (v : Int) : vupd (c_api_Entry x) 2 (.int .i64 v) = c_api_Entry { x with Group := v } := by
  funext j; match j with
  | 0 => rfl
  | 1 => rfl
  | 2 => rfl
  | 3 => rfl
  | 4 => rfl
  | 5 => rfl
  | _ + 6 => rfl
theorem st_api_Entry_3 (x : api_Entry) (v : Int) : vupd (c_api_Entry x) 3 (.int .u64 v) = c_api_Entry { x with Session := v } := by
  funext j; match j with
  | 0 => rfl
  | 1 => rfl
  | 2 => rfl
  | 3 => rfl
  | 4 => rfl
  | 5 => rfl
  | _ + 6 => rfl
theorem st_api_Entry_4 (x : api_Entry) (v : Int) : vupd (c_api_Entry x) 4 (.int .u64 v) = c_api_Entry { x with Number := v } := by
  funext j; match j with
  | 0 => rfl
  | 1 => rfl
  | 2 => rfl
  | 3 => rfl
  | 4 => rfl
  | 5 => rfl
  | _ + 6 => rfl
theorem st_api_Entry_5 (x : api_Entry) (v : ByteArray) : vupd (c_api_Entry x) 5 (.str v) = c_api_Entry { x with Text := v } := by
  funext j; match j with
  | 0 => rfl
  | 1 => rfl
  | 2 => rfl
  | 3 => rfl
  | 4 => rfl
  | 5 => rfl
  | _ + 6 => rfl
structure api_Wait where
  Place : api_Place
  Entry : api_Entry
def z_api_Wait : api_Wait := { Place := z_api_Place, Entry := z_api_Entry }
def c_api_Wait (x : api_Wait) : Nat → V
  | 0 => (e_api_Place x.Place)
  | 1 => (e_api_Entry x.Entry)
  | _ => .bool false
def e_api_Wait (x : api_Wait) : V := .agg (.st [3, 6]) (c_api_Wait x)
theorem d_api_Wait (x : api_Wait) : (e_api_Wait x).Data := fun j => match j with
  | 0 => (d_api_Place x.Place)
  | 1 => (d_api_Entry x.Entry)
  | _ + 2 => trivial
theorem f_api_Wait (x : api_Wait) : (e_api_Wait x).Flat := fun j => match j with
  | 0 => (f_api_Place x.Place)
  | 1 => (f_api_Entry x.Entry)
  | _ + 2 => trivial
def b_api_Wait (x y : api_Wait) : Bool := (b_api_Place x.Place y.Place) && ((b_api_Entry x.Entry y.Entry))
theorem q_api_Wait (x y : api_Wait) : eqV (e_api_Wait x) (e_api_Wait y) = b_api_Wait x y := by
  have h : eqV (e_api_Wait x) (e_api_Wait y) = ((List.range 2).all fun j => eqV (c_api_Wait x j) (c_api_Wait y j)) := rfl
  have hr : List.range 2 = [0, 1] := rfl
  rw [h, hr]
  simp only [List.all_cons, List.all_nil, Bool.and_true, c_api_Wait, b_api_Wait, q_api_Place, q_api_Entry]
theorem al_api_Wait (x y : api_Wait) : Akin (e_api_Wait x) (e_api_Wait y) := .agg _ _ _ fun j h => match j, h with
  | 0, _ => al_api_Place _ _
  | 1, _ => al_api_Entry _ _
  | n + 2, h => absurd (show n + 2 < 2 from h) (by omega)
theorem st_api_Wait_0 (x : api_Wait) (v : api_Place) : vupd (c_api_Wait x) 0 (e_api_Place v) = c_api_Wait { x with Place := v } := by
  funext j; match j with
  | 0 => rfl
  | 1 => rfl
  | _ + 2 => rfl
theorem st_api_Wait_1 (x : api_Wait) (v : api_Entry) : vupd (c_api_Wait x) 1 (e_api_Entry v) = c_api_Wait { x with Entry := v } := by
  funext j; match j with
  | 0 => rfl
  | 1 => rfl
  | _ + 2 => rfl
def e_s_api_Entry (x : _root_.List api_Entry) : V := .sl 6 x.length fun j => (e_api_Entry (x.getD j z_api_Entry))
theorem d_s_api_Entry (x : _root_.List api_Entry) : (e_s_api_Entry x).Data := fun j => (d_api_Entry (x.getD j z_api_Entry))
structure congresslaw22_Frame where
  From : Int
  Round : Int
  L : (_root_.List api_Entry)
def z_congresslaw22_Frame : congresslaw22_Frame := { From := 0, Round := 0, L := [] }
def c_congresslaw22_Frame (x : congresslaw22_Frame) : Nat → V
  | 0 => (.int .i64 x.From)
  | 1 => (.int .u32 x.Round)
  | 2 => (e_s_api_Entry x.L)
  | _ => .bool false
def e_congresslaw22_Frame (x : congresslaw22_Frame) : V := .agg (.st [1, 1, 1]) (c_congresslaw22_Frame x)
theorem d_congresslaw22_Frame (x : congresslaw22_Frame) : (e_congresslaw22_Frame x).Data := fun j => match j with
  | 0 => trivial
  | 1 => trivial
  | 2 => (d_s_api_Entry x.L)
  | _ + 3 => trivial
theorem st_congresslaw22_Frame_0 (x : congresslaw22_Frame) (v : Int) : vupd (c_congresslaw22_Frame x) 0 (.int .i64 v) = c_congresslaw22_Frame { x with From := v } := by
  funext j; match j with
  | 0 => rfl
  | 1 => rfl
  | 2 => rfl
  | _ + 3 => rfl
theorem st_congresslaw22_Frame_1 (x : congresslaw22_Frame) (v : Int) : vupd (c_congresslaw22_Frame x) 1 (.int .u32 v) = c_congresslaw22_Frame { x with Round := v } := by
  funext j; match j with
  | 0 => rfl
  | 1 => rfl
  | 2 => rfl
  | _ + 3 => rfl
theorem st_congresslaw22_Frame_2 (x : congresslaw22_Frame) (v : (_root_.List api_Entry)) : vupd (c_congresslaw22_Frame x) 2 (e_s_api_Entry v) = c_congresslaw22_Frame { x with L := v } := by
  funext j; match j with
  | 0 => rfl
  | 1 => rfl
  | 2 => rfl
  | _ + 3 => rfl
def e_a8_u32 (x : Nat → Int) : V := .agg (.ar 8 1) fun j => (.int .u32 (x j))
theorem d_a8_u32 (x : Nat → Int) : (e_a8_u32 x).Data := fun _ => trivial
theorem f_a8_u32 (x : Nat → Int) : (e_a8_u32 x).Flat := fun _ => trivial
def b_a8_u32 (x y : Nat → Int) : Bool := (List.range 8).all fun j => ((x j) == (y j))
theorem q_a8_u32 (x y : Nat → Int) : eqV (e_a8_u32 x) (e_a8_u32 y) = b_a8_u32 x y := by
  have h : eqV (e_a8_u32 x) (e_a8_u32 y) = ((List.range 8).all fun j => eqV (.int .u32 (x j)) (.int .u32 (y j))) := rfl
  rw [h]; simp only [b_a8_u32, eqV]
theorem al_a8_u32 (x y : Nat → Int) : Akin (e_a8_u32 x) (e_a8_u32 y) := .agg _ _ _ fun j _ => .int _ _ _
structure congresslaw22_Where where
  C : (Nat → Int)
  M : (Nat → Int)
def z_congresslaw22_Where : congresslaw22_Where := { C := (fun _ => 0), M := (fun _ => 0) }
def c_congresslaw22_Where (x : congresslaw22_Where) : Nat → V
  | 0 => (e_a8_u32 x.C)
  | 1 => (e_a8_u32 x.M)
  | _ => .bool false
def e_congresslaw22_Where (x : congresslaw22_Where) : V := .agg (.st [8, 8]) (c_congresslaw22_Where x)
theorem d_congresslaw22_Where (x : congresslaw22_Where) : (e_congresslaw22_Where x).Data := fun j => match j with
  | 0 => (d_a8_u32 x.C)
  | 1 => (d_a8_u32 x.M)
  | _ + 2 => trivial
theorem f_congresslaw22_Where (x : congresslaw22_Where) : (e_congresslaw22_Where x).Flat := fun j => match j with
  | 0 => (f_a8_u32 x.C)
  | 1 => (f_a8_u32 x.M)
  | _ + 2 => trivial
def b_congresslaw22_Where (x y : congresslaw22_Where) : Bool := (b_a8_u32 x.C y.C) && ((b_a8_u32 x.M y.M))
theorem q_congresslaw22_Where (x y : congresslaw22_Where) : eqV (e_congresslaw22_Where x) (e_congresslaw22_Where y) = b_congresslaw22_Where x y := by
  have h : eqV (e_congresslaw22_Where x) (e_congresslaw22_Where y) = ((List.range 2).all fun j => eqV (c_congresslaw22_Where x j) (c_congresslaw22_Where y j)) := rfl
  have hr : List.range 2 = [0, 1] := rfl
  rw [h, hr]
  simp only [List.all_cons, List.all_nil, Bool.and_true, c_congresslaw22_Where, b_congresslaw22_Where, q_a8_u32]
theorem al_congresslaw22_Where (x y : congresslaw22_Where) : Akin (e_congresslaw22_Where x) (e_congresslaw22_Where y) := .agg _ _ _ fun j h => match j, h with
  | 0, _ => al_a8_u32 _ _
  | 1, _ => al_a8_u32 _ _
  | n + 2, h => absurd (show n + 2 < 2 from h) (by omega)
theorem st_congresslaw22_Where_0 (x : congresslaw22_Where) (v : (Nat → Int)) : vupd (c_congresslaw22_Where x) 0 (e_a8_u32 v) = c_congresslaw22_Where { x with C := v } := by
  funext j; match j with
  | 0 => rfl
  | 1 => rfl
  | _ + 2 => rfl
theorem st_congresslaw22_Where_1 (x : congresslaw22_Where) (v : (Nat → Int)) : vupd (c_congresslaw22_Where x) 1 (e_a8_u32 v) = c_congresslaw22_Where { x with M := v } := by
  funext j; match j with
  | 0 => rfl
  | 1 => rfl
  | _ + 2 => rfl
def e_s_api_Wait (x : _root_.List api_Wait) : V := .sl 9 x.length fun j => (e_api_Wait (x.getD j z_api_Wait))
theorem d_s_api_Wait (x : _root_.List api_Wait) : (e_s_api_Wait x).Data := fun j => (d_api_Wait (x.getD j z_api_Wait))
def e_s_i64 (x : _root_.List Int) : V := .sl 1 x.length fun j => (.int .i64 (x.getD j 0))
theorem d_s_i64 (x : _root_.List Int) : (e_s_i64 x).Data := fun _ => trivial
def e_s_congresslaw22_Frame (x : _root_.List congresslaw22_Frame) : V := .sl 3 x.length fun j => (e_congresslaw22_Frame (x.getD j z_congresslaw22_Frame))
theorem d_s_congresslaw22_Frame (x : _root_.List congresslaw22_Frame) : (e_s_congresslaw22_Frame x).Data := fun j => (d_congresslaw22_Frame (x.getD j z_congresslaw22_Frame))
structure congresslaw22_Play where
  M : (Nat → Int)
  L : (_root_.List congresslaw22_Frame)
def z_congresslaw22_Play : congresslaw22_Play := { M := (fun _ => 0), L := [] }
def c_congresslaw22_Play (x : congresslaw22_Play) : Nat → V
  | 0 => (e_a8_u32 x.M)
  | 1 => (e_s_congresslaw22_Frame x.L)
  | _ => .bool false
def e_congresslaw22_Play (x : congresslaw22_Play) : V := .agg (.st [8, 1]) (c_congresslaw22_Play x)
theorem d_congresslaw22_Play (x : congresslaw22_Play) : (e_congresslaw22_Play x).Data := fun j => match j with
  | 0 => (d_a8_u32 x.M)
  | 1 => (d_s_congresslaw22_Frame x.L)
  | _ + 2 => trivial
theorem st_congresslaw22_Play_0 (x : congresslaw22_Play) (v : (Nat → Int)) : vupd (c_congresslaw22_Play x) 0 (e_a8_u32 v) = c_congresslaw22_Play { x with M := v } := by
  funext j; match j with
  | 0 => rfl
  | 1 => rfl
  | _ + 2 => rfl
theorem st_congresslaw22_Play_1 (x : congresslaw22_Play) (v : (_root_.List congresslaw22_Frame)) : vupd (c_congresslaw22_Play x) 1 (e_s_congresslaw22_Frame v) = c_congresslaw22_Play { x with L := v } := by
  funext j; match j with
  | 0 => rfl
  | 1 => rfl
  | _ + 2 => rfl

noncomputable def slices_Clone_api_Wait_api_Wait (p0 : (_root_.List api_Wait)) : Option ((_root_.List api_Wait)) :=
  nilq p0.length (
    some ([] : _root_.List api_Wait)) (
    (fit (([] : _root_.List api_Wait) ++ p0).length 80).bind fun _ =>
    some (([] : _root_.List api_Wait) ++ p0))

noncomputable def slices_IndexFunc_api_Wait_api_Wait (p0 : (_root_.List api_Wait)) (p1 : (api_Wait → Option (Bool))) : Option (Int) :=
  (loop (ω := Fl (Int) (Unit)) (fun (x1 : Int) =>
    if (decide (x1 < (p0.length : Int))) then
      (ib x1 p0.length).bind fun _ =>
      (p1 (p0.getD x1.toNat z_api_Wait)).bind fun v4 =>
      if v4 then
        some (.done (.rt x1))
      else
        some (.next ((IntKind.i64.wrap (x1 + 1))))
    else
      some (.done (.nx ()))) (0)).bind fun wn2 => Fl.elim wn2 (fun y6 =>
    some (-1)) (fun r => some r)

noncomputable def slices_ContainsFunc_api_Wait_api_Wait (p0 : (_root_.List api_Wait)) (p1 : (api_Wait → Option (Bool))) : Option (Bool) :=
  (slices_IndexFunc_api_Wait_api_Wait p0 p1).bind fun v1 =>
  some (decide (v1 ≥ 0))

noncomputable def queue_put_1 (p0 : api_Wait) (q0 : api_Wait) : Option (Bool) :=
  some (b_api_Place p0.Place q0.Place)

noncomputable def cmp_isNaN_uint32 (p0 : Int) : Option (Bool) :=
  some (p0 != p0)

noncomputable def cmp_Compare_uint32 (p0 : Int) (p1 : Int) : Option (Int) :=
  (cmp_isNaN_uint32 p0).bind fun v1 =>
  (cmp_isNaN_uint32 p1).bind fun v3 =>
  if v1 then
    if v3 then
      some 0
    else
      some (-1)
  else
    if v3 then
      some 1
    else
      if (decide (p0 < p1)) then
        some (-1)
      else
        if (decide (p0 > p1)) then
          some 1
        else
          some 0

noncomputable def cmp_isNaN_int (p0 : Int) : Option (Bool) :=
  some (p0 != p0)

noncomputable def cmp_Compare_int (p0 : Int) (p1 : Int) : Option (Int) :=
  (cmp_isNaN_int p0).bind fun v1 =>
  (cmp_isNaN_int p1).bind fun v3 =>
  if v1 then
    if v3 then
      some 0
    else
      some (-1)
  else
    if v3 then
      some 1
    else
      if (decide (p0 < p1)) then
        some (-1)
      else
        if (decide (p0 > p1)) then
          some 1
        else
          some 0

noncomputable def cmp_Or_int (p0 : (_root_.List Int)) : Option (Int) :=
  (loop (ω := Fl (Int) (Unit)) (fun (x1 : Int) =>
    if (decide (x1 < (p0.length : Int))) then
      (ib x1 p0.length).bind fun _ =>
      if ((p0.getD x1.toNat 0) != 0) then
        some (.done (.rt (p0.getD x1.toNat 0)))
      else
        some (.next ((IntKind.i64.wrap (x1 + 1))))
    else
      some (.done (.nx ()))) (0)).bind fun wn2 => Fl.elim wn2 (fun y4 =>
    some 0) (fun r => some r)

noncomputable def round_Before (p0 : api_Place) (p1 : api_Place) : Option (Bool) :=
  (cmp_Compare_uint32 p0.Round p1.Round).bind fun v1 =>
  (cmp_Compare_int p0.From p1.From).bind fun v3 =>
  (cmp_Compare_int p0.Slot p1.Slot).bind fun v5 =>
  (cmp_Or_int ([v1, v3, v5] : _root_.List Int)).bind fun v7 =>
  some (decide (v7 < 0))

noncomputable def queue_put_2 (p0 : api_Wait) (q0 : api_Wait) : Option (Bool) :=
  (round_Before q0.Place p0.Place).bind fun v1 =>
  some v1

noncomputable def slices_Insert_api_Wait_api_Wait (p0 : (_root_.List api_Wait)) (p1 : Int) (p2 : (_root_.List api_Wait)) : Option ((_root_.List api_Wait)) :=
  (sb p1 ((p0.length : Nat) : Int) p0.length).bind fun _ =>
  if ((p2.length : Int) == 0) then
    some p0
  else
    if (p1 == (p0.length : Int)) then
      (fit (p0 ++ p2).length 80).bind fun _ =>
      some (p0 ++ p2)
    else
      bth (
        (sb 0 p1 p0.length).bind fun _ =>
        (inb (p1.toNat - 0) p0.length).bind fun _ =>
        (vz (p1.toNat - 0) (IntKind.i64.wrap ((IntKind.i64.wrap ((p0.length : Int) + (p2.length : Int))) - p1)) (IntKind.i64.wrap ((p0.length : Int) + (p2.length : Int))) 80).bind fun _ =>
        lt ((p0.take (p1.toNat - 0) ++ _root_.List.replicate (IntKind.i64.wrap ((IntKind.i64.wrap ((p0.length : Int) + (p2.length : Int))) - p1)).toNat z_api_Wait) : _root_.List api_Wait) fun v6 =>
        (sb p1 ((v6.length : Nat) : Int) v6.length).bind fun _ =>
        (inb (p1.toNat + min p2.length (v6.length - p1.toNat)) v6.length).bind fun _ =>
        (sb (IntKind.i64.wrap (p1 + (p2.length : Int))) (((ovl v6 p1.toNat (p2.take (v6.length - p1.toNat))).length : Nat) : Int) ((ovl v6 p1.toNat (p2.take (v6.length - p1.toNat))).length)).bind fun _ =>
        (sb p1 ((p0.length : Nat) : Int) p0.length).bind fun _ =>
        (inb (((IntKind.i64.wrap (p1 + (p2.length : Int))).toNat) + min (p0.length - p1.toNat) (((ovl v6 p1.toNat (p2.take (v6.length - p1.toNat))).length) - ((IntKind.i64.wrap (p1 + (p2.length : Int))).toNat))) (ovl v6 p1.toNat (p2.take (v6.length - p1.toNat))).length).bind fun _ =>
        (inb (p1.toNat + (p0.length - p1.toNat)) p0.length).bind fun _ =>
        lt ((ovl (ovl v6 p1.toNat (p2.take (v6.length - p1.toNat))) ((IntKind.i64.wrap (p1 + (p2.length : Int))).toNat) (((p0.drop p1.toNat).take (p0.length - p1.toNat)).take (((ovl v6 p1.toNat (p2.take (v6.length - p1.toNat))).length) - ((IntKind.i64.wrap (p1 + (p2.length : Int))).toNat)))) : _root_.List api_Wait) fun v14 =>
        some v14) (
        (ile ((p0.length : Nat) : Int) (IntKind.i64.wrap ((p0.length : Int) + (p2.length : Int)))).bind fun _ =>
        (sb (IntKind.i64.wrap (p1 + (p2.length : Int))) ((((IntKind.i64.wrap ((p0.length : Int) + (p2.length : Int))).toNat) : Nat) : Int) ((IntKind.i64.wrap ((p0.length : Int) + (p2.length : Int))).toNat)).bind fun _ =>
        (inb (((IntKind.i64.wrap (p1 + (p2.length : Int))).toNat) + (((IntKind.i64.wrap ((p0.length : Int) + (p2.length : Int))).toNat) - ((IntKind.i64.wrap (p1 + (p2.length : Int))).toNat))) ((IntKind.i64.wrap ((p0.length : Int) + (p2.length : Int))).toNat)).bind fun _ =>
        (sb (IntKind.i64.wrap (p1 + (p2.length : Int))) ((((IntKind.i64.wrap ((p0.length : Int) + (p2.length : Int))).toNat) : Nat) : Int) ((IntKind.i64.wrap ((p0.length : Int) + (p2.length : Int))).toNat)).bind fun _ =>
        (sb p1 ((((IntKind.i64.wrap ((p0.length : Int) + (p2.length : Int))).toNat) : Nat) : Int) ((IntKind.i64.wrap ((p0.length : Int) + (p2.length : Int))).toNat)).bind fun _ =>
        (cup ((IntKind.i64.wrap (p1 + (p2.length : Int))).toNat) p0.length (min (((IntKind.i64.wrap ((p0.length : Int) + (p2.length : Int))).toNat) - p1.toNat) (((IntKind.i64.wrap ((p0.length : Int) + (p2.length : Int))).toNat) - ((IntKind.i64.wrap (p1 + (p2.length : Int))).toNat))) ((IntKind.i64.wrap ((p0.length : Int) + (p2.length : Int))).toNat) p1.toNat).bind fun _ =>
        lt ((p0.take ((IntKind.i64.wrap (p1 + (p2.length : Int))).toNat) ++ (p0.drop p1.toNat).take (min (((IntKind.i64.wrap ((p0.length : Int) + (p2.length : Int))).toNat) - p1.toNat) (((IntKind.i64.wrap ((p0.length : Int) + (p2.length : Int))).toNat) - ((IntKind.i64.wrap (p1 + (p2.length : Int))).toNat)))) : _root_.List api_Wait) fun v22 =>
        (sb p1 ((v22.length : Nat) : Int) v22.length).bind fun _ =>
        (inb (p1.toNat + min p2.length (v22.length - p1.toNat)) v22.length).bind fun _ =>
        some (ovl v22 p1.toNat (p2.take (v22.length - p1.toNat))))

noncomputable def queue_put (p0 : (_root_.List api_Wait)) (p1 : api_Wait) : Option ((_root_.List api_Wait)) :=
  (slices_ContainsFunc_api_Wait_api_Wait p0 (fun z0 => queue_put_1 z0 p1)).bind fun v1 =>
  if v1 then
    some p0
  else
    (slices_IndexFunc_api_Wait_api_Wait p0 (fun z0 => queue_put_2 z0 p1)).bind fun v3 =>
    jn (fun x6 : Int =>
      (slices_Insert_api_Wait_api_Wait p0 x6 ([p1] : _root_.List api_Wait)).bind fun v7 =>
      some v7) fun j5 =>
    if (decide (v3 < 0)) then
      j5 ((p0.length : Int))
    else
      j5 (v3)

noncomputable def queue_Add (p0 : (_root_.List api_Wait)) (p1 : Int) (p2 : Int) (p3 : (_root_.List api_Entry)) : Option ((_root_.List api_Wait)) :=
  (slices_Clone_api_Wait_api_Wait p0).bind fun v1 =>
  (loop (ω := Fl ((_root_.List api_Wait)) (_root_.List api_Wait)) (fun (x3 : Int × _root_.List api_Wait) =>
    if (decide (x3.1 < (p3.length : Int))) then
      jn (fun x10 : _root_.List api_Wait =>
        some (.next ((IntKind.i64.wrap (x3.1 + 1)), x10))) fun j5 =>
      (ib x3.1 p3.length).bind fun _ =>
      lt ((!(b_api_Entry (p3.getD x3.1.toNat z_api_Entry) ({ Kind := 0, Service := 0, Group := 0, Session := 0, Number := 0, Text := ByteArray.empty } : api_Entry))) : Bool) fun v7 =>
      if v7 then
        (queue_put x3.2 ({ Place := ({ Round := p2, From := p1, Slot := x3.1 } : api_Place), Entry := p3.getD x3.1.toNat z_api_Entry } : api_Wait)).bind fun v8 =>
        j5 (v8)
      else
        j5 (x3.2)
    else
      some (.done (.nx (x3.2)))) (0, v1)).bind fun wn4 => Fl.elim wn4 (fun y11 =>
    some y11) (fun r => some r)

noncomputable def congresslaw22_two : Option ((_root_.List api_Wait)) :=
  (queue_Add [] 0 2 ([({ Kind := 1, Service := 2, Group := 0, Session := 0, Number := 0, Text := (⟨#[98]⟩ : ByteArray) } : api_Entry)] : _root_.List api_Entry)).bind fun v1 =>
  (queue_Add v1 0 1 ([({ Kind := 0, Service := 0, Group := 0, Session := 0, Number := 0, Text := ByteArray.empty } : api_Entry), ({ Kind := 1, Service := 3, Group := 0, Session := 0, Number := 0, Text := (⟨#[97]⟩ : ByteArray) } : api_Entry)] : _root_.List api_Entry)).bind fun v3 =>
  some v3

noncomputable def queue_service (p0 : api_Entry) : Option (Int) :=
  if (p0.Kind != 1) then
    some 2
  else
    some p0.Service

noncomputable def round_member (p0 : (Nat → Int)) (p1 : Int) : Option (Bool) :=
  (ibg ((decide (p1 ≥ 0)) && (decide (p1 < 8))) p1 8).bind fun _ =>
  some (((decide (p1 ≥ 0)) && (decide (p1 < 8))) && ((p0 p1.toNat) != 0))

noncomputable def ident_List (p0 : (Nat → Int)) : Option ((_root_.List Int)) :=
  (loop (ω := Fl ((_root_.List Int)) (_root_.List Int)) (fun (x1 : Int × _root_.List Int) =>
    if (decide (x1.1 < 8)) then
      jn (fun x6 : _root_.List Int =>
        some (.next ((IntKind.i64.wrap (x1.1 + 1)), x6))) fun j3 =>
      (ib x1.1 8).bind fun _ =>
      if ((p0 x1.1.toNat) != 0) then
        (fit (x1.2 ++ ([x1.1] : _root_.List Int)).length 8).bind fun _ =>
        j3 ((x1.2 ++ ([x1.1] : _root_.List Int)))
      else
        j3 (x1.2)
    else
      some (.done (.nx (x1.2)))) (0, ([] : _root_.List Int))).bind fun wn2 => Fl.elim wn2 (fun y7 =>
    some y7) (fun r => some r)

noncomputable def round_Least (p0 : (Nat → Int)) (p1 : (Nat → Int)) : Option (Int × Bool) :=
  (ident_List p1).bind fun v1 =>
  if ((v1.length : Int) == 0) then
    some (0, false)
  else
    (loop (ω := Fl (Int × Bool) (Int)) (fun (x3 : Int × Int) =>
      if (decide (x3.2 < (v1.length : Int))) then
        (ib x3.2 v1.length).bind fun _ =>
        (ib (v1.getD x3.2.toNat 0) 8).bind fun _ =>
        lt ((if (p0 ((v1.getD x3.2.toNat 0).toNat)) < x3.1 then p0 ((v1.getD x3.2.toNat 0).toNat) else x3.1) : Int) fun v7 =>
        some (.next (v7, (IntKind.i64.wrap (x3.2 + 1))))
      else
        some (.done (.nx (x3.1)))) (4294967295, 0)).bind fun wn4 => Fl.elim wn4 (fun y8 =>
      some (y8, true)) (fun r => some r)

noncomputable def round_ahead (p0 : (Nat → Int)) (p1 : (Nat → Int)) (p2 : api_Place) : Option (Bool) :=
  (loop (ω := Fl (Bool) (Unit)) (fun (x1 : Int) =>
    if (decide (x1 < p2.From)) then
      (ib x1 8).bind fun _ =>
      (ibg ((p1 x1.toNat) != 0) x1 8).bind fun _ =>
      if (((p1 x1.toNat) != 0) && (decide ((p0 x1.toNat) < p2.Round))) then
        some (.done (.rt false))
      else
        some (.next ((IntKind.i64.wrap (x1 + 1))))
    else
      some (.done (.nx ()))) (0)).bind fun wn2 => Fl.elim wn2 (fun y5 =>
    some true) (fun r => some r)

noncomputable def round_Service (p0 : (Nat → Int)) (p1 : (Nat → Int)) (p2 : api_Place) (p3 : Int) : Option (Bool) :=
  (round_member p1 p2.From).bind fun v1 =>
  (ibg (!((!v1) || (p2.Round == 0))) p2.From 8).bind fun _ =>
  lt ((((!v1) || (p2.Round == 0)) || (decide (p2.Round > (p0 p2.From.toNat)))) : Bool) fun v4 =>
  if v4 then
    some false
  else
    (round_Least p0 p1).bind fun v5 =>
    if (p3 == 0) then
      some true
    else
      if (p3 == 1) then
        some (decide (v5.1 ≥ (IntKind.u32.wrap (p2.Round - 1))))
      else
        if (p3 == 2) then
          (whn (decide (v5.1 ≥ (IntKind.u32.wrap (p2.Round - 1)))) (round_ahead p0 p1 p2) false).bind fun v7 =>
          some ((decide (v5.1 ≥ (IntKind.u32.wrap (p2.Round - 1)))) && v7)
        else
          if (p3 == 3) then
            some (decide (v5.1 > p2.Round))
          else
            some false

noncomputable def queue_ordered (p0 : api_Entry) : Option (Bool) :=
  some (((p0.Kind != 1) || (p0.Service == 2)) || (p0.Service == 3))

noncomputable def queue_Ready (p0 : (_root_.List api_Wait)) (p1 : (Nat → Int)) (p2 : (Nat → Int)) : Option ((_root_.List api_Wait) × (_root_.List api_Wait)) :=
  (loop (ω := Fl ((_root_.List api_Wait) × (_root_.List api_Wait)) (_root_.List api_Wait × _root_.List api_Wait)) (fun (x1 : Bool × Int × _root_.List api_Wait × _root_.List api_Wait) =>
    if (decide (x1.2.1 < (p0.length : Int))) then
      jn (fun x15 : Bool × _root_.List api_Wait × _root_.List api_Wait =>
        some (.next (x15.1, (IntKind.i64.wrap (x1.2.1 + 1)), x15.2.1, x15.2.2))) fun j3 =>
      (ib x1.2.1 p0.length).bind fun _ =>
      (queue_service ((p0.getD x1.2.1.toNat z_api_Wait).Entry)).bind fun v5 =>
      (round_Service p1 p2 ((p0.getD x1.2.1.toNat z_api_Wait).Place) v5).bind fun v7 =>
      (queue_ordered ((p0.getD x1.2.1.toNat z_api_Wait).Entry)).bind fun v9 =>
      jn (fun x12 : Bool × Bool =>
        if x12.2 then
          (fit (x1.2.2.1 ++ ([p0.getD x1.2.1.toNat z_api_Wait] : _root_.List api_Wait)).length 80).bind fun _ =>
          j3 (x12.1, (x1.2.2.1 ++ ([p0.getD x1.2.1.toNat z_api_Wait] : _root_.List api_Wait)), x1.2.2.2)
        else
          (fit (x1.2.2.2 ++ ([p0.getD x1.2.1.toNat z_api_Wait] : _root_.List api_Wait)).length 80).bind fun _ =>
          j3 (x12.1, x1.2.2.1, (x1.2.2.2 ++ ([p0.getD x1.2.1.toNat z_api_Wait] : _root_.List api_Wait)))) fun j11 =>
      if v9 then
        j11 ((!(v7 && (!x1.1))), (v7 && (!x1.1)))
      else
        j11 (x1.1, v7)
    else
      some (.done (.nx (x1.2.2.1, x1.2.2.2)))) (false, 0, ([] : _root_.List api_Wait), ([] : _root_.List api_Wait))).bind fun wn2 => Fl.elim wn2 (fun y16 =>
    some (y16.1, y16.2)) (fun r => some r)

noncomputable def queue_May (p0 : (_root_.List api_Wait)) : Option (Bool) :=
  (loop (ω := Fl (Bool) (Unit)) (fun (x1 : Int) =>
    if (decide (x1 < (p0.length : Int))) then
      (ib x1 p0.length).bind fun _ =>
      (ibg ((!(b_api_Entry ((p0.getD x1.toNat z_api_Wait).Entry) ({ Kind := 0, Service := 0, Group := 0, Session := 0, Number := 0, Text := ByteArray.empty } : api_Entry))) && (decide (x1 > 0))) (IntKind.i64.wrap (x1 - 1)) p0.length).bind fun _ =>
      (whn ((!(b_api_Entry ((p0.getD x1.toNat z_api_Wait).Entry) ({ Kind := 0, Service := 0, Group := 0, Session := 0, Number := 0, Text := ByteArray.empty } : api_Entry))) && (decide (x1 > 0))) (round_Before ((p0.getD ((IntKind.i64.wrap (x1 - 1)).toNat) z_api_Wait).Place) ((p0.getD x1.toNat z_api_Wait).Place)) false).bind fun v5 =>
      lt (((b_api_Entry ((p0.getD x1.toNat z_api_Wait).Entry) ({ Kind := 0, Service := 0, Group := 0, Session := 0, Number := 0, Text := ByteArray.empty } : api_Entry)) || ((decide (x1 > 0)) && (!v5))) : Bool) fun v7 =>
      if v7 then
        some (.done (.rt false))
      else
        some (.next ((IntKind.i64.wrap (x1 + 1))))
    else
      some (.done (.nx ()))) (0)).bind fun wn2 => Fl.elim wn2 (fun y8 =>
    some true) (fun r => some r)

noncomputable def queue_Flush (p0 : (_root_.List api_Wait)) : Option ((_root_.List api_Wait)) :=
  (slices_Clone_api_Wait_api_Wait p0).bind fun v1 =>
  some v1

noncomputable def congresslaw22_fixed : Option (Bool) :=
  (congresslaw22_two).bind fun v1 =>
  (queue_Ready v1 (aset (fun _ => 0) [(0, 2), (1, 2)]) (aset (fun _ => 0) [(0, 1), (1, 1)])).bind fun v3 =>
  (congresslaw22_two).bind fun v5 =>
  (queue_Ready v5 (aset (fun _ => 0) [(0, 1), (1, 1)]) (aset (fun _ => 0) [(0, 1), (1, 1)])).bind fun v7 =>
  (ibg ((v3.1.length : Int) == 2) 0 v3.1.length).bind fun _ =>
  (ibg (((v3.1.length : Int) == 2) && ((((v3.1.getD 0 z_api_Wait).Entry).Text) == (⟨#[97]⟩ : ByteArray))) 0 v3.1.length).bind fun _ =>
  (whn (((((((v3.1.length : Int) == 2) && ((((v3.1.getD 0 z_api_Wait).Entry).Text) == (⟨#[97]⟩ : ByteArray))) && ((((v3.1.getD 0 z_api_Wait).Place).Slot) == 1)) && ((v3.2.length : Int) == 0)) && ((v7.1.length : Int) == 0)) && ((v7.2.length : Int) == 2)) (queue_May v7.2) false).bind fun v11 =>
  (whn ((((((((v3.1.length : Int) == 2) && ((((v3.1.getD 0 z_api_Wait).Entry).Text) == (⟨#[97]⟩ : ByteArray))) && ((((v3.1.getD 0 z_api_Wait).Place).Slot) == 1)) && ((v3.2.length : Int) == 0)) && ((v7.1.length : Int) == 0)) && ((v7.2.length : Int) == 2)) && v11) (queue_Flush v7.2) []).bind fun v13 =>
  lt ((((((((((v3.1.length : Int) == 2) && ((((v3.1.getD 0 z_api_Wait).Entry).Text) == (⟨#[97]⟩ : ByteArray))) && ((((v3.1.getD 0 z_api_Wait).Place).Slot) == 1)) && ((v3.2.length : Int) == 0)) && ((v7.1.length : Int) == 0)) && ((v7.2.length : Int) == 2)) && v11) && ((v13.length : Int) == 2)) : Bool) fun v15 =>
  some v15

noncomputable def congressref07_List (p0 : (Nat → Int)) : Option ((_root_.List Int)) :=
  (loop (ω := Fl ((_root_.List Int)) (_root_.List Int)) (fun (x1 : Int × _root_.List Int) =>
    if (decide (x1.1 < 8)) then
      jn (fun x6 : _root_.List Int =>
        some (.next ((IntKind.i64.wrap (x1.1 + 1)), x6))) fun j3 =>
      (ib x1.1 8).bind fun _ =>
      if (decide ((p0 x1.1.toNat) > 0)) then
        (fit (x1.2 ++ ([x1.1] : _root_.List Int)).length 8).bind fun _ =>
        j3 ((x1.2 ++ ([x1.1] : _root_.List Int)))
      else
        j3 (x1.2)
    else
      some (.done (.nx (x1.2)))) (0, ([] : _root_.List Int))).bind fun wn2 => Fl.elim wn2 (fun y7 =>
    some y7) (fun r => some r)

noncomputable def congressref09_Full (p0 : (Nat → Int)) (p1 : (Nat → Int)) (p2 : Int) : Option (Bool) :=
  (congressref07_List p1).bind fun v1 =>
  (loop (ω := Fl (Bool) (Unit)) (fun (x3 : Int) =>
    if (decide (x3 < (v1.length : Int))) then
      (ib x3 v1.length).bind fun _ =>
      (ib (v1.getD x3.toNat 0) 8).bind fun _ =>
      if (decide ((IntKind.u64.wrap (p0 ((v1.getD x3.toNat 0).toNat))) < p2)) then
        some (.done (.rt false))
      else
        some (.next ((IntKind.i64.wrap (x3 + 1))))
    else
      some (.done (.nx ()))) (0)).bind fun wn4 => Fl.elim wn4 (fun y7 =>
    some true) (fun r => some r)

noncomputable def congressref09_Service (p0 : (Nat → Int)) (p1 : (Nat → Int)) (p2 : api_Place) (p3 : Int) : Option (Bool) :=
  (ibg (!((decide (p2.From < 0)) || (decide (p2.From > 7)))) p2.From 8).bind fun _ =>
  (ibg (!((((decide (p2.From < 0)) || (decide (p2.From > 7))) || ((p1 p2.From.toNat) == 0)) || (p2.Round == 0))) p2.From 8).bind fun _ =>
  lt ((((((((decide (p2.From < 0)) || (decide (p2.From > 7))) || ((p1 p2.From.toNat) == 0)) || (p2.Round == 0)) || (decide (p2.Round > (p0 p2.From.toNat)))) || (decide (p3 < 0))) || (decide (p3 > 3))) : Bool) fun v3 =>
  if v3 then
    some false
  else
    if (p3 == 3) then
      (congressref09_Full p0 p1 (IntKind.u64.wrap ((IntKind.u64.wrap (p2.Round)) + 1))).bind fun v4 =>
      some v4
    else
      if (p3 == 0) then
        some true
      else
        (congressref09_Full p0 p1 (IntKind.u64.wrap ((IntKind.u64.wrap (p2.Round)) - 1))).bind fun v6 =>
        if (!v6) then
          some false
        else
          (loop (ω := Fl (Bool) (Unit)) (fun (x8 : Int) =>
            if ((decide (x8 < p2.From)) && (p3 == 2)) then
              (ib x8 8).bind fun _ =>
              (ibg ((p1 x8.toNat) != 0) x8 8).bind fun _ =>
              if (((p1 x8.toNat) != 0) && (decide ((p0 x8.toNat) < p2.Round))) then
                some (.done (.rt false))
              else
                some (.next ((IntKind.i64.wrap (x8 + 1))))
            else
              some (.done (.nx ()))) (0)).bind fun wn9 => Fl.elim wn9 (fun y12 =>
            some true) (fun r => some r)

noncomputable def congressref22_Is (p0 : api_Wait) (p1 : (Nat → Int)) (p2 : (Nat → Int)) : Option (Bool) :=
  jn (fun x2 : Int =>
    (congressref09_Service p1 p2 p0.Place x2).bind fun v3 =>
    some v3) fun j1 =>
  if (p0.Entry.Kind == 1) then
    j1 (p0.Entry.Service)
  else
    j1 (2)

noncomputable def congressref22_Ordered (p0 : api_Entry) : Option (Bool) :=
  some (((p0.Kind != 1) || (p0.Service == 2)) || (p0.Service == 3))

noncomputable def congressref22_Ready (p0 : (_root_.List api_Wait)) (p1 : (Nat → Int)) (p2 : (Nat → Int)) : Option ((_root_.List api_Wait) × (_root_.List api_Wait)) :=
  (loop (ω := Fl ((_root_.List api_Wait) × (_root_.List api_Wait)) (_root_.List api_Wait × _root_.List api_Wait)) (fun (x1 : Int × _root_.List api_Wait × _root_.List api_Wait) =>
    if (decide (x1.1 < (p0.length : Int))) then
      jn (fun x25 : _root_.List api_Wait × _root_.List api_Wait =>
        some (.next ((IntKind.i64.wrap (x1.1 + 1)), x25.1, x25.2))) fun j3 =>
      (ib x1.1 p0.length).bind fun _ =>
      (congressref22_Is (p0.getD x1.1.toNat z_api_Wait) p1 p2).bind fun v5 =>
      (loop (ω := Fl ((_root_.List api_Wait) × (_root_.List api_Wait)) (Bool)) (fun (x7 : Bool × Int) =>
        (ibg (decide (x7.2 < x1.1)) x1.1 p0.length).bind fun _ =>
        (whn (decide (x7.2 < x1.1)) (congressref22_Ordered ((p0.getD x1.1.toNat z_api_Wait).Entry)) false).bind fun v10 =>
        if ((decide (x7.2 < x1.1)) && v10) then
          jn (fun x19 : Bool =>
            some (.next (x19, (IntKind.i64.wrap (x7.2 + 1))))) fun j12 =>
          (ib x7.2 p0.length).bind fun _ =>
          (congressref22_Ordered ((p0.getD x7.2.toNat z_api_Wait).Entry)).bind fun v14 =>
          (ibg v14 x7.2 p0.length).bind fun _ =>
          (whn v14 (congressref22_Is (p0.getD x7.2.toNat z_api_Wait) p1 p2) false).bind fun v17 =>
          if (v14 && (!v17)) then
            j12 (false)
          else
            j12 (x7.1)
        else
          some (.done (.nx (x7.1)))) (v5, 0)).bind fun wn8 => Fl.elim wn8 (fun y20 =>
        if y20 then
          (ib x1.1 p0.length).bind fun _ =>
          (fit (x1.2.1 ++ ([p0.getD x1.1.toNat z_api_Wait] : _root_.List api_Wait)).length 80).bind fun _ =>
          j3 ((x1.2.1 ++ ([p0.getD x1.1.toNat z_api_Wait] : _root_.List api_Wait)), x1.2.2)
        else
          (ib x1.1 p0.length).bind fun _ =>
          (fit (x1.2.2 ++ ([p0.getD x1.1.toNat z_api_Wait] : _root_.List api_Wait)).length 80).bind fun _ =>
          j3 (x1.2.1, (x1.2.2 ++ ([p0.getD x1.1.toNat z_api_Wait] : _root_.List api_Wait)))) (fun r => some (.done (.rt r)))
    else
      some (.done (.nx (x1.2.1, x1.2.2)))) (0, ([] : _root_.List api_Wait), ([] : _root_.List api_Wait))).bind fun wn2 => Fl.elim wn2 (fun y26 =>
    some (y26.1, y26.2)) (fun r => some r)

noncomputable def congressref09_Before (p0 : api_Place) (p1 : api_Place) : Option (Bool) :=
  if (p0.Round != p1.Round) then
    some (decide (p0.Round < p1.Round))
  else
    if (p0.From != p1.From) then
      some (decide (p0.From < p1.From))
    else
      some (decide (p0.Slot < p1.Slot))

noncomputable def congressref22_Add (p0 : (_root_.List api_Wait)) (p1 : Int) (p2 : Int) (p3 : (_root_.List api_Entry)) : Option ((_root_.List api_Wait)) :=
  (loop (ω := Fl ((_root_.List api_Wait)) ((_root_.List api_Wait))) (fun (x1 : (_root_.List api_Wait) × Int × Int × (_root_.List api_Entry) × Int) =>
    if (decide (x1.2.2.2.2 < (x1.2.2.2.1.length : Int))) then
      jn (fun x28 : (_root_.List api_Wait) × Int × Int × (_root_.List api_Entry) × Int =>
        some (.next (x28.1, x28.2.1, x28.2.2.1, x28.2.2.2.1, (IntKind.i64.wrap (x28.2.2.2.2 + 1))))) fun j3 =>
      (ib x1.2.2.2.2 x1.2.2.2.1.length).bind fun _ =>
      lt ((b_api_Entry (x1.2.2.2.1.getD x1.2.2.2.2.toNat z_api_Entry) ({ Kind := 0, Service := 0, Group := 0, Session := 0, Number := 0, Text := ByteArray.empty } : api_Entry)) : Bool) fun v5 =>
      if v5 then
        j3 (x1.1, x1.2.1, x1.2.2.1, x1.2.2.2.1, x1.2.2.2.2)
      else
        (ib x1.2.2.2.2 x1.2.2.2.1.length).bind fun _ =>
        lt (({ Place := ({ Round := x1.2.2.1, From := x1.2.1, Slot := x1.2.2.2.2 } : api_Place), Entry := x1.2.2.2.1.getD x1.2.2.2.2.toNat z_api_Entry } : api_Wait) : api_Wait) fun v7 =>
        (loop (ω := Fl ((_root_.List api_Wait)) (Bool)) (fun (x8 : Bool × Int) =>
          if (decide (x8.2 < (x1.1.length : Int))) then
            (ibg (!x8.1) x8.2 x1.1.length).bind fun _ =>
            lt ((x8.1 || (b_api_Place ((x1.1.getD x8.2.toNat z_api_Wait).Place) v7.Place)) : Bool) fun v11 =>
            some (.next (v11, (IntKind.i64.wrap (x8.2 + 1))))
          else
            some (.done (.nx (x8.1)))) (false, 0)).bind fun wn9 => Fl.elim wn9 (fun y12 =>
          (loop (ω := Fl ((_root_.List api_Wait)) (Bool × _root_.List api_Wait)) (fun (x13 : Bool × Int × _root_.List api_Wait) =>
            if (decide (x13.2.1 < (x1.1.length : Int))) then
              (ibg (!x13.1) x13.2.1 x1.1.length).bind fun _ =>
              (whn (!x13.1) (congressref09_Before v7.Place ((x1.1.getD x13.2.1.toNat z_api_Wait).Place)) false).bind fun v16 =>
              jn (fun x20 : Bool × _root_.List api_Wait =>
                (ib x13.2.1 x1.1.length).bind fun _ =>
                (fit (x20.2 ++ ([x1.1.getD x13.2.1.toNat z_api_Wait] : _root_.List api_Wait)).length 80).bind fun _ =>
                lt ((x20.2 ++ ([x1.1.getD x13.2.1.toNat z_api_Wait] : _root_.List api_Wait)) : _root_.List api_Wait) fun v23 =>
                some (.next (x20.1, (IntKind.i64.wrap (x13.2.1 + 1)), v23))) fun j18 =>
              if ((!x13.1) && v16) then
                (fit (x13.2.2 ++ ([v7] : _root_.List api_Wait)).length 80).bind fun _ =>
                j18 (true, (x13.2.2 ++ ([v7] : _root_.List api_Wait)))
              else
                j18 (x13.1, x13.2.2)
            else
              some (.done (.nx (x13.1, x13.2.2)))) (y12, 0, ([] : _root_.List api_Wait))).bind fun wn14 => Fl.elim wn14 (fun y24 =>
            jn (fun x27 : _root_.List api_Wait =>
              j3 (x27, x1.2.1, x1.2.2.1, x1.2.2.2.1, x1.2.2.2.2)) fun j25 =>
            if (!y24.1) then
              (fit (y24.2 ++ ([v7] : _root_.List api_Wait)).length 80).bind fun _ =>
              j25 ((y24.2 ++ ([v7] : _root_.List api_Wait)))
            else
              j25 (y24.2)) (fun r => some (.done (.rt r)))) (fun r => some (.done (.rt r)))
    else
      some (.done (.nx (x1.1)))) (p0, p1, p2, p3, 0)).bind fun wn2 => Fl.elim wn2 (fun y29 =>
    some y29) (fun r => some r)

noncomputable def congressref22_Same (p0 : (_root_.List api_Wait)) (p1 : (_root_.List api_Wait)) : Option (Bool) :=
  if ((p0.length : Int) != (p1.length : Int)) then
    some false
  else
    (loop (ω := Fl (Bool) (Unit)) (fun (x1 : Int) =>
      if (decide (x1 < (p0.length : Int))) then
        (ib x1 p0.length).bind fun _ =>
        (ib x1 p1.length).bind fun _ =>
        lt ((!(b_api_Wait (p0.getD x1.toNat z_api_Wait) (p1.getD x1.toNat z_api_Wait))) : Bool) fun v5 =>
        if v5 then
          some (.done (.rt false))
        else
          some (.next ((IntKind.i64.wrap (x1 + 1))))
      else
        some (.done (.nx ()))) (0)).bind fun wn2 => Fl.elim wn2 (fun y6 =>
      some true) (fun r => some r)

noncomputable def congressref22_May (p0 : (_root_.List api_Wait)) : Option (Bool) :=
  (loop (ω := Fl (Bool) (Unit)) (fun (x1 : Int) =>
    if (decide (x1 < (p0.length : Int))) then
      (ib x1 p0.length).bind fun _ =>
      (ibg ((!(b_api_Entry ((p0.getD x1.toNat z_api_Wait).Entry) ({ Kind := 0, Service := 0, Group := 0, Session := 0, Number := 0, Text := ByteArray.empty } : api_Entry))) && (decide (x1 > 0))) (IntKind.i64.wrap (x1 - 1)) p0.length).bind fun _ =>
      (ibg ((!(b_api_Entry ((p0.getD x1.toNat z_api_Wait).Entry) ({ Kind := 0, Service := 0, Group := 0, Session := 0, Number := 0, Text := ByteArray.empty } : api_Entry))) && (decide (x1 > 0))) x1 p0.length).bind fun _ =>
      (whn ((!(b_api_Entry ((p0.getD x1.toNat z_api_Wait).Entry) ({ Kind := 0, Service := 0, Group := 0, Session := 0, Number := 0, Text := ByteArray.empty } : api_Entry))) && (decide (x1 > 0))) (congressref09_Before ((p0.getD ((IntKind.i64.wrap (x1 - 1)).toNat) z_api_Wait).Place) ((p0.getD x1.toNat z_api_Wait).Place)) false).bind fun v6 =>
      lt (((b_api_Entry ((p0.getD x1.toNat z_api_Wait).Entry) ({ Kind := 0, Service := 0, Group := 0, Session := 0, Number := 0, Text := ByteArray.empty } : api_Entry)) || ((decide (x1 > 0)) && (!v6))) : Bool) fun v8 =>
      if v8 then
        some (.done (.rt false))
      else
        some (.next ((IntKind.i64.wrap (x1 + 1))))
    else
      some (.done (.nx ()))) (0)).bind fun wn2 => Fl.elim wn2 (fun y9 =>
    some true) (fun r => some r)

noncomputable def congresslaw22_QueueTells (p0 : (_root_.List api_Wait)) (p1 : congresslaw22_Frame) (p2 : congresslaw22_Where) : Option (Bool) :=
  lt (((decide ((p0.length : Int) > 100)) || (decide ((p1.L.length : Int) > 20))) : Bool) fun v1 =>
  if v1 then
    (congresslaw22_fixed).bind fun v2 =>
    some v2
  else
    (queue_Ready p0 p2.C p2.M).bind fun v4 =>
    (congressref22_Ready p0 p2.C p2.M).bind fun v6 =>
    (congresslaw22_fixed).bind fun v8 =>
    (whn v8 (queue_Add p0 p1.From p1.Round p1.L) []).bind fun v10 =>
    (whn v8 (congressref22_Add p0 p1.From p1.Round p1.L) []).bind fun v12 =>
    (whn v8 (congressref22_Same v10 v12) false).bind fun v14 =>
    (whn (v8 && v14) (congressref22_Same v4.1 v6.1) false).bind fun v16 =>
    (whn ((v8 && v14) && v16) (congressref22_Same v4.2 v6.2) false).bind fun v18 =>
    (whn (((v8 && v14) && v16) && v18) (queue_Flush p0) []).bind fun v20 =>
    (whn (((v8 && v14) && v16) && v18) (congressref22_Same v20 p0) false).bind fun v22 =>
    (whn ((((v8 && v14) && v16) && v18) && v22) (queue_May p0) false).bind fun v24 =>
    (whn ((((v8 && v14) && v16) && v18) && v22) (congressref22_May p0) false).bind fun v26 =>
    some (((((v8 && v14) && v16) && v18) && v22) && (v24 == v26))

noncomputable def congressref22_Has (p0 : (_root_.List api_Wait)) (p1 : api_Wait) : Option (Bool) :=
  (loop (ω := Fl (Bool) (Unit)) (fun (x1 : Int) =>
    if (decide (x1 < (p0.length : Int))) then
      (ib x1 p0.length).bind fun _ =>
      if (b_api_Wait (p0.getD x1.toNat z_api_Wait) p1) then
        some (.done (.rt true))
      else
        some (.next ((IntKind.i64.wrap (x1 + 1))))
    else
      some (.done (.nx ()))) (0)).bind fun wn2 => Fl.elim wn2 (fun y4 =>
    some false) (fun r => some r)

noncomputable def congresslaw22_QueueStays (p0 : (_root_.List api_Wait)) (p1 : congresslaw22_Frame) (p2 : congresslaw22_Where) : Option (Bool) :=
  (congresslaw22_fixed).bind fun v1 =>
  (whn (!(!v1)) (queue_May p0) false).bind fun v3 =>
  lt (((((!v1) || (!v3)) || (decide ((p0.length : Int) > 100))) || (decide ((p1.L.length : Int) > 20))) : Bool) fun v5 =>
  if v5 then
    (congresslaw22_fixed).bind fun v6 =>
    some v6
  else
    (queue_Add p0 p1.From p1.Round p1.L).bind fun v8 =>
    (queue_Ready v8 p2.C p2.M).bind fun v10 =>
    (queue_May v8).bind fun v12 =>
    (whn (!(!v12)) (queue_May v10.1) false).bind fun v14 =>
    (whn (!((!v12) || (!v14))) (queue_May v10.2) false).bind fun v16 =>
    lt (((((!v12) || (!v14)) || (!v16)) || ((IntKind.i64.wrap ((v10.1.length : Int) + (v10.2.length : Int))) != (v8.length : Int))) : Bool) fun v18 =>
    if v18 then
      some false
    else
      (loop (ω := Fl (Bool) (Unit)) (fun (x19 : Int) =>
        if (decide (x19 < (p0.length : Int))) then
          (ib x19 p0.length).bind fun _ =>
          (congressref22_Has v8 (p0.getD x19.toNat z_api_Wait)).bind fun v22 =>
          if (!v22) then
            some (.done (.rt false))
          else
            some (.next ((IntKind.i64.wrap (x19 + 1))))
        else
          some (.done (.nx ()))) (0)).bind fun wn20 => Fl.elim wn20 (fun y24 =>
        (loop (ω := Fl (Bool) (Unit)) (fun (x25 : Int) =>
          if (decide (x25 < (v8.length : Int))) then
            (ib x25 v8.length).bind fun _ =>
            (congressref22_Has v10.1 (v8.getD x25.toNat z_api_Wait)).bind fun v28 =>
            (ib x25 v8.length).bind fun _ =>
            (congressref22_Has v10.2 (v8.getD x25.toNat z_api_Wait)).bind fun v31 =>
            if (v28 == v31) then
              some (.done (.rt false))
            else
              some (.next ((IntKind.i64.wrap (x25 + 1))))
          else
            some (.done (.nx ()))) (0)).bind fun wn26 => Fl.elim wn26 (fun y33 =>
          some true) (fun r => some r)) (fun r => some r)

noncomputable def congresslaw22_delivered (p0 : congresslaw22_Play) : Option ((_root_.List api_Wait)) :=
  (loop (ω := Fl ((_root_.List api_Wait)) (_root_.List api_Wait × _root_.List api_Wait)) (fun (x1 : Int × _root_.List api_Wait × _root_.List api_Wait × (Nat → Int)) =>
    if ((decide (x1.1 < (p0.L.length : Int))) && (decide (x1.1 < 60))) then
      jn (fun x18 : _root_.List api_Wait × _root_.List api_Wait × (Nat → Int) =>
        some (.next ((IntKind.i64.wrap (x1.1 + 1)), x18.1, x18.2.1, x18.2.2))) fun j3 =>
      (ib x1.1 p0.L.length).bind fun _ =>
      (ibg (!((decide (((p0.L.getD x1.1.toNat z_congresslaw22_Frame).From) < 0)) || (decide (((p0.L.getD x1.1.toNat z_congresslaw22_Frame).From) > 7)))) (iand .i64 ((p0.L.getD x1.1.toNat z_congresslaw22_Frame).From) 7) 8).bind fun _ =>
      (ibg (!(((decide (((p0.L.getD x1.1.toNat z_congresslaw22_Frame).From) < 0)) || (decide (((p0.L.getD x1.1.toNat z_congresslaw22_Frame).From) > 7))) || ((p0.M ((iand .i64 ((p0.L.getD x1.1.toNat z_congresslaw22_Frame).From) 7).toNat)) == 0))) (iand .i64 ((p0.L.getD x1.1.toNat z_congresslaw22_Frame).From) 7) 8).bind fun _ =>
      lt (((((decide (((p0.L.getD x1.1.toNat z_congresslaw22_Frame).From) < 0)) || (decide (((p0.L.getD x1.1.toNat z_congresslaw22_Frame).From) > 7))) || ((p0.M ((iand .i64 ((p0.L.getD x1.1.toNat z_congresslaw22_Frame).From) 7).toNat)) == 0)) || (((p0.L.getD x1.1.toNat z_congresslaw22_Frame).Round) != (IntKind.u32.wrap ((x1.2.2.2 ((iand .i64 ((p0.L.getD x1.1.toNat z_congresslaw22_Frame).From) 7).toNat)) + 1)))) : Bool) fun v7 =>
      if v7 then
        j3 (x1.2.1, x1.2.2.1, x1.2.2.2)
      else
        (ib (iand .i64 ((p0.L.getD x1.1.toNat z_congresslaw22_Frame).From) 7) 8).bind fun _ =>
        (ib (iand .i64 ((p0.L.getD x1.1.toNat z_congresslaw22_Frame).From) 7) 8).bind fun _ =>
        lt (aupd x1.2.2.2 ((iand .i64 ((p0.L.getD x1.1.toNat z_congresslaw22_Frame).From) 7).toNat) (IntKind.u32.wrap ((x1.2.2.2 ((iand .i64 ((p0.L.getD x1.1.toNat z_congresslaw22_Frame).From) 7).toNat)) + 1)) : (Nat → Int)) fun v10 =>
        (sb 0 (if 4 < (((p0.L.getD x1.1.toNat z_congresslaw22_Frame).L).length : Int) then 4 else (((p0.L.getD x1.1.toNat z_congresslaw22_Frame).L).length : Int)) (((p0.L.getD x1.1.toNat z_congresslaw22_Frame).L).length)).bind fun _ =>
        lt (((((p0.L.getD x1.1.toNat z_congresslaw22_Frame).L).take ((if 4 < (((p0.L.getD x1.1.toNat z_congresslaw22_Frame).L).length : Int) then 4 else (((p0.L.getD x1.1.toNat z_congresslaw22_Frame).L).length : Int)).toNat)).drop 0) : (_root_.List api_Entry)) fun v12 =>
        (queue_Add x1.2.1 ((p0.L.getD x1.1.toNat z_congresslaw22_Frame).From) ((p0.L.getD x1.1.toNat z_congresslaw22_Frame).Round) v12).bind fun v13 =>
        (queue_Ready v13 v10 p0.M).bind fun v15 =>
        (fit (x1.2.2.1 ++ v15.1).length 80).bind fun _ =>
        j3 (v15.2, (x1.2.2.1 ++ v15.1), v10)
    else
      some (.done (.nx (x1.2.1, x1.2.2.1)))) (0, ([] : _root_.List api_Wait), ([] : _root_.List api_Wait), (aset (fun _ => 0) []))).bind fun wn2 => Fl.elim wn2 (fun y19 =>
    (queue_Flush y19.1).bind fun v20 =>
    (fit (y19.2 ++ v20).length 80).bind fun _ =>
    some (y19.2 ++ v20)) (fun r => some r)

noncomputable def congresslaw22_all (p0 : congresslaw22_Play) : Option ((_root_.List api_Wait)) :=
  (loop (ω := Fl ((_root_.List api_Wait)) ((_root_.List api_Wait))) (fun (x1 : (_root_.List api_Wait) × Int × (Nat → Int)) =>
    if ((decide (x1.2.1 < (p0.L.length : Int))) && (decide (x1.2.1 < 60))) then
      jn (fun x14 : (_root_.List api_Wait) × (Nat → Int) =>
        some (.next (x14.1, (IntKind.i64.wrap (x1.2.1 + 1)), x14.2))) fun j3 =>
      (ib x1.2.1 p0.L.length).bind fun _ =>
      (ibg (!((decide (((p0.L.getD x1.2.1.toNat z_congresslaw22_Frame).From) < 0)) || (decide (((p0.L.getD x1.2.1.toNat z_congresslaw22_Frame).From) > 7)))) (iand .i64 ((p0.L.getD x1.2.1.toNat z_congresslaw22_Frame).From) 7) 8).bind fun _ =>
      (ibg (!(((decide (((p0.L.getD x1.2.1.toNat z_congresslaw22_Frame).From) < 0)) || (decide (((p0.L.getD x1.2.1.toNat z_congresslaw22_Frame).From) > 7))) || ((p0.M ((iand .i64 ((p0.L.getD x1.2.1.toNat z_congresslaw22_Frame).From) 7).toNat)) == 0))) (iand .i64 ((p0.L.getD x1.2.1.toNat z_congresslaw22_Frame).From) 7) 8).bind fun _ =>
      lt (((((decide (((p0.L.getD x1.2.1.toNat z_congresslaw22_Frame).From) < 0)) || (decide (((p0.L.getD x1.2.1.toNat z_congresslaw22_Frame).From) > 7))) || ((p0.M ((iand .i64 ((p0.L.getD x1.2.1.toNat z_congresslaw22_Frame).From) 7).toNat)) == 0)) || (((p0.L.getD x1.2.1.toNat z_congresslaw22_Frame).Round) != (IntKind.u32.wrap ((x1.2.2 ((iand .i64 ((p0.L.getD x1.2.1.toNat z_congresslaw22_Frame).From) 7).toNat)) + 1)))) : Bool) fun v7 =>
      if v7 then
        j3 (x1.1, x1.2.2)
      else
        (ib (iand .i64 ((p0.L.getD x1.2.1.toNat z_congresslaw22_Frame).From) 7) 8).bind fun _ =>
        (ib (iand .i64 ((p0.L.getD x1.2.1.toNat z_congresslaw22_Frame).From) 7) 8).bind fun _ =>
        lt (aupd x1.2.2 ((iand .i64 ((p0.L.getD x1.2.1.toNat z_congresslaw22_Frame).From) 7).toNat) (IntKind.u32.wrap ((x1.2.2 ((iand .i64 ((p0.L.getD x1.2.1.toNat z_congresslaw22_Frame).From) 7).toNat)) + 1)) : (Nat → Int)) fun v10 =>
        (sb 0 (if 4 < (((p0.L.getD x1.2.1.toNat z_congresslaw22_Frame).L).length : Int) then 4 else (((p0.L.getD x1.2.1.toNat z_congresslaw22_Frame).L).length : Int)) (((p0.L.getD x1.2.1.toNat z_congresslaw22_Frame).L).length)).bind fun _ =>
        (congressref22_Add x1.1 ((p0.L.getD x1.2.1.toNat z_congresslaw22_Frame).From) ((p0.L.getD x1.2.1.toNat z_congresslaw22_Frame).Round) ((((p0.L.getD x1.2.1.toNat z_congresslaw22_Frame).L).take ((if 4 < (((p0.L.getD x1.2.1.toNat z_congresslaw22_Frame).L).length : Int) then 4 else (((p0.L.getD x1.2.1.toNat z_congresslaw22_Frame).L).length : Int)).toNat)).drop 0)).bind fun v12 =>
        j3 (v12, v10)
    else
      some (.done (.nx (x1.1)))) (([] : _root_.List api_Wait), 0, (aset (fun _ => 0) []))).bind fun wn2 => Fl.elim wn2 (fun y15 =>
    some y15) (fun r => some r)

noncomputable def congresslaw22_QueueOrder (p0 : congresslaw22_Play) : Option (Bool) :=
  (congresslaw22_delivered p0).bind fun v1 =>
  (congresslaw22_all p0).bind fun v3 =>
  (congresslaw22_fixed).bind fun v5 =>
  if ((!v5) || ((v1.length : Int) != (v3.length : Int))) then
    some false
  else
    (loop (ω := Fl (Bool) (Unit)) (fun (x7 : (_root_.List api_Wait) × Bool × Int × api_Place) =>
      if (decide (x7.2.2.1 < (v1.length : Int))) then
        jn (fun x24 : Bool × api_Place =>
          some (.next (x7.1, x24.1, (IntKind.i64.wrap (x7.2.2.1 + 1)), x24.2))) fun j9 =>
        (ib x7.2.2.1 v1.length).bind fun _ =>
        (congressref22_Has x7.1 (v1.getD x7.2.2.1.toNat z_api_Wait)).bind fun v11 =>
        (sbg (!(!v11)) 0 x7.2.2.1 v1.length).bind fun _ =>
        (ibg (!(!v11)) x7.2.2.1 v1.length).bind fun _ =>
        (whn (!(!v11)) (congressref22_Has ((v1.take x7.2.2.1.toNat).drop 0) (v1.getD x7.2.2.1.toNat z_api_Wait)) false).bind fun v15 =>
        if ((!v11) || v15) then
          some (.done (.rt false))
        else
          (ib x7.2.2.1 v1.length).bind fun _ =>
          (congressref22_Ordered ((v1.getD x7.2.2.1.toNat z_api_Wait).Entry)).bind fun v18 =>
          if v18 then
            (ibg (!x7.2.1) x7.2.2.1 v1.length).bind fun _ =>
            (whn (!x7.2.1) (congressref09_Before x7.2.2.2 ((v1.getD x7.2.2.1.toNat z_api_Wait).Place)) false).bind fun v21 =>
            if ((!x7.2.1) && (!v21)) then
              some (.done (.rt false))
            else
              (ib x7.2.2.1 v1.length).bind fun _ =>
              j9 (false, (v1.getD x7.2.2.1.toNat z_api_Wait).Place)
          else
            j9 (x7.2.1, x7.2.2.2)
      else
        some (.done (.nx ()))) (v3, true, 0, ({ Round := 0, From := 0, Slot := 0 } : api_Place))).bind fun wn8 => Fl.elim wn8 (fun y25 =>
      some true) (fun r => some r)

noncomputable def congresslaw22_QueueFifo (p0 : congresslaw22_Play) : Option (Bool) :=
  (congresslaw22_delivered p0).bind fun v1 =>
  (loop (ω := Fl (Bool) (Unit)) (fun (x3 : Int) =>
    if (decide (x3 < (v1.length : Int))) then
      (loop (ω := Fl (Bool) (Unit)) (fun (x5 : Int) =>
        if (decide (x5 < x3)) then
          (ib x5 v1.length).bind fun _ =>
          (ib x3 v1.length).bind fun _ =>
          (whn ((((((v1.getD x5.toNat z_api_Wait).Place).From) == (((v1.getD x3.toNat z_api_Wait).Place).From)) && ((((v1.getD x5.toNat z_api_Wait).Entry).Service) == (((v1.getD x3.toNat z_api_Wait).Entry).Service))) && ((((v1.getD x5.toNat z_api_Wait).Entry).Kind) == (((v1.getD x3.toNat z_api_Wait).Entry).Kind))) (congressref09_Before ((v1.getD x5.toNat z_api_Wait).Place) ((v1.getD x3.toNat z_api_Wait).Place)) false).bind fun v9 =>
          lt ((((((((v1.getD x5.toNat z_api_Wait).Place).From) == (((v1.getD x3.toNat z_api_Wait).Place).From)) && ((((v1.getD x5.toNat z_api_Wait).Entry).Service) == (((v1.getD x3.toNat z_api_Wait).Entry).Service))) && ((((v1.getD x5.toNat z_api_Wait).Entry).Kind) == (((v1.getD x3.toNat z_api_Wait).Entry).Kind))) && (!v9)) : Bool) fun v11 =>
          if v11 then
            some (.done (.rt false))
          else
            lt (((((((((v1.getD x5.toNat z_api_Wait).Entry).Kind) == 1) && ((((v1.getD x3.toNat z_api_Wait).Entry).Kind) == 1)) && ((((v1.getD x5.toNat z_api_Wait).Entry).Service) == 1)) && (((((v1.getD x3.toNat z_api_Wait).Entry).Service) == 0) || ((((v1.getD x3.toNat z_api_Wait).Entry).Service) == 1))) && (decide ((((v1.getD x3.toNat z_api_Wait).Place).Round) < (((v1.getD x5.toNat z_api_Wait).Place).Round)))) : Bool) fun v12 =>
            if v12 then
              some (.done (.rt false))
            else
              some (.next ((IntKind.i64.wrap (x5 + 1))))
        else
          some (.done (.nx ()))) (0)).bind fun wn6 => Fl.elim wn6 (fun y13 =>
        some (.next ((IntKind.i64.wrap (x3 + 1))))) (fun r => some (.done (.rt r)))
    else
      some (.done (.nx ()))) (0)).bind fun wn4 => Fl.elim wn4 (fun y14 =>
    (congresslaw22_fixed).bind fun v15 =>
    some v15) (fun r => some r)

noncomputable def congresslaw22_QueueEnds (p0 : (_root_.List api_Wait)) (p1 : (Nat → Int)) : Option (Bool) :=
  (congresslaw22_fixed).bind fun v1 =>
  if ((!v1) || (decide ((p0.length : Int) > 100))) then
    (congresslaw22_fixed).bind fun v3 =>
    some v3
  else
    (loop (ω := Fl (Bool) (Unit)) (fun (x5 : Int) =>
      if (decide (x5 < (p0.length : Int))) then
        (ib x5 p0.length).bind fun _ =>
        (ibg (!((decide ((((p0.getD x5.toNat z_api_Wait).Place).From) < 0)) || (decide ((((p0.getD x5.toNat z_api_Wait).Place).From) > 7)))) (iand .i64 (((p0.getD x5.toNat z_api_Wait).Place).From) 7) 8).bind fun _ =>
        lt (((((((decide ((((p0.getD x5.toNat z_api_Wait).Place).From) < 0)) || (decide ((((p0.getD x5.toNat z_api_Wait).Place).From) > 7))) || ((p1 ((iand .i64 (((p0.getD x5.toNat z_api_Wait).Place).From) 7).toNat)) == 0)) || (decide ((((p0.getD x5.toNat z_api_Wait).Place).Round) < 1))) || (decide ((((p0.getD x5.toNat z_api_Wait).Place).Round) > 1000))) || (((((p0.getD x5.toNat z_api_Wait).Entry).Kind) == 1) && ((decide ((((p0.getD x5.toNat z_api_Wait).Entry).Service) < 0)) || (decide ((((p0.getD x5.toNat z_api_Wait).Entry).Service) > 3))))) : Bool) fun v9 =>
        if v9 then
          some (.done (.rt true))
        else
          some (.next ((IntKind.i64.wrap (x5 + 1))))
      else
        some (.done (.nx ()))) (0)).bind fun wn6 => Fl.elim wn6 (fun y10 =>
      (loop (ω := Fl (Bool) ((Nat → Int))) (fun (x11 : Int × (Nat → Int)) =>
        if (decide (x11.1 < 8)) then
          (ib x11.1 8).bind fun _ =>
          some (.next ((IntKind.i64.wrap (x11.1 + 1)), aupd x11.2 x11.1.toNat 1002))
        else
          some (.done (.nx (x11.2)))) (0, (aset (fun _ => 0) []))).bind fun wn12 => Fl.elim wn12 (fun y14 =>
        (queue_Ready p0 y14 p1).bind fun v15 =>
        (congressref22_Same v15.1 p0).bind fun v17 =>
        some (v17 && ((v15.2.length : Int) == 0))) (fun r => some r)) (fun r => some r)
end Go.Proofs.Ytclblogdciebnaa
