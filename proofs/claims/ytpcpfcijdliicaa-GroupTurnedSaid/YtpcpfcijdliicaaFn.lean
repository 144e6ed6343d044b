/- Printed by gen.py. Conditions: none. -/
import Derived.Test.YtpcpfcijdliicaaEngZ
import Derived.Test.YtpcpfcijdliicaaProg
import Derived.KernelRfl
set_option linter.unusedVariables false
set_option maxRecDepth 100000
namespace Go.Proofs.Ytpcpfcijdliicaa
open Go.Eng
structure api_Member where
  Group : Int
  Daemon : Int
  Session : Int
def z_api_Member : api_Member := { Group := 0, Daemon := 0, Session := 0 }
def c_api_Member (x : api_Member) : Nat → V
  | 0 => (.int .i64 x.Group)
  | 1 => (.int .i64 x.Daemon)
  | 2 => (.int .u64 x.Session)
  | _ => .bool false
def e_api_Member (x : api_Member) : V := .agg (.st [1, 1, 1]) (c_api_Member x)
theorem d_api_Member (x : api_Member) : (e_api_Member x).Data := fun j => match j with
  | 0 => trivial
  | 1 => trivial
  | 2 => trivial
  | _ + 3 => trivial
theorem f_api_Member (x : api_Member) : (e_api_Member x).Flat := fun j => match j with
  | 0 => trivial
  | 1 => trivial
  | 2 => trivial
  | _ + 3 => trivial
def b_api_Member (x y : api_Member) : Bool := (x.Group == y.Group) && ((x.Daemon == y.Daemon) && ((x.Session == y.Session)))
theorem q_api_Member (x y : api_Member) : eqV (e_api_Member x) (e_api_Member y) = b_api_Member x y := by
  have h : eqV (e_api_Member x) (e_api_Member y) = ((List.range 3).all fun j => eqV (c_api_Member x j) (c_api_Member y j)) := rfl
  have hr : List.range 3 = [0, 1, 2] := rfl
  rw [h, hr]
  simp only [List.all_cons, List.all_nil, Bool.and_true, c_api_Member, b_api_Member, eqV]
theorem al_api_Member (x y : api_Member) : Akin (e_api_Member x) (e_api_Member y) := .agg _ _ _ fun j h => match j, h with
  | 0, _ => .int _ _ _
  | 1, _ => .int _ _ _
  | 2, _ => .int _ _ _
  | n + 3, h => absurd (show n + 3 < 3 from h) (by omega)
theorem st_api_Member_0 (x : api_Member) (v : Int) : vupd (c_api_Member x) 0 (.int .i64 v) = c_api_Member { x with Group := v } := by
  funext j; match j with
  | 0 => rfl
  | 1 => rfl
  | 2 => rfl
  | _ + 3 => rfl
theorem st_api_Member_1 (x : api_Member) (v : Int) : vupd (c_api_Member x) 1 (.int .i64 v) = c_api_Member { x with Daemon := v } := by
  funext j; match j with
  | 0 => rfl
  | 1 => rfl
  | 2 => rfl
  | _ + 3 => rfl
theorem st_api_Member_2 (x : api_Member) (v : Int) : vupd (c_api_Member x) 2 (.int .u64 v) = c_api_Member { x with Session := v } := by
  funext j; match j with
  | 0 => rfl
  | 1 => rfl
  | 2 => rfl
  | _ + 3 => rfl
structure api_Entry where
  Kind : Int
  Service : Int
  Group : Int
  Session : Int
  Number : Int
  Text : ByteArray
def z_api_Entry : api_Entry := { Kind := 0, Service := 0, Group := 0, Session := 0, Number := 0, Text := ByteArray.empty }
def c_api_Entry (x : api_Entry) : Nat → V
  | 0 => (.int .i64 x.Kind)
  | 1 => (.int .i64 x.Service)
  | 2 => (.int .i64 x.Group)
  | 3 => (.int .u64 x.Session)
  | 4 => (.int .u64 x.Number)
  | 5 => (.str x.Text)
  | _ => .bool false
def e_api_Entry (x : api_Entry) : V := .agg (.st [1, 1, 1, 1, 1, 1]) (c_api_Entry x)
theorem d_api_Entry (x : api_Entry) : (e_api_Entry x).Data := fun j => match j with
  | 0 => trivial
  | 1 => trivial
  | 2 => trivial
  | 3 => trivial
  | 4 => trivial
  | 5 => trivial
  | _ + 6 => trivial
theorem f_api_Entry (x : api_Entry) : (e_api_Entry x).Flat := fun j => match j with
  | 0 => trivial
  | 1 => trivial
  | 2 => trivial
  | 3 => trivial
  | 4 => trivial
  | 5 => trivial
  | _ + 6 => trivial
def b_api_Entry (x y : api_Entry) : Bool := (x.Kind == y.Kind) && ((x.Service == y.Service) && ((x.Group == y.Group) && ((x.Session == y.Session) && ((x.Number == y.Number) && ((x.Text == y.Text))))))
theorem q_api_Entry (x y : api_Entry) : eqV (e_api_Entry x) (e_api_Entry y) = b_api_Entry x y := by
  have h : eqV (e_api_Entry x) (e_api_Entry y) = ((List.range 6).all fun j => eqV (c_api_Entry x j) (c_api_Entry y j)) := rfl
  have hr : List.range 6 = [0, 1, 2, 3, 4, 5] := rfl
  rw [h, hr]
  simp only [List.all_cons, List.all_nil, Bool.and_true, c_api_Entry, b_api_Entry, eqV]
theorem al_api_Entry (x y : api_Entry) : Akin (e_api_Entry x) (e_api_Entry y) := .agg _ _ _ fun j h => match j, h with
  | 0, _ => .int _ _ _
  | 1, _ => .int _ _ _
  | 2, _ => .int _ _ _
  | 3, _ => .int _ _ _
  | 4, _ => .int _ _ _
  | 5, _ => .str _ _
  | n + 6, h => absurd (show n + 6 < 6 from h) (by omega)
theorem st_api_Entry_0 (x : api_Entry) (v : Int) : vupd (c_api_Entry x) 0 (.int .i64 v) = c_api_Entry { x with Kind := v } := by
  funext j; match j with
  | 0 => rfl
  | 1 => rfl
  | 2 => rfl
  | 3 => rfl
  | 4 => rfl
  | 5 => rfl
  | _ + 6 => rfl
theorem st_api_Entry_1 (x : api_Entry) (v : Int) : vupd (c_api_Entry x) 1 (.int .i64 v) = c_api_Entry { x with Service := v } := by
  funext j; match j with
  | 0 => rfl
  | 1 => rfl
  | 2 => rfl
  | 3 => rfl
  | 4 => rfl
  | 5 => rfl
  | _ + 6 => rfl
theorem st_api_Entry_2 (x : api_Entry) (v : Int) : vupd (c_api_Entry x) 2 (.int .i64 v) = c_api_Entry { x with Group := v } := by
  funext j; match j with
  | 0 => rfl
  | 1 => rfl
  | 2 => rfl
  | 3 => rfl
  | 4 => rfl
  | 5 => rfl
  | _ + 6 => rfl
theorem st_api_Entry_3 (x : api_Entry) (v : Int) : vupd (c_api_Entry x) 3 (.int .u64 v) = c_api_Entry { x with Session := v } := by
  funext j; match j with
  | 0 => rfl
  | 1 => rfl
  | 2 => rfl
  | 3 => rfl
  | 4 => rfl
  | 5 => rfl
  | _ + 6 => rfl
theorem st_api_Entry_4 (x : api_Entry) (v : Int) : vupd (c_api_Entry x) 4 (.int .u64 v) = c_api_Entry { x with Number := v } := by
  funext j; match j with
  | 0 => rfl
  | 1 => rfl
  | 2 => rfl
  | 3 => rfl
  | 4 => rfl
  | 5 => rfl
  | _ + 6 => rfl
theorem st_api_Entry_5 (x : api_Entry) (v : ByteArray) : vupd (c_api_Entry x) 5 (.str v) = c_api_Entry { x with Text := v } := by
  funext j; match j with
  | 0 => rfl
  | 1 => rfl
  | 2 => rfl
  | 3 => rfl
  | 4 => rfl
  | 5 => rfl
  | _ + 6 => rfl
def e_a8_u32 (x : Nat → Int) : V := .agg (.ar 8 1) fun j => (.int .u32 (x j))
theorem d_a8_u32 (x : Nat → Int) : (e_a8_u32 x).Data := fun _ => trivial
theorem f_a8_u32 (x : Nat → Int) : (e_a8_u32 x).Flat := fun _ => trivial
def b_a8_u32 (x y : Nat → Int) : Bool := (List.range 8).all fun j => ((x j) == (y j))
theorem q_a8_u32 (x y : Nat → Int) : eqV (e_a8_u32 x) (e_a8_u32 y) = b_a8_u32 x y := by
  have h : eqV (e_a8_u32 x) (e_a8_u32 y) = ((List.range 8).all fun j => eqV (.int .u32 (x j)) (.int .u32 (y j))) := rfl
  rw [h]; simp only [b_a8_u32, eqV]
theorem al_a8_u32 (x y : Nat → Int) : Akin (e_a8_u32 x) (e_a8_u32 y) := .agg _ _ _ fun j _ => .int _ _ _
structure congresslaw18_Where where
  Daemon : Int
  Group : Int
  M : (Nat → Int)
def z_congresslaw18_Where : congresslaw18_Where := { Daemon := 0, Group := 0, M := (fun _ => 0) }
def c_congresslaw18_Where (x : congresslaw18_Where) : Nat → V
  | 0 => (.int .i64 x.Daemon)
  | 1 => (.int .i64 x.Group)
  | 2 => (e_a8_u32 x.M)
  | _ => .bool false
def e_congresslaw18_Where (x : congresslaw18_Where) : V := .agg (.st [1, 1, 8]) (c_congresslaw18_Where x)
theorem d_congresslaw18_Where (x : congresslaw18_Where) : (e_congresslaw18_Where x).Data := fun j => match j with
  | 0 => trivial
  | 1 => trivial
  | 2 => (d_a8_u32 x.M)
  | _ + 3 => trivial
theorem f_congresslaw18_Where (x : congresslaw18_Where) : (e_congresslaw18_Where x).Flat := fun j => match j with
  | 0 => trivial
  | 1 => trivial
  | 2 => (f_a8_u32 x.M)
  | _ + 3 => trivial
def b_congresslaw18_Where (x y : congresslaw18_Where) : Bool := (x.Daemon == y.Daemon) && ((x.Group == y.Group) && ((b_a8_u32 x.M y.M)))
theorem q_congresslaw18_Where (x y : congresslaw18_Where) : eqV (e_congresslaw18_Where x) (e_congresslaw18_Where y) = b_congresslaw18_Where x y := by
  have h : eqV (e_congresslaw18_Where x) (e_congresslaw18_Where y) = ((List.range 3).all fun j => eqV (c_congresslaw18_Where x j) (c_congresslaw18_Where y j)) := rfl
  have hr : List.range 3 = [0, 1, 2] := rfl
  rw [h, hr]
  simp only [List.all_cons, List.all_nil, Bool.and_true, c_congresslaw18_Where, b_congresslaw18_Where, eqV, q_a8_u32]
theorem al_congresslaw18_Where (x y : congresslaw18_Where) : Akin (e_congresslaw18_Where x) (e_congresslaw18_Where y) := .agg _ _ _ fun j h => match j, h with
  | 0, _ => .int _ _ _
  | 1, _ => .int _ _ _
  | 2, _ => al_a8_u32 _ _
  | n + 3, h => absurd (show n + 3 < 3 from h) (by omega)
theorem st_congresslaw18_Where_0 (x : congresslaw18_Where) (v : Int) : vupd (c_congresslaw18_Where x) 0 (.int .i64 v) = c_congresslaw18_Where { x with Daemon := v } := by
  funext j; match j with
  | 0 => rfl
  | 1 => rfl
  | 2 => rfl
  | _ + 3 => rfl
theorem st_congresslaw18_Where_1 (x : congresslaw18_Where) (v : Int) : vupd (c_congresslaw18_Where x) 1 (.int .i64 v) = c_congresslaw18_Where { x with Group := v } := by
  funext j; match j with
  | 0 => rfl
  | 1 => rfl
  | 2 => rfl
  | _ + 3 => rfl
theorem st_congresslaw18_Where_2 (x : congresslaw18_Where) (v : (Nat → Int)) : vupd (c_congresslaw18_Where x) 2 (e_a8_u32 v) = c_congresslaw18_Where { x with M := v } := by
  funext j; match j with
  | 0 => rfl
  | 1 => rfl
  | 2 => rfl
  | _ + 3 => rfl
def e_s_api_Member (x : _root_.List api_Member) : V := .sl 3 x.length fun j => (e_api_Member (x.getD j z_api_Member))
theorem d_s_api_Member (x : _root_.List api_Member) : (e_s_api_Member x).Data := fun j => (d_api_Member (x.getD j z_api_Member))
def e_s_i64 (x : _root_.List Int) : V := .sl 1 x.length fun j => (.int .i64 (x.getD j 0))
theorem d_s_i64 (x : _root_.List Int) : (e_s_i64 x).Data := fun _ => trivial
structure congresslaw18_Did where
  Daemon : Int
  E : api_Entry
def z_congresslaw18_Did : congresslaw18_Did := { Daemon := 0, E := z_api_Entry }
def c_congresslaw18_Did (x : congresslaw18_Did) : Nat → V
  | 0 => (.int .i64 x.Daemon)
  | 1 => (e_api_Entry x.E)
  | _ => .bool false
def e_congresslaw18_Did (x : congresslaw18_Did) : V := .agg (.st [1, 6]) (c_congresslaw18_Did x)
theorem d_congresslaw18_Did (x : congresslaw18_Did) : (e_congresslaw18_Did x).Data := fun j => match j with
  | 0 => trivial
  | 1 => (d_api_Entry x.E)
  | _ + 2 => trivial
theorem f_congresslaw18_Did (x : congresslaw18_Did) : (e_congresslaw18_Did x).Flat := fun j => match j with
  | 0 => trivial
  | 1 => (f_api_Entry x.E)
  | _ + 2 => trivial
def b_congresslaw18_Did (x y : congresslaw18_Did) : Bool := (x.Daemon == y.Daemon) && ((b_api_Entry x.E y.E))
theorem q_congresslaw18_Did (x y : congresslaw18_Did) : eqV (e_congresslaw18_Did x) (e_congresslaw18_Did y) = b_congresslaw18_Did x y := by
  have h : eqV (e_congresslaw18_Did x) (e_congresslaw18_Did y) = ((List.range 2).all fun j => eqV (c_congresslaw18_Did x j) (c_congresslaw18_Did y j)) := rfl
  have hr : List.range 2 = [0, 1] := rfl
  rw [h, hr]
  simp only [List.all_cons, List.all_nil, Bool.and_true, c_congresslaw18_Did, b_congresslaw18_Did, eqV, q_api_Entry]
theorem al_congresslaw18_Did (x y : congresslaw18_Did) : Akin (e_congresslaw18_Did x) (e_congresslaw18_Did y) := .agg _ _ _ fun j h => match j, h with
  | 0, _ => .int _ _ _
  | 1, _ => al_api_Entry _ _
  | n + 2, h => absurd (show n + 2 < 2 from h) (by omega)
theorem st_congresslaw18_Did_0 (x : congresslaw18_Did) (v : Int) : vupd (c_congresslaw18_Did x) 0 (.int .i64 v) = c_congresslaw18_Did { x with Daemon := v } := by
  funext j; match j with
  | 0 => rfl
  | 1 => rfl
  | _ + 2 => rfl
theorem st_congresslaw18_Did_1 (x : congresslaw18_Did) (v : api_Entry) : vupd (c_congresslaw18_Did x) 1 (e_api_Entry v) = c_congresslaw18_Did { x with E := v } := by
  funext j; match j with
  | 0 => rfl
  | 1 => rfl
  | _ + 2 => rfl

noncomputable def slices_Clone_api_Member_api_Member (p0 : (_root_.List api_Member)) : Option ((_root_.List api_Member)) :=
  nilq p0.length (
    some ([] : _root_.List api_Member)) (
    (fit (([] : _root_.List api_Member) ++ p0).length 24).bind fun _ =>
    some (([] : _root_.List api_Member) ++ p0))

noncomputable def slices_IndexFunc_api_Member_api_Member (p0 : (_root_.List api_Member)) (p1 : (api_Member → Option (Bool))) : Option (Int) :=
  (loop (ω := Fl (Int) (Unit)) (fun (x1 : Int) =>
    if (decide (x1 < (p0.length : Int))) then
      (ib x1 p0.length).bind fun _ =>
      (p1 (p0.getD x1.toNat z_api_Member)).bind fun v4 =>
      if v4 then
        some (.done (.rt x1))
      else
        some (.next ((IntKind.i64.wrap (x1 + 1))))
    else
      some (.done (.nx ()))) (0)).bind fun wn2 => Fl.elim wn2 (fun y6 =>
    some (-1)) (fun r => some r)

noncomputable def cmp_isNaN_int (p0 : Int) : Option (Bool) :=
  some (p0 != p0)

noncomputable def cmp_Compare_int (p0 : Int) (p1 : Int) : Option (Int) :=
  (cmp_isNaN_int p0).bind fun v1 =>
  (cmp_isNaN_int p1).bind fun v3 =>
  if v1 then
    if v3 then
      some 0
    else
      some (-1)
  else
    if v3 then
      some 1
    else
      if (decide (p0 < p1)) then
        some (-1)
      else
        if (decide (p0 > p1)) then
          some 1
        else
          some 0

noncomputable def cmp_isNaN_uint64 (p0 : Int) : Option (Bool) :=
  some (p0 != p0)

noncomputable def cmp_Compare_uint64 (p0 : Int) (p1 : Int) : Option (Int) :=
  (cmp_isNaN_uint64 p0).bind fun v1 =>
  (cmp_isNaN_uint64 p1).bind fun v3 =>
  if v1 then
    if v3 then
      some 0
    else
      some (-1)
  else
    if v3 then
      some 1
    else
      if (decide (p0 < p1)) then
        some (-1)
      else
        if (decide (p0 > p1)) then
          some 1
        else
          some 0

noncomputable def cmp_Or_int (p0 : (_root_.List Int)) : Option (Int) :=
  (loop (ω := Fl (Int) (Unit)) (fun (x1 : Int) =>
    if (decide (x1 < (p0.length : Int))) then
      (ib x1 p0.length).bind fun _ =>
      if ((p0.getD x1.toNat 0) != 0) then
        some (.done (.rt (p0.getD x1.toNat 0)))
      else
        some (.next ((IntKind.i64.wrap (x1 + 1))))
    else
      some (.done (.nx ()))) (0)).bind fun wn2 => Fl.elim wn2 (fun y4 =>
    some 0) (fun r => some r)

noncomputable def group_compare (p0 : api_Member) (p1 : api_Member) : Option (Int) :=
  (cmp_Compare_int p0.Group p1.Group).bind fun v1 =>
  (cmp_Compare_int p0.Daemon p1.Daemon).bind fun v3 =>
  (cmp_Compare_uint64 p0.Session p1.Session).bind fun v5 =>
  (cmp_Or_int ([v1, v3, v5] : _root_.List Int)).bind fun v7 =>
  some v7

noncomputable def group_Less (p0 : api_Member) (p1 : api_Member) : Option (Bool) :=
  (group_compare p0 p1).bind fun v1 =>
  some (decide (v1 < 0))

noncomputable def group_Apply_1 (p0 : api_Member) (q0 : api_Member) : Option (Bool) :=
  (group_Less p0 q0).bind fun v1 =>
  some (!v1)

noncomputable def slices_Index_api_Member_api_Member (p0 : (_root_.List api_Member)) (p1 : api_Member) : Option (Int) :=
  (loop (ω := Fl (Int) (Unit)) (fun (x1 : Int) =>
    if (decide (x1 < (p0.length : Int))) then
      (ib x1 p0.length).bind fun _ =>
      if (b_api_Member p1 (p0.getD x1.toNat z_api_Member)) then
        some (.done (.rt x1))
      else
        some (.next ((IntKind.i64.wrap (x1 + 1))))
    else
      some (.done (.nx ()))) (0)).bind fun wn2 => Fl.elim wn2 (fun y4 =>
    some (-1)) (fun r => some r)

noncomputable def slices_Contains_api_Member_api_Member (p0 : (_root_.List api_Member)) (p1 : api_Member) : Option (Bool) :=
  (slices_Index_api_Member_api_Member p0 p1).bind fun v1 =>
  some (decide (v1 ≥ 0))

noncomputable def group_right (p0 : api_Member) : Option (Bool) :=
  lt ((((((decide (p0.Group ≥ 0)) && (decide (p0.Group < 8))) && (decide (p0.Daemon ≥ 0))) && (decide (p0.Daemon < 8))) && (decide (p0.Session ≤ 65535))) : Bool) fun v1 =>
  some v1

noncomputable def slices_Insert_api_Member_api_Member (p0 : (_root_.List api_Member)) (p1 : Int) (p2 : (_root_.List api_Member)) : Option ((_root_.List api_Member)) :=
  (sb p1 ((p0.length : Nat) : Int) p0.length).bind fun _ =>
  if ((p2.length : Int) == 0) then
    some p0
  else
    if (p1 == (p0.length : Int)) then
      (fit (p0 ++ p2).length 24).bind fun _ =>
      some (p0 ++ p2)
    else
      bth (
        (sb 0 p1 p0.length).bind fun _ =>
        (inb (p1.toNat - 0) p0.length).bind fun _ =>
        (vz (p1.toNat - 0) (IntKind.i64.wrap ((IntKind.i64.wrap ((p0.length : Int) + (p2.length : Int))) - p1)) (IntKind.i64.wrap ((p0.length : Int) + (p2.length : Int))) 24).bind fun _ =>
        lt ((p0.take (p1.toNat - 0) ++ _root_.List.replicate (IntKind.i64.wrap ((IntKind.i64.wrap ((p0.length : Int) + (p2.length : Int))) - p1)).toNat z_api_Member) : _root_.List api_Member) fun v6 =>
        (sb p1 ((v6.length : Nat) : Int) v6.length).bind fun _ =>
        (inb (p1.toNat + min p2.length (v6.length - p1.toNat)) v6.length).bind fun _ =>
        (sb (IntKind.i64.wrap (p1 + (p2.length : Int))) (((ovl v6 p1.toNat (p2.take (v6.length - p1.toNat))).length : Nat) : Int) ((ovl v6 p1.toNat (p2.take (v6.length - p1.toNat))).length)).bind fun _ =>
        (sb p1 ((p0.length : Nat) : Int) p0.length).bind fun _ =>
        (inb (((IntKind.i64.wrap (p1 + (p2.length : Int))).toNat) + min (p0.length - p1.toNat) (((ovl v6 p1.toNat (p2.take (v6.length - p1.toNat))).length) - ((IntKind.i64.wrap (p1 + (p2.length : Int))).toNat))) (ovl v6 p1.toNat (p2.take (v6.length - p1.toNat))).length).bind fun _ =>
        (inb (p1.toNat + (p0.length - p1.toNat)) p0.length).bind fun _ =>
        lt ((ovl (ovl v6 p1.toNat (p2.take (v6.length - p1.toNat))) ((IntKind.i64.wrap (p1 + (p2.length : Int))).toNat) (((p0.drop p1.toNat).take (p0.length - p1.toNat)).take (((ovl v6 p1.toNat (p2.take (v6.length - p1.toNat))).length) - ((IntKind.i64.wrap (p1 + (p2.length : Int))).toNat)))) : _root_.List api_Member) fun v14 =>
        some v14) (
        (ile ((p0.length : Nat) : Int) (IntKind.i64.wrap ((p0.length : Int) + (p2.length : Int)))).bind fun _ =>
        (sb (IntKind.i64.wrap (p1 + (p2.length : Int))) ((((IntKind.i64.wrap ((p0.length : Int) + (p2.length : Int))).toNat) : Nat) : Int) ((IntKind.i64.wrap ((p0.length : Int) + (p2.length : Int))).toNat)).bind fun _ =>
        (inb (((IntKind.i64.wrap (p1 + (p2.length : Int))).toNat) + (((IntKind.i64.wrap ((p0.length : Int) + (p2.length : Int))).toNat) - ((IntKind.i64.wrap (p1 + (p2.length : Int))).toNat))) ((IntKind.i64.wrap ((p0.length : Int) + (p2.length : Int))).toNat)).bind fun _ =>
        (sb (IntKind.i64.wrap (p1 + (p2.length : Int))) ((((IntKind.i64.wrap ((p0.length : Int) + (p2.length : Int))).toNat) : Nat) : Int) ((IntKind.i64.wrap ((p0.length : Int) + (p2.length : Int))).toNat)).bind fun _ =>
        (sb p1 ((((IntKind.i64.wrap ((p0.length : Int) + (p2.length : Int))).toNat) : Nat) : Int) ((IntKind.i64.wrap ((p0.length : Int) + (p2.length : Int))).toNat)).bind fun _ =>
        (cup ((IntKind.i64.wrap (p1 + (p2.length : Int))).toNat) p0.length (min (((IntKind.i64.wrap ((p0.length : Int) + (p2.length : Int))).toNat) - p1.toNat) (((IntKind.i64.wrap ((p0.length : Int) + (p2.length : Int))).toNat) - ((IntKind.i64.wrap (p1 + (p2.length : Int))).toNat))) ((IntKind.i64.wrap ((p0.length : Int) + (p2.length : Int))).toNat) p1.toNat).bind fun _ =>
        lt ((p0.take ((IntKind.i64.wrap (p1 + (p2.length : Int))).toNat) ++ (p0.drop p1.toNat).take (min (((IntKind.i64.wrap ((p0.length : Int) + (p2.length : Int))).toNat) - p1.toNat) (((IntKind.i64.wrap ((p0.length : Int) + (p2.length : Int))).toNat) - ((IntKind.i64.wrap (p1 + (p2.length : Int))).toNat)))) : _root_.List api_Member) fun v22 =>
        (sb p1 ((v22.length : Nat) : Int) v22.length).bind fun _ =>
        (inb (p1.toNat + min p2.length (v22.length - p1.toNat)) v22.length).bind fun _ =>
        some (ovl v22 p1.toNat (p2.take (v22.length - p1.toNat))))

noncomputable def slices_DeleteFunc_api_Member_api_Member (p0 : (_root_.List api_Member)) (p1 : (api_Member → Option (Bool))) : Option ((_root_.List api_Member)) :=
  (slices_IndexFunc_api_Member_api_Member p0 p1).bind fun v1 =>
  if (v1 == (-1)) then
    some p0
  else
    (loop (ω := Fl ((_root_.List api_Member)) (Int × _root_.List api_Member)) (fun (x3 : Int × Int × _root_.List api_Member) =>
      if (decide (x3.2.1 < (x3.2.2.length : Int))) then
        jn (fun x10 : Int × _root_.List api_Member =>
          some (.next (x10.1, (IntKind.i64.wrap (x3.2.1 + 1)), x10.2))) fun j5 =>
        (ib x3.2.1 x3.2.2.length).bind fun _ =>
        (p1 (x3.2.2.getD x3.2.1.toNat z_api_Member)).bind fun v7 =>
        if (!v7) then
          (ib x3.1 x3.2.2.length).bind fun _ =>
          j5 ((IntKind.i64.wrap (x3.1 + 1)), x3.2.2.set x3.1.toNat (x3.2.2.getD x3.2.1.toNat z_api_Member))
        else
          j5 (x3.1, x3.2.2)
      else
        some (.done (.nx (x3.1, x3.2.2)))) (v1, (IntKind.i64.wrap (v1 + 1)), p0)).bind fun wn4 => Fl.elim wn4 (fun y11 =>
      (sb y11.1 ((y11.2.length : Nat) : Int) y11.2.length).bind fun _ =>
      (inb (y11.1.toNat + (y11.2.length - y11.1.toNat)) y11.2.length).bind fun _ =>
      (sb 0 y11.1 ((clr y11.2 z_api_Member y11.1.toNat (y11.2.length - y11.1.toNat)).length)).bind fun _ =>
      (inb (y11.1.toNat - 0) (clr y11.2 z_api_Member y11.1.toNat (y11.2.length - y11.1.toNat)).length).bind fun _ =>
      some ((clr y11.2 z_api_Member y11.1.toNat (y11.2.length - y11.1.toNat)).take (y11.1.toNat - 0))) (fun r => some r)

noncomputable def group_Apply_2 (p0 : api_Member) (q0 : api_Member) : Option (Bool) :=
  some (b_api_Member p0 q0)

noncomputable def group_Apply (p0 : (_root_.List api_Member)) (p1 : Int) (p2 : api_Entry) : Option ((_root_.List api_Member) × Bool) :=
  lt (({ Group := p2.Group, Daemon := p1, Session := p2.Session } : api_Member) : api_Member) fun v1 =>
  (slices_Clone_api_Member_api_Member p0).bind fun v2 =>
  (slices_IndexFunc_api_Member_api_Member v2 (fun z0 => group_Apply_1 z0 v1)).bind fun v4 =>
  jn (fun x7 : Int =>
    (slices_Contains_api_Member_api_Member v2 v1).bind fun v8 =>
    (group_right v1).bind fun v10 =>
    if (!v10) then
      some (v2, false)
    else
      if ((p2.Kind == 2) && (!v8)) then
        (slices_Insert_api_Member_api_Member v2 x7 ([v1] : _root_.List api_Member)).bind fun v12 =>
        some (v12, true)
      else
        if ((p2.Kind == 3) && v8) then
          (slices_DeleteFunc_api_Member_api_Member v2 (fun z0 => group_Apply_2 z0 v1)).bind fun v14 =>
          some (v14, true)
        else
          some (v2, false)) fun j6 =>
  if (decide (v4 < 0)) then
    j6 ((v2.length : Int))
  else
    j6 (v4)

noncomputable def congressref18_Right (p0 : api_Member) : Option (Bool) :=
  lt ((((((decide (p0.Group ≥ 0)) && (decide (p0.Group ≤ 7))) && (decide (p0.Daemon ≥ 0))) && (decide (p0.Daemon ≤ 7))) && (decide (p0.Session < 65536))) : Bool) fun v1 =>
  some v1

noncomputable def congressref18_Has (p0 : (_root_.List api_Member)) (p1 : api_Member) : Option (Bool) :=
  (loop (ω := Fl (Bool) (Unit)) (fun (x1 : Int) =>
    if (decide (x1 < (p0.length : Int))) then
      (ib x1 p0.length).bind fun _ =>
      if (b_api_Member (p0.getD x1.toNat z_api_Member) p1) then
        some (.done (.rt true))
      else
        some (.next ((IntKind.i64.wrap (x1 + 1))))
    else
      some (.done (.nx ()))) (0)).bind fun wn2 => Fl.elim wn2 (fun y4 =>
    some false) (fun r => some r)

noncomputable def congressref18_Less (p0 : api_Member) (p1 : api_Member) : Option (Bool) :=
  if (p0.Group != p1.Group) then
    some (decide (p0.Group < p1.Group))
  else
    if (p0.Daemon != p1.Daemon) then
      some (decide (p0.Daemon < p1.Daemon))
    else
      some (decide (p0.Session < p1.Session))

noncomputable def congressref18_Apply (p0 : (_root_.List api_Member)) (p1 : Int) (p2 : api_Entry) : Option ((_root_.List api_Member) × Bool) :=
  lt (({ Group := p2.Group, Daemon := p1, Session := p2.Session } : api_Member) : api_Member) fun v1 =>
  (congressref18_Right v1).bind fun v2 =>
  (whn (!((!v2) || ((p2.Kind != 2) && (p2.Kind != 3)))) (congressref18_Has p0 v1) false).bind fun v4 =>
  lt ((((!v2) || ((p2.Kind != 2) && (p2.Kind != 3))) || (v4 != (p2.Kind == 3))) : Bool) fun v6 =>
  if v6 then
    some (p0, false)
  else
    (loop (ω := Fl ((_root_.List api_Member) × Bool) (Bool × _root_.List api_Member)) (fun (x7 : Bool × Int × _root_.List api_Member) =>
      if (decide (x7.2.1 < (p0.length : Int))) then
        jn (fun x19 : Bool × _root_.List api_Member =>
          some (.next (x19.1, (IntKind.i64.wrap (x7.2.1 + 1)), x19.2))) fun j9 =>
        (ibg (!x7.1) x7.2.1 p0.length).bind fun _ =>
        (whn (!x7.1) (congressref18_Less (p0.getD x7.2.1.toNat z_api_Member) v1) false).bind fun v11 =>
        jn (fun x15 : Bool × _root_.List api_Member =>
          (ib x7.2.1 p0.length).bind fun _ =>
          if (!(b_api_Member (p0.getD x7.2.1.toNat z_api_Member) v1)) then
            (ib x7.2.1 p0.length).bind fun _ =>
            (fit (x15.2 ++ ([p0.getD x7.2.1.toNat z_api_Member] : _root_.List api_Member)).length 24).bind fun _ =>
            j9 (x15.1, (x15.2 ++ ([p0.getD x7.2.1.toNat z_api_Member] : _root_.List api_Member)))
          else
            j9 (x15.1, x15.2)) fun j13 =>
        if ((!x7.1) && (!v11)) then
          (fit (x7.2.2 ++ ([v1] : _root_.List api_Member)).length 24).bind fun _ =>
          j13 (true, (x7.2.2 ++ ([v1] : _root_.List api_Member)))
        else
          j13 (x7.1, x7.2.2)
      else
        some (.done (.nx (x7.1, x7.2.2)))) ((p2.Kind == 3), 0, ([] : _root_.List api_Member))).bind fun wn8 => Fl.elim wn8 (fun y20 =>
      jn (fun x23 : _root_.List api_Member =>
        some (x23, true)) fun j21 =>
      if (!y20.1) then
        (fit (y20.2 ++ ([v1] : _root_.List api_Member)).length 24).bind fun _ =>
        j21 ((y20.2 ++ ([v1] : _root_.List api_Member)))
      else
        j21 (y20.2)) (fun r => some r)

noncomputable def congresslaw18_join (p0 : Int) : Option (api_Entry) :=
  lt (({ Kind := 2, Service := 2, Group := 1, Session := p0, Number := 0, Text := ByteArray.empty } : api_Entry) : api_Entry) fun v1 =>
  some v1

noncomputable def group_those_1 (p0 : api_Member) (p100 : (api_Member → Option (Bool))) : Option (Bool) :=
  (p100 p0).bind fun v1 =>
  some (!v1)

noncomputable def group_those (p0 : (_root_.List api_Member)) (p1 : (api_Member → Option (Bool))) : Option ((_root_.List api_Member)) :=
  (slices_Clone_api_Member_api_Member p0).bind fun v1 =>
  (slices_DeleteFunc_api_Member_api_Member v1 (fun z0 => group_those_1 z0 p1)).bind fun v3 =>
  some v3

noncomputable def group_View_1 (p0 : api_Member) (q0 : Int) : Option (Bool) :=
  some (p0.Group == q0)

noncomputable def group_View (p0 : (_root_.List api_Member)) (p1 : Int) : Option ((_root_.List api_Member)) :=
  (group_those p0 (fun z0 => group_View_1 z0 p1)).bind fun v1 =>
  some v1

noncomputable def group_Keep_1 (p0 : api_Member) (q0 : (Nat → Int)) : Option (Bool) :=
  (ibg ((decide (p0.Daemon ≥ 0)) && (decide (p0.Daemon < 8))) p0.Daemon 8).bind fun _ =>
  lt ((((decide (p0.Daemon ≥ 0)) && (decide (p0.Daemon < 8))) && ((q0 p0.Daemon.toNat) != 0)) : Bool) fun v2 =>
  some v2

noncomputable def group_Keep (p0 : (_root_.List api_Member)) (p1 : (Nat → Int)) : Option ((_root_.List api_Member)) :=
  (group_those p0 (fun z0 => group_Keep_1 z0 p1)).bind fun v1 =>
  some v1

noncomputable def group_May (p0 : (_root_.List api_Member)) : Option (Bool) :=
  (loop (ω := Fl (Bool) (Unit)) (fun (x1 : Int) =>
    if (decide (x1 < (p0.length : Int))) then
      (ib x1 p0.length).bind fun _ =>
      (group_right (p0.getD x1.toNat z_api_Member)).bind fun v4 =>
      (ibg ((!(!v4)) && (decide (x1 > 0))) (IntKind.i64.wrap (x1 - 1)) p0.length).bind fun _ =>
      (whn ((!(!v4)) && (decide (x1 > 0))) (group_Less (p0.getD ((IntKind.i64.wrap (x1 - 1)).toNat) z_api_Member) (p0.getD x1.toNat z_api_Member)) false).bind fun v7 =>
      if ((!v4) || ((decide (x1 > 0)) && (!v7))) then
        some (.done (.rt false))
      else
        some (.next ((IntKind.i64.wrap (x1 + 1))))
    else
      some (.done (.nx ()))) (0)).bind fun wn2 => Fl.elim wn2 (fun y9 =>
    some true) (fun r => some r)

noncomputable def congresslaw18_fixed : Option (Bool) :=
  (congresslaw18_join 5).bind fun v1 =>
  (group_Apply [] 2 v1).bind fun v3 =>
  (congresslaw18_join 9).bind fun v5 =>
  (group_Apply v3.1 0 v5).bind fun v7 =>
  (congresslaw18_join 9).bind fun v9 =>
  (group_Apply v7.1 0 v9).bind fun v11 =>
  (group_View v7.1 1).bind fun v13 =>
  (group_Keep v7.1 (aset (fun _ => 0) [(0, 1)])).bind fun v15 =>
  (ibg (((v3.2 && v7.2) && (!v11.2)) && ((v13.length : Int) == 2)) 0 v13.length).bind fun _ =>
  (whn ((((v3.2 && v7.2) && (!v11.2)) && ((v13.length : Int) == 2)) && (b_api_Member (v13.getD 0 z_api_Member) ({ Group := 1, Daemon := 0, Session := 9 } : api_Member))) (group_View v7.1 0) []).bind fun v18 =>
  (whn ((((((v3.2 && v7.2) && (!v11.2)) && ((v13.length : Int) == 2)) && (b_api_Member (v13.getD 0 z_api_Member) ({ Group := 1, Daemon := 0, Session := 9 } : api_Member))) && ((v18.length : Int) == 0)) && ((v15.length : Int) == 1)) (group_May v7.1) false).bind fun v20 =>
  lt ((((((((v3.2 && v7.2) && (!v11.2)) && ((v13.length : Int) == 2)) && (b_api_Member (v13.getD 0 z_api_Member) ({ Group := 1, Daemon := 0, Session := 9 } : api_Member))) && ((v18.length : Int) == 0)) && ((v15.length : Int) == 1)) && v20) : Bool) fun v22 =>
  some v22

noncomputable def congressref18_Same (p0 : (_root_.List api_Member)) (p1 : (_root_.List api_Member)) : Option (Bool) :=
  if ((p0.length : Int) != (p1.length : Int)) then
    some false
  else
    (loop (ω := Fl (Bool) (Unit)) (fun (x1 : Int) =>
      if (decide (x1 < (p0.length : Int))) then
        (ib x1 p0.length).bind fun _ =>
        (ib x1 p1.length).bind fun _ =>
        lt ((!(b_api_Member (p0.getD x1.toNat z_api_Member) (p1.getD x1.toNat z_api_Member))) : Bool) fun v5 =>
        if v5 then
          some (.done (.rt false))
        else
          some (.next ((IntKind.i64.wrap (x1 + 1))))
      else
        some (.done (.nx ()))) (0)).bind fun wn2 => Fl.elim wn2 (fun y6 =>
      some true) (fun r => some r)

noncomputable def congressref18_View (p0 : (_root_.List api_Member)) (p1 : Int) : Option ((_root_.List api_Member)) :=
  (loop (ω := Fl ((_root_.List api_Member)) (_root_.List api_Member)) (fun (x1 : Int × _root_.List api_Member) =>
    if (decide (x1.1 < (p0.length : Int))) then
      jn (fun x7 : _root_.List api_Member =>
        some (.next ((IntKind.i64.wrap (x1.1 + 1)), x7))) fun j3 =>
      (ib x1.1 p0.length).bind fun _ =>
      if (((p0.getD x1.1.toNat z_api_Member).Group) == p1) then
        (ib x1.1 p0.length).bind fun _ =>
        (fit (x1.2 ++ ([p0.getD x1.1.toNat z_api_Member] : _root_.List api_Member)).length 24).bind fun _ =>
        j3 ((x1.2 ++ ([p0.getD x1.1.toNat z_api_Member] : _root_.List api_Member)))
      else
        j3 (x1.2)
    else
      some (.done (.nx (x1.2)))) (0, ([] : _root_.List api_Member))).bind fun wn2 => Fl.elim wn2 (fun y8 =>
    some y8) (fun r => some r)

noncomputable def congressref18_Keep (p0 : (_root_.List api_Member)) (p1 : (Nat → Int)) : Option ((_root_.List api_Member)) :=
  (loop (ω := Fl ((_root_.List api_Member)) (_root_.List api_Member)) (fun (x1 : Int × _root_.List api_Member) =>
    if (decide (x1.1 < (p0.length : Int))) then
      jn (fun x9 : _root_.List api_Member =>
        some (.next ((IntKind.i64.wrap (x1.1 + 1)), x9))) fun j3 =>
      (ib x1.1 p0.length).bind fun _ =>
      (ibg ((decide (((p0.getD x1.1.toNat z_api_Member).Daemon) ≥ 0)) && (decide (((p0.getD x1.1.toNat z_api_Member).Daemon) ≤ 7))) (iand .i64 ((p0.getD x1.1.toNat z_api_Member).Daemon) 7) 8).bind fun _ =>
      lt ((((decide (((p0.getD x1.1.toNat z_api_Member).Daemon) ≥ 0)) && (decide (((p0.getD x1.1.toNat z_api_Member).Daemon) ≤ 7))) && ((p1 ((iand .i64 ((p0.getD x1.1.toNat z_api_Member).Daemon) 7).toNat)) != 0)) : Bool) fun v6 =>
      if v6 then
        (ib x1.1 p0.length).bind fun _ =>
        (fit (x1.2 ++ ([p0.getD x1.1.toNat z_api_Member] : _root_.List api_Member)).length 24).bind fun _ =>
        j3 ((x1.2 ++ ([p0.getD x1.1.toNat z_api_Member] : _root_.List api_Member)))
      else
        j3 (x1.2)
    else
      some (.done (.nx (x1.2)))) (0, ([] : _root_.List api_Member))).bind fun wn2 => Fl.elim wn2 (fun y10 =>
    some y10) (fun r => some r)

noncomputable def congressref18_May (p0 : (_root_.List api_Member)) : Option (Bool) :=
  (loop (ω := Fl (Bool) (Unit)) (fun (x1 : Int) =>
    if (decide (x1 < (p0.length : Int))) then
      (ib x1 p0.length).bind fun _ =>
      (congressref18_Right (p0.getD x1.toNat z_api_Member)).bind fun v4 =>
      (ibg ((!(!v4)) && (decide (x1 > 0))) (IntKind.i64.wrap (x1 - 1)) p0.length).bind fun _ =>
      (ibg ((!(!v4)) && (decide (x1 > 0))) x1 p0.length).bind fun _ =>
      (whn ((!(!v4)) && (decide (x1 > 0))) (congressref18_Less (p0.getD ((IntKind.i64.wrap (x1 - 1)).toNat) z_api_Member) (p0.getD x1.toNat z_api_Member)) false).bind fun v8 =>
      if ((!v4) || ((decide (x1 > 0)) && (!v8))) then
        some (.done (.rt false))
      else
        some (.next ((IntKind.i64.wrap (x1 + 1))))
    else
      some (.done (.nx ()))) (0)).bind fun wn2 => Fl.elim wn2 (fun y10 =>
    some true) (fun r => some r)

noncomputable def congresslaw18_GroupTells (p0 : (_root_.List api_Member)) (p1 : api_Entry) (p2 : congresslaw18_Where) : Option (Bool) :=
  (group_Apply p0 p2.Daemon p1).bind fun v1 =>
  (congressref18_Apply p0 p2.Daemon p1).bind fun v3 =>
  (ibg (!(decide ((p0.length : Int) < 2))) 0 p0.length).bind fun _ =>
  (ibg (!(decide ((p0.length : Int) < 2))) 1 p0.length).bind fun _ =>
  (whn (!(decide ((p0.length : Int) < 2))) (group_Less (p0.getD 0 z_api_Member) (p0.getD 1 z_api_Member)) false).bind fun v7 =>
  (ibg (!(decide ((p0.length : Int) < 2))) 0 p0.length).bind fun _ =>
  (ibg (!(decide ((p0.length : Int) < 2))) 1 p0.length).bind fun _ =>
  (whn (!(decide ((p0.length : Int) < 2))) (congressref18_Less (p0.getD 0 z_api_Member) (p0.getD 1 z_api_Member)) false).bind fun v11 =>
  (congresslaw18_fixed).bind fun v13 =>
  (whn v13 (congressref18_Same v1.1 v3.1) false).bind fun v15 =>
  (whn ((v13 && v15) && (v1.2 == v3.2)) (group_View p0 p2.Group) []).bind fun v17 =>
  (whn ((v13 && v15) && (v1.2 == v3.2)) (congressref18_View p0 p2.Group) []).bind fun v19 =>
  (whn ((v13 && v15) && (v1.2 == v3.2)) (congressref18_Same v17 v19) false).bind fun v21 =>
  (whn (((v13 && v15) && (v1.2 == v3.2)) && v21) (group_Keep p0 p2.M) []).bind fun v23 =>
  (whn (((v13 && v15) && (v1.2 == v3.2)) && v21) (congressref18_Keep p0 p2.M) []).bind fun v25 =>
  (whn (((v13 && v15) && (v1.2 == v3.2)) && v21) (congressref18_Same v23 v25) false).bind fun v27 =>
  (whn ((((v13 && v15) && (v1.2 == v3.2)) && v21) && v27) (group_May p0) false).bind fun v29 =>
  (whn ((((v13 && v15) && (v1.2 == v3.2)) && v21) && v27) (congressref18_May p0) false).bind fun v31 =>
  lt (((((((v13 && v15) && (v1.2 == v3.2)) && v21) && v27) && (v29 == v31)) && ((decide ((p0.length : Int) < 2)) || (v7 == v11))) : Bool) fun v33 =>
  some v33

noncomputable def congresslaw18_GroupStays (p0 : (_root_.List api_Member)) (p1 : api_Entry) (p2 : Int) : Option (Bool) :=
  (congresslaw18_fixed).bind fun v1 =>
  (whn (!(!v1)) (group_May p0) false).bind fun v3 =>
  if ((!v1) || (!v3)) then
    (congresslaw18_fixed).bind fun v5 =>
    some v5
  else
    (group_Apply p0 p2 p1).bind fun v7 =>
    lt (({ Group := p1.Group, Daemon := p2, Session := p1.Session } : api_Member) : api_Member) fun v9 =>
    (group_May v7.1).bind fun v10 =>
    (whn ((!(!v10)) && (!v7.2)) (congressref18_Same v7.1 p0) false).bind fun v12 =>
    if ((!v10) || ((!v7.2) && (!v12))) then
      some false
    else
      (whn v7.2 (congressref18_Has v7.1 v9) false).bind fun v14 =>
      (whn ((!(v7.2 && (v14 != (p1.Kind == 2)))) && v7.2) (congressref18_Has p0 v9) false).bind fun v16 =>
      lt (((v7.2 && (v14 != (p1.Kind == 2))) || (v7.2 && (v16 == (p1.Kind == 2)))) : Bool) fun v18 =>
      if v18 then
        some false
      else
        (loop (ω := Fl (Bool) (Unit)) (fun (x19 : Int) =>
          if (decide (x19 < (p0.length : Int))) then
            (ib x19 p0.length).bind fun _ =>
            (ibg (!(b_api_Member (p0.getD x19.toNat z_api_Member) v9)) x19 p0.length).bind fun _ =>
            (whn (!(b_api_Member (p0.getD x19.toNat z_api_Member) v9)) (congressref18_Has v7.1 (p0.getD x19.toNat z_api_Member)) false).bind fun v23 =>
            if ((!(b_api_Member (p0.getD x19.toNat z_api_Member) v9)) && (!v23)) then
              some (.done (.rt false))
            else
              some (.next ((IntKind.i64.wrap (x19 + 1))))
          else
            some (.done (.nx ()))) (0)).bind fun wn20 => Fl.elim wn20 (fun y25 =>
          (group_Apply v7.1 p2 p1).bind fun v26 =>
          jn (fun x29 : Int =>
            jn (fun x31 : Int =>
              (whn (!v26.2) (congressref18_Same v7.1 v26.1) false).bind fun v32 =>
              (whn (((!v26.2) && v32) && ((v7.1.length : Int) == x31)) (group_Keep v7.1 (aset (fun _ => 0) [(0, 1), (1, 0), (2, 1)])) []).bind fun v34 =>
              (whn (((!v26.2) && v32) && ((v7.1.length : Int) == x31)) (group_May v34) false).bind fun v36 =>
              some ((((!v26.2) && v32) && ((v7.1.length : Int) == x31)) && v36)) fun j30 =>
            if (v7.2 && (p1.Kind == 3)) then
              j30 ((IntKind.i64.wrap (x29 - 1)))
            else
              j30 (x29)) fun j28 =>
          if (v7.2 && (p1.Kind == 2)) then
            j28 ((IntKind.i64.wrap ((p0.length : Int) + 1)))
          else
            j28 ((p0.length : Int))) (fun r => some r)

noncomputable def congresslaw18_GroupTurned (p0 : (_root_.List api_Member)) (p1 : congresslaw18_Did) (p2 : congresslaw18_Did) : Option (Bool) :=
  (congresslaw18_fixed).bind fun v1 =>
  (whn (!(!v1)) (group_May p0) false).bind fun v3 =>
  if ((!v1) || (!v3)) then
    (congresslaw18_fixed).bind fun v5 =>
    some v5
  else
    lt (({ Group := p1.E.Group, Daemon := p1.Daemon, Session := p1.E.Session } : api_Member) : api_Member) fun v7 =>
    lt (({ Group := p2.E.Group, Daemon := p2.Daemon, Session := p2.E.Session } : api_Member) : api_Member) fun v8 =>
    (group_Apply p0 p1.Daemon p1.E).bind fun v9 =>
    (loop (ω := Fl (Bool) (Unit)) (fun (x11 : Int) =>
      if (decide (x11 < 9)) then
        (whn (x11 != p1.E.Group) (group_View v9.1 x11) []).bind fun v13 =>
        (whn (x11 != p1.E.Group) (group_View p0 x11) []).bind fun v15 =>
        (whn (x11 != p1.E.Group) (congressref18_Same v13 v15) false).bind fun v17 =>
        if ((x11 != p1.E.Group) && (!v17)) then
          some (.done (.rt false))
        else
          some (.next ((IntKind.i64.wrap (x11 + 1))))
      else
        some (.done (.nx ()))) ((-1))).bind fun wn12 => Fl.elim wn12 (fun y19 =>
      (group_Apply v9.1 p2.Daemon p2.E).bind fun v20 =>
      (group_Apply p0 p2.Daemon p2.E).bind fun v22 =>
      (group_Apply v22.1 p1.Daemon p1.E).bind fun v24 =>
      (whn (!(b_api_Member v7 v8)) (congressref18_Same v20.1 v24.1) false).bind fun v26 =>
      some ((b_api_Member v7 v8) || v26)) (fun r => some r)

noncomputable def congresslaw18_GroupKeeps (p0 : (_root_.List api_Member)) (p1 : (Nat → Int)) (p2 : (Nat → Int)) : Option (Bool) :=
  (loop (ω := Fl (Bool) ((Nat → Int))) (fun (x1 : Int × (Nat → Int)) =>
    if (decide (x1.1 < 8)) then
      jn (fun x7 : (Nat → Int) =>
        some (.next ((IntKind.i64.wrap (x1.1 + 1)), x7))) fun j3 =>
      (ib x1.1 8).bind fun _ =>
      if ((p2 x1.1.toNat) != 0) then
        (ib x1.1 8).bind fun _ =>
        (ib x1.1 8).bind fun _ =>
        j3 (aupd x1.2 x1.1.toNat (p1 x1.1.toNat))
      else
        j3 (x1.2)
    else
      some (.done (.nx (x1.2)))) (0, (aset (fun _ => 0) []))).bind fun wn2 => Fl.elim wn2 (fun y8 =>
    (congresslaw18_fixed).bind fun v9 =>
    (whn (!(!v9)) (group_Keep p0 p1) []).bind fun v11 =>
    (whn (!(!v9)) (group_Keep v11 p2) []).bind fun v13 =>
    (whn (!(!v9)) (group_Keep p0 y8) []).bind fun v15 =>
    (whn (!(!v9)) (congressref18_Same v13 v15) false).bind fun v17 =>
    if ((!v9) || (!v17)) then
      some false
    else
      (loop (ω := Fl (Bool) (Unit)) (fun (x19 : Int) =>
        if (decide (x19 < 8)) then
          (group_Keep p0 p1).bind fun v21 =>
          (group_View v21 x19).bind fun v23 =>
          (group_View p0 x19).bind fun v25 =>
          (group_Keep v25 p1).bind fun v27 =>
          (congressref18_Same v23 v27).bind fun v29 =>
          if (!v29) then
            some (.done (.rt false))
          else
            some (.next ((IntKind.i64.wrap (x19 + 1))))
        else
          some (.done (.nx ()))) (0)).bind fun wn20 => Fl.elim wn20 (fun y31 =>
        some true) (fun r => some r)) (fun r => some r)
end Go.Proofs.Ytpcpfcijdliicaa
