/- Printed by gen.py. Conditions: none. -/
import Derived.Test.YthkgpbjgkchilaaEngQ
import Derived.Test.YthkgpbjgkchilaaProg
import Derived.KernelRfl
set_option linter.unusedVariables false
set_option maxRecDepth 100000
namespace Go.Proofs.Ythkgpbjgkchilaa
open Go.Eng
structure api_Id where
  Epoch : Int
  Coord : Int
  Inc : Int
def z_api_Id : api_Id := { Epoch := 0, Coord := 0, Inc := 0 }
def c_api_Id (x : api_Id) : Nat → V
  | 0 => (.int .u32 x.Epoch)
  | 1 => (.int .u32 x.Coord)
  | 2 => (.int .u32 x.Inc)
  | _ => .bool false
def e_api_Id (x : api_Id) : V := .agg (.st [1, 1, 1]) (c_api_Id x)
theorem d_api_Id (x : api_Id) : (e_api_Id x).Data := fun j => match j with
  | 0 => trivial
  | 1 => trivial
  | 2 => trivial
  | _ + 3 => trivial
theorem f_api_Id (x : api_Id) : (e_api_Id x).Flat := fun j => match j with
  | 0 => trivial
  | 1 => trivial
  | 2 => trivial
  | _ + 3 => trivial
def b_api_Id (x y : api_Id) : Bool := (x.Epoch == y.Epoch) && ((x.Coord == y.Coord) && ((x.Inc == y.Inc)))
theorem q_api_Id (x y : api_Id) : eqV (e_api_Id x) (e_api_Id y) = b_api_Id x y := by
  have h : eqV (e_api_Id x) (e_api_Id y) = ((List.range 3).all fun j => eqV (c_api_Id x j) (c_api_Id y j)) := rfl
  have hr : List.range 3 = [0, 1, 2] := rfl
  rw [h, hr]
  simp only [List.all_cons, List.all_nil, Bool.and_true, c_api_Id, b_api_Id, eqV]
theorem al_api_Id (x y : api_Id) : Akin (e_api_Id x) (e_api_Id y) := .agg _ _ _ fun j h => match j, h with
  | 0, _ => .int _ _ _
  | 1, _ => .int _ _ _
  | 2, _ => .int _ _ _
  | n + 3, h => absurd (show n + 3 < 3 from h) (by omega)
theorem st_api_Id_0 (x : api_Id) (v : Int) : vupd (c_api_Id x) 0 (.int .u32 v) = c_api_Id { x with Epoch := v } := by
  funext j; match j with
  | 0 => rfl
  | 1 => rfl
  | 2 => rfl
  | _ + 3 => rfl
theorem st_api_Id_1 (x : api_Id) (v : Int) : vupd (c_api_Id x) 1 (.int .u32 v) = c_api_Id { x with Coord := v } := by
  funext j; match j with
  | 0 => rfl
  | 1 => rfl
  | 2 => rfl
  | _ + 3 => rfl
theorem st_api_Id_2 (x : api_Id) (v : Int) : vupd (c_api_Id x) 2 (.int .u32 v) = c_api_Id { x with Inc := v } := by
  funext j; match j with
  | 0 => rfl
  | 1 => rfl
  | 2 => rfl
  | _ + 3 => rfl
def e_s_i64 (x : _root_.List Int) : V := .sl 1 x.length fun j => (.int .i64 (x.getD j 0))
theorem d_s_i64 (x : _root_.List Int) : (e_s_i64 x).Data := fun _ => trivial
def e_a8_u32 (x : Nat → Int) : V := .agg (.ar 8 1) fun j => (.int .u32 (x j))
theorem d_a8_u32 (x : Nat → Int) : (e_a8_u32 x).Data := fun _ => trivial
theorem f_a8_u32 (x : Nat → Int) : (e_a8_u32 x).Flat := fun _ => trivial
def b_a8_u32 (x y : Nat → Int) : Bool := (List.range 8).all fun j => ((x j) == (y j))
theorem q_a8_u32 (x y : Nat → Int) : eqV (e_a8_u32 x) (e_a8_u32 y) = b_a8_u32 x y := by
  have h : eqV (e_a8_u32 x) (e_a8_u32 y) = ((List.range 8).all fun j => eqV (.int .u32 (x j)) (.int .u32 (y j))) := rfl
  rw [h]; simp only [b_a8_u32, eqV]
theorem al_a8_u32 (x y : Nat → Int) : Akin (e_a8_u32 x) (e_a8_u32 y) := .agg _ _ _ fun j _ => .int _ _ _
def e_s_api_Id (x : _root_.List api_Id) : V := .sl 3 x.length fun j => (e_api_Id (x.getD j z_api_Id))
theorem d_s_api_Id (x : _root_.List api_Id) : (e_s_api_Id x).Data := fun j => (d_api_Id (x.getD j z_api_Id))
structure congresslaw07_Two where
  M : (Nat → Int)
  N : (Nat → Int)
  I : Int
  Inc : Int
def z_congresslaw07_Two : congresslaw07_Two := { M := (fun _ => 0), N := (fun _ => 0), I := 0, Inc := 0 }
def c_congresslaw07_Two (x : congresslaw07_Two) : Nat → V
  | 0 => (e_a8_u32 x.M)
  | 1 => (e_a8_u32 x.N)
  | 2 => (.int .i64 x.I)
  | 3 => (.int .u32 x.Inc)
  | _ => .bool false
def e_congresslaw07_Two (x : congresslaw07_Two) : V := .agg (.st [8, 8, 1, 1]) (c_congresslaw07_Two x)
theorem d_congresslaw07_Two (x : congresslaw07_Two) : (e_congresslaw07_Two x).Data := fun j => match j with
  | 0 => (d_a8_u32 x.M)
  | 1 => (d_a8_u32 x.N)
  | 2 => trivial
  | 3 => trivial
  | _ + 4 => trivial
theorem f_congresslaw07_Two (x : congresslaw07_Two) : (e_congresslaw07_Two x).Flat := fun j => match j with
  | 0 => (f_a8_u32 x.M)
  | 1 => (f_a8_u32 x.N)
  | 2 => trivial
  | 3 => trivial
  | _ + 4 => trivial
def b_congresslaw07_Two (x y : congresslaw07_Two) : Bool := (b_a8_u32 x.M y.M) && ((b_a8_u32 x.N y.N) && ((x.I == y.I) && ((x.Inc == y.Inc))))
theorem q_congresslaw07_Two (x y : congresslaw07_Two) : eqV (e_congresslaw07_Two x) (e_congresslaw07_Two y) = b_congresslaw07_Two x y := by
  have h : eqV (e_congresslaw07_Two x) (e_congresslaw07_Two y) = ((List.range 4).all fun j => eqV (c_congresslaw07_Two x j) (c_congresslaw07_Two y j)) := rfl
  have hr : List.range 4 = [0, 1, 2, 3] := rfl
  rw [h, hr]
  simp only [List.all_cons, List.all_nil, Bool.and_true, c_congresslaw07_Two, b_congresslaw07_Two, eqV, q_a8_u32]
theorem al_congresslaw07_Two (x y : congresslaw07_Two) : Akin (e_congresslaw07_Two x) (e_congresslaw07_Two y) := .agg _ _ _ fun j h => match j, h with
  | 0, _ => al_a8_u32 _ _
  | 1, _ => al_a8_u32 _ _
  | 2, _ => .int _ _ _
  | 3, _ => .int _ _ _
  | n + 4, h => absurd (show n + 4 < 4 from h) (by omega)
theorem st_congresslaw07_Two_0 (x : congresslaw07_Two) (v : (Nat → Int)) : vupd (c_congresslaw07_Two x) 0 (e_a8_u32 v) = c_congresslaw07_Two { x with M := v } := by
  funext j; match j with
  | 0 => rfl
  | 1 => rfl
  | 2 => rfl
  | 3 => rfl
  | _ + 4 => rfl
theorem st_congresslaw07_Two_1 (x : congresslaw07_Two) (v : (Nat → Int)) : vupd (c_congresslaw07_Two x) 1 (e_a8_u32 v) = c_congresslaw07_Two { x with N := v } := by
  funext j; match j with
  | 0 => rfl
  | 1 => rfl
  | 2 => rfl
  | 3 => rfl
  | _ + 4 => rfl
theorem st_congresslaw07_Two_2 (x : congresslaw07_Two) (v : Int) : vupd (c_congresslaw07_Two x) 2 (.int .i64 v) = c_congresslaw07_Two { x with I := v } := by
  funext j; match j with
  | 0 => rfl
  | 1 => rfl
  | 2 => rfl
  | 3 => rfl
  | _ + 4 => rfl
theorem st_congresslaw07_Two_3 (x : congresslaw07_Two) (v : Int) : vupd (c_congresslaw07_Two x) 3 (.int .u32 v) = c_congresslaw07_Two { x with Inc := v } := by
  funext j; match j with
  | 0 => rfl
  | 1 => rfl
  | 2 => rfl
  | 3 => rfl
  | _ + 4 => rfl
def e_a3_u32 (x : Nat → Int) : V := .agg (.ar 3 1) fun j => (.int .u32 (x j))
theorem d_a3_u32 (x : Nat → Int) : (e_a3_u32 x).Data := fun _ => trivial
theorem f_a3_u32 (x : Nat → Int) : (e_a3_u32 x).Flat := fun _ => trivial
def b_a3_u32 (x y : Nat → Int) : Bool := (List.range 3).all fun j => ((x j) == (y j))
theorem q_a3_u32 (x y : Nat → Int) : eqV (e_a3_u32 x) (e_a3_u32 y) = b_a3_u32 x y := by
  have h : eqV (e_a3_u32 x) (e_a3_u32 y) = ((List.range 3).all fun j => eqV (.int .u32 (x j)) (.int .u32 (y j))) := rfl
  rw [h]; simp only [b_a3_u32, eqV]
theorem al_a3_u32 (x y : Nat → Int) : Akin (e_a3_u32 x) (e_a3_u32 y) := .agg _ _ _ fun j _ => .int _ _ _

noncomputable def cmp_isNaN_uint32 (p0 : Int) : Option (Bool) :=
  some (p0 != p0)

noncomputable def cmp_Compare_uint32 (p0 : Int) (p1 : Int) : Option (Int) :=
  (cmp_isNaN_uint32 p0).bind fun v1 =>
  (cmp_isNaN_uint32 p1).bind fun v3 =>
  if v1 then
    if v3 then
      some 0
    else
      some (-1)
  else
    if v3 then
      some 1
    else
      if (decide (p0 < p1)) then
        some (-1)
      else
        if (decide (p0 > p1)) then
          some 1
        else
          some 0

noncomputable def cmp_Or_int (p0 : (_root_.List Int)) : Option (Int) :=
  (loop (ω := Fl (Int) (Unit)) (fun (x1 : Int) =>
    if (decide (x1 < (p0.length : Int))) then
      (ib x1 p0.length).bind fun _ =>
      if ((p0.getD x1.toNat 0) != 0) then
        some (.done (.rt (p0.getD x1.toNat 0)))
      else
        some (.next ((IntKind.i64.wrap (x1 + 1))))
    else
      some (.done (.nx ()))) (0)).bind fun wn2 => Fl.elim wn2 (fun y4 =>
    some 0) (fun r => some r)

noncomputable def ident_Compare (p0 : api_Id) (p1 : api_Id) : Option (Int) :=
  (cmp_Compare_uint32 p0.Epoch p1.Epoch).bind fun v1 =>
  (cmp_Compare_uint32 p0.Coord p1.Coord).bind fun v3 =>
  (cmp_Compare_uint32 p0.Inc p1.Inc).bind fun v5 =>
  (cmp_Or_int ([v1, v3, v5] : _root_.List Int)).bind fun v7 =>
  some v7

noncomputable def ident_List (p0 : (Nat → Int)) : Option ((_root_.List Int)) :=
  (loop (ω := Fl ((_root_.List Int)) (_root_.List Int)) (fun (x1 : Int × _root_.List Int) =>
    if (decide (x1.1 < 8)) then
      jn (fun x6 : _root_.List Int =>
        some (.next ((IntKind.i64.wrap (x1.1 + 1)), x6))) fun j3 =>
      (ib x1.1 8).bind fun _ =>
      if ((p0 x1.1.toNat) != 0) then
        (fit (x1.2 ++ ([x1.1] : _root_.List Int)).length 8).bind fun _ =>
        j3 ((x1.2 ++ ([x1.1] : _root_.List Int)))
      else
        j3 (x1.2)
    else
      some (.done (.nx (x1.2)))) (0, ([] : _root_.List Int))).bind fun wn2 => Fl.elim wn2 (fun y7 =>
    some y7) (fun r => some r)

noncomputable def ident_Least (p0 : (Nat → Int)) : Option (Int × Bool) :=
  (ident_List p0).bind fun v1 =>
  if ((v1.length : Int) == 0) then
    some (0, false)
  else
    (ib 0 v1.length).bind fun _ =>
    some (v1.getD 0 0, true)

noncomputable def ident_Highest (p0 : (_root_.List api_Id)) : Option (api_Id) :=
  (loop (ω := Fl (api_Id) (api_Id)) (fun (x1 : Int × api_Id) =>
    if (decide (x1.1 < (p0.length : Int))) then
      jn (fun x7 : api_Id =>
        some (.next ((IntKind.i64.wrap (x1.1 + 1)), x7))) fun j3 =>
      (ib x1.1 p0.length).bind fun _ =>
      (ident_Compare (p0.getD x1.1.toNat z_api_Id) x1.2).bind fun v5 =>
      if (decide (v5 > 0)) then
        j3 (p0.getD x1.1.toNat z_api_Id)
      else
        j3 (x1.2)
    else
      some (.done (.nx (x1.2)))) (0, z_api_Id)).bind fun wn2 => Fl.elim wn2 (fun y8 =>
    some y8) (fun r => some r)

noncomputable def ident_Many (p0 : (Nat → Int)) : Option (Int) :=
  (ident_List p0).bind fun v1 =>
  some (v1.length : Int)

noncomputable def ident_Has (p0 : (Nat → Int)) (p1 : Int) (p2 : Int) : Option (Bool) :=
  (ibg (((decide (p1 ≥ 0)) && (decide (p1 < 8))) && (p2 != 0)) p1 8).bind fun _ =>
  lt (((((decide (p1 ≥ 0)) && (decide (p1 < 8))) && (p2 != 0)) && ((p0 p1.toNat) == p2)) : Bool) fun v2 =>
  some v2

noncomputable def congresslaw07_fixed : Option (Bool) :=
  (ident_Least (aset (fun _ => 0) [(0, 0), (1, 3), (2, 0), (3, 4)])).bind fun v1 =>
  (ident_Least (aset (fun _ => 0) [])).bind fun v3 =>
  (ident_Compare ({ Epoch := 2, Coord := 1, Inc := 1 } : api_Id) ({ Epoch := 1, Coord := 7, Inc := 9 } : api_Id)).bind fun v5 =>
  (whn (v5 == 1) (ident_Compare ({ Epoch := 2, Coord := 1, Inc := 1 } : api_Id) ({ Epoch := 2, Coord := 1, Inc := 2 } : api_Id)) 0).bind fun v7 =>
  (whn ((v5 == 1) && (v7 == (-1))) (ident_Highest ([({ Epoch := 2, Coord := 1, Inc := 1 } : api_Id), ({ Epoch := 1, Coord := 7, Inc := 9 } : api_Id), ({ Epoch := 2, Coord := 1, Inc := 2 } : api_Id)] : _root_.List api_Id)) z_api_Id).bind fun v9 =>
  (whn ((((((v5 == 1) && (v7 == (-1))) && (b_api_Id v9 ({ Epoch := 2, Coord := 1, Inc := 2 } : api_Id))) && (v1.1 == 1)) && v1.2) && (!v3.2)) (ident_Many (aset (fun _ => 0) [(0, 0), (1, 3), (2, 0), (3, 4)])) 0).bind fun v11 =>
  (whn (((((((v5 == 1) && (v7 == (-1))) && (b_api_Id v9 ({ Epoch := 2, Coord := 1, Inc := 2 } : api_Id))) && (v1.1 == 1)) && v1.2) && (!v3.2)) && (v11 == 2)) (ident_Has (aset (fun _ => 0) [(0, 0), (1, 3), (2, 0), (3, 4)]) 3 4) false).bind fun v13 =>
  (whn ((((((((v5 == 1) && (v7 == (-1))) && (b_api_Id v9 ({ Epoch := 2, Coord := 1, Inc := 2 } : api_Id))) && (v1.1 == 1)) && v1.2) && (!v3.2)) && (v11 == 2)) && v13) (ident_Has (aset (fun _ => 0) [(0, 0), (1, 3), (2, 0), (3, 4)]) 0 0) false).bind fun v15 =>
  lt ((((((((((v5 == 1) && (v7 == (-1))) && (b_api_Id v9 ({ Epoch := 2, Coord := 1, Inc := 2 } : api_Id))) && (v1.1 == 1)) && v1.2) && (!v3.2)) && (v11 == 2)) && v13) && (!v15)) : Bool) fun v17 =>
  some v17

noncomputable def congresslaw07_IdentOrder (p0 : api_Id) (p1 : api_Id) (p2 : api_Id) : Option (Bool) :=
  (ident_Compare p0 p1).bind fun v1 =>
  (ident_Compare p1 p2).bind fun v3 =>
  (ident_Compare p0 p2).bind fun v5 =>
  (congresslaw07_fixed).bind fun v7 =>
  (whn (!(!v7)) (ident_Compare p1 p0) 0).bind fun v9 =>
  (whn (!(((!v7) || (v1 != (IntKind.i64.wrap (0 - v9)))) || ((v1 == 0) != (b_api_Id p0 p1)))) (ident_Compare p0 p0) 0).bind fun v11 =>
  lt (((((((!v7) || (v1 != (IntKind.i64.wrap (0 - v9)))) || ((v1 == 0) != (b_api_Id p0 p1))) || (v11 != 0)) || (decide (v1 < (-1)))) || (decide (v1 > 1))) : Bool) fun v13 =>
  if v13 then
    some false
  else
    lt (((((decide (v1 > 0)) || (decide (v3 > 0))) || ((decide (v5 ≤ 0)) && ((decide (v5 < 0)) || ((v1 == 0) && (v3 == 0))))) && (((decide (v1 < 0)) || (decide (v3 < 0))) || (decide (v5 ≥ 0)))) : Bool) fun v14 =>
    some v14

noncomputable def congresslaw07_IdentHighest (p0 : (_root_.List api_Id)) : Option (Bool) :=
  (congresslaw07_fixed).bind fun v1 =>
  if ((!v1) || (decide ((p0.length : Int) > 100))) then
    (congresslaw07_fixed).bind fun v3 =>
    some v3
  else
    (ident_Highest p0).bind fun v5 =>
    (loop (ω := Fl (Bool) (Bool × _root_.List api_Id)) (fun (x7 : Bool × Int × _root_.List api_Id) =>
      if (decide (x7.2.1 < (p0.length : Int))) then
        (ibg (!x7.1) x7.2.1 p0.length).bind fun _ =>
        (ib (IntKind.i64.wrap ((IntKind.i64.wrap ((p0.length : Int) - 1)) - x7.2.1)) p0.length).bind fun _ =>
        (fit (x7.2.2 ++ ([p0.getD ((IntKind.i64.wrap ((IntKind.i64.wrap ((p0.length : Int) - 1)) - x7.2.1)).toNat) z_api_Id] : _root_.List api_Id)).length 12).bind fun _ =>
        lt ((x7.2.2 ++ ([p0.getD ((IntKind.i64.wrap ((IntKind.i64.wrap ((p0.length : Int) - 1)) - x7.2.1)).toNat) z_api_Id] : _root_.List api_Id)) : _root_.List api_Id) fun v12 =>
        (ib x7.2.1 p0.length).bind fun _ =>
        (ident_Compare (p0.getD x7.2.1.toNat z_api_Id) v5).bind fun v14 =>
        if (decide (v14 > 0)) then
          some (.done (.rt false))
        else
          some (.next ((x7.1 || (b_api_Id (p0.getD x7.2.1.toNat z_api_Id) v5)), (IntKind.i64.wrap (x7.2.1 + 1)), v12))
      else
        some (.done (.nx (x7.1, x7.2.2)))) ((b_api_Id v5 ({ Epoch := 0, Coord := 0, Inc := 0 } : api_Id)), 0, ([] : _root_.List api_Id))).bind fun wn8 => Fl.elim wn8 (fun y16 =>
      (whn y16.1 (ident_Highest y16.2) z_api_Id).bind fun v17 =>
      some (y16.1 && (b_api_Id v17 v5))) (fun r => some r)

noncomputable def congresslaw07_IdentMembers (p0 : (Nat → Int)) : Option (Bool) :=
  (ident_List p0).bind fun v1 =>
  (ident_Least p0).bind fun v3 =>
  (congresslaw07_fixed).bind fun v5 =>
  (whn (!((!v5) || (v3.2 != (decide ((v1.length : Int) > 0))))) (ident_Many p0) 0).bind fun v7 =>
  lt ((((!v5) || (v3.2 != (decide ((v1.length : Int) > 0)))) || (v7 != (v1.length : Int))) : Bool) fun v9 =>
  if v9 then
    some false
  else
    (loop (ω := Fl (Bool) (Unit)) (fun (x10 : Int) =>
      if (decide (x10 < (v1.length : Int))) then
        (ib x10 v1.length).bind fun _ =>
        (ibg (!(decide ((v1.getD x10.toNat 0) < 0))) x10 v1.length).bind fun _ =>
        (ibg ((!((decide ((v1.getD x10.toNat 0) < 0)) || (decide ((v1.getD x10.toNat 0) > 7)))) && (decide (x10 > 0))) (IntKind.i64.wrap (x10 - 1)) v1.length).bind fun _ =>
        (ibg ((!((decide ((v1.getD x10.toNat 0) < 0)) || (decide ((v1.getD x10.toNat 0) > 7)))) && (decide (x10 > 0))) x10 v1.length).bind fun _ =>
        (ibg (!(((decide ((v1.getD x10.toNat 0) < 0)) || (decide ((v1.getD x10.toNat 0) > 7))) || ((decide (x10 > 0)) && (decide ((v1.getD ((IntKind.i64.wrap (x10 - 1)).toNat) 0) ≥ (v1.getD x10.toNat 0)))))) x10 v1.length).bind fun _ =>
        (ibg (!(((decide ((v1.getD x10.toNat 0) < 0)) || (decide ((v1.getD x10.toNat 0) > 7))) || ((decide (x10 > 0)) && (decide ((v1.getD ((IntKind.i64.wrap (x10 - 1)).toNat) 0) ≥ (v1.getD x10.toNat 0)))))) x10 v1.length).bind fun _ =>
        (ibg (!(((decide ((v1.getD x10.toNat 0) < 0)) || (decide ((v1.getD x10.toNat 0) > 7))) || ((decide (x10 > 0)) && (decide ((v1.getD ((IntKind.i64.wrap (x10 - 1)).toNat) 0) ≥ (v1.getD x10.toNat 0)))))) (iand .i64 (v1.getD x10.toNat 0) 7) 8).bind fun _ =>
        (whn (!(((decide ((v1.getD x10.toNat 0) < 0)) || (decide ((v1.getD x10.toNat 0) > 7))) || ((decide (x10 > 0)) && (decide ((v1.getD ((IntKind.i64.wrap (x10 - 1)).toNat) 0) ≥ (v1.getD x10.toNat 0)))))) (ident_Has p0 (v1.getD x10.toNat 0) (p0 ((iand .i64 (v1.getD x10.toNat 0) 7).toNat))) false).bind fun v19 =>
        lt (((((decide ((v1.getD x10.toNat 0) < 0)) || (decide ((v1.getD x10.toNat 0) > 7))) || ((decide (x10 > 0)) && (decide ((v1.getD ((IntKind.i64.wrap (x10 - 1)).toNat) 0) ≥ (v1.getD x10.toNat 0))))) || (!v19)) : Bool) fun v21 =>
        if v21 then
          some (.done (.rt false))
        else
          some (.next ((IntKind.i64.wrap (x10 + 1))))
      else
        some (.done (.nx ()))) (0)).bind fun wn11 => Fl.elim wn11 (fun y22 =>
      (loop (ω := Fl (Bool) (Int)) (fun (x23 : Int × Int) =>
        if (decide (x23.2 < 8)) then
          jn (fun x27 : Int =>
            some (.next (x27, (IntKind.i64.wrap (x23.2 + 1))))) fun j25 =>
          (ib x23.2 8).bind fun _ =>
          if ((p0 x23.2.toNat) != 0) then
            j25 ((IntKind.i64.wrap (x23.1 + 1)))
          else
            j25 (x23.1)
        else
          some (.done (.nx (x23.1)))) (0, 0)).bind fun wn24 => Fl.elim wn24 (fun y28 =>
        (ibg ((y28 == (v1.length : Int)) && (!(!v3.2))) 0 v1.length).bind fun _ =>
        some ((y28 == (v1.length : Int)) && ((!v3.2) || (v3.1 == (v1.getD 0 0))))) (fun r => some r)) (fun r => some r)

noncomputable def congressref07_List (p0 : (Nat → Int)) : Option ((_root_.List Int)) :=
  (loop (ω := Fl ((_root_.List Int)) (_root_.List Int)) (fun (x1 : Int × _root_.List Int) =>
    if (decide (x1.1 < 8)) then
      jn (fun x6 : _root_.List Int =>
        some (.next ((IntKind.i64.wrap (x1.1 + 1)), x6))) fun j3 =>
      (ib x1.1 8).bind fun _ =>
      if (decide ((p0 x1.1.toNat) > 0)) then
        (fit (x1.2 ++ ([x1.1] : _root_.List Int)).length 8).bind fun _ =>
        j3 ((x1.2 ++ ([x1.1] : _root_.List Int)))
      else
        j3 (x1.2)
    else
      some (.done (.nx (x1.2)))) (0, ([] : _root_.List Int))).bind fun wn2 => Fl.elim wn2 (fun y7 =>
    some y7) (fun r => some r)

noncomputable def congressref07_three (p0 : api_Id) : Option ((Nat → Int)) :=
  some (aset (fun _ => 0) [(0, p0.Epoch), (1, p0.Coord), (2, p0.Inc)])

noncomputable def congressref07_Compare (p0 : api_Id) (p1 : api_Id) : Option (Int) :=
  (congressref07_three p0).bind fun v1 =>
  (congressref07_three p1).bind fun v3 =>
  (loop (ω := Fl (Int) (Unit)) (fun (x5 : Int) =>
    if (decide (x5 < 3)) then
      (ib x5 3).bind fun _ =>
      (ib x5 3).bind fun _ =>
      if (decide ((v1 x5.toNat) < (v3 x5.toNat))) then
        some (.done (.rt (-1)))
      else
        (ib x5 3).bind fun _ =>
        (ib x5 3).bind fun _ =>
        if (decide ((v1 x5.toNat) > (v3 x5.toNat))) then
          some (.done (.rt 1))
        else
          some (.next ((IntKind.i64.wrap (x5 + 1))))
    else
      some (.done (.nx ()))) (0)).bind fun wn6 => Fl.elim wn6 (fun y11 =>
    some 0) (fun r => some r)

noncomputable def congressref07_Ints (p0 : (_root_.List Int)) (p1 : (_root_.List Int)) : Option (Bool) :=
  if ((p0.length : Int) != (p1.length : Int)) then
    some false
  else
    (loop (ω := Fl (Bool) (Unit)) (fun (x1 : Int) =>
      if (decide (x1 < (p0.length : Int))) then
        (ib x1 p0.length).bind fun _ =>
        (ib x1 p1.length).bind fun _ =>
        if ((p0.getD x1.toNat 0) != (p1.getD x1.toNat 0)) then
          some (.done (.rt false))
        else
          some (.next ((IntKind.i64.wrap (x1 + 1))))
      else
        some (.done (.nx ()))) (0)).bind fun wn2 => Fl.elim wn2 (fun y5 =>
      some true) (fun r => some r)

noncomputable def ident_Same (p0 : (Nat → Int)) (p1 : (Nat → Int)) : Option ((Nat → Int)) :=
  (loop (ω := Fl ((Nat → Int)) ((Nat → Int))) (fun (x1 : Int × (Nat → Int)) =>
    if (decide (x1.1 < 8)) then
      jn (fun x7 : (Nat → Int) =>
        some (.next ((IntKind.i64.wrap (x1.1 + 1)), x7))) fun j3 =>
      (ib x1.1 8).bind fun _ =>
      (ib x1.1 8).bind fun _ =>
      if ((p1 x1.1.toNat) == (p0 x1.1.toNat)) then
        (ib x1.1 8).bind fun _ =>
        j3 (aupd x1.2 x1.1.toNat (p0 x1.1.toNat))
      else
        j3 (x1.2)
    else
      some (.done (.nx (x1.2)))) (0, (fun _ => 0))).bind fun wn2 => Fl.elim wn2 (fun y8 =>
    some y8) (fun r => some r)

noncomputable def congressref07_Same (p0 : (Nat → Int)) (p1 : (Nat → Int)) : Option ((Nat → Int)) :=
  (loop (ω := Fl ((Nat → Int)) ((Nat → Int))) (fun (x1 : Int × (Nat → Int)) =>
    if (decide (x1.1 < 8)) then
      jn (fun x8 : (Nat → Int) =>
        some (.next ((IntKind.i64.wrap (x1.1 + 1)), x8))) fun j3 =>
      (ib x1.1 8).bind fun _ =>
      (ib x1.1 8).bind fun _ =>
      if ((p0 x1.1.toNat) == (p1 x1.1.toNat)) then
        (ib x1.1 8).bind fun _ =>
        (ib x1.1 8).bind fun _ =>
        j3 (aupd x1.2 x1.1.toNat (p0 x1.1.toNat))
      else
        j3 (x1.2)
    else
      some (.done (.nx (x1.2)))) (0, (aset (fun _ => 0) []))).bind fun wn2 => Fl.elim wn2 (fun y9 =>
    some y9) (fun r => some r)

noncomputable def congresslaw07_IdentTells (p0 : api_Id) (p1 : api_Id) (p2 : congresslaw07_Two) : Option (Bool) :=
  (congressref07_List p2.M).bind fun v1 =>
  (ident_Least p2.M).bind fun v3 =>
  (ibg ((v3.2 == (decide ((v1.length : Int) > 0))) && v3.2) 0 v1.length).bind fun _ =>
  lt (((v3.2 == (decide ((v1.length : Int) > 0))) && ((v3.2 && (v3.1 == (v1.getD 0 0))) || ((!v3.2) && (v3.1 == 0)))) : Bool) fun v6 =>
  jn (fun x9 : Bool =>
    (congresslaw07_fixed).bind fun v10 =>
    (whn v10 (ident_Compare p0 p1) 0).bind fun v12 =>
    (whn v10 (congressref07_Compare p0 p1) 0).bind fun v14 =>
    (whn (v10 && (v12 == v14)) (ident_List p2.M) []).bind fun v16 =>
    (whn (v10 && (v12 == v14)) (congressref07_Ints v16 v1) false).bind fun v18 =>
    (whn (((v10 && (v12 == v14)) && v18) && v6) (ident_Many p2.M) 0).bind fun v20 =>
    (whn ((((v10 && (v12 == v14)) && v18) && v6) && (v20 == (v1.length : Int))) (ident_Same p2.M p2.N) (fun _ => 0)).bind fun v22 =>
    (whn ((((v10 && (v12 == v14)) && v18) && v6) && (v20 == (v1.length : Int))) (congressref07_Same p2.M p2.N) (fun _ => 0)).bind fun v24 =>
    (whn (((((v10 && (v12 == v14)) && v18) && v6) && (v20 == (v1.length : Int))) && (b_a8_u32 v22 v24)) (ident_Has p2.M p2.I p2.Inc) false).bind fun v26 =>
    lt (((((((v10 && (v12 == v14)) && v18) && v6) && (v20 == (v1.length : Int))) && (b_a8_u32 v22 v24)) && (v26 == x9)) : Bool) fun v28 =>
    some v28) fun j7 =>
  if ((decide (p2.I ≥ 0)) && (decide (p2.I < 8))) then
    (ibg (p2.Inc != 0) p2.I 8).bind fun _ =>
    j7 (((p2.Inc != 0) && ((p2.M p2.I.toNat) == p2.Inc)))
  else
    j7 (false)

noncomputable def congresslaw07_IdentSame (p0 : (Nat → Int)) (p1 : (Nat → Int)) (p2 : (Nat → Int)) : Option (Bool) :=
  (ident_Same p0 p1).bind fun v1 =>
  (ident_Same v1 p2).bind fun v3 =>
  (congresslaw07_fixed).bind fun v5 =>
  (whn v5 (ident_Same p0 p1) (fun _ => 0)).bind fun v7 =>
  (whn v5 (ident_Same p1 p0) (fun _ => 0)).bind fun v9 =>
  (whn (v5 && (b_a8_u32 v7 v9)) (ident_Same p0 p0) (fun _ => 0)).bind fun v11 =>
  (whn ((v5 && (b_a8_u32 v7 v9)) && (b_a8_u32 v11 p0)) (ident_Same p1 p2) (fun _ => 0)).bind fun v13 =>
  (whn ((v5 && (b_a8_u32 v7 v9)) && (b_a8_u32 v11 p0)) (ident_Same p0 v13) (fun _ => 0)).bind fun v15 =>
  (whn (((v5 && (b_a8_u32 v7 v9)) && (b_a8_u32 v11 p0)) && (b_a8_u32 v3 v15)) (ident_Same p0 p1) (fun _ => 0)).bind fun v17 =>
  (whn (((v5 && (b_a8_u32 v7 v9)) && (b_a8_u32 v11 p0)) && (b_a8_u32 v3 v15)) (ident_Many v17) 0).bind fun v19 =>
  (whn (((v5 && (b_a8_u32 v7 v9)) && (b_a8_u32 v11 p0)) && (b_a8_u32 v3 v15)) (ident_Many p0) 0).bind fun v21 =>
  lt (((((v5 && (b_a8_u32 v7 v9)) && (b_a8_u32 v11 p0)) && (b_a8_u32 v3 v15)) && (decide (v19 ≤ v21))) : Bool) fun v23 =>
  some v23
end Go.Proofs.Ythkgpbjgkchilaa
