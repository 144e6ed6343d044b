/- Printed by gen.py. Conditions: none. -/
import Derived.Test.YtffnegdahhlncaaEngV
import Derived.Test.YtffnegdahhlncaaProg
import Derived.KernelRfl
set_option linter.unusedVariables false
set_option maxRecDepth 100000
namespace Go.Proofs.Ytffnegdahhlncaa
open Go.Eng
structure api_Right where
  Handle : Int
  Session : Int
  Give : Int
  Revoked : Bool
def z_api_Right : api_Right := { Handle := 0, Session := 0, Give := 0, Revoked := false }
def c_api_Right (x : api_Right) : Nat → V
  | 0 => (.int .u64 x.Handle)
  | 1 => (.int .u64 x.Session)
  | 2 => (.int .i64 x.Give)
  | 3 => (.bool x.Revoked)
  | _ => .bool false
def e_api_Right (x : api_Right) : V := .agg (.st [1, 1, 1, 1]) (c_api_Right x)
theorem d_api_Right (x : api_Right) : (e_api_Right x).Data := fun j => match j with
  | 0 => trivial
  | 1 => trivial
  | 2 => trivial
  | 3 => trivial
  | _ + 4 => trivial
theorem f_api_Right (x : api_Right) : (e_api_Right x).Flat := fun j => match j with
  | 0 => trivial
  | 1 => trivial
  | 2 => trivial
  | 3 => trivial
  | _ + 4 => trivial
def b_api_Right (x y : api_Right) : Bool := (x.Handle == y.Handle) && ((x.Session == y.Session) && ((x.Give == y.Give) && ((x.Revoked == y.Revoked))))
theorem q_api_Right (x y : api_Right) : eqV (e_api_Right x) (e_api_Right y) = b_api_Right x y := by
  have h : eqV (e_api_Right x) (e_api_Right y) = ((List.range 4).all fun j => eqV (c_api_Right x j) (c_api_Right y j)) := rfl
  have hr : List.range 4 = [0, 1, 2, 3] := rfl
  rw [h, hr]
  simp only [List.all_cons, List.all_nil, Bool.and_true, c_api_Right, b_api_Right, eqV]
theorem al_api_Right (x y : api_Right) : Akin (e_api_Right x) (e_api_Right y) := .agg _ _ _ fun j h => match j, h with
  | 0, _ => .int _ _ _
  | 1, _ => .int _ _ _
  | 2, _ => .int _ _ _
  | 3, _ => .bool _ _
  | n + 4, h => absurd (show n + 4 < 4 from h) (by omega)
theorem st_api_Right_0 (x : api_Right) (v : Int) : vupd (c_api_Right x) 0 (.int .u64 v) = c_api_Right { x with Handle := v } := by
  funext j; match j with
  | 0 => rfl
  | 1 => rfl
  | 2 => rfl
  | 3 => rfl
  | _ + 4 => rfl
theorem st_api_Right_1 (x : api_Right) (v : Int) : vupd (c_api_Right x) 1 (.int .u64 v) = c_api_Right { x with Session := v } := by
  funext j; match j with
  | 0 => rfl
  | 1 => rfl
  | 2 => rfl
  | 3 => rfl
  | _ + 4 => rfl
theorem st_api_Right_2 (x : api_Right) (v : Int) : vupd (c_api_Right x) 2 (.int .i64 v) = c_api_Right { x with Give := v } := by
  funext j; match j with
  | 0 => rfl
  | 1 => rfl
  | 2 => rfl
  | 3 => rfl
  | _ + 4 => rfl
theorem st_api_Right_3 (x : api_Right) (v : Bool) : vupd (c_api_Right x) 3 (.bool v) = c_api_Right { x with Revoked := v } := by
  funext j; match j with
  | 0 => rfl
  | 1 => rfl
  | 2 => rfl
  | 3 => rfl
  | _ + 4 => rfl
structure congresslaw16_Do where
  Do : Int
  Handle : Int
  Session : Int
  Give : Int
def z_congresslaw16_Do : congresslaw16_Do := { Do := 0, Handle := 0, Session := 0, Give := 0 }
def c_congresslaw16_Do (x : congresslaw16_Do) : Nat → V
  | 0 => (.int .i64 x.Do)
  | 1 => (.int .u64 x.Handle)
  | 2 => (.int .u64 x.Session)
  | 3 => (.int .i64 x.Give)
  | _ => .bool false
def e_congresslaw16_Do (x : congresslaw16_Do) : V := .agg (.st [1, 1, 1, 1]) (c_congresslaw16_Do x)
theorem d_congresslaw16_Do (x : congresslaw16_Do) : (e_congresslaw16_Do x).Data := fun j => match j with
  | 0 => trivial
  | 1 => trivial
  | 2 => trivial
  | 3 => trivial
  | _ + 4 => trivial
theorem f_congresslaw16_Do (x : congresslaw16_Do) : (e_congresslaw16_Do x).Flat := fun j => match j with
  | 0 => trivial
  | 1 => trivial
  | 2 => trivial
  | 3 => trivial
  | _ + 4 => trivial
def b_congresslaw16_Do (x y : congresslaw16_Do) : Bool := (x.Do == y.Do) && ((x.Handle == y.Handle) && ((x.Session == y.Session) && ((x.Give == y.Give))))
theorem q_congresslaw16_Do (x y : congresslaw16_Do) : eqV (e_congresslaw16_Do x) (e_congresslaw16_Do y) = b_congresslaw16_Do x y := by
  have h : eqV (e_congresslaw16_Do x) (e_congresslaw16_Do y) = ((List.range 4).all fun j => eqV (c_congresslaw16_Do x j) (c_congresslaw16_Do y j)) := rfl
  have hr : List.range 4 = [0, 1, 2, 3] := rfl
  rw [h, hr]
  simp only [List.all_cons, List.all_nil, Bool.and_true, c_congresslaw16_Do, b_congresslaw16_Do, eqV]
theorem al_congresslaw16_Do (x y : congresslaw16_Do) : Akin (e_congresslaw16_Do x) (e_congresslaw16_Do y) := .agg _ _ _ fun j h => match j, h with
  | 0, _ => .int _ _ _
  | 1, _ => .int _ _ _
  | 2, _ => .int _ _ _
  | 3, _ => .int _ _ _
  | n + 4, h => absurd (show n + 4 < 4 from h) (by omega)
theorem st_congresslaw16_Do_0 (x : congresslaw16_Do) (v : Int) : vupd (c_congresslaw16_Do x) 0 (.int .i64 v) = c_congresslaw16_Do { x with Do := v } := by
  funext j; match j with
  | 0 => rfl
  | 1 => rfl
  | 2 => rfl
  | 3 => rfl
  | _ + 4 => rfl
theorem st_congresslaw16_Do_1 (x : congresslaw16_Do) (v : Int) : vupd (c_congresslaw16_Do x) 1 (.int .u64 v) = c_congresslaw16_Do { x with Handle := v } := by
  funext j; match j with
  | 0 => rfl
  | 1 => rfl
  | 2 => rfl
  | 3 => rfl
  | _ + 4 => rfl
theorem st_congresslaw16_Do_2 (x : congresslaw16_Do) (v : Int) : vupd (c_congresslaw16_Do x) 2 (.int .u64 v) = c_congresslaw16_Do { x with Session := v } := by
  funext j; match j with
  | 0 => rfl
  | 1 => rfl
  | 2 => rfl
  | 3 => rfl
  | _ + 4 => rfl
theorem st_congresslaw16_Do_3 (x : congresslaw16_Do) (v : Int) : vupd (c_congresslaw16_Do x) 3 (.int .i64 v) = c_congresslaw16_Do { x with Give := v } := by
  funext j; match j with
  | 0 => rfl
  | 1 => rfl
  | 2 => rfl
  | 3 => rfl
  | _ + 4 => rfl
def e_s_api_Right (x : _root_.List api_Right) : V := .sl 4 x.length fun j => (e_api_Right (x.getD j z_api_Right))
theorem d_s_api_Right (x : _root_.List api_Right) : (e_s_api_Right x).Data := fun j => (d_api_Right (x.getD j z_api_Right))
def e_s_congresslaw16_Do (x : _root_.List congresslaw16_Do) : V := .sl 4 x.length fun j => (e_congresslaw16_Do (x.getD j z_congresslaw16_Do))
theorem d_s_congresslaw16_Do (x : _root_.List congresslaw16_Do) : (e_s_congresslaw16_Do x).Data := fun j => (d_congresslaw16_Do (x.getD j z_congresslaw16_Do))

noncomputable def right_gives (p0 : Int) : Option (Bool) :=
  some ((decide (p0 ≥ 1)) && (decide (p0 ≤ 7)))

noncomputable def slices_IndexFunc_api_Right_api_Right (p0 : (_root_.List api_Right)) (p1 : (api_Right → Option (Bool))) : Option (Int) :=
  (loop (ω := Fl (Int) (Unit)) (fun (x1 : Int) =>
    if (decide (x1 < (p0.length : Int))) then
      (ib x1 p0.length).bind fun _ =>
      (p1 (p0.getD x1.toNat z_api_Right)).bind fun v4 =>
      if v4 then
        some (.done (.rt x1))
      else
        some (.next ((IntKind.i64.wrap (x1 + 1))))
    else
      some (.done (.nx ()))) (0)).bind fun wn2 => Fl.elim wn2 (fun y6 =>
    some (-1)) (fun r => some r)

noncomputable def right_find_1 (p0 : api_Right) (q0 : Int) : Option (Bool) :=
  some (p0.Handle == q0)

noncomputable def right_find (p0 : (_root_.List api_Right)) (p1 : Int) : Option (Int) :=
  (slices_IndexFunc_api_Right_api_Right p0 (fun z0 => right_find_1 z0 p1)).bind fun v1 =>
  some v1

noncomputable def slices_Clone_api_Right_api_Right (p0 : (_root_.List api_Right)) : Option ((_root_.List api_Right)) :=
  nilq p0.length (
    some ([] : _root_.List api_Right)) (
    (fit (([] : _root_.List api_Right) ++ p0).length 32).bind fun _ =>
    some (([] : _root_.List api_Right) ++ p0))

noncomputable def right_Mint (p0 : (_root_.List api_Right)) (p1 : Int) (p2 : Int) (p3 : Int) : Option ((_root_.List api_Right) × Int) :=
  (whn (!(p1 == 0)) (right_gives p3) false).bind fun v1 =>
  (whn (!((p1 == 0) || (!v1))) (right_find p0 p1) 0).bind fun v3 =>
  if (((p1 == 0) || (!v1)) || (decide (v3 ≥ 0))) then
    some (([] : _root_.List api_Right), 1)
  else
    if (decide ((p0.length : Int) ≥ 16)) then
      some (([] : _root_.List api_Right), 161)
    else
      (slices_Clone_api_Right_api_Right p0).bind fun v5 =>
      (fit (v5 ++ ([({ Handle := p1, Session := p2, Give := p3, Revoked := false } : api_Right)] : _root_.List api_Right)).length 32).bind fun _ =>
      lt ((v5 ++ ([({ Handle := p1, Session := p2, Give := p3, Revoked := false } : api_Right)] : _root_.List api_Right)) : _root_.List api_Right) fun v8 =>
      some (v8, 0)

noncomputable def congressref16_Find (p0 : (_root_.List api_Right)) (p1 : Int) : Option (Int) :=
  (loop (ω := Fl (Int) (Unit)) (fun (x1 : Int) =>
    if (decide (x1 < (p0.length : Int))) then
      (ib x1 p0.length).bind fun _ =>
      if (((p0.getD x1.toNat z_api_Right).Handle) == p1) then
        some (.done (.rt x1))
      else
        some (.next ((IntKind.i64.wrap (x1 + 1))))
    else
      some (.done (.nx ()))) (0)).bind fun wn2 => Fl.elim wn2 (fun y4 =>
    some (-1)) (fun r => some r)

noncomputable def congressref16_Mint (p0 : (_root_.List api_Right)) (p1 : Int) (p2 : Int) (p3 : Int) : Option ((_root_.List api_Right) × Int) :=
  (whn (!(p1 == 0)) (congressref16_Find p0 p1) 0).bind fun v1 =>
  lt (((((p1 == 0) || (decide (v1 ≥ 0))) || (decide (p3 < 1))) || (decide (p3 > 7))) : Bool) fun v3 =>
  if v3 then
    some (([] : _root_.List api_Right), 1)
  else
    if (decide ((p0.length : Int) ≥ 16)) then
      some (([] : _root_.List api_Right), 161)
    else
      (fit (([] : _root_.List api_Right) ++ p0).length 32).bind fun _ =>
      (fit ((([] : _root_.List api_Right) ++ p0) ++ ([({ Handle := p1, Session := p2, Give := p3, Revoked := false } : api_Right)] : _root_.List api_Right)).length 32).bind fun _ =>
      lt (((([] : _root_.List api_Right) ++ p0) ++ ([({ Handle := p1, Session := p2, Give := p3, Revoked := false } : api_Right)] : _root_.List api_Right)) : _root_.List api_Right) fun v6 =>
      some (v6, 0)

noncomputable def right_Check (p0 : (_root_.List api_Right)) (p1 : Int) (p2 : Int) : Option (Int × Int) :=
  (right_find p0 p1).bind fun v1 =>
  (ibg (!(decide (v1 < 0))) v1 p0.length).bind fun _ =>
  (whn (!((decide (v1 < 0)) || ((p0.getD v1.toNat z_api_Right).Revoked))) (right_gives p2) false).bind fun v4 =>
  (ibg (!(((decide (v1 < 0)) || ((p0.getD v1.toNat z_api_Right).Revoked)) || (!v4))) v1 p0.length).bind fun _ =>
  lt (((((decide (v1 < 0)) || ((p0.getD v1.toNat z_api_Right).Revoked)) || (!v4)) || ((iandNot .i64 p2 ((p0.getD v1.toNat z_api_Right).Give)) != 0)) : Bool) fun v7 =>
  if v7 then
    some (0, 160)
  else
    (ib v1 p0.length).bind fun _ =>
    some ((p0.getD v1.toNat z_api_Right).Session, 0)

noncomputable def congressref16_Check (p0 : (_root_.List api_Right)) (p1 : Int) (p2 : Int) : Option (Int × Int) :=
  (congressref16_Find p0 p1).bind fun v1 =>
  (ibg (!(decide (v1 < 0))) v1 p0.length).bind fun _ =>
  lt (((((decide (v1 < 0)) || ((p0.getD v1.toNat z_api_Right).Revoked)) || (decide (p2 < 1))) || (decide (p2 > 7))) : Bool) fun v4 =>
  if v4 then
    some (0, 160)
  else
    (ib v1 p0.length).bind fun _ =>
    if ((iand .i64 ((p0.getD v1.toNat z_api_Right).Give) p2) != p2) then
      some (0, 160)
    else
      (ib v1 p0.length).bind fun _ =>
      some ((p0.getD v1.toNat z_api_Right).Session, 0)

noncomputable def right_Revoke (p0 : (_root_.List api_Right)) (p1 : Int) : Option ((_root_.List api_Right) × Int) :=
  (right_find p0 p1).bind fun v1 =>
  (ibg (!(decide (v1 < 0))) v1 p0.length).bind fun _ =>
  if ((decide (v1 < 0)) || ((p0.getD v1.toNat z_api_Right).Revoked)) then
    some (([] : _root_.List api_Right), 160)
  else
    (slices_Clone_api_Right_api_Right p0).bind fun v4 =>
    (ib v1 v4.length).bind fun _ =>
    lt (v4.set v1.toNat ({ v4.getD v1.toNat z_api_Right with Revoked := true }) : _root_.List api_Right) fun v7 =>
    some (v7, 0)

noncomputable def congressref16_Revoke (p0 : (_root_.List api_Right)) (p1 : Int) : Option ((_root_.List api_Right) × Int) :=
  (congressref16_Find p0 p1).bind fun v1 =>
  (ibg (!(decide (v1 < 0))) v1 p0.length).bind fun _ =>
  if ((decide (v1 < 0)) || ((p0.getD v1.toNat z_api_Right).Revoked)) then
    some (([] : _root_.List api_Right), 160)
  else
    (fit (([] : _root_.List api_Right) ++ p0).length 32).bind fun _ =>
    (ib v1 ((([] : _root_.List api_Right) ++ p0).length)).bind fun _ =>
    lt ((([] : _root_.List api_Right) ++ p0).set v1.toNat ({ (([] : _root_.List api_Right) ++ p0).getD v1.toNat z_api_Right with Revoked := true }) : _root_.List api_Right) fun v6 =>
    some (v6, 0)

noncomputable def right_May (p0 : (_root_.List api_Right)) : Option (Bool) :=
  (loop (ω := Fl (Bool) (Unit)) (fun (x1 : Int) =>
    if (decide (x1 < (p0.length : Int))) then
      (ib x1 p0.length).bind fun _ =>
      (whn (!(((p0.getD x1.toNat z_api_Right).Handle) == 0)) (right_gives ((p0.getD x1.toNat z_api_Right).Give)) false).bind fun v4 =>
      (whn (!((((p0.getD x1.toNat z_api_Right).Handle) == 0) || (!v4))) (right_find p0 ((p0.getD x1.toNat z_api_Right).Handle)) 0).bind fun v6 =>
      lt ((((((p0.getD x1.toNat z_api_Right).Handle) == 0) || (!v4)) || (v6 != x1)) : Bool) fun v8 =>
      if v8 then
        some (.done (.rt false))
      else
        some (.next ((IntKind.i64.wrap (x1 + 1))))
    else
      some (.done (.nx ()))) (0)).bind fun wn2 => Fl.elim wn2 (fun y9 =>
    some (decide ((p0.length : Int) ≤ 16))) (fun r => some r)

noncomputable def congresslaw16_fixed : Option (Bool) :=
  (right_Mint [] 9 1 6).bind fun v1 =>
  (right_Check v1.1 9 2).bind fun v3 =>
  (right_Check v1.1 9 1).bind fun v5 =>
  (right_Check v1.1 8 2).bind fun v7 =>
  (right_Revoke v1.1 9).bind fun v9 =>
  (right_Check v9.1 9 2).bind fun v11 =>
  (whn (((((((v1.2 == 0) && (v3.1 == 1)) && (v3.2 == 0)) && (v5.2 == 160)) && (v7.2 == 160)) && (v9.2 == 0)) && (v11.2 == 160)) (right_May v1.1) false).bind fun v13 =>
  lt (((((((((v1.2 == 0) && (v3.1 == 1)) && (v3.2 == 0)) && (v5.2 == 160)) && (v7.2 == 160)) && (v9.2 == 0)) && (v11.2 == 160)) && v13) : Bool) fun v15 =>
  some v15

noncomputable def congressref16_Same (p0 : (_root_.List api_Right)) (p1 : (_root_.List api_Right)) : Option (Bool) :=
  if ((p0.length : Int) != (p1.length : Int)) then
    some false
  else
    (loop (ω := Fl (Bool) (Unit)) (fun (x1 : Int) =>
      if (decide (x1 < (p0.length : Int))) then
        (ib x1 p0.length).bind fun _ =>
        (ib x1 p1.length).bind fun _ =>
        lt ((!(b_api_Right (p0.getD x1.toNat z_api_Right) (p1.getD x1.toNat z_api_Right))) : Bool) fun v5 =>
        if v5 then
          some (.done (.rt false))
        else
          some (.next ((IntKind.i64.wrap (x1 + 1))))
      else
        some (.done (.nx ()))) (0)).bind fun wn2 => Fl.elim wn2 (fun y6 =>
      some true) (fun r => some r)

noncomputable def slices_DeleteFunc_api_Right_api_Right (p0 : (_root_.List api_Right)) (p1 : (api_Right → Option (Bool))) : Option ((_root_.List api_Right)) :=
  (slices_IndexFunc_api_Right_api_Right p0 p1).bind fun v1 =>
  if (v1 == (-1)) then
    some p0
  else
    (loop (ω := Fl ((_root_.List api_Right)) (Int × _root_.List api_Right)) (fun (x3 : Int × Int × _root_.List api_Right) =>
      if (decide (x3.2.1 < (x3.2.2.length : Int))) then
        jn (fun x10 : Int × _root_.List api_Right =>
          some (.next (x10.1, (IntKind.i64.wrap (x3.2.1 + 1)), x10.2))) fun j5 =>
        (ib x3.2.1 x3.2.2.length).bind fun _ =>
        (p1 (x3.2.2.getD x3.2.1.toNat z_api_Right)).bind fun v7 =>
        if (!v7) then
          (ib x3.1 x3.2.2.length).bind fun _ =>
          j5 ((IntKind.i64.wrap (x3.1 + 1)), x3.2.2.set x3.1.toNat (x3.2.2.getD x3.2.1.toNat z_api_Right))
        else
          j5 (x3.1, x3.2.2)
      else
        some (.done (.nx (x3.1, x3.2.2)))) (v1, (IntKind.i64.wrap (v1 + 1)), p0)).bind fun wn4 => Fl.elim wn4 (fun y11 =>
      (sb y11.1 (y11.2.length : Int) y11.2.length).bind fun _ =>
      (inb (y11.1.toNat + (y11.2.length - y11.1.toNat)) y11.2.length).bind fun _ =>
      (sb 0 y11.1 ((clr y11.2 z_api_Right y11.1.toNat (y11.2.length - y11.1.toNat)).length)).bind fun _ =>
      (inb (y11.1.toNat - 0) (clr y11.2 z_api_Right y11.1.toNat (y11.2.length - y11.1.toNat)).length).bind fun _ =>
      some ((clr y11.2 z_api_Right y11.1.toNat (y11.2.length - y11.1.toNat)).take (y11.1.toNat - 0))) (fun r => some r)

noncomputable def right_Drop_1 (p0 : api_Right) (q0 : Int) : Option (Bool) :=
  some (p0.Session == q0)

noncomputable def right_Drop (p0 : (_root_.List api_Right)) (p1 : Int) : Option ((_root_.List api_Right)) :=
  (slices_Clone_api_Right_api_Right p0).bind fun v1 =>
  (slices_DeleteFunc_api_Right_api_Right v1 (fun z0 => right_Drop_1 z0 p1)).bind fun v3 =>
  some v3

noncomputable def congressref16_Drop (p0 : (_root_.List api_Right)) (p1 : Int) : Option ((_root_.List api_Right)) :=
  (loop (ω := Fl ((_root_.List api_Right)) (_root_.List api_Right)) (fun (x1 : Int × _root_.List api_Right) =>
    if (decide (x1.1 < (p0.length : Int))) then
      jn (fun x7 : _root_.List api_Right =>
        some (.next ((IntKind.i64.wrap (x1.1 + 1)), x7))) fun j3 =>
      (ib x1.1 p0.length).bind fun _ =>
      if (((p0.getD x1.1.toNat z_api_Right).Session) != p1) then
        (ib x1.1 p0.length).bind fun _ =>
        (fit (x1.2 ++ ([p0.getD x1.1.toNat z_api_Right] : _root_.List api_Right)).length 32).bind fun _ =>
        j3 ((x1.2 ++ ([p0.getD x1.1.toNat z_api_Right] : _root_.List api_Right)))
      else
        j3 (x1.2)
    else
      some (.done (.nx (x1.2)))) (0, ([] : _root_.List api_Right))).bind fun wn2 => Fl.elim wn2 (fun y8 =>
    some y8) (fun r => some r)

noncomputable def congressref16_May (p0 : (_root_.List api_Right)) : Option (Bool) :=
  (loop (ω := Fl (Bool) (Unit)) (fun (x1 : Int) =>
    if (decide (x1 < (p0.length : Int))) then
      (ib x1 p0.length).bind fun _ =>
      (ibg (!(((p0.getD x1.toNat z_api_Right).Handle) == 0)) x1 p0.length).bind fun _ =>
      (ibg (!((((p0.getD x1.toNat z_api_Right).Handle) == 0) || (decide (((p0.getD x1.toNat z_api_Right).Give) < 1)))) x1 p0.length).bind fun _ =>
      (ibg (!(((((p0.getD x1.toNat z_api_Right).Handle) == 0) || (decide (((p0.getD x1.toNat z_api_Right).Give) < 1))) || (decide (((p0.getD x1.toNat z_api_Right).Give) > 7)))) x1 p0.length).bind fun _ =>
      (whn (!(((((p0.getD x1.toNat z_api_Right).Handle) == 0) || (decide (((p0.getD x1.toNat z_api_Right).Give) < 1))) || (decide (((p0.getD x1.toNat z_api_Right).Give) > 7)))) (congressref16_Find p0 ((p0.getD x1.toNat z_api_Right).Handle)) 0).bind fun v7 =>
      lt (((((((p0.getD x1.toNat z_api_Right).Handle) == 0) || (decide (((p0.getD x1.toNat z_api_Right).Give) < 1))) || (decide (((p0.getD x1.toNat z_api_Right).Give) > 7))) || (v7 != x1)) : Bool) fun v9 =>
      if v9 then
        some (.done (.rt false))
      else
        some (.next ((IntKind.i64.wrap (x1 + 1))))
    else
      some (.done (.nx ()))) (0)).bind fun wn2 => Fl.elim wn2 (fun y10 =>
    some (decide ((p0.length : Int) ≤ 16))) (fun r => some r)

noncomputable def congresslaw16_RightTells (p0 : (_root_.List api_Right)) (p1 : congresslaw16_Do) : Option (Bool) :=
  (right_Mint p0 p1.Handle p1.Session p1.Give).bind fun v1 =>
  (congressref16_Mint p0 p1.Handle p1.Session p1.Give).bind fun v3 =>
  (right_Check p0 p1.Handle p1.Give).bind fun v5 =>
  (congressref16_Check p0 p1.Handle p1.Give).bind fun v7 =>
  (right_Revoke p0 p1.Handle).bind fun v9 =>
  (congressref16_Revoke p0 p1.Handle).bind fun v11 =>
  (congresslaw16_fixed).bind fun v13 =>
  (whn v13 (congressref16_Same v1.1 v3.1) false).bind fun v15 =>
  (whn ((((v13 && v15) && (v1.2 == v3.2)) && (v5.1 == v7.1)) && (v5.2 == v7.2)) (congressref16_Same v9.1 v11.1) false).bind fun v17 =>
  (whn ((((((v13 && v15) && (v1.2 == v3.2)) && (v5.1 == v7.1)) && (v5.2 == v7.2)) && v17) && (v9.2 == v11.2)) (right_Drop p0 p1.Session) []).bind fun v19 =>
  (whn ((((((v13 && v15) && (v1.2 == v3.2)) && (v5.1 == v7.1)) && (v5.2 == v7.2)) && v17) && (v9.2 == v11.2)) (congressref16_Drop p0 p1.Session) []).bind fun v21 =>
  (whn ((((((v13 && v15) && (v1.2 == v3.2)) && (v5.1 == v7.1)) && (v5.2 == v7.2)) && v17) && (v9.2 == v11.2)) (congressref16_Same v19 v21) false).bind fun v23 =>
  (whn (((((((v13 && v15) && (v1.2 == v3.2)) && (v5.1 == v7.1)) && (v5.2 == v7.2)) && v17) && (v9.2 == v11.2)) && v23) (right_May p0) false).bind fun v25 =>
  (whn (((((((v13 && v15) && (v1.2 == v3.2)) && (v5.1 == v7.1)) && (v5.2 == v7.2)) && v17) && (v9.2 == v11.2)) && v23) (congressref16_May p0) false).bind fun v27 =>
  lt (((((((((v13 && v15) && (v1.2 == v3.2)) && (v5.1 == v7.1)) && (v5.2 == v7.2)) && v17) && (v9.2 == v11.2)) && v23) && (v25 == v27)) : Bool) fun v29 =>
  some v29

noncomputable def congresslaw16_done (p0 : (_root_.List api_Right)) (p1 : congresslaw16_Do) : Option ((_root_.List api_Right)) :=
  jn (fun x8 : Unit =>
    some p0) fun j1 =>
  if (p1.Do == 0) then
    (right_Mint p0 p1.Handle p1.Session p1.Give).bind fun v2 =>
    if (v2.2 == 0) then
      some v2.1
    else
      j1 ()
  else
    if (p1.Do == 1) then
      (right_Revoke p0 p1.Handle).bind fun v4 =>
      if (v4.2 == 0) then
        some v4.1
      else
        j1 ()
    else
      if (p1.Do == 2) then
        (right_Drop p0 p1.Session).bind fun v6 =>
        some v6
      else
        j1 ()

noncomputable def congresslaw16_RightMinted (p0 : (_root_.List congresslaw16_Do)) (p1 : Int) (p2 : Int) : Option (Bool) :=
  (loop (ω := Fl (Bool) ((_root_.List api_Right) × Int × Int)) (fun (x1 : (_root_.List api_Right) × Int × Int × Int) =>
    if ((decide (x1.2.2.2 < (p0.length : Int))) && (decide (x1.2.2.2 < 100))) then
      (ib x1.2.2.2 p0.length).bind fun _ =>
      (congresslaw16_done x1.1 (p0.getD x1.2.2.2.toNat z_congresslaw16_Do)).bind fun v4 =>
      lt ((((((p0.getD x1.2.2.2.toNat z_congresslaw16_Do).Do) == 0) && (((p0.getD x1.2.2.2.toNat z_congresslaw16_Do).Handle) == p1)) && (decide ((v4.length : Int) > (x1.1.length : Int)))) : Bool) fun v6 =>
      jn (fun x8 : Int × Int =>
        lt ((((((p0.getD x1.2.2.2.toNat z_congresslaw16_Do).Do) == 1) && (((p0.getD x1.2.2.2.toNat z_congresslaw16_Do).Handle) == p1)) || ((((p0.getD x1.2.2.2.toNat z_congresslaw16_Do).Do) == 2) && (((p0.getD x1.2.2.2.toNat z_congresslaw16_Do).Session) == x8.1))) : Bool) fun v9 =>
        jn (fun x11 : Int =>
          some (.next (v4, x8.1, x11, (IntKind.i64.wrap (x1.2.2.2 + 1))))) fun j10 =>
        if v9 then
          j10 (0)
        else
          j10 (x8.2)) fun j7 =>
      if v6 then
        j7 ((p0.getD x1.2.2.2.toNat z_congresslaw16_Do).Session, (p0.getD x1.2.2.2.toNat z_congresslaw16_Do).Give)
      else
        j7 (x1.2.1, x1.2.2.1)
    else
      some (.done (.nx (x1.1, x1.2.1, x1.2.2.1)))) (([] : _root_.List api_Right), 0, 0, 0)).bind fun wn2 => Fl.elim wn2 (fun y12 =>
    (congresslaw16_fixed).bind fun v13 =>
    (whn (!(!v13)) (right_May y12.1) false).bind fun v15 =>
    if ((!v13) || (!v15)) then
      some false
    else
      (right_Check y12.1 p1 p2).bind fun v17 =>
      lt ((((decide (p2 < 1)) || (decide (p2 > 7))) || ((iand .i64 y12.2.2 p2) != p2)) : Bool) fun v19 =>
      if v19 then
        some ((v17.2 == 160) && (v17.1 == 0))
      else
        some ((v17.2 == 0) && (v17.1 == y12.2.1))) (fun r => some r)

noncomputable def congresslaw16_RightApart (p0 : (_root_.List api_Right)) (p1 : congresslaw16_Do) (p2 : congresslaw16_Do) : Option (Bool) :=
  (congresslaw16_fixed).bind fun v1 =>
  (whn (!(!v1)) (right_May p0) false).bind fun v3 =>
  if ((((!v1) || (!v3)) || (p2.Handle == p1.Handle)) || (p1.Do == 2)) then
    (congresslaw16_fixed).bind fun v5 =>
    some v5
  else
    (right_Check p0 p2.Handle p2.Give).bind fun v7 =>
    (congresslaw16_done p0 p1).bind fun v9 =>
    (right_Check v9 p2.Handle p2.Give).bind fun v11 =>
    (whn ((v7.1 == v11.1) && (v7.2 == v11.2)) (congresslaw16_done p0 p1) []).bind fun v13 =>
    (whn ((v7.1 == v11.1) && (v7.2 == v11.2)) (right_May v13) false).bind fun v15 =>
    some (((v7.1 == v11.1) && (v7.2 == v11.2)) && v15)

noncomputable def congresslaw16_RightFull (p0 : Int) (p1 : Int) : Option (Bool) :=
  (congresslaw16_fixed).bind fun v1 =>
  if (((!v1) || (decide (p0 < 0))) || (decide (p0 > 30))) then
    (congresslaw16_fixed).bind fun v3 =>
    some v3
  else
    (loop (ω := Fl (Bool) (_root_.List api_Right)) (fun (x5 : Int × _root_.List api_Right) =>
      if (decide (x5.1 ≤ p0)) then
        jn (fun x15 : _root_.List api_Right =>
          some (.next ((IntKind.i64.wrap (x5.1 + 1)), x15))) fun j7 =>
        (right_Mint x5.2 (IntKind.u64.wrap (x5.1)) (IntKind.u64.wrap (p1 + (IntKind.u64.wrap ((x5.1.tmod 2))))) 1).bind fun v8 =>
        lt ((((v8.2 == 0) != (decide (x5.1 ≤ 16))) || ((v8.2 != 0) && (v8.2 != 161))) : Bool) fun v10 =>
        if v10 then
          some (.done (.rt false))
        else
          jn (fun x12 : _root_.List api_Right =>
            (right_Revoke x12 1).bind fun v13 =>
            if (v13.2 == 0) then
              j7 (v13.1)
            else
              j7 (x12)) fun j11 =>
          if (v8.2 == 0) then
            j11 (v8.1)
          else
            j11 (x5.2)
      else
        some (.done (.nx (x5.2)))) (1, ([] : _root_.List api_Right))).bind fun wn6 => Fl.elim wn6 (fun y16 =>
      (right_Drop y16 p1).bind fun v17 =>
      lt ((((y16.length : Int) == (if 16 < p0 then 16 else p0)) && ((v17.length : Int) == (IntKind.i64.wrap ((IntKind.i64.wrap ((y16.length : Int) + 1)).tdiv 2)))) : Bool) fun v19 =>
      some v19) (fun r => some r)
end Go.Proofs.Ytffnegdahhlncaa
