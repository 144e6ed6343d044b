/- Printed by gen.py. Conditions: none. -/
import Derived.Test.YtbcjnggdielljaaEngX
import Derived.Test.YtbcjnggdielljaaProg
import Derived.KernelRfl
set_option linter.unusedVariables false
set_option maxRecDepth 100000
namespace Go.Proofs.Ytbcjnggdielljaa
open Go.Eng
structure api_Session where
  Id : Int
  Number : Int
def z_api_Session : api_Session := { Id := 0, Number := 0 }
def c_api_Session (x : api_Session) : Nat → V
  | 0 => (.int .u64 x.Id)
  | 1 => (.int .u64 x.Number)
  | _ => .bool false
def e_api_Session (x : api_Session) : V := .agg (.st [1, 1]) (c_api_Session x)
theorem d_api_Session (x : api_Session) : (e_api_Session x).Data := fun j => match j with
  | 0 => trivial
  | 1 => trivial
  | _ + 2 => trivial
theorem f_api_Session (x : api_Session) : (e_api_Session x).Flat := fun j => match j with
  | 0 => trivial
  | 1 => trivial
  | _ + 2 => trivial
def b_api_Session (x y : api_Session) : Bool := (x.Id == y.Id) && ((x.Number == y.Number))
theorem q_api_Session (x y : api_Session) : eqV (e_api_Session x) (e_api_Session y) = b_api_Session x y := by
  have h : eqV (e_api_Session x) (e_api_Session y) = ((List.range 2).all fun j => eqV (c_api_Session x j) (c_api_Session y j)) := rfl
  have hr : List.range 2 = [0, 1] := rfl
  rw [h, hr]
  simp only [List.all_cons, List.all_nil, Bool.and_true, c_api_Session, b_api_Session, eqV]
theorem al_api_Session (x y : api_Session) : Akin (e_api_Session x) (e_api_Session y) := .agg _ _ _ fun j h => match j, h with
  | 0, _ => .int _ _ _
  | 1, _ => .int _ _ _
  | n + 2, h => absurd (show n + 2 < 2 from h) (by omega)
theorem st_api_Session_0 (x : api_Session) (v : Int) : vupd (c_api_Session x) 0 (.int .u64 v) = c_api_Session { x with Id := v } := by
  funext j; match j with
  | 0 => rfl
  | 1 => rfl
  | _ + 2 => rfl
theorem st_api_Session_1 (x : api_Session) (v : Int) : vupd (c_api_Session x) 1 (.int .u64 v) = c_api_Session { x with Number := v } := by
  funext j; match j with
  | 0 => rfl
  | 1 => rfl
  | _ + 2 => rfl
def e_s_api_Session (x : _root_.List api_Session) : V := .sl 2 x.length fun j => (e_api_Session (x.getD j z_api_Session))
theorem d_s_api_Session (x : _root_.List api_Session) : (e_s_api_Session x).Data := fun j => (d_api_Session (x.getD j z_api_Session))
structure api_Roster where
  Last : Int
  List : (_root_.List api_Session)
def z_api_Roster : api_Roster := { Last := 0, List := [] }
def c_api_Roster (x : api_Roster) : Nat → V
  | 0 => (.int .u64 x.Last)
  | 1 => (e_s_api_Session x.List)
  | _ => .bool false
def e_api_Roster (x : api_Roster) : V := .agg (.st [1, 1]) (c_api_Roster x)
theorem d_api_Roster (x : api_Roster) : (e_api_Roster x).Data := fun j => match j with
  | 0 => trivial
  | 1 => (d_s_api_Session x.List)
  | _ + 2 => trivial
theorem st_api_Roster_0 (x : api_Roster) (v : Int) : vupd (c_api_Roster x) 0 (.int .u64 v) = c_api_Roster { x with Last := v } := by
  funext j; match j with
  | 0 => rfl
  | 1 => rfl
  | _ + 2 => rfl
theorem st_api_Roster_1 (x : api_Roster) (v : (_root_.List api_Session)) : vupd (c_api_Roster x) 1 (e_s_api_Session v) = c_api_Roster { x with List := v } := by
  funext j; match j with
  | 0 => rfl
  | 1 => rfl
  | _ + 2 => rfl
structure congresslaw17_Do where
  Do : Int
  Id : Int
def z_congresslaw17_Do : congresslaw17_Do := { Do := 0, Id := 0 }
def c_congresslaw17_Do (x : congresslaw17_Do) : Nat → V
  | 0 => (.int .i64 x.Do)
  | 1 => (.int .u64 x.Id)
  | _ => .bool false
def e_congresslaw17_Do (x : congresslaw17_Do) : V := .agg (.st [1, 1]) (c_congresslaw17_Do x)
theorem d_congresslaw17_Do (x : congresslaw17_Do) : (e_congresslaw17_Do x).Data := fun j => match j with
  | 0 => trivial
  | 1 => trivial
  | _ + 2 => trivial
theorem f_congresslaw17_Do (x : congresslaw17_Do) : (e_congresslaw17_Do x).Flat := fun j => match j with
  | 0 => trivial
  | 1 => trivial
  | _ + 2 => trivial
def b_congresslaw17_Do (x y : congresslaw17_Do) : Bool := (x.Do == y.Do) && ((x.Id == y.Id))
theorem q_congresslaw17_Do (x y : congresslaw17_Do) : eqV (e_congresslaw17_Do x) (e_congresslaw17_Do y) = b_congresslaw17_Do x y := by
  have h : eqV (e_congresslaw17_Do x) (e_congresslaw17_Do y) = ((List.range 2).all fun j => eqV (c_congresslaw17_Do x j) (c_congresslaw17_Do y j)) := rfl
  have hr : List.range 2 = [0, 1] := rfl
  rw [h, hr]
  simp only [List.all_cons, List.all_nil, Bool.and_true, c_congresslaw17_Do, b_congresslaw17_Do, eqV]
theorem al_congresslaw17_Do (x y : congresslaw17_Do) : Akin (e_congresslaw17_Do x) (e_congresslaw17_Do y) := .agg _ _ _ fun j h => match j, h with
  | 0, _ => .int _ _ _
  | 1, _ => .int _ _ _
  | n + 2, h => absurd (show n + 2 < 2 from h) (by omega)
theorem st_congresslaw17_Do_0 (x : congresslaw17_Do) (v : Int) : vupd (c_congresslaw17_Do x) 0 (.int .i64 v) = c_congresslaw17_Do { x with Do := v } := by
  funext j; match j with
  | 0 => rfl
  | 1 => rfl
  | _ + 2 => rfl
theorem st_congresslaw17_Do_1 (x : congresslaw17_Do) (v : Int) : vupd (c_congresslaw17_Do x) 1 (.int .u64 v) = c_congresslaw17_Do { x with Id := v } := by
  funext j; match j with
  | 0 => rfl
  | 1 => rfl
  | _ + 2 => rfl
def e_s_congresslaw17_Do (x : _root_.List congresslaw17_Do) : V := .sl 2 x.length fun j => (e_congresslaw17_Do (x.getD j z_congresslaw17_Do))
theorem d_s_congresslaw17_Do (x : _root_.List congresslaw17_Do) : (e_s_congresslaw17_Do x).Data := fun j => (d_congresslaw17_Do (x.getD j z_congresslaw17_Do))

noncomputable def slices_Clone_api_Session_api_Session (p0 : (_root_.List api_Session)) : Option ((_root_.List api_Session)) :=
  nilq p0.length (
    some ([] : _root_.List api_Session)) (
    (fit (([] : _root_.List api_Session) ++ p0).length 16).bind fun _ =>
    some (([] : _root_.List api_Session) ++ p0))

noncomputable def roster_copied (p0 : api_Roster) : Option (api_Roster) :=
  (slices_Clone_api_Session_api_Session p0.List).bind fun v1 =>
  some ({ p0 with List := v1 })

noncomputable def roster_Open (p0 : api_Roster) : Option (api_Roster × Int × Int) :=
  if ((decide ((p0.List.length : Int) ≥ 4)) || (decide (p0.Last ≥ 65535))) then
    some (({ Last := 0, List := [] } : api_Roster), 0, 161)
  else
    (roster_copied p0).bind fun v1 =>
    (fit (v1.List ++ ([({ Id := ({ v1 with Last := (IntKind.u64.wrap (v1.Last + 1)) }).Last, Number := 0 } : api_Session)] : _root_.List api_Session)).length 16).bind fun _ =>
    lt ((v1.List ++ ([({ Id := ({ v1 with Last := (IntKind.u64.wrap (v1.Last + 1)) }).Last, Number := 0 } : api_Session)] : _root_.List api_Session)) : _root_.List api_Session) fun v4 =>
    some ({ { v1 with Last := (IntKind.u64.wrap (v1.Last + 1)) } with List := v4 }, ({ v1 with Last := (IntKind.u64.wrap (v1.Last + 1)) }).Last, 0)

noncomputable def congressref17_Open (p0 : api_Roster) : Option (api_Roster × Int × Int) :=
  if ((decide ((p0.List.length : Int) > 3)) || (decide (p0.Last > 65534))) then
    some (({ Last := 0, List := [] } : api_Roster), 0, 161)
  else
    (fit (([] : _root_.List api_Session) ++ p0.List).length 16).bind fun _ =>
    lt (({ Last := (IntKind.u64.wrap (p0.Last + 1)), List := [] } : api_Roster) : api_Roster) fun v2 =>
    (fit ((([] : _root_.List api_Session) ++ p0.List) ++ ([({ Id := (IntKind.u64.wrap (p0.Last + 1)), Number := 0 } : api_Session)] : _root_.List api_Session)).length 16).bind fun _ =>
    lt (((([] : _root_.List api_Session) ++ p0.List) ++ ([({ Id := (IntKind.u64.wrap (p0.Last + 1)), Number := 0 } : api_Session)] : _root_.List api_Session)) : _root_.List api_Session) fun v4 =>
    some ({ v2 with List := v4 }, (IntKind.u64.wrap (p0.Last + 1)), 0)

noncomputable def slices_IndexFunc_api_Session_api_Session (p0 : (_root_.List api_Session)) (p1 : (api_Session → Option (Bool))) : Option (Int) :=
  (loop (ω := Fl (Int) (Unit)) (fun (x1 : Int) =>
    if (decide (x1 < (p0.length : Int))) then
      (ib x1 p0.length).bind fun _ =>
      (p1 (p0.getD x1.toNat z_api_Session)).bind fun v4 =>
      if v4 then
        some (.done (.rt x1))
      else
        some (.next ((IntKind.i64.wrap (x1 + 1))))
    else
      some (.done (.nx ()))) (0)).bind fun wn2 => Fl.elim wn2 (fun y6 =>
    some (-1)) (fun r => some r)

noncomputable def roster_find_1 (p0 : api_Session) (q0 : Int) : Option (Bool) :=
  some (p0.Id == q0)

noncomputable def roster_find (p0 : api_Roster) (p1 : Int) : Option (Int) :=
  (slices_IndexFunc_api_Session_api_Session p0.List (fun z0 => roster_find_1 z0 p1)).bind fun v1 =>
  some v1

noncomputable def slices_Delete_api_Session_api_Session (p0 : (_root_.List api_Session)) (p1 : Int) (p2 : Int) : Option ((_root_.List api_Session)) :=
  (sb p1 p2 p0.length).bind fun _ =>
  (sb p2 (p0.length : Int) p0.length).bind fun _ =>
  if (p1 == p2) then
    some p0
  else
    (sb 0 p1 p0.length).bind fun _ =>
    (sb p2 ((p0.length : Nat) : Int) p0.length).bind fun _ =>
    (inb (p1.toNat - 0) p2.toNat).bind fun _ =>
    (inb (p2.toNat + (p0.length - p2.toNat)) p0.length).bind fun _ =>
    (sb ((((p1.toNat - 0) + (p0.length - p2.toNat)) : Nat) : Int) (p0.length : Int) ((shf p0 z_api_Session (p1.toNat - 0) p2.toNat (p0.length - p2.toNat)).length)).bind fun _ =>
    (inb ((((((p1.toNat - 0) + (p0.length - p2.toNat)) : Nat) : Int).toNat) + (((p0.length : Int).toNat) - (((((p1.toNat - 0) + (p0.length - p2.toNat)) : Nat) : Int).toNat))) (shf p0 z_api_Session (p1.toNat - 0) p2.toNat (p0.length - p2.toNat)).length).bind fun _ =>
    lt ((clr (shf p0 z_api_Session (p1.toNat - 0) p2.toNat (p0.length - p2.toNat)) z_api_Session (((((p1.toNat - 0) + (p0.length - p2.toNat)) : Nat) : Int).toNat) (((p0.length : Int).toNat) - (((((p1.toNat - 0) + (p0.length - p2.toNat)) : Nat) : Int).toNat))) : _root_.List api_Session) fun v9 =>
    (inb ((p1.toNat - 0) + (p0.length - p2.toNat)) v9.length).bind fun _ =>
    some (v9.take ((p1.toNat - 0) + (p0.length - p2.toNat)))

noncomputable def roster_Close (p0 : api_Roster) (p1 : Int) : Option (api_Roster × Int) :=
  (roster_find p0 p1).bind fun v1 =>
  if (decide (v1 < 0)) then
    some (({ Last := 0, List := [] } : api_Roster), 162)
  else
    (roster_copied p0).bind fun v3 =>
    (slices_Delete_api_Session_api_Session v3.List v1 (IntKind.i64.wrap (v1 + 1))).bind fun v5 =>
    some ({ v3 with List := v5 }, 0)

noncomputable def congressref17_Find (p0 : api_Roster) (p1 : Int) : Option (Int) :=
  (loop (ω := Fl (Int) (Unit)) (fun (x1 : Int) =>
    if (decide (x1 < (p0.List.length : Int))) then
      (ib x1 p0.List.length).bind fun _ =>
      if (((p0.List.getD x1.toNat z_api_Session).Id) == p1) then
        some (.done (.rt x1))
      else
        some (.next ((IntKind.i64.wrap (x1 + 1))))
    else
      some (.done (.nx ()))) (0)).bind fun wn2 => Fl.elim wn2 (fun y4 =>
    some (-1)) (fun r => some r)

noncomputable def congressref17_Close (p0 : api_Roster) (p1 : Int) : Option (api_Roster × Int) :=
  (congressref17_Find p0 p1).bind fun v1 =>
  if (decide (v1 < 0)) then
    some ({ ({ Last := 0, List := [] } : api_Roster) with List := ([] : _root_.List api_Session) }, 162)
  else
    (loop (ω := Fl (api_Roster × Int) (_root_.List api_Session)) (fun (x3 : Int × _root_.List api_Session) =>
      if (decide (x3.1 < (p0.List.length : Int))) then
        jn (fun x8 : _root_.List api_Session =>
          some (.next ((IntKind.i64.wrap (x3.1 + 1)), x8))) fun j5 =>
        if (x3.1 != v1) then
          (ib x3.1 p0.List.length).bind fun _ =>
          (fit (x3.2 ++ ([p0.List.getD x3.1.toNat z_api_Session] : _root_.List api_Session)).length 16).bind fun _ =>
          j5 ((x3.2 ++ ([p0.List.getD x3.1.toNat z_api_Session] : _root_.List api_Session)))
        else
          j5 (x3.2)
      else
        some (.done (.nx (x3.2)))) (0, ([] : _root_.List api_Session))).bind fun wn4 => Fl.elim wn4 (fun y9 =>
      some ({ ({ Last := p0.Last, List := [] } : api_Roster) with List := y9 }, 0)) (fun r => some r)

noncomputable def roster_Next (p0 : api_Roster) (p1 : Int) : Option (api_Roster × Int × Int) :=
  (roster_find p0 p1).bind fun v1 =>
  (ibg (!(decide (v1 < 0))) v1 p0.List.length).bind fun _ =>
  lt (((decide (v1 < 0)) || (decide (((p0.List.getD v1.toNat z_api_Session).Number) ≥ 4294967295))) : Bool) fun v4 =>
  if v4 then
    some (({ Last := 0, List := [] } : api_Roster), 0, 162)
  else
    (roster_copied p0).bind fun v5 =>
    (ib v1 v5.List.length).bind fun _ =>
    (ib v1 v5.List.length).bind fun _ =>
    lt (v5.List.set v1.toNat ({ v5.List.getD v1.toNat z_api_Session with Number := (IntKind.u64.wrap (((v5.List.getD v1.toNat z_api_Session).Number) + 1)) }) : _root_.List api_Session) fun v9 =>
    (ib v1 v9.length).bind fun _ =>
    some ({ v5 with List := v9 }, (v9.getD v1.toNat z_api_Session).Number, 0)

noncomputable def congressref17_Next (p0 : api_Roster) (p1 : Int) : Option (api_Roster × Int × Int) :=
  (congressref17_Find p0 p1).bind fun v1 =>
  (ibg (!(decide (v1 < 0))) v1 p0.List.length).bind fun _ =>
  lt (((decide (v1 < 0)) || (decide (((p0.List.getD v1.toNat z_api_Session).Number) ≥ 4294967295))) : Bool) fun v4 =>
  if v4 then
    some (({ Last := 0, List := [] } : api_Roster), 0, 162)
  else
    (fit (([] : _root_.List api_Session) ++ p0.List).length 16).bind fun _ =>
    (ib v1 ((([] : _root_.List api_Session) ++ p0.List).length)).bind fun _ =>
    (ib v1 ((([] : _root_.List api_Session) ++ p0.List).length)).bind fun _ =>
    lt ((([] : _root_.List api_Session) ++ p0.List).set v1.toNat ({ (([] : _root_.List api_Session) ++ p0.List).getD v1.toNat z_api_Session with Number := (IntKind.u64.wrap ((((([] : _root_.List api_Session) ++ p0.List).getD v1.toNat z_api_Session).Number) + 1)) }) : _root_.List api_Session) fun v8 =>
    (ib v1 v8.length).bind fun _ =>
    some ({ ({ Last := p0.Last, List := [] } : api_Roster) with List := v8 }, (v8.getD v1.toNat z_api_Session).Number, 0)

noncomputable def roster_Has (p0 : api_Roster) (p1 : Int) : Option (Bool) :=
  (roster_find p0 p1).bind fun v1 =>
  some (decide (v1 ≥ 0))

noncomputable def roster_May (p0 : api_Roster) : Option (Bool) :=
  (loop (ω := Fl (Bool) (Int)) (fun (x1 : Int × Int) =>
    if (decide (x1.2 < (p0.List.length : Int))) then
      (ib x1.2 p0.List.length).bind fun _ =>
      lt (((decide (((p0.List.getD x1.2.toNat z_api_Session).Id) ≤ x1.1)) || (decide (((p0.List.getD x1.2.toNat z_api_Session).Number) > 4294967295))) : Bool) fun v4 =>
      if v4 then
        some (.done (.rt false))
      else
        some (.next ((p0.List.getD x1.2.toNat z_api_Session).Id, (IntKind.i64.wrap (x1.2 + 1))))
    else
      some (.done (.nx (x1.1)))) (0, 0)).bind fun wn2 => Fl.elim wn2 (fun y5 =>
    lt ((((decide ((p0.List.length : Int) ≤ 4)) && (decide (y5 ≤ p0.Last))) && (decide (p0.Last ≤ 65535))) : Bool) fun v6 =>
    some v6) (fun r => some r)

noncomputable def congresslaw17_fixed : Option (Bool) :=
  (roster_Open ({ Last := 0, List := [] } : api_Roster)).bind fun v1 =>
  (roster_Open v1.1).bind fun v3 =>
  (roster_Close v3.1 1).bind fun v5 =>
  (roster_Open v5.1).bind fun v7 =>
  (roster_Next v7.1 3).bind fun v9 =>
  (roster_Close v7.1 1).bind fun v11 =>
  (whn ((((((((((v1.2.2 == 0) && (v1.2.1 == 1)) && (v3.2.2 == 0)) && (v3.2.1 == 2)) && (v5.2 == 0)) && (v7.2.2 == 0)) && (v7.2.1 == 3)) && (v9.2.2 == 0)) && (v9.2.1 == 1)) && (v11.2 == 162)) (roster_Has v7.1 3) false).bind fun v13 =>
  (whn (((((((((((v1.2.2 == 0) && (v1.2.1 == 1)) && (v3.2.2 == 0)) && (v3.2.1 == 2)) && (v5.2 == 0)) && (v7.2.2 == 0)) && (v7.2.1 == 3)) && (v9.2.2 == 0)) && (v9.2.1 == 1)) && (v11.2 == 162)) && v13) (roster_Has v7.1 1) false).bind fun v15 =>
  (whn ((((((((((((v1.2.2 == 0) && (v1.2.1 == 1)) && (v3.2.2 == 0)) && (v3.2.1 == 2)) && (v5.2 == 0)) && (v7.2.2 == 0)) && (v7.2.1 == 3)) && (v9.2.2 == 0)) && (v9.2.1 == 1)) && (v11.2 == 162)) && v13) && (!v15)) (roster_May v7.1) false).bind fun v17 =>
  lt ((((((((((((((v1.2.2 == 0) && (v1.2.1 == 1)) && (v3.2.2 == 0)) && (v3.2.1 == 2)) && (v5.2 == 0)) && (v7.2.2 == 0)) && (v7.2.1 == 3)) && (v9.2.2 == 0)) && (v9.2.1 == 1)) && (v11.2 == 162)) && v13) && (!v15)) && v17) : Bool) fun v19 =>
  some v19

noncomputable def congressref17_Is (p0 : api_Roster) (p1 : api_Roster) : Option (Bool) :=
  lt (((p0.Last != p1.Last) || ((p0.List.length : Int) != (p1.List.length : Int))) : Bool) fun v1 =>
  if v1 then
    some false
  else
    (loop (ω := Fl (Bool) (Unit)) (fun (x2 : Int) =>
      if (decide (x2 < (p0.List.length : Int))) then
        (ib x2 p0.List.length).bind fun _ =>
        (ib x2 p1.List.length).bind fun _ =>
        lt ((!(b_api_Session (p0.List.getD x2.toNat z_api_Session) (p1.List.getD x2.toNat z_api_Session))) : Bool) fun v6 =>
        if v6 then
          some (.done (.rt false))
        else
          some (.next ((IntKind.i64.wrap (x2 + 1))))
      else
        some (.done (.nx ()))) (0)).bind fun wn3 => Fl.elim wn3 (fun y7 =>
      some true) (fun r => some r)

noncomputable def congressref17_May (p0 : api_Roster) : Option (Bool) :=
  (loop (ω := Fl (Bool) (Unit)) (fun (x1 : Int) =>
    if (decide (x1 < (p0.List.length : Int))) then
      (ib x1 p0.List.length).bind fun _ =>
      (ibg ((!(((decide (((p0.List.getD x1.toNat z_api_Session).Id) < 1)) || (decide (((p0.List.getD x1.toNat z_api_Session).Id) > p0.Last))) || (decide (((p0.List.getD x1.toNat z_api_Session).Number) > 4294967295)))) && (decide (x1 > 0))) (IntKind.i64.wrap (x1 - 1)) p0.List.length).bind fun _ =>
      lt (((((decide (((p0.List.getD x1.toNat z_api_Session).Id) < 1)) || (decide (((p0.List.getD x1.toNat z_api_Session).Id) > p0.Last))) || (decide (((p0.List.getD x1.toNat z_api_Session).Number) > 4294967295))) || ((decide (x1 > 0)) && (decide (((p0.List.getD ((IntKind.i64.wrap (x1 - 1)).toNat) z_api_Session).Id) ≥ ((p0.List.getD x1.toNat z_api_Session).Id))))) : Bool) fun v5 =>
      if v5 then
        some (.done (.rt false))
      else
        some (.next ((IntKind.i64.wrap (x1 + 1))))
    else
      some (.done (.nx ()))) (0)).bind fun wn2 => Fl.elim wn2 (fun y6 =>
    some ((decide ((p0.List.length : Int) ≤ 4)) && (decide (p0.Last ≤ 65535)))) (fun r => some r)

noncomputable def congresslaw17_RosterTells (p0 : api_Roster) (p1 : Int) : Option (Bool) :=
  (roster_Open p0).bind fun v1 =>
  (congressref17_Open p0).bind fun v3 =>
  (roster_Close p0 p1).bind fun v5 =>
  (congressref17_Close p0 p1).bind fun v7 =>
  (roster_Next p0 p1).bind fun v9 =>
  (congressref17_Next p0 p1).bind fun v11 =>
  (congresslaw17_fixed).bind fun v13 =>
  (whn v13 (congressref17_Is v1.1 v3.1) false).bind fun v15 =>
  (whn (((v13 && v15) && (v1.2.1 == v3.2.1)) && (v1.2.2 == v3.2.2)) (congressref17_Is v5.1 ({ v7.1 with List := v7.1.List })) false).bind fun v17 =>
  (whn (((((v13 && v15) && (v1.2.1 == v3.2.1)) && (v1.2.2 == v3.2.2)) && v17) && (v5.2 == v7.2)) (congressref17_Is v9.1 v11.1) false).bind fun v19 =>
  (whn ((((((((v13 && v15) && (v1.2.1 == v3.2.1)) && (v1.2.2 == v3.2.2)) && v17) && (v5.2 == v7.2)) && v19) && (v9.2.1 == v11.2.1)) && (v9.2.2 == v11.2.2)) (roster_Has p0 p1) false).bind fun v21 =>
  (whn ((((((((v13 && v15) && (v1.2.1 == v3.2.1)) && (v1.2.2 == v3.2.2)) && v17) && (v5.2 == v7.2)) && v19) && (v9.2.1 == v11.2.1)) && (v9.2.2 == v11.2.2)) (congressref17_Find p0 p1) 0).bind fun v23 =>
  (whn (((((((((v13 && v15) && (v1.2.1 == v3.2.1)) && (v1.2.2 == v3.2.2)) && v17) && (v5.2 == v7.2)) && v19) && (v9.2.1 == v11.2.1)) && (v9.2.2 == v11.2.2)) && (v21 == (decide (v23 ≥ 0)))) (roster_May p0) false).bind fun v25 =>
  (whn (((((((((v13 && v15) && (v1.2.1 == v3.2.1)) && (v1.2.2 == v3.2.2)) && v17) && (v5.2 == v7.2)) && v19) && (v9.2.1 == v11.2.1)) && (v9.2.2 == v11.2.2)) && (v21 == (decide (v23 ≥ 0)))) (congressref17_May p0) false).bind fun v27 =>
  lt (((((((((((v13 && v15) && (v1.2.1 == v3.2.1)) && (v1.2.2 == v3.2.2)) && v17) && (v5.2 == v7.2)) && v19) && (v9.2.1 == v11.2.1)) && (v9.2.2 == v11.2.2)) && (v21 == (decide (v23 ≥ 0)))) && (v25 == v27)) : Bool) fun v29 =>
  some v29

noncomputable def congresslaw17_RosterFresh (p0 : (_root_.List congresslaw17_Do)) : Option (Bool) :=
  (loop (ω := Fl (Bool) (Unit)) (fun (x1 : Int × Int × api_Roster × _root_.List api_Session) =>
    if ((decide (x1.2.1 < (p0.length : Int))) && (decide (x1.2.1 < 200))) then
      (ib x1.2.1 p0.length).bind fun _ =>
      jn (fun x31 : Int × api_Roster × _root_.List api_Session =>
        (roster_May x31.2.1).bind fun v32 =>
        lt ((((!v32) || (decide ((x31.2.1.List.length : Int) > 4))) || (x31.2.1.Last != x31.1)) : Bool) fun v34 =>
        if v34 then
          some (.done (.rt false))
        else
          some (.next (x31.1, (IntKind.i64.wrap (x1.2.1 + 1)), x31.2.1, x31.2.2))) fun j4 =>
      if (((p0.getD x1.2.1.toNat z_congresslaw17_Do).Do) == 0) then
        (roster_Open x1.2.2.1).bind fun v5 =>
        if ((v5.2.2 == 0) != (decide ((x1.2.2.1.List.length : Int) < 4))) then
          some (.done (.rt false))
        else
          if (v5.2.2 == 0) then
            if (v5.2.1 != (IntKind.u64.wrap (x1.1 + 1))) then
              some (.done (.rt false))
            else
              (fit (x1.2.2.2 ++ ([({ Id := v5.2.1, Number := 0 } : api_Session)] : _root_.List api_Session)).length 16).bind fun _ =>
              lt ((x1.2.2.2 ++ ([({ Id := v5.2.1, Number := 0 } : api_Session)] : _root_.List api_Session)) : _root_.List api_Session) fun v8 =>
              j4 ((IntKind.u64.wrap (x1.1 + 1)), v5.1, v8)
          else
            j4 (x1.1, x1.2.2.1, x1.2.2.2)
      else
        if (((p0.getD x1.2.1.toNat z_congresslaw17_Do).Do) == 1) then
          (ib x1.2.1 p0.length).bind fun _ =>
          (roster_Close x1.2.2.1 ((p0.getD x1.2.1.toNat z_congresslaw17_Do).Id)).bind fun v10 =>
          (ib x1.2.1 p0.length).bind fun _ =>
          (roster_Has x1.2.2.1 ((p0.getD x1.2.1.toNat z_congresslaw17_Do).Id)).bind fun v13 =>
          if ((v10.2 == 0) != v13) then
            some (.done (.rt false))
          else
            if (v10.2 == 0) then
              j4 (x1.1, v10.1, x1.2.2.2)
            else
              j4 (x1.1, x1.2.2.1, x1.2.2.2)
        else
          if (((p0.getD x1.2.1.toNat z_congresslaw17_Do).Do) == 2) then
            (ib x1.2.1 p0.length).bind fun _ =>
            (roster_Next x1.2.2.1 ((p0.getD x1.2.1.toNat z_congresslaw17_Do).Id)).bind fun v16 =>
            (ib x1.2.1 p0.length).bind fun _ =>
            (roster_Has x1.2.2.1 ((p0.getD x1.2.1.toNat z_congresslaw17_Do).Id)).bind fun v19 =>
            if ((v16.2.2 == 0) != v19) then
              some (.done (.rt false))
            else
              if (v16.2.2 == 0) then
                (ib x1.2.1 p0.length).bind fun _ =>
                (ibg (!(decide (((p0.getD x1.2.1.toNat z_congresslaw17_Do).Id) < 1))) x1.2.1 p0.length).bind fun _ =>
                lt (((decide (((p0.getD x1.2.1.toNat z_congresslaw17_Do).Id) < 1)) || (decide (((p0.getD x1.2.1.toNat z_congresslaw17_Do).Id) > (IntKind.u64.wrap ((x1.2.2.2.length : Int)))))) : Bool) fun v23 =>
                if v23 then
                  some (.done (.rt false))
                else
                  (ib x1.2.1 p0.length).bind fun _ =>
                  (ib (IntKind.i64.wrap ((IntKind.i64.wrap ((p0.getD x1.2.1.toNat z_congresslaw17_Do).Id)) - 1)) x1.2.2.2.length).bind fun _ =>
                  (ib (IntKind.i64.wrap ((IntKind.i64.wrap ((p0.getD x1.2.1.toNat z_congresslaw17_Do).Id)) - 1)) x1.2.2.2.length).bind fun _ =>
                  lt (x1.2.2.2.set ((IntKind.i64.wrap ((IntKind.i64.wrap ((p0.getD x1.2.1.toNat z_congresslaw17_Do).Id)) - 1)).toNat) ({ x1.2.2.2.getD ((IntKind.i64.wrap ((IntKind.i64.wrap ((p0.getD x1.2.1.toNat z_congresslaw17_Do).Id)) - 1)).toNat) z_api_Session with Number := (IntKind.u64.wrap (((x1.2.2.2.getD ((IntKind.i64.wrap ((IntKind.i64.wrap ((p0.getD x1.2.1.toNat z_congresslaw17_Do).Id)) - 1)).toNat) z_api_Session).Number) + 1)) }) : _root_.List api_Session) fun v27 =>
                  (ib x1.2.1 p0.length).bind fun _ =>
                  (ib (IntKind.i64.wrap ((IntKind.i64.wrap ((p0.getD x1.2.1.toNat z_congresslaw17_Do).Id)) - 1)) v27.length).bind fun _ =>
                  lt ((v16.2.1 != ((v27.getD ((IntKind.i64.wrap ((IntKind.i64.wrap ((p0.getD x1.2.1.toNat z_congresslaw17_Do).Id)) - 1)).toNat) z_api_Session).Number)) : Bool) fun v30 =>
                  if v30 then
                    some (.done (.rt false))
                  else
                    j4 (x1.1, v16.1, v27)
              else
                j4 (x1.1, x1.2.2.1, x1.2.2.2)
          else
            j4 (x1.1, x1.2.2.1, x1.2.2.2)
    else
      some (.done (.nx ()))) (0, 0, ({ Last := 0, List := [] } : api_Roster), ([] : _root_.List api_Session))).bind fun wn2 => Fl.elim wn2 (fun y35 =>
    (congresslaw17_fixed).bind fun v36 =>
    some v36) (fun r => some r)

noncomputable def congresslaw17_RosterStays (p0 : api_Roster) (p1 : Int) : Option (Bool) :=
  (congresslaw17_fixed).bind fun v1 =>
  (whn (!(!v1)) (roster_May p0) false).bind fun v3 =>
  if ((!v1) || (!v3)) then
    (congresslaw17_fixed).bind fun v5 =>
    some v5
  else
    (roster_Open p0).bind fun v7 =>
    (roster_Close p0 p1).bind fun v9 =>
    (roster_Next p0 p1).bind fun v11 =>
    (whn (v7.2.2 == 0) (roster_May v7.1) false).bind fun v13 =>
    (whn ((!((v7.2.2 == 0) && (!v13))) && (v9.2 == 0)) (roster_May v9.1) false).bind fun v15 =>
    (whn (((!((v7.2.2 == 0) && (!v13))) && (v9.2 == 0)) && (!(!v15))) (roster_Has v9.1 p1) false).bind fun v17 =>
    (whn ((!(((v7.2.2 == 0) && (!v13)) || ((v9.2 == 0) && ((!v15) || v17)))) && (v11.2.2 == 0)) (roster_May v11.1) false).bind fun v19 =>
    lt (((((v7.2.2 == 0) && (!v13)) || ((v9.2 == 0) && ((!v15) || v17))) || ((v11.2.2 == 0) && (!v19))) : Bool) fun v21 =>
    if v21 then
      some false
    else
      lt ((((v7.2.2 == 0) && ((v7.1.List.length : Int) != (IntKind.i64.wrap ((p0.List.length : Int) + 1)))) || ((v11.2.2 == 0) && ((v11.1.List.length : Int) != (p0.List.length : Int)))) : Bool) fun v22 =>
      if v22 then
        some false
      else
        (loop (ω := Fl (Bool) (Unit)) (fun (x23 : Int) =>
          if (decide (x23 < (p0.List.length : Int))) then
            (ib x23 p0.List.length).bind fun _ =>
            (ibg (v7.2.2 == 0) x23 v7.1.List.length).bind fun _ =>
            (ibg ((!((v7.2.2 == 0) && (!(b_api_Session (v7.1.List.getD x23.toNat z_api_Session) (p0.List.getD x23.toNat z_api_Session))))) && ((v11.2.2 == 0) && (((p0.List.getD x23.toNat z_api_Session).Id) != p1))) x23 v11.1.List.length).bind fun _ =>
            (whn ((!(((v7.2.2 == 0) && (!(b_api_Session (v7.1.List.getD x23.toNat z_api_Session) (p0.List.getD x23.toNat z_api_Session)))) || (((v11.2.2 == 0) && (((p0.List.getD x23.toNat z_api_Session).Id) != p1)) && (!(b_api_Session (v11.1.List.getD x23.toNat z_api_Session) (p0.List.getD x23.toNat z_api_Session)))))) && ((v9.2 == 0) && (((p0.List.getD x23.toNat z_api_Session).Id) != p1))) (roster_Has v9.1 ((p0.List.getD x23.toNat z_api_Session).Id)) false).bind fun v28 =>
            lt (((((v7.2.2 == 0) && (!(b_api_Session (v7.1.List.getD x23.toNat z_api_Session) (p0.List.getD x23.toNat z_api_Session)))) || (((v11.2.2 == 0) && (((p0.List.getD x23.toNat z_api_Session).Id) != p1)) && (!(b_api_Session (v11.1.List.getD x23.toNat z_api_Session) (p0.List.getD x23.toNat z_api_Session))))) || (((v9.2 == 0) && (((p0.List.getD x23.toNat z_api_Session).Id) != p1)) && (!v28))) : Bool) fun v30 =>
            if v30 then
              some (.done (.rt false))
            else
              some (.next ((IntKind.i64.wrap (x23 + 1))))
          else
            some (.done (.nx ()))) (0)).bind fun wn24 => Fl.elim wn24 (fun y31 =>
          some true) (fun r => some r)

noncomputable def congresslaw17_RosterFull (p0 : Int) : Option (Bool) :=
  (loop (ω := Fl (Bool) (api_Roster)) (fun (x1 : Int × api_Roster) =>
    if (decide (x1.1 < 4)) then
      (roster_Open x1.2).bind fun v3 =>
      lt (((v3.2.2 != 0) || (v3.2.1 != (IntKind.u64.wrap ((IntKind.i64.wrap (x1.1 + 1)))))) : Bool) fun v5 =>
      if v5 then
        some (.done (.rt false))
      else
        some (.next ((IntKind.i64.wrap (x1.1 + 1)), v3.1))
    else
      some (.done (.nx (x1.2)))) (0, ({ Last := 0, List := [] } : api_Roster))).bind fun wn2 => Fl.elim wn2 (fun y6 =>
    (roster_Open y6).bind fun v7 =>
    (roster_Close y6 p0).bind fun v9 =>
    (congresslaw17_fixed).bind fun v11 =>
    lt ((((!v11) || (v7.2.2 != 161)) || ((v9.2 == 0) != ((decide (p0 ≥ 1)) && (decide (p0 ≤ 4))))) : Bool) fun v13 =>
    if v13 then
      some false
    else
      if (v9.2 != 0) then
        some true
      else
        (roster_Open v9.1).bind fun v14 =>
        (roster_Open v14.1).bind fun v16 =>
        (whn (((v14.2.2 == 0) && (v14.2.1 == 5)) && (v16.2.2 == 161)) (roster_Has v14.1 p0) false).bind fun v18 =>
        (whn ((((v14.2.2 == 0) && (v14.2.1 == 5)) && (v16.2.2 == 161)) && (!v18)) (roster_Has v14.1 5) false).bind fun v20 =>
        lt ((((((v14.2.2 == 0) && (v14.2.1 == 5)) && (v16.2.2 == 161)) && (!v18)) && v20) : Bool) fun v22 =>
        some v22) (fun r => some r)
end Go.Proofs.Ytbcjnggdielljaa
