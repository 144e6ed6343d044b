/- Printed by gen.py. Conditions: none. -/
import Derived.Test.YtgcnlfchpjbhkaaEngQ
import Derived.Test.YtgcnlfchpjbhkaaProg
import Derived.KernelRfl
set_option linter.unusedVariables false
set_option maxRecDepth 100000
namespace Go.Proofs.Ytgcnlfchpjbhkaa
open Go.Eng
structure api_Place where
  Round : Int
  From : Int
  Slot : Int
def z_api_Place : api_Place := { Round := 0, From := 0, Slot := 0 }
def c_api_Place (x : api_Place) : Nat → V
  | 0 => (.int .u32 x.Round)
  | 1 => (.int .i64 x.From)
  | 2 => (.int .i64 x.Slot)
  | _ => .bool false
def e_api_Place (x : api_Place) : V := .agg (.st [1, 1, 1]) (c_api_Place x)
theorem d_api_Place (x : api_Place) : (e_api_Place x).Data := fun j => match j with
  | 0 => trivial
  | 1 => trivial
  | 2 => trivial
  | _ + 3 => trivial
theorem f_api_Place (x : api_Place) : (e_api_Place x).Flat := fun j => match j with
  | 0 => trivial
  | 1 => trivial
  | 2 => trivial
  | _ + 3 => trivial
def b_api_Place (x y : api_Place) : Bool := (x.Round == y.Round) && ((x.From == y.From) && ((x.Slot == y.Slot)))
theorem q_api_Place (x y : api_Place) : eqV (e_api_Place x) (e_api_Place y) = b_api_Place x y := by
  have h : eqV (e_api_Place x) (e_api_Place y) = ((List.range 3).all fun j => eqV (c_api_Place x j) (c_api_Place y j)) := rfl
  have hr : List.range 3 = [0, 1, 2] := rfl
  rw [h, hr]
  simp only [List.all_cons, List.all_nil, Bool.and_true, c_api_Place, b_api_Place, eqV]
theorem al_api_Place (x y : api_Place) : Akin (e_api_Place x) (e_api_Place y) := .agg _ _ _ fun j h => match j, h with
  | 0, _ => .int _ _ _
  | 1, _ => .int _ _ _
  | 2, _ => .int _ _ _
  | n + 3, h => absurd (show n + 3 < 3 from h) (by omega)
theorem st_api_Place_0 (x : api_Place) (v : Int) : vupd (c_api_Place x) 0 (.int .u32 v) = c_api_Place { x with Round := v } := by
  funext j; match j with
  | 0 => rfl
  | 1 => rfl
  | 2 => rfl
  | _ + 3 => rfl
theorem st_api_Place_1 (x : api_Place) (v : Int) : vupd (c_api_Place x) 1 (.int .i64 v) = c_api_Place { x with From := v } := by
  funext j; match j with
  | 0 => rfl
  | 1 => rfl
  | 2 => rfl
  | _ + 3 => rfl
theorem st_api_Place_2 (x : api_Place) (v : Int) : vupd (c_api_Place x) 2 (.int .i64 v) = c_api_Place { x with Slot := v } := by
  funext j; match j with
  | 0 => rfl
  | 1 => rfl
  | 2 => rfl
  | _ + 3 => rfl
def e_a8_u32 (x : Nat → Int) : V := .agg (.ar 8 1) fun j => (.int .u32 (x j))
theorem d_a8_u32 (x : Nat → Int) : (e_a8_u32 x).Data := fun _ => trivial
theorem f_a8_u32 (x : Nat → Int) : (e_a8_u32 x).Flat := fun _ => trivial
def b_a8_u32 (x y : Nat → Int) : Bool := (List.range 8).all fun j => ((x j) == (y j))
theorem q_a8_u32 (x y : Nat → Int) : eqV (e_a8_u32 x) (e_a8_u32 y) = b_a8_u32 x y := by
  have h : eqV (e_a8_u32 x) (e_a8_u32 y) = ((List.range 8).all fun j => eqV (.int .u32 (x j)) (.int .u32 (y j))) := rfl
  rw [h]; simp only [b_a8_u32, eqV]
theorem al_a8_u32 (x y : Nat → Int) : Akin (e_a8_u32 x) (e_a8_u32 y) := .agg _ _ _ fun j _ => .int _ _ _
def e_s_bool (x : _root_.List Bool) : V := .sl 1 x.length fun j => (.bool (x.getD j false))
theorem d_s_bool (x : _root_.List Bool) : (e_s_bool x).Data := fun _ => trivial
def e_s_i64 (x : _root_.List Int) : V := .sl 1 x.length fun j => (.int .i64 (x.getD j 0))
theorem d_s_i64 (x : _root_.List Int) : (e_s_i64 x).Data := fun _ => trivial
structure congresslaw09_Two where
  A : api_Place
  B : api_Place
def z_congresslaw09_Two : congresslaw09_Two := { A := z_api_Place, B := z_api_Place }
def c_congresslaw09_Two (x : congresslaw09_Two) : Nat → V
  | 0 => (e_api_Place x.A)
  | 1 => (e_api_Place x.B)
  | _ => .bool false
def e_congresslaw09_Two (x : congresslaw09_Two) : V := .agg (.st [3, 3]) (c_congresslaw09_Two x)
theorem d_congresslaw09_Two (x : congresslaw09_Two) : (e_congresslaw09_Two x).Data := fun j => match j with
  | 0 => (d_api_Place x.A)
  | 1 => (d_api_Place x.B)
  | _ + 2 => trivial
theorem f_congresslaw09_Two (x : congresslaw09_Two) : (e_congresslaw09_Two x).Flat := fun j => match j with
  | 0 => (f_api_Place x.A)
  | 1 => (f_api_Place x.B)
  | _ + 2 => trivial
def b_congresslaw09_Two (x y : congresslaw09_Two) : Bool := (b_api_Place x.A y.A) && ((b_api_Place x.B y.B))
theorem q_congresslaw09_Two (x y : congresslaw09_Two) : eqV (e_congresslaw09_Two x) (e_congresslaw09_Two y) = b_congresslaw09_Two x y := by
  have h : eqV (e_congresslaw09_Two x) (e_congresslaw09_Two y) = ((List.range 2).all fun j => eqV (c_congresslaw09_Two x j) (c_congresslaw09_Two y j)) := rfl
  have hr : List.range 2 = [0, 1] := rfl
  rw [h, hr]
  simp only [List.all_cons, List.all_nil, Bool.and_true, c_congresslaw09_Two, b_congresslaw09_Two, q_api_Place]
theorem al_congresslaw09_Two (x y : congresslaw09_Two) : Akin (e_congresslaw09_Two x) (e_congresslaw09_Two y) := .agg _ _ _ fun j h => match j, h with
  | 0, _ => al_api_Place _ _
  | 1, _ => al_api_Place _ _
  | n + 2, h => absurd (show n + 2 < 2 from h) (by omega)
theorem st_congresslaw09_Two_0 (x : congresslaw09_Two) (v : api_Place) : vupd (c_congresslaw09_Two x) 0 (e_api_Place v) = c_congresslaw09_Two { x with A := v } := by
  funext j; match j with
  | 0 => rfl
  | 1 => rfl
  | _ + 2 => rfl
theorem st_congresslaw09_Two_1 (x : congresslaw09_Two) (v : api_Place) : vupd (c_congresslaw09_Two x) 1 (e_api_Place v) = c_congresslaw09_Two { x with B := v } := by
  funext j; match j with
  | 0 => rfl
  | 1 => rfl
  | _ + 2 => rfl
structure congresslaw09_More where
  D : (Nat → Int)
  P : api_Place
def z_congresslaw09_More : congresslaw09_More := { D := (fun _ => 0), P := z_api_Place }
def c_congresslaw09_More (x : congresslaw09_More) : Nat → V
  | 0 => (e_a8_u32 x.D)
  | 1 => (e_api_Place x.P)
  | _ => .bool false
def e_congresslaw09_More (x : congresslaw09_More) : V := .agg (.st [8, 3]) (c_congresslaw09_More x)
theorem d_congresslaw09_More (x : congresslaw09_More) : (e_congresslaw09_More x).Data := fun j => match j with
  | 0 => (d_a8_u32 x.D)
  | 1 => (d_api_Place x.P)
  | _ + 2 => trivial
theorem f_congresslaw09_More (x : congresslaw09_More) : (e_congresslaw09_More x).Flat := fun j => match j with
  | 0 => (f_a8_u32 x.D)
  | 1 => (f_api_Place x.P)
  | _ + 2 => trivial
def b_congresslaw09_More (x y : congresslaw09_More) : Bool := (b_a8_u32 x.D y.D) && ((b_api_Place x.P y.P))
theorem q_congresslaw09_More (x y : congresslaw09_More) : eqV (e_congresslaw09_More x) (e_congresslaw09_More y) = b_congresslaw09_More x y := by
  have h : eqV (e_congresslaw09_More x) (e_congresslaw09_More y) = ((List.range 2).all fun j => eqV (c_congresslaw09_More x j) (c_congresslaw09_More y j)) := rfl
  have hr : List.range 2 = [0, 1] := rfl
  rw [h, hr]
  simp only [List.all_cons, List.all_nil, Bool.and_true, c_congresslaw09_More, b_congresslaw09_More, q_a8_u32, q_api_Place]
theorem al_congresslaw09_More (x y : congresslaw09_More) : Akin (e_congresslaw09_More x) (e_congresslaw09_More y) := .agg _ _ _ fun j h => match j, h with
  | 0, _ => al_a8_u32 _ _
  | 1, _ => al_api_Place _ _
  | n + 2, h => absurd (show n + 2 < 2 from h) (by omega)
theorem st_congresslaw09_More_0 (x : congresslaw09_More) (v : (Nat → Int)) : vupd (c_congresslaw09_More x) 0 (e_a8_u32 v) = c_congresslaw09_More { x with D := v } := by
  funext j; match j with
  | 0 => rfl
  | 1 => rfl
  | _ + 2 => rfl
theorem st_congresslaw09_More_1 (x : congresslaw09_More) (v : api_Place) : vupd (c_congresslaw09_More x) 1 (e_api_Place v) = c_congresslaw09_More { x with P := v } := by
  funext j; match j with
  | 0 => rfl
  | 1 => rfl
  | _ + 2 => rfl
structure congresslaw09_Where where
  M : (Nat → Int)
  P : api_Place
def z_congresslaw09_Where : congresslaw09_Where := { M := (fun _ => 0), P := z_api_Place }
def c_congresslaw09_Where (x : congresslaw09_Where) : Nat → V
  | 0 => (e_a8_u32 x.M)
  | 1 => (e_api_Place x.P)
  | _ => .bool false
def e_congresslaw09_Where (x : congresslaw09_Where) : V := .agg (.st [8, 3]) (c_congresslaw09_Where x)
theorem d_congresslaw09_Where (x : congresslaw09_Where) : (e_congresslaw09_Where x).Data := fun j => match j with
  | 0 => (d_a8_u32 x.M)
  | 1 => (d_api_Place x.P)
  | _ + 2 => trivial
theorem f_congresslaw09_Where (x : congresslaw09_Where) : (e_congresslaw09_Where x).Flat := fun j => match j with
  | 0 => (f_a8_u32 x.M)
  | 1 => (f_api_Place x.P)
  | _ + 2 => trivial
def b_congresslaw09_Where (x y : congresslaw09_Where) : Bool := (b_a8_u32 x.M y.M) && ((b_api_Place x.P y.P))
theorem q_congresslaw09_Where (x y : congresslaw09_Where) : eqV (e_congresslaw09_Where x) (e_congresslaw09_Where y) = b_congresslaw09_Where x y := by
  have h : eqV (e_congresslaw09_Where x) (e_congresslaw09_Where y) = ((List.range 2).all fun j => eqV (c_congresslaw09_Where x j) (c_congresslaw09_Where y j)) := rfl
  have hr : List.range 2 = [0, 1] := rfl
  rw [h, hr]
  simp only [List.all_cons, List.all_nil, Bool.and_true, c_congresslaw09_Where, b_congresslaw09_Where, q_a8_u32, q_api_Place]
theorem al_congresslaw09_Where (x y : congresslaw09_Where) : Akin (e_congresslaw09_Where x) (e_congresslaw09_Where y) := .agg _ _ _ fun j h => match j, h with
  | 0, _ => al_a8_u32 _ _
  | 1, _ => al_api_Place _ _
  | n + 2, h => absurd (show n + 2 < 2 from h) (by omega)
theorem st_congresslaw09_Where_0 (x : congresslaw09_Where) (v : (Nat → Int)) : vupd (c_congresslaw09_Where x) 0 (e_a8_u32 v) = c_congresslaw09_Where { x with M := v } := by
  funext j; match j with
  | 0 => rfl
  | 1 => rfl
  | _ + 2 => rfl
theorem st_congresslaw09_Where_1 (x : congresslaw09_Where) (v : api_Place) : vupd (c_congresslaw09_Where x) 1 (e_api_Place v) = c_congresslaw09_Where { x with P := v } := by
  funext j; match j with
  | 0 => rfl
  | 1 => rfl
  | _ + 2 => rfl

noncomputable def round_member (p0 : (Nat → Int)) (p1 : Int) : Option (Bool) :=
  (ibg ((decide (p1 ≥ 0)) && (decide (p1 < 8))) p1 8).bind fun _ =>
  some (((decide (p1 ≥ 0)) && (decide (p1 < 8))) && ((p0 p1.toNat) != 0))

noncomputable def ident_List (p0 : (Nat → Int)) : Option ((_root_.List Int)) :=
  (loop (ω := Fl ((_root_.List Int)) (_root_.List Int)) (fun (x1 : Int × _root_.List Int) =>
    if (decide (x1.1 < 8)) then
      jn (fun x6 : _root_.List Int =>
        some (.next ((IntKind.i64.wrap (x1.1 + 1)), x6))) fun j3 =>
      (ib x1.1 8).bind fun _ =>
      if ((p0 x1.1.toNat) != 0) then
        (fit (x1.2 ++ ([x1.1] : _root_.List Int)).length 8).bind fun _ =>
        j3 ((x1.2 ++ ([x1.1] : _root_.List Int)))
      else
        j3 (x1.2)
    else
      some (.done (.nx (x1.2)))) (0, ([] : _root_.List Int))).bind fun wn2 => Fl.elim wn2 (fun y7 =>
    some y7) (fun r => some r)

noncomputable def round_Least (p0 : (Nat → Int)) (p1 : (Nat → Int)) : Option (Int × Bool) :=
  (ident_List p1).bind fun v1 =>
  if ((v1.length : Int) == 0) then
    some (0, false)
  else
    (loop (ω := Fl (Int × Bool) (Int)) (fun (x3 : Int × Int) =>
      if (decide (x3.2 < (v1.length : Int))) then
        (ib x3.2 v1.length).bind fun _ =>
        (ib (v1.getD x3.2.toNat 0) 8).bind fun _ =>
        lt ((if (p0 ((v1.getD x3.2.toNat 0).toNat)) < x3.1 then p0 ((v1.getD x3.2.toNat 0).toNat) else x3.1) : Int) fun v7 =>
        some (.next (v7, (IntKind.i64.wrap (x3.2 + 1))))
      else
        some (.done (.nx (x3.1)))) (4294967295, 0)).bind fun wn4 => Fl.elim wn4 (fun y8 =>
      some (y8, true)) (fun r => some r)

noncomputable def round_ahead (p0 : (Nat → Int)) (p1 : (Nat → Int)) (p2 : api_Place) : Option (Bool) :=
  (loop (ω := Fl (Bool) (Unit)) (fun (x1 : Int) =>
    if (decide (x1 < p2.From)) then
      (ib x1 8).bind fun _ =>
      (ibg ((p1 x1.toNat) != 0) x1 8).bind fun _ =>
      if (((p1 x1.toNat) != 0) && (decide ((p0 x1.toNat) < p2.Round))) then
        some (.done (.rt false))
      else
        some (.next ((IntKind.i64.wrap (x1 + 1))))
    else
      some (.done (.nx ()))) (0)).bind fun wn2 => Fl.elim wn2 (fun y5 =>
    some true) (fun r => some r)

noncomputable def round_Service (p0 : (Nat → Int)) (p1 : (Nat → Int)) (p2 : api_Place) (p3 : Int) : Option (Bool) :=
  (round_member p1 p2.From).bind fun v1 =>
  (ibg (!((!v1) || (p2.Round == 0))) p2.From 8).bind fun _ =>
  lt ((((!v1) || (p2.Round == 0)) || (decide (p2.Round > (p0 p2.From.toNat)))) : Bool) fun v4 =>
  if v4 then
    some false
  else
    (round_Least p0 p1).bind fun v5 =>
    if (p3 == 0) then
      some true
    else
      if (p3 == 1) then
        some (decide (v5.1 ≥ (IntKind.u32.wrap (p2.Round - 1))))
      else
        if (p3 == 2) then
          (whn (decide (v5.1 ≥ (IntKind.u32.wrap (p2.Round - 1)))) (round_ahead p0 p1 p2) false).bind fun v7 =>
          some ((decide (v5.1 ≥ (IntKind.u32.wrap (p2.Round - 1)))) && v7)
        else
          if (p3 == 3) then
            some (decide (v5.1 > p2.Round))
          else
            some false

noncomputable def congressref07_List (p0 : (Nat → Int)) : Option ((_root_.List Int)) :=
  (loop (ω := Fl ((_root_.List Int)) (_root_.List Int)) (fun (x1 : Int × _root_.List Int) =>
    if (decide (x1.1 < 8)) then
      jn (fun x6 : _root_.List Int =>
        some (.next ((IntKind.i64.wrap (x1.1 + 1)), x6))) fun j3 =>
      (ib x1.1 8).bind fun _ =>
      if (decide ((p0 x1.1.toNat) > 0)) then
        (fit (x1.2 ++ ([x1.1] : _root_.List Int)).length 8).bind fun _ =>
        j3 ((x1.2 ++ ([x1.1] : _root_.List Int)))
      else
        j3 (x1.2)
    else
      some (.done (.nx (x1.2)))) (0, ([] : _root_.List Int))).bind fun wn2 => Fl.elim wn2 (fun y7 =>
    some y7) (fun r => some r)

noncomputable def congressref09_Full (p0 : (Nat → Int)) (p1 : (Nat → Int)) (p2 : Int) : Option (Bool) :=
  (congressref07_List p1).bind fun v1 =>
  (loop (ω := Fl (Bool) (Unit)) (fun (x3 : Int) =>
    if (decide (x3 < (v1.length : Int))) then
      (ib x3 v1.length).bind fun _ =>
      (ib (v1.getD x3.toNat 0) 8).bind fun _ =>
      if (decide ((IntKind.u64.wrap (p0 ((v1.getD x3.toNat 0).toNat))) < p2)) then
        some (.done (.rt false))
      else
        some (.next ((IntKind.i64.wrap (x3 + 1))))
    else
      some (.done (.nx ()))) (0)).bind fun wn4 => Fl.elim wn4 (fun y7 =>
    some true) (fun r => some r)

noncomputable def congressref09_Service (p0 : (Nat → Int)) (p1 : (Nat → Int)) (p2 : api_Place) (p3 : Int) : Option (Bool) :=
  (ibg (!((decide (p2.From < 0)) || (decide (p2.From > 7)))) p2.From 8).bind fun _ =>
  (ibg (!((((decide (p2.From < 0)) || (decide (p2.From > 7))) || ((p1 p2.From.toNat) == 0)) || (p2.Round == 0))) p2.From 8).bind fun _ =>
  lt ((((((((decide (p2.From < 0)) || (decide (p2.From > 7))) || ((p1 p2.From.toNat) == 0)) || (p2.Round == 0)) || (decide (p2.Round > (p0 p2.From.toNat)))) || (decide (p3 < 0))) || (decide (p3 > 3))) : Bool) fun v3 =>
  if v3 then
    some false
  else
    if (p3 == 3) then
      (congressref09_Full p0 p1 (IntKind.u64.wrap ((IntKind.u64.wrap (p2.Round)) + 1))).bind fun v4 =>
      some v4
    else
      if (p3 == 0) then
        some true
      else
        (congressref09_Full p0 p1 (IntKind.u64.wrap ((IntKind.u64.wrap (p2.Round)) - 1))).bind fun v6 =>
        if (!v6) then
          some false
        else
          (loop (ω := Fl (Bool) (Unit)) (fun (x8 : Int) =>
            if ((decide (x8 < p2.From)) && (p3 == 2)) then
              (ib x8 8).bind fun _ =>
              (ibg ((p1 x8.toNat) != 0) x8 8).bind fun _ =>
              if (((p1 x8.toNat) != 0) && (decide ((p0 x8.toNat) < p2.Round))) then
                some (.done (.rt false))
              else
                some (.next ((IntKind.i64.wrap (x8 + 1))))
            else
              some (.done (.nx ()))) (0)).bind fun wn9 => Fl.elim wn9 (fun y12 =>
            some true) (fun r => some r)

noncomputable def round_Position (p0 : (Nat → Int)) (p1 : (Nat → Int)) : Option (api_Place) :=
  (round_Least p0 p1).bind fun v1 =>
  (ident_List p1).bind fun v3 =>
  (loop (ω := Fl (api_Place) (Unit)) (fun (x5 : Int) =>
    if (decide (x5 < (v3.length : Int))) then
      (ib x5 v3.length).bind fun _ =>
      (ib (v3.getD x5.toNat 0) 8).bind fun _ =>
      if ((p0 ((v3.getD x5.toNat 0).toNat)) == v1.1) then
        lt (({ Round := (if v1.1 < (IntKind.u32.wrap (v1.1 + 1)) then (IntKind.u32.wrap (v1.1 + 1)) else v1.1), From := v3.getD x5.toNat 0, Slot := 0 } : api_Place) : api_Place) fun v9 =>
        some (.done (.rt v9))
      else
        some (.next ((IntKind.i64.wrap (x5 + 1))))
    else
      some (.done (.nx ()))) (0)).bind fun wn6 => Fl.elim wn6 (fun y10 =>
    some ({ Round := 0, From := 0, Slot := 0 } : api_Place)) (fun r => some r)

noncomputable def round_May (p0 : (Nat → Int)) (p1 : (Nat → Int)) (p2 : Int) : Option (Bool) :=
  (round_Least p0 p1).bind fun v1 =>
  (round_member p1 p2).bind fun v3 =>
  (ibg v3 p2 8).bind fun _ =>
  some (v3 && ((p0 p2.toNat) == v1.1))

noncomputable def congresslaw09_fixed : Option (Bool) :=
  (round_Least (aset (fun _ => 0) [(0, 2), (1, 1), (2, 1)]) (aset (fun _ => 0) [(0, 1), (1, 1), (2, 1)])).bind fun v1 =>
  (whn ((v1.1 == 1) && v1.2) (round_Service (aset (fun _ => 0) [(0, 2), (1, 1), (2, 1)]) (aset (fun _ => 0) [(0, 1), (1, 1), (2, 1)]) ({ Round := 2, From := 0, Slot := 0 } : api_Place) 0) false).bind fun v3 =>
  (whn (((v1.1 == 1) && v1.2) && v3) (round_Service (aset (fun _ => 0) [(0, 2), (1, 1), (2, 1)]) (aset (fun _ => 0) [(0, 1), (1, 1), (2, 1)]) ({ Round := 2, From := 0, Slot := 0 } : api_Place) 1) false).bind fun v5 =>
  (whn ((((v1.1 == 1) && v1.2) && v3) && v5) (round_Service (aset (fun _ => 0) [(0, 2), (1, 1), (2, 1)]) (aset (fun _ => 0) [(0, 1), (1, 1), (2, 1)]) ({ Round := 2, From := 0, Slot := 0 } : api_Place) 2) false).bind fun v7 =>
  (whn (((((v1.1 == 1) && v1.2) && v3) && v5) && v7) (round_Service (aset (fun _ => 0) [(0, 2), (1, 1), (2, 1)]) (aset (fun _ => 0) [(0, 1), (1, 1), (2, 1)]) ({ Round := 2, From := 0, Slot := 0 } : api_Place) 3) false).bind fun v9 =>
  (whn ((((((v1.1 == 1) && v1.2) && v3) && v5) && v7) && (!v9)) (round_Position (aset (fun _ => 0) [(0, 2), (1, 1), (2, 1)]) (aset (fun _ => 0) [(0, 1), (1, 1), (2, 1)])) z_api_Place).bind fun v11 =>
  (whn (((((((v1.1 == 1) && v1.2) && v3) && v5) && v7) && (!v9)) && (b_api_Place v11 ({ Round := 2, From := 1, Slot := 0 } : api_Place))) (round_May (aset (fun _ => 0) [(0, 2), (1, 1), (2, 1)]) (aset (fun _ => 0) [(0, 1), (1, 1), (2, 1)]) 1) false).bind fun v13 =>
  (whn ((((((((v1.1 == 1) && v1.2) && v3) && v5) && v7) && (!v9)) && (b_api_Place v11 ({ Round := 2, From := 1, Slot := 0 } : api_Place))) && v13) (round_May (aset (fun _ => 0) [(0, 2), (1, 1), (2, 1)]) (aset (fun _ => 0) [(0, 1), (1, 1), (2, 1)]) 0) false).bind fun v15 =>
  (whn (((((((((v1.1 == 1) && v1.2) && v3) && v5) && v7) && (!v9)) && (b_api_Place v11 ({ Round := 2, From := 1, Slot := 0 } : api_Place))) && v13) && (!v15)) (round_Service (aset (fun _ => 0) [(0, 2), (1, 2), (2, 2)]) (aset (fun _ => 0) [(0, 1), (1, 1), (2, 1)]) ({ Round := 1, From := 0, Slot := 0 } : api_Place) 3) false).bind fun v17 =>
  lt (((((((((((v1.1 == 1) && v1.2) && v3) && v5) && v7) && (!v9)) && (b_api_Place v11 ({ Round := 2, From := 1, Slot := 0 } : api_Place))) && v13) && (!v15)) && v17) : Bool) fun v19 =>
  some v19

noncomputable def congresslaw09_RoundServes (p0 : (Nat → Int)) (p1 : (Nat → Int)) (p2 : api_Place) : Option (Bool) :=
  (loop (ω := Fl (Bool) (_root_.List Bool)) (fun (x1 : Int × _root_.List Bool) =>
    if (decide (x1.1 < 4)) then
      (round_Service p0 p1 p2 x1.1).bind fun v3 =>
      (congressref09_Service p0 p1 p2 x1.1).bind fun v5 =>
      if (v3 != v5) then
        some (.done (.rt false))
      else
        (fit (x1.2 ++ ([v3] : _root_.List Bool)).length 1).bind fun _ =>
        some (.next ((IntKind.i64.wrap (x1.1 + 1)), (x1.2 ++ ([v3] : _root_.List Bool))))
    else
      some (.done (.nx (x1.2)))) (0, ([] : _root_.List Bool))).bind fun wn2 => Fl.elim wn2 (fun y8 =>
    (congresslaw09_fixed).bind fun v9 =>
    (ibg v9 3 y8.length).bind fun _ =>
    (ibg (v9 && (!(!(y8.getD 3 false)))) 2 y8.length).bind fun _ =>
    (ibg (v9 && ((!(y8.getD 3 false)) || (y8.getD 2 false))) 2 y8.length).bind fun _ =>
    (ibg ((v9 && ((!(y8.getD 3 false)) || (y8.getD 2 false))) && (!(!(y8.getD 2 false)))) 1 y8.length).bind fun _ =>
    (ibg ((v9 && ((!(y8.getD 3 false)) || (y8.getD 2 false))) && ((!(y8.getD 2 false)) || (y8.getD 1 false))) 1 y8.length).bind fun _ =>
    (ibg (((v9 && ((!(y8.getD 3 false)) || (y8.getD 2 false))) && ((!(y8.getD 2 false)) || (y8.getD 1 false))) && (!(!(y8.getD 1 false)))) 0 y8.length).bind fun _ =>
    (whn (((v9 && ((!(y8.getD 3 false)) || (y8.getD 2 false))) && ((!(y8.getD 2 false)) || (y8.getD 1 false))) && ((!(y8.getD 1 false)) || (y8.getD 0 false))) (round_Service p0 p1 p2 (-1)) false).bind fun v17 =>
    (whn ((((v9 && ((!(y8.getD 3 false)) || (y8.getD 2 false))) && ((!(y8.getD 2 false)) || (y8.getD 1 false))) && ((!(y8.getD 1 false)) || (y8.getD 0 false))) && (!v17)) (round_Service p0 p1 p2 4) false).bind fun v19 =>
    lt ((((((v9 && ((!(y8.getD 3 false)) || (y8.getD 2 false))) && ((!(y8.getD 2 false)) || (y8.getD 1 false))) && ((!(y8.getD 1 false)) || (y8.getD 0 false))) && (!v17)) && (!v19)) : Bool) fun v21 =>
    some v21) (fun r => some r)

noncomputable def congresslaw09_RoundMay (p0 : (Nat → Int)) (p1 : (Nat → Int)) : Option (Bool) :=
  (round_Least p0 p1).bind fun v1 =>
  (loop (ω := Fl (Bool) (Bool × Bool)) (fun (x3 : Bool × Bool × Int) =>
    if (decide (x3.2.2 < 8)) then
      (round_May p0 p1 x3.2.2).bind fun v5 =>
      (ib x3.2.2 8).bind fun _ =>
      (ibg (!(((p1 x3.2.2.toNat) == 0) && v5)) x3.2.2 8).bind fun _ =>
      (ibg ((!(((p1 x3.2.2.toNat) == 0) && v5)) && ((p1 x3.2.2.toNat) != 0)) x3.2.2 8).bind fun _ =>
      (ibg (!((((p1 x3.2.2.toNat) == 0) && v5) || (((p1 x3.2.2.toNat) != 0) && (v5 != ((p0 x3.2.2.toNat) == v1.1))))) x3.2.2 8).bind fun _ =>
      (ibg ((!((((p1 x3.2.2.toNat) == 0) && v5) || (((p1 x3.2.2.toNat) != 0) && (v5 != ((p0 x3.2.2.toNat) == v1.1))))) && ((p1 x3.2.2.toNat) != 0)) x3.2.2 8).bind fun _ =>
      lt ((((((p1 x3.2.2.toNat) == 0) && v5) || (((p1 x3.2.2.toNat) != 0) && (v5 != ((p0 x3.2.2.toNat) == v1.1)))) || (((p1 x3.2.2.toNat) != 0) && (decide ((p0 x3.2.2.toNat) < v1.1)))) : Bool) fun v12 =>
      if v12 then
        some (.done (.rt false))
      else
        (ibg x3.2.1 x3.2.2 8).bind fun _ =>
        (ibg (x3.2.1 && (!((p1 x3.2.2.toNat) == 0))) x3.2.2 8).bind fun _ =>
        some (.next ((x3.1 || v5), (x3.2.1 && (((p1 x3.2.2.toNat) == 0) || ((p0 x3.2.2.toNat) == v1.1))), (IntKind.i64.wrap (x3.2.2 + 1))))
    else
      some (.done (.nx (x3.1, x3.2.1)))) (false, true, 0)).bind fun wn4 => Fl.elim wn4 (fun y15 =>
    (loop (ω := Fl (Bool) (Unit)) (fun (x16 : Int) =>
      if ((decide (x16 < 8)) && y15.2) then
        (ib x16 8).bind fun _ =>
        (whn ((p1 x16.toNat) != 0) (round_May p0 p1 x16) false).bind fun v19 =>
        if (((p1 x16.toNat) != 0) && (!v19)) then
          some (.done (.rt false))
        else
          some (.next ((IntKind.i64.wrap (x16 + 1))))
      else
        some (.done (.nx ()))) (0)).bind fun wn17 => Fl.elim wn17 (fun y21 =>
      (congresslaw09_fixed).bind fun v22 =>
      some (v22 && (y15.1 == v1.2))) (fun r => some r)) (fun r => some r)

noncomputable def congressref09_Least (p0 : (Nat → Int)) (p1 : (Nat → Int)) : Option (Int × Bool) :=
  (congressref07_List p1).bind fun v1 =>
  if ((v1.length : Int) == 0) then
    some (0, false)
  else
    (ib 0 v1.length).bind fun _ =>
    (ib (v1.getD 0 0) 8).bind fun _ =>
    (loop (ω := Fl (Int × Bool) (Int)) (fun (x5 : Int × Int) =>
      if (decide (x5.2 < (v1.length : Int))) then
        jn (fun x12 : Int =>
          some (.next (x12, (IntKind.i64.wrap (x5.2 + 1))))) fun j7 =>
        (ib x5.2 v1.length).bind fun _ =>
        (ib (v1.getD x5.2.toNat 0) 8).bind fun _ =>
        if (decide ((p0 ((v1.getD x5.2.toNat 0).toNat)) < x5.1)) then
          (ib x5.2 v1.length).bind fun _ =>
          (ib (v1.getD x5.2.toNat 0) 8).bind fun _ =>
          j7 (p0 ((v1.getD x5.2.toNat 0).toNat))
        else
          j7 (x5.1)
      else
        some (.done (.nx (x5.1)))) (p0 ((v1.getD 0 0).toNat), 1)).bind fun wn6 => Fl.elim wn6 (fun y13 =>
      some (y13, true)) (fun r => some r)

noncomputable def congressref09_May (p0 : (Nat → Int)) (p1 : (Nat → Int)) (p2 : Int) : Option (Bool) :=
  (ibg ((decide (p2 ≥ 0)) && (decide (p2 < 8))) p2 8).bind fun _ =>
  (ibg (((decide (p2 ≥ 0)) && (decide (p2 < 8))) && ((p1 p2.toNat) != 0)) p2 8).bind fun _ =>
  (whn (((decide (p2 ≥ 0)) && (decide (p2 < 8))) && ((p1 p2.toNat) != 0)) (congressref09_Full p0 p1 (IntKind.u64.wrap (p0 p2.toNat))) false).bind fun v3 =>
  lt (((((decide (p2 ≥ 0)) && (decide (p2 < 8))) && ((p1 p2.toNat) != 0)) && v3) : Bool) fun v5 =>
  some v5

noncomputable def cmp_isNaN_uint32 (p0 : Int) : Option (Bool) :=
  some (p0 != p0)

noncomputable def cmp_Compare_uint32 (p0 : Int) (p1 : Int) : Option (Int) :=
  (cmp_isNaN_uint32 p0).bind fun v1 =>
  (cmp_isNaN_uint32 p1).bind fun v3 =>
  if v1 then
    if v3 then
      some 0
    else
      some (-1)
  else
    if v3 then
      some 1
    else
      if (decide (p0 < p1)) then
        some (-1)
      else
        if (decide (p0 > p1)) then
          some 1
        else
          some 0

noncomputable def cmp_isNaN_int (p0 : Int) : Option (Bool) :=
  some (p0 != p0)

noncomputable def cmp_Compare_int (p0 : Int) (p1 : Int) : Option (Int) :=
  (cmp_isNaN_int p0).bind fun v1 =>
  (cmp_isNaN_int p1).bind fun v3 =>
  if v1 then
    if v3 then
      some 0
    else
      some (-1)
  else
    if v3 then
      some 1
    else
      if (decide (p0 < p1)) then
        some (-1)
      else
        if (decide (p0 > p1)) then
          some 1
        else
          some 0

noncomputable def cmp_Or_int (p0 : (_root_.List Int)) : Option (Int) :=
  (loop (ω := Fl (Int) (Unit)) (fun (x1 : Int) =>
    if (decide (x1 < (p0.length : Int))) then
      (ib x1 p0.length).bind fun _ =>
      if ((p0.getD x1.toNat 0) != 0) then
        some (.done (.rt (p0.getD x1.toNat 0)))
      else
        some (.next ((IntKind.i64.wrap (x1 + 1))))
    else
      some (.done (.nx ()))) (0)).bind fun wn2 => Fl.elim wn2 (fun y4 =>
    some 0) (fun r => some r)

noncomputable def round_Before (p0 : api_Place) (p1 : api_Place) : Option (Bool) :=
  (cmp_Compare_uint32 p0.Round p1.Round).bind fun v1 =>
  (cmp_Compare_int p0.From p1.From).bind fun v3 =>
  (cmp_Compare_int p0.Slot p1.Slot).bind fun v5 =>
  (cmp_Or_int ([v1, v3, v5] : _root_.List Int)).bind fun v7 =>
  some (decide (v7 < 0))

noncomputable def congressref09_Before (p0 : api_Place) (p1 : api_Place) : Option (Bool) :=
  if (p0.Round != p1.Round) then
    some (decide (p0.Round < p1.Round))
  else
    if (p0.From != p1.From) then
      some (decide (p0.From < p1.From))
    else
      some (decide (p0.Slot < p1.Slot))

noncomputable def congressref09_Position (p0 : (Nat → Int)) (p1 : (Nat → Int)) : Option (api_Place) :=
  (congressref09_Least p0 p1).bind fun v1 =>
  if (!v1.2) then
    some ({ Round := 0, From := 0, Slot := 0 } : api_Place)
  else
    jn (fun x4 : Int =>
      (congressref07_List p1).bind fun v5 =>
      (loop (ω := Fl (api_Place) (Unit)) (fun (x7 : Int) =>
        if (decide (x7 < (v5.length : Int))) then
          (ib x7 v5.length).bind fun _ =>
          (ib (v5.getD x7.toNat 0) 8).bind fun _ =>
          if ((p0 ((v5.getD x7.toNat 0).toNat)) == v1.1) then
            (ib x7 v5.length).bind fun _ =>
            some (.done (.rt ({ Round := x4, From := v5.getD x7.toNat 0, Slot := 0 } : api_Place)))
          else
            some (.next ((IntKind.i64.wrap (x7 + 1))))
        else
          some (.done (.nx ()))) (0)).bind fun wn8 => Fl.elim wn8 (fun y12 =>
        some ({ Round := 0, From := 0, Slot := 0 } : api_Place)) (fun r => some r)) fun j3 =>
    if ((IntKind.u32.wrap (v1.1 + 1)) != 0) then
      j3 ((IntKind.u32.wrap (v1.1 + 1)))
    else
      j3 (v1.1)

noncomputable def congresslaw09_RoundTells (p0 : (Nat → Int)) (p1 : (Nat → Int)) (p2 : congresslaw09_Two) : Option (Bool) :=
  (round_Least p0 p1).bind fun v1 =>
  (congressref09_Least p0 p1).bind fun v3 =>
  (congresslaw09_fixed).bind fun v5 =>
  (whn ((v5 && (v1.1 == v3.1)) && (v1.2 == v3.2)) (round_May p0 p1 p2.A.From) false).bind fun v7 =>
  (whn ((v5 && (v1.1 == v3.1)) && (v1.2 == v3.2)) (congressref09_May p0 p1 p2.A.From) false).bind fun v9 =>
  (whn (((v5 && (v1.1 == v3.1)) && (v1.2 == v3.2)) && (v7 == v9)) (round_Before p2.A p2.B) false).bind fun v11 =>
  (whn (((v5 && (v1.1 == v3.1)) && (v1.2 == v3.2)) && (v7 == v9)) (congressref09_Before p2.A p2.B) false).bind fun v13 =>
  (whn ((((v5 && (v1.1 == v3.1)) && (v1.2 == v3.2)) && (v7 == v9)) && (v11 == v13)) (round_Position p0 p1) z_api_Place).bind fun v15 =>
  (whn ((((v5 && (v1.1 == v3.1)) && (v1.2 == v3.2)) && (v7 == v9)) && (v11 == v13)) (congressref09_Position p0 p1) z_api_Place).bind fun v17 =>
  lt ((((((v5 && (v1.1 == v3.1)) && (v1.2 == v3.2)) && (v7 == v9)) && (v11 == v13)) && (b_api_Place v15 v17)) : Bool) fun v19 =>
  some v19

noncomputable def congresslaw09_RoundRises (p0 : (Nat → Int)) (p1 : (Nat → Int)) (p2 : congresslaw09_More) : Option (Bool) :=
  (loop (ω := Fl (Bool) (Bool × (Nat → Int))) (fun (x1 : Bool × Int × (Nat → Int)) =>
    if (decide (x1.2.1 < 8)) then
      (ib x1.2.1 8).bind fun _ =>
      (ib x1.2.1 8).bind fun _ =>
      (ib x1.2.1 8).bind fun _ =>
      lt (aupd x1.2.2 x1.2.1.toNat (if (p0 x1.2.1.toNat) < (p2.D x1.2.1.toNat) then p2.D x1.2.1.toNat else p0 x1.2.1.toNat) : (Nat → Int)) fun v6 =>
      (ibg (!x1.1) x1.2.1 8).bind fun _ =>
      some (.next ((x1.1 || ((v6 x1.2.1.toNat) == 4294967295)), (IntKind.i64.wrap (x1.2.1 + 1)), v6))
    else
      some (.done (.nx (x1.1, x1.2.2)))) (false, 0, p0)).bind fun wn2 => Fl.elim wn2 (fun y8 =>
    (loop (ω := Fl (Bool) (Unit)) (fun (x9 : Int) =>
      if (decide (x9 < 4)) then
        (round_Service p0 p1 p2.P x9).bind fun v11 =>
        (whn v11 (round_Service y8.2 p1 p2.P x9) false).bind fun v13 =>
        if (v11 && (!v13)) then
          some (.done (.rt false))
        else
          some (.next ((IntKind.i64.wrap (x9 + 1))))
      else
        some (.done (.nx ()))) (0)).bind fun wn10 => Fl.elim wn10 (fun y15 =>
      (congresslaw09_fixed).bind fun v16 =>
      (whn (v16 && (!y8.1)) (round_Position y8.2 p1) z_api_Place).bind fun v18 =>
      (whn (v16 && (!y8.1)) (round_Position p0 p1) z_api_Place).bind fun v20 =>
      (whn (v16 && (!y8.1)) (round_Before v18 v20) false).bind fun v22 =>
      some (v16 && (y8.1 || (!v22)))) (fun r => some r)) (fun r => some r)

noncomputable def congresslaw09_RoundOrder (p0 : (Nat → Int)) (p1 : (Nat → Int)) (p2 : congresslaw09_Where) : Option (Bool) :=
  (congresslaw09_fixed).bind fun v1 =>
  (ibg (!(((!v1) || (decide (p2.P.From < 0))) || (decide (p2.P.From > 7)))) p2.P.From 8).bind fun _ =>
  lt ((((((((!v1) || (decide (p2.P.From < 0))) || (decide (p2.P.From > 7))) || ((p2.M p2.P.From.toNat) == 0)) || (p2.P.Round == 0)) || (p2.P.Round == 4294967295)) || (decide (p2.P.Slot < 0))) : Bool) fun v4 =>
  if v4 then
    (congresslaw09_fixed).bind fun v5 =>
    some v5
  else
    (round_Position p0 p2.M).bind fun v7 =>
    (round_Position p1 p2.M).bind fun v9 =>
    (round_Service p0 p2.M p2.P 2).bind fun v11 =>
    (round_Service p1 p2.M p2.P 2).bind fun v13 =>
    (round_Before ({ p2.P with Slot := 0 }) v7).bind fun v15 =>
    (whn (!(v11 != v15)) (round_Before ({ p2.P with Slot := 0 }) v9) false).bind fun v17 =>
    if ((v11 != v15) || (v13 != v17)) then
      some false
    else
      (round_Before v7 v9).bind fun v19 =>
      (whn (!(v19 && ((!v11) || v13))) (round_Before v9 v7) false).bind fun v21 =>
      lt ((((v19 && ((!v11) || v13)) || (v21 && ((!v13) || v11))) || ((b_api_Place v7 v9) && (v11 == v13))) : Bool) fun v23 =>
      some v23
end Go.Proofs.Ytgcnlfchpjbhkaa
