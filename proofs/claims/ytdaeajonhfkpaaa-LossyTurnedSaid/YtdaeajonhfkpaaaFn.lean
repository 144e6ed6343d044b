/- Printed by gen.py. Conditions: none. -/
import Derived.Test.YtdaeajonhfkpaaaEngZ
import Derived.Test.YtdaeajonhfkpaaaProg
import Derived.KernelRfl
set_option linter.unusedVariables false
set_option maxRecDepth 100000
namespace Go.Proofs.Ytdaeajonhfkpaaa
open Go.Eng
structure api_Letter where
  From : Int
  To : Int
  Text : ByteArray
  Turned : Bool
def z_api_Letter : api_Letter := { From := 0, To := 0, Text := ByteArray.empty, Turned := false }
def c_api_Letter (x : api_Letter) : Nat → V
  | 0 => (.int .i64 x.From)
  | 1 => (.int .i64 x.To)
  | 2 => (.str x.Text)
  | 3 => (.bool x.Turned)
  | _ => .bool false
def e_api_Letter (x : api_Letter) : V := .agg (.st [1, 1, 1, 1]) (c_api_Letter x)
theorem d_api_Letter (x : api_Letter) : (e_api_Letter x).Data := fun j => match j with
  | 0 => trivial
  | 1 => trivial
  | 2 => trivial
  | 3 => trivial
  | _ + 4 => trivial
theorem f_api_Letter (x : api_Letter) : (e_api_Letter x).Flat := fun j => match j with
  | 0 => trivial
  | 1 => trivial
  | 2 => trivial
  | 3 => trivial
  | _ + 4 => trivial
def b_api_Letter (x y : api_Letter) : Bool := (x.From == y.From) && ((x.To == y.To) && ((x.Text == y.Text) && ((x.Turned == y.Turned))))
theorem q_api_Letter (x y : api_Letter) : eqV (e_api_Letter x) (e_api_Letter y) = b_api_Letter x y := by
  have h : eqV (e_api_Letter x) (e_api_Letter y) = ((List.range 4).all fun j => eqV (c_api_Letter x j) (c_api_Letter y j)) := rfl
  have hr : List.range 4 = [0, 1, 2, 3] := rfl
  rw [h, hr]
  simp only [List.all_cons, List.all_nil, Bool.and_true, c_api_Letter, b_api_Letter, eqV]
theorem al_api_Letter (x y : api_Letter) : Akin (e_api_Letter x) (e_api_Letter y) := .agg _ _ _ fun j h => match j, h with
  | 0, _ => .int _ _ _
  | 1, _ => .int _ _ _
  | 2, _ => .str _ _
  | 3, _ => .bool _ _
  | n + 4, h => absurd (show n + 4 < 4 from h) (by omega)
theorem st_api_Letter_0 (x : api_Letter) (v : Int) : vupd (c_api_Letter x) 0 (.int .i64 v) = c_api_Letter { x with From := v } := by
  funext j; match j with
  | 0 => rfl
  | 1 => rfl
  | 2 => rfl
  | 3 => rfl
  | _ + 4 => rfl
theorem st_api_Letter_1 (x : api_Letter) (v : Int) : vupd (c_api_Letter x) 1 (.int .i64 v) = c_api_Letter { x with To := v } := by
  funext j; match j with
  | 0 => rfl
  | 1 => rfl
  | 2 => rfl
  | 3 => rfl
  | _ + 4 => rfl
theorem st_api_Letter_2 (x : api_Letter) (v : ByteArray) : vupd (c_api_Letter x) 2 (.str v) = c_api_Letter { x with Text := v } := by
  funext j; match j with
  | 0 => rfl
  | 1 => rfl
  | 2 => rfl
  | 3 => rfl
  | _ + 4 => rfl
theorem st_api_Letter_3 (x : api_Letter) (v : Bool) : vupd (c_api_Letter x) 3 (.bool v) = c_api_Letter { x with Turned := v } := by
  funext j; match j with
  | 0 => rfl
  | 1 => rfl
  | 2 => rfl
  | 3 => rfl
  | _ + 4 => rfl
structure congresslaw14_Pick where
  From : Int
  To : Int
  Index : Int
  At : Int
  Mask : Int
def z_congresslaw14_Pick : congresslaw14_Pick := { From := 0, To := 0, Index := 0, At := 0, Mask := 0 }
def c_congresslaw14_Pick (x : congresslaw14_Pick) : Nat → V
  | 0 => (.int .i64 x.From)
  | 1 => (.int .i64 x.To)
  | 2 => (.int .i64 x.Index)
  | 3 => (.int .i64 x.At)
  | 4 => (.int .u32 x.Mask)
  | _ => .bool false
def e_congresslaw14_Pick (x : congresslaw14_Pick) : V := .agg (.st [1, 1, 1, 1, 1]) (c_congresslaw14_Pick x)
theorem d_congresslaw14_Pick (x : congresslaw14_Pick) : (e_congresslaw14_Pick x).Data := fun j => match j with
  | 0 => trivial
  | 1 => trivial
  | 2 => trivial
  | 3 => trivial
  | 4 => trivial
  | _ + 5 => trivial
theorem f_congresslaw14_Pick (x : congresslaw14_Pick) : (e_congresslaw14_Pick x).Flat := fun j => match j with
  | 0 => trivial
  | 1 => trivial
  | 2 => trivial
  | 3 => trivial
  | 4 => trivial
  | _ + 5 => trivial
def b_congresslaw14_Pick (x y : congresslaw14_Pick) : Bool := (x.From == y.From) && ((x.To == y.To) && ((x.Index == y.Index) && ((x.At == y.At) && ((x.Mask == y.Mask)))))
theorem q_congresslaw14_Pick (x y : congresslaw14_Pick) : eqV (e_congresslaw14_Pick x) (e_congresslaw14_Pick y) = b_congresslaw14_Pick x y := by
  have h : eqV (e_congresslaw14_Pick x) (e_congresslaw14_Pick y) = ((List.range 5).all fun j => eqV (c_congresslaw14_Pick x j) (c_congresslaw14_Pick y j)) := rfl
  have hr : List.range 5 = [0, 1, 2, 3, 4] := rfl
  rw [h, hr]
  simp only [List.all_cons, List.all_nil, Bool.and_true, c_congresslaw14_Pick, b_congresslaw14_Pick, eqV]
theorem al_congresslaw14_Pick (x y : congresslaw14_Pick) : Akin (e_congresslaw14_Pick x) (e_congresslaw14_Pick y) := .agg _ _ _ fun j h => match j, h with
  | 0, _ => .int _ _ _
  | 1, _ => .int _ _ _
  | 2, _ => .int _ _ _
  | 3, _ => .int _ _ _
  | 4, _ => .int _ _ _
  | n + 5, h => absurd (show n + 5 < 5 from h) (by omega)
theorem st_congresslaw14_Pick_0 (x : congresslaw14_Pick) (v : Int) : vupd (c_congresslaw14_Pick x) 0 (.int .i64 v) = c_congresslaw14_Pick { x with From := v } := by
  funext j; match j with
  | 0 => rfl
  | 1 => rfl
  | 2 => rfl
  | 3 => rfl
  | 4 => rfl
  | _ + 5 => rfl
theorem st_congresslaw14_Pick_1 (x : congresslaw14_Pick) (v : Int) : vupd (c_congresslaw14_Pick x) 1 (.int .i64 v) = c_congresslaw14_Pick { x with To := v } := by
  funext j; match j with
  | 0 => rfl
  | 1 => rfl
  | 2 => rfl
  | 3 => rfl
  | 4 => rfl
  | _ + 5 => rfl
theorem st_congresslaw14_Pick_2 (x : congresslaw14_Pick) (v : Int) : vupd (c_congresslaw14_Pick x) 2 (.int .i64 v) = c_congresslaw14_Pick { x with Index := v } := by
  funext j; match j with
  | 0 => rfl
  | 1 => rfl
  | 2 => rfl
  | 3 => rfl
  | 4 => rfl
  | _ + 5 => rfl
theorem st_congresslaw14_Pick_3 (x : congresslaw14_Pick) (v : Int) : vupd (c_congresslaw14_Pick x) 3 (.int .i64 v) = c_congresslaw14_Pick { x with At := v } := by
  funext j; match j with
  | 0 => rfl
  | 1 => rfl
  | 2 => rfl
  | 3 => rfl
  | 4 => rfl
  | _ + 5 => rfl
theorem st_congresslaw14_Pick_4 (x : congresslaw14_Pick) (v : Int) : vupd (c_congresslaw14_Pick x) 4 (.int .u32 v) = c_congresslaw14_Pick { x with Mask := v } := by
  funext j; match j with
  | 0 => rfl
  | 1 => rfl
  | 2 => rfl
  | 3 => rfl
  | 4 => rfl
  | _ + 5 => rfl
def e_s_api_Letter (x : _root_.List api_Letter) : V := .sl 4 x.length fun j => (e_api_Letter (x.getD j z_api_Letter))
theorem d_s_api_Letter (x : _root_.List api_Letter) : (e_s_api_Letter x).Data := fun j => (d_api_Letter (x.getD j z_api_Letter))
def e_s_i64 (x : _root_.List Int) : V := .sl 1 x.length fun j => (.int .i64 (x.getD j 0))
theorem d_s_i64 (x : _root_.List Int) : (e_s_i64 x).Data := fun _ => trivial
def e_s_s_api_Letter (x : _root_.List (_root_.List api_Letter)) : V := .sl 1 x.length fun j => (e_s_api_Letter (x.getD j []))
theorem d_s_s_api_Letter (x : _root_.List (_root_.List api_Letter)) : (e_s_s_api_Letter x).Data := fun j => (d_s_api_Letter (x.getD j []))
def e_s_str (x : _root_.List ByteArray) : V := .sl 1 x.length fun j => (.str (x.getD j ByteArray.empty))
theorem d_s_str (x : _root_.List ByteArray) : (e_s_str x).Data := fun _ => trivial

noncomputable def slices_Clone_api_Letter_api_Letter (p0 : (_root_.List api_Letter)) : Option ((_root_.List api_Letter)) :=
  nilq p0.length (
    some ([] : _root_.List api_Letter)) (
    (fit (([] : _root_.List api_Letter) ++ p0).length 40).bind fun _ =>
    some (([] : _root_.List api_Letter) ++ p0))

noncomputable def lossy_places (p0 : (_root_.List api_Letter)) (p1 : Int) (p2 : Int) : Option ((_root_.List Int)) :=
  (loop (ω := Fl ((_root_.List Int)) (_root_.List Int)) (fun (x1 : Int × _root_.List Int) =>
    if (decide (x1.1 < (p0.length : Int))) then
      jn (fun x7 : _root_.List Int =>
        some (.next ((IntKind.i64.wrap (x1.1 + 1)), x7))) fun j3 =>
      (ib x1.1 p0.length).bind fun _ =>
      lt (((((p0.getD x1.1.toNat z_api_Letter).From) == p1) && (((p0.getD x1.1.toNat z_api_Letter).To) == p2)) : Bool) fun v5 =>
      if v5 then
        (fit (x1.2 ++ ([x1.1] : _root_.List Int)).length 8).bind fun _ =>
        j3 ((x1.2 ++ ([x1.1] : _root_.List Int)))
      else
        j3 (x1.2)
    else
      some (.done (.nx (x1.2)))) (0, ([] : _root_.List Int))).bind fun wn2 => Fl.elim wn2 (fun y8 =>
    some y8) (fun r => some r)

noncomputable def lossy_Find (p0 : (_root_.List api_Letter)) (p1 : Int) (p2 : Int) (p3 : Int) : Option (Int × Bool) :=
  (lossy_places p0 p1 p2).bind fun v1 =>
  if ((v1.length : Int) == 0) then
    some (0, false)
  else
    (nz (v1.length : Int)).bind fun _ =>
    (nz (v1.length : Int)).bind fun _ =>
    (ib ((IntKind.i64.wrap ((p3.tmod (v1.length : Int)) + (v1.length : Int))).tmod (v1.length : Int)) v1.length).bind fun _ =>
    lt (v1.getD (((IntKind.i64.wrap ((p3.tmod (v1.length : Int)) + (v1.length : Int))).tmod (v1.length : Int)).toNat) 0 : Int) fun v6 =>
    some (v6, true)

noncomputable def slices_Delete_api_Letter_api_Letter (p0 : (_root_.List api_Letter)) (p1 : Int) (p2 : Int) : Option ((_root_.List api_Letter)) :=
  (sb p1 p2 p0.length).bind fun _ =>
  (sb p2 (p0.length : Int) p0.length).bind fun _ =>
  if (p1 == p2) then
    some p0
  else
    (sb 0 p1 p0.length).bind fun _ =>
    (sb p2 ((p0.length : Nat) : Int) p0.length).bind fun _ =>
    (inb (p1.toNat - 0) p2.toNat).bind fun _ =>
    (inb (p2.toNat + (p0.length - p2.toNat)) p0.length).bind fun _ =>
    (sb ((((p1.toNat - 0) + (p0.length - p2.toNat)) : Nat) : Int) (p0.length : Int) ((shf p0 z_api_Letter (p1.toNat - 0) p2.toNat (p0.length - p2.toNat)).length)).bind fun _ =>
    (inb ((((((p1.toNat - 0) + (p0.length - p2.toNat)) : Nat) : Int).toNat) + (((p0.length : Int).toNat) - (((((p1.toNat - 0) + (p0.length - p2.toNat)) : Nat) : Int).toNat))) (shf p0 z_api_Letter (p1.toNat - 0) p2.toNat (p0.length - p2.toNat)).length).bind fun _ =>
    lt ((clr (shf p0 z_api_Letter (p1.toNat - 0) p2.toNat (p0.length - p2.toNat)) z_api_Letter (((((p1.toNat - 0) + (p0.length - p2.toNat)) : Nat) : Int).toNat) (((p0.length : Int).toNat) - (((((p1.toNat - 0) + (p0.length - p2.toNat)) : Nat) : Int).toNat))) : _root_.List api_Letter) fun v9 =>
    (inb ((p1.toNat - 0) + (p0.length - p2.toNat)) v9.length).bind fun _ =>
    some (v9.take ((p1.toNat - 0) + (p0.length - p2.toNat)))

noncomputable def lossy_Take (p0 : (_root_.List api_Letter)) (p1 : Int) (p2 : Int) (p3 : Int) : Option ((_root_.List api_Letter) × api_Letter × Bool) :=
  (slices_Clone_api_Letter_api_Letter p0).bind fun v1 =>
  (lossy_Find p0 p1 p2 p3).bind fun v3 =>
  if (!v3.2) then
    lt (({ From := 0, To := 0, Text := ByteArray.empty, Turned := false } : api_Letter) : api_Letter) fun v5 =>
    some (v1, v5, false)
  else
    (slices_Delete_api_Letter_api_Letter v1 v3.1 (IntKind.i64.wrap (v3.1 + 1))).bind fun v6 =>
    (ib v3.1 p0.length).bind fun _ =>
    some (v6, p0.getD v3.1.toNat z_api_Letter, true)

noncomputable def congressref14_Many (p0 : (_root_.List api_Letter)) (p1 : Int) (p2 : Int) : Option (Int) :=
  (loop (ω := Fl (Int) (Int)) (fun (x1 : Int × Int) =>
    if (decide (x1.2 < (p0.length : Int))) then
      jn (fun x7 : Int =>
        some (.next (x7, (IntKind.i64.wrap (x1.2 + 1))))) fun j3 =>
      (ib x1.2 p0.length).bind fun _ =>
      (ibg (((p0.getD x1.2.toNat z_api_Letter).From) == p1) x1.2 p0.length).bind fun _ =>
      lt (((((p0.getD x1.2.toNat z_api_Letter).From) == p1) && (((p0.getD x1.2.toNat z_api_Letter).To) == p2)) : Bool) fun v6 =>
      if v6 then
        j3 ((IntKind.i64.wrap (x1.1 + 1)))
      else
        j3 (x1.1)
    else
      some (.done (.nx (x1.1)))) (0, 0)).bind fun wn2 => Fl.elim wn2 (fun y8 =>
    some y8) (fun r => some r)

noncomputable def congressref14_Find (p0 : (_root_.List api_Letter)) (p1 : Int) (p2 : Int) (p3 : Int) : Option (Int × Bool) :=
  (congressref14_Many p0 p1 p2).bind fun v1 =>
  if (v1 == 0) then
    some (0, false)
  else
    (nz v1).bind fun _ =>
    (nz v1).bind fun _ =>
    (loop (ω := Fl (Int × Bool) (Unit)) (fun (x5 : Int × Int) =>
      if (decide (x5.2 < (p0.length : Int))) then
        jn (fun x11 : Int =>
          some (.next (x11, (IntKind.i64.wrap (x5.2 + 1))))) fun j7 =>
        (ib x5.2 p0.length).bind fun _ =>
        (ibg (!(((p0.getD x5.2.toNat z_api_Letter).From) != p1)) x5.2 p0.length).bind fun _ =>
        lt (((((p0.getD x5.2.toNat z_api_Letter).From) != p1) || (((p0.getD x5.2.toNat z_api_Letter).To) != p2)) : Bool) fun v10 =>
        if v10 then
          j7 (x5.1)
        else
          if (x5.1 == 0) then
            some (.done (.rt (x5.2, true)))
          else
            j7 ((IntKind.i64.wrap (x5.1 - 1)))
      else
        some (.done (.nx ()))) (((IntKind.i64.wrap ((p3.tmod v1) + v1)).tmod v1), 0)).bind fun wn6 => Fl.elim wn6 (fun y12 =>
      some (0, false)) (fun r => some r)

noncomputable def congressref14_Take (p0 : (_root_.List api_Letter)) (p1 : Int) (p2 : Int) (p3 : Int) : Option ((_root_.List api_Letter) × api_Letter × Bool) :=
  (congressref14_Find p0 p1 p2 p3).bind fun v1 =>
  if (!v1.2) then
    lt (({ From := 0, To := 0, Text := ByteArray.empty, Turned := false } : api_Letter) : api_Letter) fun v3 =>
    some (p0, v3, false)
  else
    (sb 0 v1.1 p0.length).bind fun _ =>
    (fit (([] : _root_.List api_Letter) ++ ((p0.take v1.1.toNat).drop 0)).length 40).bind fun _ =>
    (sb (IntKind.i64.wrap (v1.1 + 1)) ((p0.length : Nat) : Int) p0.length).bind fun _ =>
    (fit ((([] : _root_.List api_Letter) ++ ((p0.take v1.1.toNat).drop 0)) ++ ((p0.take p0.length).drop ((IntKind.i64.wrap (v1.1 + 1)).toNat))).length 40).bind fun _ =>
    lt (((([] : _root_.List api_Letter) ++ ((p0.take v1.1.toNat).drop 0)) ++ ((p0.take p0.length).drop ((IntKind.i64.wrap (v1.1 + 1)).toNat))) : _root_.List api_Letter) fun v8 =>
    (ib v1.1 p0.length).bind fun _ =>
    some (v8, p0.getD v1.1.toNat z_api_Letter, true)

noncomputable def lossy_Turn (p0 : (_root_.List api_Letter)) (p1 : Int) (p2 : Int) (p3 : Int) (p4 : Int) (p5 : Int) : Option ((_root_.List api_Letter)) :=
  (slices_Clone_api_Letter_api_Letter p0).bind fun v1 =>
  (lossy_Find p0 p1 p2 p3).bind fun v3 =>
  (ibg (!((!v3.2) || (decide (p4 < 0)))) v3.1 p0.length).bind fun _ =>
  (ibg (!(((!v3.2) || (decide (p4 < 0))) || (decide (p4 ≥ (((p0.getD v3.1.toNat z_api_Letter).Text).size : Int))))) v3.1 p0.length).bind fun _ =>
  lt (((((!v3.2) || (decide (p4 < 0))) || (decide (p4 ≥ (((p0.getD v3.1.toNat z_api_Letter).Text).size : Int)))) || ((p0.getD v3.1.toNat z_api_Letter).Turned)) : Bool) fun v7 =>
  if v7 then
    some v1
  else
    (ib v3.1 v1.length).bind fun _ =>
    (inb ((v1.getD v3.1.toNat z_api_Letter).Text).size maxLen).bind fun _ =>
    lt ((if (IntKind.i64.wrap (((bytesOf ((v1.getD v3.1.toNat z_api_Letter).Text)).length : Int) - p4)) < 4 then (IntKind.i64.wrap (((bytesOf ((v1.getD v3.1.toNat z_api_Letter).Text)).length : Int) - p4)) else 4) : Int) fun v10 =>
    (loop (ω := Fl ((_root_.List api_Letter)) (_root_.List Int)) (fun (x11 : Int × _root_.List Int) =>
      if (decide (x11.1 < v10)) then
        (ib (IntKind.i64.wrap (p4 + x11.1)) x11.2.length).bind fun _ =>
        (nn (IntKind.i64.wrap (8 * x11.1))).bind fun _ =>
        (ib (IntKind.i64.wrap (p4 + x11.1)) x11.2.length).bind fun _ =>
        lt (x11.2.set ((IntKind.i64.wrap (p4 + x11.1)).toNat) (ixor .u8 (x11.2.getD ((IntKind.i64.wrap (p4 + x11.1)).toNat) 0) (IntKind.u8.wrap ((ishr .u32 p5 (IntKind.i64.wrap (8 * x11.1)))))) : _root_.List Int) fun v16 =>
        some (.next ((IntKind.i64.wrap (x11.1 + 1)), v16))
      else
        some (.done (.nx (x11.2)))) (0, (bytesOf ((v1.getD v3.1.toNat z_api_Letter).Text)))).bind fun wn12 => Fl.elim wn12 (fun y17 =>
      (ib v3.1 p0.length).bind fun _ =>
      (ib v3.1 v1.length).bind fun _ =>
      (ib v3.1 ((v1.set v3.1.toNat ({ v1.getD v3.1.toNat z_api_Letter with Text := (strOf y17) })).length)).bind fun _ =>
      lt ((v1.set v3.1.toNat ({ v1.getD v3.1.toNat z_api_Letter with Text := (strOf y17) })).set v3.1.toNat ({ (v1.set v3.1.toNat ({ v1.getD v3.1.toNat z_api_Letter with Text := (strOf y17) })).getD v3.1.toNat z_api_Letter with Turned := ((strOf y17) != ((p0.getD v3.1.toNat z_api_Letter).Text)) }) : _root_.List api_Letter) fun v21 =>
      some v21) (fun r => some r)

noncomputable def congressref01_Four (p0 : Int) : Option (ByteArray) :=
  (mk 4 1).bind fun _ =>
  (loop (ω := Fl (ByteArray) (_root_.List Int)) (fun (x2 : Int × Int × _root_.List Int) =>
    if (decide (x2.2.1 < 4)) then
      (ib x2.2.1 x2.2.2.length).bind fun _ =>
      some (.next ((IntKind.u32.wrap (x2.1.tdiv 256)), (IntKind.i64.wrap (x2.2.1 + 1)), x2.2.2.set x2.2.1.toNat (IntKind.u8.wrap ((x2.1.tmod 256)))))
    else
      some (.done (.nx (x2.2.2)))) (p0, 0, (_root_.List.replicate (4 : Int).toNat 0))).bind fun wn3 => Fl.elim wn3 (fun y5 =>
    some (strOf y5)) (fun r => some r)

noncomputable def congressref01_Turn (p0 : ByteArray) (p1 : Int) (p2 : Int) : Option (ByteArray) :=
  (inb p0.size maxLen).bind fun _ =>
  (congressref01_Four p2).bind fun v2 =>
  (loop (ω := Fl (ByteArray) (_root_.List Int)) (fun (x4 : Int × _root_.List Int) =>
    if (decide (x4.1 < 4)) then
      jn (fun x11 : _root_.List Int =>
        some (.next ((IntKind.i64.wrap (x4.1 + 1)), x11))) fun j6 =>
      lt (((decide (p1 ≥ 0)) && (decide (p1 < (IntKind.i64.wrap ((x4.2.length : Int) - x4.1))))) : Bool) fun v7 =>
      if v7 then
        (ib (IntKind.i64.wrap (p1 + x4.1)) x4.2.length).bind fun _ =>
        (ib x4.1 v2.size).bind fun _ =>
        (ib (IntKind.i64.wrap (p1 + x4.1)) x4.2.length).bind fun _ =>
        j6 (x4.2.set ((IntKind.i64.wrap (p1 + x4.1)).toNat) (ixor .u8 (x4.2.getD ((IntKind.i64.wrap (p1 + x4.1)).toNat) 0) ((bytesOf v2).getD x4.1.toNat 0)))
      else
        j6 (x4.2)
    else
      some (.done (.nx (x4.2)))) (0, (bytesOf p0))).bind fun wn5 => Fl.elim wn5 (fun y12 =>
    some (strOf y12)) (fun r => some r)

noncomputable def congressref14_Turn (p0 : (_root_.List api_Letter)) (p1 : Int) (p2 : Int) (p3 : Int) (p4 : Int) (p5 : Int) : Option ((_root_.List api_Letter)) :=
  (fit (([] : _root_.List api_Letter) ++ p0).length 40).bind fun _ =>
  (congressref14_Find p0 p1 p2 p3).bind fun v2 =>
  (ibg v2.2 v2.1 ((([] : _root_.List api_Letter) ++ p0).length)).bind fun _ =>
  lt ((v2.2 && (!(((([] : _root_.List api_Letter) ++ p0).getD v2.1.toNat z_api_Letter).Turned))) : Bool) fun v5 =>
  jn (fun x15 : _root_.List api_Letter =>
    some x15) fun j6 =>
  if v5 then
    (ib v2.1 ((([] : _root_.List api_Letter) ++ p0).length)).bind fun _ =>
    (congressref01_Turn (((([] : _root_.List api_Letter) ++ p0).getD v2.1.toNat z_api_Letter).Text) p4 p5).bind fun v8 =>
    (ib v2.1 ((([] : _root_.List api_Letter) ++ p0).length)).bind fun _ =>
    lt ((([] : _root_.List api_Letter) ++ p0).set v2.1.toNat ({ (([] : _root_.List api_Letter) ++ p0).getD v2.1.toNat z_api_Letter with Text := v8 }) : _root_.List api_Letter) fun v11 =>
    (ib v2.1 v11.length).bind fun _ =>
    (ib v2.1 p0.length).bind fun _ =>
    (ib v2.1 v11.length).bind fun _ =>
    j6 (v11.set v2.1.toNat ({ v11.getD v2.1.toNat z_api_Letter with Turned := (((v11.getD v2.1.toNat z_api_Letter).Text) != ((p0.getD v2.1.toNat z_api_Letter).Text)) }))
  else
    j6 ((([] : _root_.List api_Letter) ++ p0))

noncomputable def congressref14_Same (p0 : (_root_.List api_Letter)) (p1 : (_root_.List api_Letter)) : Option (Bool) :=
  if ((p0.length : Int) != (p1.length : Int)) then
    some false
  else
    (loop (ω := Fl (Bool) (Unit)) (fun (x1 : Int) =>
      if (decide (x1 < (p0.length : Int))) then
        (ib x1 p0.length).bind fun _ =>
        (ib x1 p1.length).bind fun _ =>
        lt ((!(b_api_Letter (p0.getD x1.toNat z_api_Letter) (p1.getD x1.toNat z_api_Letter))) : Bool) fun v5 =>
        if v5 then
          some (.done (.rt false))
        else
          some (.next ((IntKind.i64.wrap (x1 + 1))))
      else
        some (.done (.nx ()))) (0)).bind fun wn2 => Fl.elim wn2 (fun y6 =>
      some true) (fun r => some r)

noncomputable def congresslaw14_three : Option ((_root_.List api_Letter)) :=
  lt (([({ From := 0, To := 1, Text := (⟨#[97]⟩ : ByteArray), Turned := false } : api_Letter), ({ From := 0, To := 1, Text := (⟨#[98]⟩ : ByteArray), Turned := false } : api_Letter), ({ From := 0, To := 1, Text := (⟨#[99]⟩ : ByteArray), Turned := false } : api_Letter)] : _root_.List api_Letter) : (_root_.List api_Letter)) fun v1 =>
  some v1

noncomputable def lossy_Many (p0 : (_root_.List api_Letter)) (p1 : Int) (p2 : Int) : Option (Int) :=
  (lossy_places p0 p1 p2).bind fun v1 =>
  some (v1.length : Int)

noncomputable def slices_Grow_api_Letter_api_Letter (p1 : Int) : Option ((_root_.List api_Letter)) :=
  if (decide (p1 < 0)) then
    none
  else
    if (decide ((IntKind.i64.wrap (p1 - (IntKind.i64.wrap (0 - 0)))) > 0)) then
      (sb 0 0 0).bind fun _ =>
      (mkp (IntKind.i64.wrap (p1 - (IntKind.i64.wrap (0 - 0)))) 40).bind fun _ =>
      (sb 0 0 ((_root_.List.replicate (IntKind.i64.wrap (p1 - (IntKind.i64.wrap (0 - 0)))).toNat z_api_Letter).length)).bind fun _ =>
      lt ((_root_.List.replicate (IntKind.i64.wrap (p1 - (IntKind.i64.wrap (0 - 0)))).toNat z_api_Letter) : _root_.List api_Letter) fun v4 =>
      (inb (((0 : Int).toNat) - 0) v4.length).bind fun _ =>
      some (v4.take (((0 : Int).toNat) - 0))
    else
      some ([] : _root_.List api_Letter)

noncomputable def slices_Concat_api_Letter_api_Letter (p0 : (_root_.List (_root_.List api_Letter))) : Option ((_root_.List api_Letter)) :=
  (loop (ω := Fl ((_root_.List api_Letter)) (Int)) (fun (x1 : Int × Int) =>
    if (decide (x1.2 < (p0.length : Int))) then
      (ib x1.2 p0.length).bind fun _ =>
      lt ((decide ((IntKind.i64.wrap (x1.1 + ((p0.getD x1.2.toNat []).length : Int))) < 0)) : Bool) fun v4 =>
      if v4 then
        none
      else
        some (.next ((IntKind.i64.wrap (x1.1 + ((p0.getD x1.2.toNat []).length : Int))), (IntKind.i64.wrap (x1.2 + 1))))
    else
      some (.done (.nx (x1.1)))) (0, 0)).bind fun wn2 => Fl.elim wn2 (fun y5 =>
    (slices_Grow_api_Letter_api_Letter y5).bind fun v6 =>
    (loop (ω := Fl ((_root_.List api_Letter)) (_root_.List api_Letter)) (fun (x8 : Int × _root_.List api_Letter) =>
      if (decide (x8.1 < (p0.length : Int))) then
        (ib x8.1 p0.length).bind fun _ =>
        (fit (x8.2 ++ (p0.getD x8.1.toNat [])).length 40).bind fun _ =>
        some (.next ((IntKind.i64.wrap (x8.1 + 1)), (x8.2 ++ (p0.getD x8.1.toNat []))))
      else
        some (.done (.nx (x8.2)))) (0, v6)).bind fun wn9 => Fl.elim wn9 (fun y12 =>
      some y12) (fun r => some r)) (fun r => some r)

noncomputable def lossy_Put (p0 : (_root_.List api_Letter)) (p1 : (_root_.List api_Letter)) : Option ((_root_.List api_Letter)) :=
  lt ((if 0 < (IntKind.i64.wrap (4096 - (p0.length : Int))) then (IntKind.i64.wrap (4096 - (p0.length : Int))) else 0) : Int) fun v1 =>
  (sb 0 (if v1 < (p1.length : Int) then v1 else (p1.length : Int)) p1.length).bind fun _ =>
  (slices_Concat_api_Letter_api_Letter ([p0, ((p1.take ((if v1 < (p1.length : Int) then v1 else (p1.length : Int)).toNat)).drop 0)] : _root_.List (_root_.List api_Letter))).bind fun v3 =>
  some v3

noncomputable def congresslaw14_fixed : Option (Bool) :=
  (congresslaw14_three).bind fun v1 =>
  (lossy_Take v1 0 1 4).bind fun v3 =>
  (congresslaw14_three).bind fun v5 =>
  (lossy_Take v5 0 1 (-1)).bind fun v7 =>
  (congresslaw14_three).bind fun v9 =>
  (lossy_Take v9 1 0 0).bind fun v11 =>
  (congresslaw14_three).bind fun v13 =>
  (lossy_Turn v13 0 1 0 0 1).bind fun v15 =>
  (ibg ((((((v3.2.2 && (v3.2.1.Text == (⟨#[98]⟩ : ByteArray))) && ((v3.1.length : Int) == 2)) && v7.2.2) && (v7.2.1.Text == (⟨#[99]⟩ : ByteArray))) && (!v11.2.2)) && ((v15.length : Int) == 3)) 0 v15.length).bind fun _ =>
  (whn (((((((v3.2.2 && (v3.2.1.Text == (⟨#[98]⟩ : ByteArray))) && ((v3.1.length : Int) == 2)) && v7.2.2) && (v7.2.1.Text == (⟨#[99]⟩ : ByteArray))) && (!v11.2.2)) && ((v15.length : Int) == 3)) && (((v15.getD 0 z_api_Letter).Text) == (⟨#[96]⟩ : ByteArray))) (congresslaw14_three) []).bind fun v18 =>
  (whn (((((((v3.2.2 && (v3.2.1.Text == (⟨#[98]⟩ : ByteArray))) && ((v3.1.length : Int) == 2)) && v7.2.2) && (v7.2.1.Text == (⟨#[99]⟩ : ByteArray))) && (!v11.2.2)) && ((v15.length : Int) == 3)) && (((v15.getD 0 z_api_Letter).Text) == (⟨#[96]⟩ : ByteArray))) (lossy_Many v18 0 1) 0).bind fun v20 =>
  (whn ((((((((v3.2.2 && (v3.2.1.Text == (⟨#[98]⟩ : ByteArray))) && ((v3.1.length : Int) == 2)) && v7.2.2) && (v7.2.1.Text == (⟨#[99]⟩ : ByteArray))) && (!v11.2.2)) && ((v15.length : Int) == 3)) && (((v15.getD 0 z_api_Letter).Text) == (⟨#[96]⟩ : ByteArray))) && (v20 == 3)) (congresslaw14_three) []).bind fun v22 =>
  (whn ((((((((v3.2.2 && (v3.2.1.Text == (⟨#[98]⟩ : ByteArray))) && ((v3.1.length : Int) == 2)) && v7.2.2) && (v7.2.1.Text == (⟨#[99]⟩ : ByteArray))) && (!v11.2.2)) && ((v15.length : Int) == 3)) && (((v15.getD 0 z_api_Letter).Text) == (⟨#[96]⟩ : ByteArray))) && (v20 == 3)) (congresslaw14_three) []).bind fun v24 =>
  (whn ((((((((v3.2.2 && (v3.2.1.Text == (⟨#[98]⟩ : ByteArray))) && ((v3.1.length : Int) == 2)) && v7.2.2) && (v7.2.1.Text == (⟨#[99]⟩ : ByteArray))) && (!v11.2.2)) && ((v15.length : Int) == 3)) && (((v15.getD 0 z_api_Letter).Text) == (⟨#[96]⟩ : ByteArray))) && (v20 == 3)) (lossy_Put v22 v24) []).bind fun v26 =>
  lt ((((((((((v3.2.2 && (v3.2.1.Text == (⟨#[98]⟩ : ByteArray))) && ((v3.1.length : Int) == 2)) && v7.2.2) && (v7.2.1.Text == (⟨#[99]⟩ : ByteArray))) && (!v11.2.2)) && ((v15.length : Int) == 3)) && (((v15.getD 0 z_api_Letter).Text) == (⟨#[96]⟩ : ByteArray))) && (v20 == 3)) && ((v26.length : Int) == 6)) : Bool) fun v28 =>
  some v28

noncomputable def congressref14_Put (p0 : (_root_.List api_Letter)) (p1 : (_root_.List api_Letter)) : Option ((_root_.List api_Letter)) :=
  (fit (([] : _root_.List api_Letter) ++ p0).length 40).bind fun _ =>
  (loop (ω := Fl ((_root_.List api_Letter)) (_root_.List api_Letter)) (fun (x2 : Int × _root_.List api_Letter) =>
    if (decide (x2.1 < (p1.length : Int))) then
      jn (fun x7 : _root_.List api_Letter =>
        some (.next ((IntKind.i64.wrap (x2.1 + 1)), x7))) fun j4 =>
      if (decide ((x2.2.length : Int) < 4096)) then
        (ib x2.1 p1.length).bind fun _ =>
        (fit (x2.2 ++ ([p1.getD x2.1.toNat z_api_Letter] : _root_.List api_Letter)).length 40).bind fun _ =>
        j4 ((x2.2 ++ ([p1.getD x2.1.toNat z_api_Letter] : _root_.List api_Letter)))
      else
        j4 (x2.2)
    else
      some (.done (.nx (x2.2)))) (0, (([] : _root_.List api_Letter) ++ p0))).bind fun wn3 => Fl.elim wn3 (fun y8 =>
    some y8) (fun r => some r)

noncomputable def congresslaw14_LossyTells (p0 : (_root_.List api_Letter)) (p1 : (_root_.List api_Letter)) (p2 : congresslaw14_Pick) : Option (Bool) :=
  (lossy_Take p0 p2.From p2.To p2.Index).bind fun v1 =>
  (congressref14_Take p0 p2.From p2.To p2.Index).bind fun v3 =>
  (lossy_Find p0 p2.From p2.To p2.Index).bind fun v5 =>
  (congressref14_Find p0 p2.From p2.To p2.Index).bind fun v7 =>
  (lossy_Turn p0 p2.From p2.To p2.Index p2.At p2.Mask).bind fun v9 =>
  (congressref14_Turn p0 p2.From p2.To p2.Index p2.At p2.Mask).bind fun v11 =>
  (congressref14_Same v9 v11).bind fun v13 =>
  (congresslaw14_fixed).bind fun v15 =>
  (whn v15 (congressref14_Same v1.1 v3.1) false).bind fun v17 =>
  (whn ((((((v15 && v17) && (b_api_Letter v1.2.1 v3.2.1)) && (v1.2.2 == v3.2.2)) && (v5.1 == v7.1)) && (v5.2 == v7.2)) && v13) (lossy_Put p0 p1) []).bind fun v19 =>
  (whn ((((((v15 && v17) && (b_api_Letter v1.2.1 v3.2.1)) && (v1.2.2 == v3.2.2)) && (v5.1 == v7.1)) && (v5.2 == v7.2)) && v13) (congressref14_Put p0 p1) []).bind fun v21 =>
  (whn ((((((v15 && v17) && (b_api_Letter v1.2.1 v3.2.1)) && (v1.2.2 == v3.2.2)) && (v5.1 == v7.1)) && (v5.2 == v7.2)) && v13) (congressref14_Same v19 v21) false).bind fun v23 =>
  (whn (((((((v15 && v17) && (b_api_Letter v1.2.1 v3.2.1)) && (v1.2.2 == v3.2.2)) && (v5.1 == v7.1)) && (v5.2 == v7.2)) && v13) && v23) (lossy_Many p0 p2.From p2.To) 0).bind fun v25 =>
  (whn (((((((v15 && v17) && (b_api_Letter v1.2.1 v3.2.1)) && (v1.2.2 == v3.2.2)) && (v5.1 == v7.1)) && (v5.2 == v7.2)) && v13) && v23) (congressref14_Many p0 p2.From p2.To) 0).bind fun v27 =>
  lt (((((((((v15 && v17) && (b_api_Letter v1.2.1 v3.2.1)) && (v1.2.2 == v3.2.2)) && (v5.1 == v7.1)) && (v5.2 == v7.2)) && v13) && v23) && (v25 == v27)) : Bool) fun v29 =>
  some v29

noncomputable def congresslaw14_LossyBlind (p0 : (_root_.List api_Letter)) (p1 : (_root_.List ByteArray)) (p2 : congresslaw14_Pick) : Option (Bool) :=
  (fit (([] : _root_.List api_Letter) ++ p0).length 40).bind fun _ =>
  (loop (ω := Fl (Bool) (_root_.List api_Letter)) (fun (x2 : Int × _root_.List api_Letter) =>
    if (decide (x2.1 < (x2.2.length : Int))) then
      jn (fun x9 : _root_.List api_Letter =>
        some (.next ((IntKind.i64.wrap (x2.1 + 1)), x9))) fun j4 =>
      (ib x2.1 x2.2.length).bind fun _ =>
      lt (x2.2.set x2.1.toNat ({ x2.2.getD x2.1.toNat z_api_Letter with Text := ByteArray.empty }) : _root_.List api_Letter) fun v6 =>
      if (decide (x2.1 < (p1.length : Int))) then
        (ib x2.1 p1.length).bind fun _ =>
        (ib x2.1 v6.length).bind fun _ =>
        j4 (v6.set x2.1.toNat ({ v6.getD x2.1.toNat z_api_Letter with Text := p1.getD x2.1.toNat ByteArray.empty }))
      else
        j4 (v6)
    else
      some (.done (.nx (x2.2)))) (0, (([] : _root_.List api_Letter) ++ p0))).bind fun wn3 => Fl.elim wn3 (fun y10 =>
    (lossy_Find p0 p2.From p2.To p2.Index).bind fun v11 =>
    (lossy_Find y10 p2.From p2.To p2.Index).bind fun v13 =>
    (lossy_Take p0 p2.From p2.To p2.Index).bind fun v15 =>
    (lossy_Take y10 p2.From p2.To p2.Index).bind fun v17 =>
    (congresslaw14_fixed).bind fun v19 =>
    lt (((((((!v19) || (v11.1 != v13.1)) || (v11.2 != v13.2)) || ((v15.1.length : Int) != (v17.1.length : Int))) || (v15.2.1.From != v17.2.1.From)) || (v15.2.1.To != v17.2.1.To)) : Bool) fun v21 =>
    if v21 then
      some false
    else
      (loop (ω := Fl (Bool) (Unit)) (fun (x22 : Int) =>
        if (decide (x22 < (v15.1.length : Int))) then
          (ib x22 v15.1.length).bind fun _ =>
          (ib x22 v17.1.length).bind fun _ =>
          (ibg (!(((v15.1.getD x22.toNat z_api_Letter).From) != ((v17.1.getD x22.toNat z_api_Letter).From))) x22 v15.1.length).bind fun _ =>
          (ibg (!(((v15.1.getD x22.toNat z_api_Letter).From) != ((v17.1.getD x22.toNat z_api_Letter).From))) x22 v17.1.length).bind fun _ =>
          lt (((((v15.1.getD x22.toNat z_api_Letter).From) != ((v17.1.getD x22.toNat z_api_Letter).From)) || (((v15.1.getD x22.toNat z_api_Letter).To) != ((v17.1.getD x22.toNat z_api_Letter).To))) : Bool) fun v28 =>
          if v28 then
            some (.done (.rt false))
          else
            some (.next ((IntKind.i64.wrap (x22 + 1))))
        else
          some (.done (.nx ()))) (0)).bind fun wn23 => Fl.elim wn23 (fun y29 =>
        some true) (fun r => some r)) (fun r => some r)

noncomputable def congresslaw14_LossyOrder (p0 : (_root_.List api_Letter)) (p1 : Int) (p2 : Int) : Option (Bool) :=
  (congresslaw14_fixed).bind fun v1 =>
  if ((!v1) || (decide ((p0.length : Int) > 200))) then
    (congresslaw14_fixed).bind fun v3 =>
    some v3
  else
    (fit (([] : _root_.List api_Letter) ++ p0).length 40).bind fun _ =>
    (loop (ω := Fl (Bool) (_root_.List api_Letter × _root_.List api_Letter)) (fun (x6 : Int × _root_.List api_Letter × _root_.List api_Letter) =>
      if (decide (x6.1 < (p0.length : Int))) then
        jn (fun x19 : _root_.List api_Letter × _root_.List api_Letter =>
          some (.next ((IntKind.i64.wrap (x6.1 + 1)), x19.1, x19.2))) fun j8 =>
        (ib x6.1 p0.length).bind fun _ =>
        (ibg (!(((p0.getD x6.1.toNat z_api_Letter).From) != p1)) x6.1 p0.length).bind fun _ =>
        lt (((((p0.getD x6.1.toNat z_api_Letter).From) != p1) || (((p0.getD x6.1.toNat z_api_Letter).To) != p2)) : Bool) fun v11 =>
        if v11 then
          (ib x6.1 p0.length).bind fun _ =>
          (fit (x6.2.2 ++ ([p0.getD x6.1.toNat z_api_Letter] : _root_.List api_Letter)).length 40).bind fun _ =>
          lt ((x6.2.2 ++ ([p0.getD x6.1.toNat z_api_Letter] : _root_.List api_Letter)) : _root_.List api_Letter) fun v14 =>
          j8 (x6.2.1, v14)
        else
          (lossy_Take x6.2.1 p1 p2 0).bind fun v15 =>
          (ibg (!(!v15.2.2)) x6.1 p0.length).bind fun _ =>
          lt (((!v15.2.2) || (!(b_api_Letter v15.2.1 (p0.getD x6.1.toNat z_api_Letter)))) : Bool) fun v18 =>
          if v18 then
            some (.done (.rt false))
          else
            j8 (v15.1, x6.2.2)
      else
        some (.done (.nx (x6.2.1, x6.2.2)))) (0, (([] : _root_.List api_Letter) ++ p0), ([] : _root_.List api_Letter))).bind fun wn7 => Fl.elim wn7 (fun y20 =>
      (lossy_Take y20.1 p1 p2 0).bind fun v21 =>
      (whn (!v21.2.2) (congressref14_Same y20.1 y20.2) false).bind fun v23 =>
      some ((!v21.2.2) && v23)) (fun r => some r)

noncomputable def congresslaw14_LossyTurned (p0 : (_root_.List api_Letter)) (p1 : congresslaw14_Pick) (p2 : congresslaw14_Pick) : Option (Bool) :=
  (lossy_Turn p0 p1.From p1.To p1.Index p1.At p1.Mask).bind fun v1 =>
  (lossy_Find p0 p1.From p1.To p1.Index).bind fun v3 =>
  (congresslaw14_fixed).bind fun v5 =>
  if ((!v5) || ((v1.length : Int) != (p0.length : Int))) then
    some false
  else
    (loop (ω := Fl (Bool) (Unit)) (fun (x7 : Int) =>
      if (decide (x7 < (p0.length : Int))) then
        jn (fun x24 : Unit =>
          some (.next ((IntKind.i64.wrap (x7 + 1))))) fun j9 =>
        (ib x7 p0.length).bind fun _ =>
        (ib x7 v1.length).bind fun _ =>
        lt ((b_api_Letter (p0.getD x7.toNat z_api_Letter) (v1.getD x7.toNat z_api_Letter)) : Bool) fun v12 =>
        if v12 then
          j9 ()
        else
          lt ((((((!v3.2) || (x7 != v3.1)) || ((p0.getD x7.toNat z_api_Letter).Turned)) || (!((v1.getD x7.toNat z_api_Letter).Turned))) || ((((p0.getD x7.toNat z_api_Letter).Text).size : Int) != (((v1.getD x7.toNat z_api_Letter).Text).size : Int))) : Bool) fun v13 =>
          if v13 then
            some (.done (.rt false))
          else
            (loop (ω := Fl (Bool) (Unit)) (fun (x14 : Int) =>
              if (decide (x14 < (((p0.getD x7.toNat z_api_Letter).Text).size : Int))) then
                (ib x14 (((p0.getD x7.toNat z_api_Letter).Text).size)).bind fun _ =>
                (ib x14 (((v1.getD x7.toNat z_api_Letter).Text).size)).bind fun _ =>
                lt (((((bytesOf ((p0.getD x7.toNat z_api_Letter).Text)).getD x14.toNat 0) != ((bytesOf ((v1.getD x7.toNat z_api_Letter).Text)).getD x14.toNat 0)) && ((decide (x14 < p1.At)) || (decide (x14 > (IntKind.i64.wrap (p1.At + 3)))))) : Bool) fun v18 =>
                if v18 then
                  some (.done (.rt false))
                else
                  some (.next ((IntKind.i64.wrap (x14 + 1))))
              else
                some (.done (.nx ()))) (0)).bind fun wn15 => Fl.elim wn15 (fun y19 =>
              (lossy_Turn v1 p1.From p1.To p1.Index p2.At p2.Mask).bind fun v20 =>
              (congressref14_Same v1 v20).bind fun v22 =>
              if (!v22) then
                some (.done (.rt false))
              else
                j9 ()) (fun r => some (.done (.rt r)))
      else
        some (.done (.nx ()))) (0)).bind fun wn8 => Fl.elim wn8 (fun y25 =>
      some true) (fun r => some r)

noncomputable def congresslaw14_LossyPuts (p0 : (_root_.List api_Letter)) (p1 : (_root_.List api_Letter)) (p2 : (_root_.List api_Letter)) : Option (Bool) :=
  (congresslaw14_fixed).bind fun v1 =>
  lt (((((!v1) || (decide ((p0.length : Int) > 300))) || (decide ((p1.length : Int) > 300))) || (decide ((p2.length : Int) > 300))) : Bool) fun v3 =>
  if v3 then
    (congresslaw14_fixed).bind fun v4 =>
    some v4
  else
    (fit (([] : _root_.List api_Letter) ++ p1).length 40).bind fun _ =>
    (fit ((([] : _root_.List api_Letter) ++ p1) ++ p2).length 40).bind fun _ =>
    (lossy_Put p0 p1).bind fun v8 =>
    (lossy_Put v8 p2).bind fun v10 =>
    (lossy_Put p0 ((([] : _root_.List api_Letter) ++ p1) ++ p2)).bind fun v12 =>
    (congressref14_Same v10 v12).bind fun v14 =>
    lt ((v14 && ((v10.length : Int) == (IntKind.i64.wrap ((p0.length : Int) + (((([] : _root_.List api_Letter) ++ p1) ++ p2).length : Int))))) : Bool) fun v16 =>
    some v16
end Go.Proofs.Ytdaeajonhfkpaaa
