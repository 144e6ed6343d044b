/- Printed by gen.py. Conditions: none. -/
import Derived.Test.YtckoficjcnaedaaEngQ
import Derived.Test.YtckoficjcnaedaaProg
import Derived.KernelRfl
set_option linter.unusedVariables false
set_option maxRecDepth 100000
namespace Go.Proofs.Ytckoficjcnaedaa
open Go.Eng
def e_a8_u32 (x : Nat → Int) : V := .agg (.ar 8 1) fun j => (.int .u32 (x j))
theorem d_a8_u32 (x : Nat → Int) : (e_a8_u32 x).Data := fun _ => trivial
theorem f_a8_u32 (x : Nat → Int) : (e_a8_u32 x).Flat := fun _ => trivial
def b_a8_u32 (x y : Nat → Int) : Bool := (List.range 8).all fun j => ((x j) == (y j))
theorem q_a8_u32 (x y : Nat → Int) : eqV (e_a8_u32 x) (e_a8_u32 y) = b_a8_u32 x y := by
  have h : eqV (e_a8_u32 x) (e_a8_u32 y) = ((List.range 8).all fun j => eqV (.int .u32 (x j)) (.int .u32 (y j))) := rfl
  rw [h]; simp only [b_a8_u32, eqV]
theorem al_a8_u32 (x y : Nat → Int) : Akin (e_a8_u32 x) (e_a8_u32 y) := .agg _ _ _ fun j _ => .int _ _ _
structure api_Beat where
  Now : Int
  Heard : (Nat → Int)
  Inc : (Nat → Int)
def z_api_Beat : api_Beat := { Now := 0, Heard := (fun _ => 0), Inc := (fun _ => 0) }
def c_api_Beat (x : api_Beat) : Nat → V
  | 0 => (.int .u32 x.Now)
  | 1 => (e_a8_u32 x.Heard)
  | 2 => (e_a8_u32 x.Inc)
  | _ => .bool false
def e_api_Beat (x : api_Beat) : V := .agg (.st [1, 8, 8]) (c_api_Beat x)
theorem d_api_Beat (x : api_Beat) : (e_api_Beat x).Data := fun j => match j with
  | 0 => trivial
  | 1 => (d_a8_u32 x.Heard)
  | 2 => (d_a8_u32 x.Inc)
  | _ + 3 => trivial
theorem f_api_Beat (x : api_Beat) : (e_api_Beat x).Flat := fun j => match j with
  | 0 => trivial
  | 1 => (f_a8_u32 x.Heard)
  | 2 => (f_a8_u32 x.Inc)
  | _ + 3 => trivial
def b_api_Beat (x y : api_Beat) : Bool := (x.Now == y.Now) && ((b_a8_u32 x.Heard y.Heard) && ((b_a8_u32 x.Inc y.Inc)))
theorem q_api_Beat (x y : api_Beat) : eqV (e_api_Beat x) (e_api_Beat y) = b_api_Beat x y := by
  have h : eqV (e_api_Beat x) (e_api_Beat y) = ((List.range 3).all fun j => eqV (c_api_Beat x j) (c_api_Beat y j)) := rfl
  have hr : List.range 3 = [0, 1, 2] := rfl
  rw [h, hr]
  simp only [List.all_cons, List.all_nil, Bool.and_true, c_api_Beat, b_api_Beat, eqV, q_a8_u32]
theorem al_api_Beat (x y : api_Beat) : Akin (e_api_Beat x) (e_api_Beat y) := .agg _ _ _ fun j h => match j, h with
  | 0, _ => .int _ _ _
  | 1, _ => al_a8_u32 _ _
  | 2, _ => al_a8_u32 _ _
  | n + 3, h => absurd (show n + 3 < 3 from h) (by omega)
theorem st_api_Beat_0 (x : api_Beat) (v : Int) : vupd (c_api_Beat x) 0 (.int .u32 v) = c_api_Beat { x with Now := v } := by
  funext j; match j with
  | 0 => rfl
  | 1 => rfl
  | 2 => rfl
  | _ + 3 => rfl
theorem st_api_Beat_1 (x : api_Beat) (v : (Nat → Int)) : vupd (c_api_Beat x) 1 (e_a8_u32 v) = c_api_Beat { x with Heard := v } := by
  funext j; match j with
  | 0 => rfl
  | 1 => rfl
  | 2 => rfl
  | _ + 3 => rfl
theorem st_api_Beat_2 (x : api_Beat) (v : (Nat → Int)) : vupd (c_api_Beat x) 2 (e_a8_u32 v) = c_api_Beat { x with Inc := v } := by
  funext j; match j with
  | 0 => rfl
  | 1 => rfl
  | 2 => rfl
  | _ + 3 => rfl
structure congresslaw08_Heard where
  From : Int
  Inc : Int
def z_congresslaw08_Heard : congresslaw08_Heard := { From := 0, Inc := 0 }
def c_congresslaw08_Heard (x : congresslaw08_Heard) : Nat → V
  | 0 => (.int .i64 x.From)
  | 1 => (.int .u32 x.Inc)
  | _ => .bool false
def e_congresslaw08_Heard (x : congresslaw08_Heard) : V := .agg (.st [1, 1]) (c_congresslaw08_Heard x)
theorem d_congresslaw08_Heard (x : congresslaw08_Heard) : (e_congresslaw08_Heard x).Data := fun j => match j with
  | 0 => trivial
  | 1 => trivial
  | _ + 2 => trivial
theorem f_congresslaw08_Heard (x : congresslaw08_Heard) : (e_congresslaw08_Heard x).Flat := fun j => match j with
  | 0 => trivial
  | 1 => trivial
  | _ + 2 => trivial
def b_congresslaw08_Heard (x y : congresslaw08_Heard) : Bool := (x.From == y.From) && ((x.Inc == y.Inc))
theorem q_congresslaw08_Heard (x y : congresslaw08_Heard) : eqV (e_congresslaw08_Heard x) (e_congresslaw08_Heard y) = b_congresslaw08_Heard x y := by
  have h : eqV (e_congresslaw08_Heard x) (e_congresslaw08_Heard y) = ((List.range 2).all fun j => eqV (c_congresslaw08_Heard x j) (c_congresslaw08_Heard y j)) := rfl
  have hr : List.range 2 = [0, 1] := rfl
  rw [h, hr]
  simp only [List.all_cons, List.all_nil, Bool.and_true, c_congresslaw08_Heard, b_congresslaw08_Heard, eqV]
theorem al_congresslaw08_Heard (x y : congresslaw08_Heard) : Akin (e_congresslaw08_Heard x) (e_congresslaw08_Heard y) := .agg _ _ _ fun j h => match j, h with
  | 0, _ => .int _ _ _
  | 1, _ => .int _ _ _
  | n + 2, h => absurd (show n + 2 < 2 from h) (by omega)
theorem st_congresslaw08_Heard_0 (x : congresslaw08_Heard) (v : Int) : vupd (c_congresslaw08_Heard x) 0 (.int .i64 v) = c_congresslaw08_Heard { x with From := v } := by
  funext j; match j with
  | 0 => rfl
  | 1 => rfl
  | _ + 2 => rfl
theorem st_congresslaw08_Heard_1 (x : congresslaw08_Heard) (v : Int) : vupd (c_congresslaw08_Heard x) 1 (.int .u32 v) = c_congresslaw08_Heard { x with Inc := v } := by
  funext j; match j with
  | 0 => rfl
  | 1 => rfl
  | _ + 2 => rfl
def e_s_congresslaw08_Heard (x : _root_.List congresslaw08_Heard) : V := .sl 2 x.length fun j => (e_congresslaw08_Heard (x.getD j z_congresslaw08_Heard))
theorem d_s_congresslaw08_Heard (x : _root_.List congresslaw08_Heard) : (e_s_congresslaw08_Heard x).Data := fun j => (d_congresslaw08_Heard (x.getD j z_congresslaw08_Heard))

noncomputable def beat_Hear (p0 : api_Beat) (p1 : Int) (p2 : Int) : Option (api_Beat × Bool) :=
  (ibg (!((((decide (p1 < 0)) || (decide (p1 ≥ 8))) || (p2 == 0)) || (p0.Now == 0))) p1 8).bind fun _ =>
  lt ((((((decide (p1 < 0)) || (decide (p1 ≥ 8))) || (p2 == 0)) || (p0.Now == 0)) || (decide (p2 < (p0.Inc p1.toNat)))) : Bool) fun v2 =>
  if v2 then
    some (p0, false)
  else
    (ib p1 8).bind fun _ =>
    (ib p1 8).bind fun _ =>
    lt ({ { p0 with Heard := aupd p0.Heard p1.toNat p0.Now } with Inc := aupd (({ p0 with Heard := aupd p0.Heard p1.toNat p0.Now }).Inc) p1.toNat p2 } : api_Beat) fun v5 =>
    some (v5, true)

noncomputable def congressref08_Hear (p0 : api_Beat) (p1 : Int) (p2 : Int) : Option (api_Beat × Bool) :=
  lt (((((decide (p1 < 0)) || (decide (p1 > 7))) || (p2 == 0)) || (p0.Now == 0)) : Bool) fun v1 =>
  if v1 then
    some (p0, false)
  else
    (ib p1 8).bind fun _ =>
    if (decide (p2 < (p0.Inc p1.toNat))) then
      some (p0, false)
    else
      (ib p1 8).bind fun _ =>
      (ib p1 8).bind fun _ =>
      lt ({ { p0 with Heard := aupd p0.Heard p1.toNat p0.Now } with Inc := aupd (({ p0 with Heard := aupd p0.Heard p1.toNat p0.Now }).Inc) p1.toNat p2 } : api_Beat) fun v5 =>
      some (v5, true)

noncomputable def beat_Tick (p0 : api_Beat) : Option (api_Beat) :=
  jn (fun x2 : api_Beat =>
    some x2) fun j1 =>
  if (decide (p0.Now < 4294967295)) then
    j1 ({ p0 with Now := (IntKind.u32.wrap (p0.Now + 1)) })
  else
    j1 (p0)

noncomputable def beat_Reach (p0 : api_Beat) (p1 : Int) (p2 : Int) (p3 : Int) : Option ((Nat → Int)) :=
  (loop (ω := Fl ((Nat → Int)) ((Nat → Int))) (fun (x1 : Int × (Nat → Int)) =>
    if (decide (x1.1 < 8)) then
      jn (fun x8 : (Nat → Int) =>
        some (.next ((IntKind.i64.wrap (x1.1 + 1)), x8))) fun j3 =>
      (ib x1.1 8).bind fun _ =>
      lt (((((p0.Heard x1.1.toNat) != 0) && (decide ((p0.Heard x1.1.toNat) ≤ p0.Now))) && (decide ((IntKind.u32.wrap (p0.Now - (p0.Heard x1.1.toNat))) ≤ p3))) : Bool) fun v5 =>
      if v5 then
        (ib x1.1 8).bind fun _ =>
        (ib x1.1 8).bind fun _ =>
        j3 (aupd x1.2 x1.1.toNat (p0.Inc x1.1.toNat))
      else
        j3 (x1.2)
    else
      some (.done (.nx (x1.2)))) (0, (fun _ => 0))).bind fun wn2 => Fl.elim wn2 (fun y9 =>
    jn (fun x12 : (Nat → Int) =>
      some x12) fun j10 =>
    if ((decide (p1 ≥ 0)) && (decide (p1 < 8))) then
      (ib p1 8).bind fun _ =>
      j10 (aupd y9 p1.toNat p2)
    else
      j10 (y9)) (fun r => some r)

noncomputable def congresslaw08_fixed : Option (Bool) :=
  (beat_Hear ({ Now := 5, Heard := (fun _ => 0), Inc := (fun _ => 0) } : api_Beat) 3 2).bind fun v1 =>
  (beat_Tick v1.1).bind fun v3 =>
  (beat_Tick v3).bind fun v5 =>
  (beat_Hear v5 3 1).bind fun v7 =>
  (whn v1.2 (beat_Reach v1.1 0 1 1) (fun _ => 0)).bind fun v9 =>
  (whn (v1.2 && (b_a8_u32 v9 (aset (fun _ => 0) [(0, 1), (1, 0), (2, 0), (3, 2)]))) (beat_Reach v3 0 1 1) (fun _ => 0)).bind fun v11 =>
  (whn ((v1.2 && (b_a8_u32 v9 (aset (fun _ => 0) [(0, 1), (1, 0), (2, 0), (3, 2)]))) && (b_a8_u32 v11 (aset (fun _ => 0) [(0, 1), (1, 0), (2, 0), (3, 2)]))) (beat_Reach v5 0 1 1) (fun _ => 0)).bind fun v13 =>
  lt (((((v1.2 && (b_a8_u32 v9 (aset (fun _ => 0) [(0, 1), (1, 0), (2, 0), (3, 2)]))) && (b_a8_u32 v11 (aset (fun _ => 0) [(0, 1), (1, 0), (2, 0), (3, 2)]))) && (b_a8_u32 v13 (aset (fun _ => 0) [(0, 1)]))) && (!v7.2)) : Bool) fun v15 =>
  some v15

noncomputable def congressref08_Tick (p0 : api_Beat) : Option (api_Beat) :=
  jn (fun x2 : api_Beat =>
    some x2) fun j1 =>
  if ((IntKind.u32.wrap (p0.Now + 1)) != 0) then
    j1 ({ p0 with Now := (IntKind.u32.wrap (p0.Now + 1)) })
  else
    j1 (p0)

noncomputable def congressref08_Reach (p0 : api_Beat) (p1 : Int) (p2 : Int) (p3 : Int) : Option ((Nat → Int)) :=
  (loop (ω := Fl ((Nat → Int)) ((Nat → Int))) (fun (x1 : Int × (Nat → Int)) =>
    if (decide (x1.1 < 8)) then
      jn (fun x9 : (Nat → Int) =>
        some (.next ((IntKind.i64.wrap (x1.1 + 1)), x9))) fun j3 =>
      if (x1.1 == p1) then
        (ib x1.1 8).bind fun _ =>
        j3 (aupd x1.2 x1.1.toNat p2)
      else
        (ib x1.1 8).bind fun _ =>
        lt ((((decide ((p0.Heard x1.1.toNat) > 0)) && (decide ((p0.Heard x1.1.toNat) ≤ p0.Now))) && (decide ((IntKind.u64.wrap (p0.Now)) ≤ (IntKind.u64.wrap ((IntKind.u64.wrap (p0.Heard x1.1.toNat)) + (IntKind.u64.wrap (p3))))))) : Bool) fun v6 =>
        if v6 then
          (ib x1.1 8).bind fun _ =>
          (ib x1.1 8).bind fun _ =>
          j3 (aupd x1.2 x1.1.toNat (p0.Inc x1.1.toNat))
        else
          j3 (x1.2)
    else
      some (.done (.nx (x1.2)))) (0, (aset (fun _ => 0) []))).bind fun wn2 => Fl.elim wn2 (fun y10 =>
    some y10) (fun r => some r)

noncomputable def congresslaw08_BeatTells (p0 : api_Beat) (p1 : congresslaw08_Heard) (p2 : Int) : Option (Bool) :=
  (beat_Hear p0 p1.From p1.Inc).bind fun v1 =>
  (congressref08_Hear p0 p1.From p1.Inc).bind fun v3 =>
  (congresslaw08_fixed).bind fun v5 =>
  (whn v5 (beat_Tick p0) z_api_Beat).bind fun v7 =>
  (whn v5 (congressref08_Tick p0) z_api_Beat).bind fun v9 =>
  (whn (((v5 && (b_api_Beat v7 v9)) && (b_api_Beat v1.1 v3.1)) && (v1.2 == v3.2)) (beat_Reach p0 p1.From p1.Inc p2) (fun _ => 0)).bind fun v11 =>
  (whn (((v5 && (b_api_Beat v7 v9)) && (b_api_Beat v1.1 v3.1)) && (v1.2 == v3.2)) (congressref08_Reach p0 p1.From p1.Inc p2) (fun _ => 0)).bind fun v13 =>
  lt (((((v5 && (b_api_Beat v7 v9)) && (b_api_Beat v1.1 v3.1)) && (v1.2 == v3.2)) && (b_a8_u32 v11 v13)) : Bool) fun v15 =>
  some v15

noncomputable def congresslaw08_BeatWaits (p0 : api_Beat) (p1 : congresslaw08_Heard) (p2 : Int) : Option (Bool) :=
  (beat_Hear p0 p1.From p1.Inc).bind fun v1 =>
  (congresslaw08_fixed).bind fun v3 =>
  lt (((((!v3) || (!v1.2)) || (decide (p2 > 200))) || (decide (p0.Now > 4000000000))) : Bool) fun v5 =>
  if v5 then
    (congresslaw08_fixed).bind fun v6 =>
    some v6
  else
    (beat_Reach p0 (-1) 0 p2).bind fun v8 =>
    (beat_Reach v1.1 (-1) 0 p2).bind fun v10 =>
    (loop (ω := Fl (Bool) (Unit)) (fun (x12 : Int) =>
      if (decide (x12 < 8)) then
        (ibg (x12 != p1.From) x12 8).bind fun _ =>
        (ibg (x12 != p1.From) x12 8).bind fun _ =>
        if ((x12 != p1.From) && ((v8 x12.toNat) != (v10 x12.toNat))) then
          some (.done (.rt false))
        else
          some (.next ((IntKind.i64.wrap (x12 + 1))))
      else
        some (.done (.nx ()))) (0)).bind fun wn13 => Fl.elim wn13 (fun y16 =>
      (loop (ω := Fl (Bool) (Unit)) (fun (x17 : Int × api_Beat) =>
        if (decide (x17.1 ≤ (IntKind.u32.wrap (p2 + 2)))) then
          (beat_Reach x17.2 (-1) 0 p2).bind fun v19 =>
          (ibg (decide (x17.1 ≤ p2)) p1.From 8).bind fun _ =>
          (ibg ((!((decide (x17.1 ≤ p2)) && ((v19 p1.From.toNat) != p1.Inc))) && (decide (x17.1 > p2))) p1.From 8).bind fun _ =>
          lt ((((decide (x17.1 ≤ p2)) && ((v19 p1.From.toNat) != p1.Inc)) || ((decide (x17.1 > p2)) && ((v19 p1.From.toNat) != 0))) : Bool) fun v23 =>
          if v23 then
            some (.done (.rt false))
          else
            (beat_Tick x17.2).bind fun v24 =>
            some (.next ((IntKind.u32.wrap (x17.1 + 1)), v24))
        else
          some (.done (.nx ()))) (0, v1.1)).bind fun wn18 => Fl.elim wn18 (fun y26 =>
        some true) (fun r => some r)) (fun r => some r)

noncomputable def congresslaw08_BeatRises (p0 : (_root_.List congresslaw08_Heard)) : Option (Bool) :=
  (loop (ω := Fl (Bool) (Unit)) (fun (x1 : Int × api_Beat) =>
    if ((decide (x1.1 < (p0.length : Int))) && (decide (x1.1 < 300))) then
      (beat_Tick x1.2).bind fun v3 =>
      (ib x1.1 p0.length).bind fun _ =>
      jn (fun x11 : api_Beat =>
        if (decide (x11.Now < x1.2.Now)) then
          some (.done (.rt false))
        else
          (loop (ω := Fl (Bool) (Unit)) (fun (x12 : Int) =>
            if (decide (x12 < 8)) then
              (ib x12 8).bind fun _ =>
              (ib x12 8).bind fun _ =>
              (ibg (!(decide ((x11.Inc x12.toNat) < (x1.2.Inc x12.toNat)))) x12 8).bind fun _ =>
              (ibg (!(decide ((x11.Inc x12.toNat) < (x1.2.Inc x12.toNat)))) x12 8).bind fun _ =>
              (ibg (!((decide ((x11.Inc x12.toNat) < (x1.2.Inc x12.toNat))) || (decide ((x11.Heard x12.toNat) < (x1.2.Heard x12.toNat))))) x12 8).bind fun _ =>
              (ibg (!(((decide ((x11.Inc x12.toNat) < (x1.2.Inc x12.toNat))) || (decide ((x11.Heard x12.toNat) < (x1.2.Heard x12.toNat)))) || (decide ((x11.Heard x12.toNat) > x11.Now)))) x12 8).bind fun _ =>
              (ibg (!(((decide ((x11.Inc x12.toNat) < (x1.2.Inc x12.toNat))) || (decide ((x11.Heard x12.toNat) < (x1.2.Heard x12.toNat)))) || (decide ((x11.Heard x12.toNat) > x11.Now)))) x12 8).bind fun _ =>
              lt (((((decide ((x11.Inc x12.toNat) < (x1.2.Inc x12.toNat))) || (decide ((x11.Heard x12.toNat) < (x1.2.Heard x12.toNat)))) || (decide ((x11.Heard x12.toNat) > x11.Now))) || (((x11.Heard x12.toNat) == 0) != ((x11.Inc x12.toNat) == 0))) : Bool) fun v21 =>
              if v21 then
                some (.done (.rt false))
              else
                some (.next ((IntKind.i64.wrap (x12 + 1))))
            else
              some (.done (.nx ()))) (0)).bind fun wn13 => Fl.elim wn13 (fun y22 =>
            some (.next ((IntKind.i64.wrap (x1.1 + 1)), x11))) (fun r => some (.done (.rt r)))) fun j6 =>
      if (decide (((p0.getD x1.1.toNat z_congresslaw08_Heard).From) ≥ 0)) then
        (ib x1.1 p0.length).bind fun _ =>
        (ib x1.1 p0.length).bind fun _ =>
        (beat_Hear x1.2 ((p0.getD x1.1.toNat z_congresslaw08_Heard).From) ((p0.getD x1.1.toNat z_congresslaw08_Heard).Inc)).bind fun v9 =>
        if ((!v9.2) && (!(b_api_Beat v9.1 x1.2))) then
          some (.done (.rt false))
        else
          j6 (v9.1)
      else
        j6 (v3)
    else
      some (.done (.nx ()))) (0, ({ Now := 0, Heard := (fun _ => 0), Inc := (fun _ => 0) } : api_Beat))).bind fun wn2 => Fl.elim wn2 (fun y23 =>
    (congresslaw08_fixed).bind fun v24 =>
    some v24) (fun r => some r)

noncomputable def congresslaw08_BeatApart (p0 : api_Beat) (p1 : congresslaw08_Heard) (p2 : congresslaw08_Heard) : Option (Bool) :=
  (beat_Hear p0 p1.From p1.Inc).bind fun v1 =>
  (beat_Hear v1.1 p2.From p2.Inc).bind fun v3 =>
  (beat_Hear p0 p2.From p2.Inc).bind fun v5 =>
  (beat_Hear v5.1 p1.From p1.Inc).bind fun v7 =>
  (beat_Hear v1.1 p1.From p1.Inc).bind fun v9 =>
  (congresslaw08_fixed).bind fun v11 =>
  if (((!v11) || (!(b_api_Beat v9.1 v1.1))) || (v9.2 != v1.2)) then
    some false
  else
    lt (((p1.From == p2.From) || (((b_api_Beat v3.1 v7.1) && (v1.2 == v7.2)) && (v3.2 == v5.2))) : Bool) fun v13 =>
    some v13
end Go.Proofs.Ytckoficjcnaedaa
