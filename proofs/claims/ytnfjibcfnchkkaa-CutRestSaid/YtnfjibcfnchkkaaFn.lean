/- Printed by gen.py. Conditions: none. -/
import Derived.Test.YtnfjibcfnchkkaaEngC
import Derived.Test.YtnfjibcfnchkkaaProg
import Derived.KernelRfl
set_option linter.unusedVariables false
set_option maxRecDepth 100000
namespace Go.Proofs.Ytnfjibcfnchkkaa
open Go.Eng
def e_a8_u32 (x : Nat → Int) : V := .agg (.ar 8 1) fun j => (.int .u32 (x j))
theorem d_a8_u32 (x : Nat → Int) : (e_a8_u32 x).Data := fun _ => trivial
theorem f_a8_u32 (x : Nat → Int) : (e_a8_u32 x).Flat := fun _ => trivial
def b_a8_u32 (x y : Nat → Int) : Bool := (List.range 8).all fun j => ((x j) == (y j))
theorem q_a8_u32 (x y : Nat → Int) : eqV (e_a8_u32 x) (e_a8_u32 y) = b_a8_u32 x y := by
  have h : eqV (e_a8_u32 x) (e_a8_u32 y) = ((List.range 8).all fun j => eqV (.int .u32 (x j)) (.int .u32 (y j))) := rfl
  rw [h]; simp only [b_a8_u32, eqV]
theorem al_a8_u32 (x y : Nat → Int) : Akin (e_a8_u32 x) (e_a8_u32 y) := .agg _ _ _ fun j _ => .int _ _ _
structure api_Place where
  Round : Int
  From : Int
  Slot : Int
def z_api_Place : api_Place := { Round := 0, From := 0, Slot := 0 }
def c_api_Place (x : api_Place) : Nat → V
  | 0 => (.int .u32 x.Round)
  | 1 => (.int .i64 x.From)
  | 2 => (.int .i64 x.Slot)
  | _ => .bool false
def e_api_Place (x : api_Place) : V := .agg (.st [1, 1, 1]) (c_api_Place x)
theorem d_api_Place (x : api_Place) : (e_api_Place x).Data := fun j => match j with
  | 0 => trivial
  | 1 => trivial
  | 2 => trivial
  | _ + 3 => trivial
theorem f_api_Place (x : api_Place) : (e_api_Place x).Flat := fun j => match j with
  | 0 => trivial
  | 1 => trivial
  | 2 => trivial
  | _ + 3 => trivial
def b_api_Place (x y : api_Place) : Bool := (x.Round == y.Round) && ((x.From == y.From) && ((x.Slot == y.Slot)))
theorem q_api_Place (x y : api_Place) : eqV (e_api_Place x) (e_api_Place y) = b_api_Place x y := by
  have h : eqV (e_api_Place x) (e_api_Place y) = ((List.range 3).all fun j => eqV (c_api_Place x j) (c_api_Place y j)) := rfl
  have hr : List.range 3 = [0, 1, 2] := rfl
  rw [h, hr]
  simp only [List.all_cons, List.all_nil, Bool.and_true, c_api_Place, b_api_Place, eqV]
theorem al_api_Place (x y : api_Place) : Akin (e_api_Place x) (e_api_Place y) := .agg _ _ _ fun j h => match j, h with
  | 0, _ => .int _ _ _
  | 1, _ => .int _ _ _
  | 2, _ => .int _ _ _
  | n + 3, h => absurd (show n + 3 < 3 from h) (by omega)
theorem st_api_Place_0 (x : api_Place) (v : Int) : vupd (c_api_Place x) 0 (.int .u32 v) = c_api_Place { x with Round := v } := by
  funext j; match j with
  | 0 => rfl
  | 1 => rfl
  | 2 => rfl
  | _ + 3 => rfl
theorem st_api_Place_1 (x : api_Place) (v : Int) : vupd (c_api_Place x) 1 (.int .i64 v) = c_api_Place { x with From := v } := by
  funext j; match j with
  | 0 => rfl
  | 1 => rfl
  | 2 => rfl
  | _ + 3 => rfl
theorem st_api_Place_2 (x : api_Place) (v : Int) : vupd (c_api_Place x) 2 (.int .i64 v) = c_api_Place { x with Slot := v } := by
  funext j; match j with
  | 0 => rfl
  | 1 => rfl
  | 2 => rfl
  | _ + 3 => rfl
structure congresslaw11_Two where
  A : (Nat → Int)
  B : (Nat → Int)
  M : (Nat → Int)
  Given : api_Place
def z_congresslaw11_Two : congresslaw11_Two := { A := (fun _ => 0), B := (fun _ => 0), M := (fun _ => 0), Given := z_api_Place }
def c_congresslaw11_Two (x : congresslaw11_Two) : Nat → V
  | 0 => (e_a8_u32 x.A)
  | 1 => (e_a8_u32 x.B)
  | 2 => (e_a8_u32 x.M)
  | 3 => (e_api_Place x.Given)
  | _ => .bool false
def e_congresslaw11_Two (x : congresslaw11_Two) : V := .agg (.st [8, 8, 8, 3]) (c_congresslaw11_Two x)
theorem d_congresslaw11_Two (x : congresslaw11_Two) : (e_congresslaw11_Two x).Data := fun j => match j with
  | 0 => (d_a8_u32 x.A)
  | 1 => (d_a8_u32 x.B)
  | 2 => (d_a8_u32 x.M)
  | 3 => (d_api_Place x.Given)
  | _ + 4 => trivial
theorem f_congresslaw11_Two (x : congresslaw11_Two) : (e_congresslaw11_Two x).Flat := fun j => match j with
  | 0 => (f_a8_u32 x.A)
  | 1 => (f_a8_u32 x.B)
  | 2 => (f_a8_u32 x.M)
  | 3 => (f_api_Place x.Given)
  | _ + 4 => trivial
def b_congresslaw11_Two (x y : congresslaw11_Two) : Bool := (b_a8_u32 x.A y.A) && ((b_a8_u32 x.B y.B) && ((b_a8_u32 x.M y.M) && ((b_api_Place x.Given y.Given))))
theorem q_congresslaw11_Two (x y : congresslaw11_Two) : eqV (e_congresslaw11_Two x) (e_congresslaw11_Two y) = b_congresslaw11_Two x y := by
  have h : eqV (e_congresslaw11_Two x) (e_congresslaw11_Two y) = ((List.range 4).all fun j => eqV (c_congresslaw11_Two x j) (c_congresslaw11_Two y j)) := rfl
  have hr : List.range 4 = [0, 1, 2, 3] := rfl
  rw [h, hr]
  simp only [List.all_cons, List.all_nil, Bool.and_true, c_congresslaw11_Two, b_congresslaw11_Two, q_a8_u32, q_api_Place]
theorem al_congresslaw11_Two (x y : congresslaw11_Two) : Akin (e_congresslaw11_Two x) (e_congresslaw11_Two y) := .agg _ _ _ fun j h => match j, h with
  | 0, _ => al_a8_u32 _ _
  | 1, _ => al_a8_u32 _ _
  | 2, _ => al_a8_u32 _ _
  | 3, _ => al_api_Place _ _
  | n + 4, h => absurd (show n + 4 < 4 from h) (by omega)
theorem st_congresslaw11_Two_0 (x : congresslaw11_Two) (v : (Nat → Int)) : vupd (c_congresslaw11_Two x) 0 (e_a8_u32 v) = c_congresslaw11_Two { x with A := v } := by
  funext j; match j with
  | 0 => rfl
  | 1 => rfl
  | 2 => rfl
  | 3 => rfl
  | _ + 4 => rfl
theorem st_congresslaw11_Two_1 (x : congresslaw11_Two) (v : (Nat → Int)) : vupd (c_congresslaw11_Two x) 1 (e_a8_u32 v) = c_congresslaw11_Two { x with B := v } := by
  funext j; match j with
  | 0 => rfl
  | 1 => rfl
  | 2 => rfl
  | 3 => rfl
  | _ + 4 => rfl
theorem st_congresslaw11_Two_2 (x : congresslaw11_Two) (v : (Nat → Int)) : vupd (c_congresslaw11_Two x) 2 (e_a8_u32 v) = c_congresslaw11_Two { x with M := v } := by
  funext j; match j with
  | 0 => rfl
  | 1 => rfl
  | 2 => rfl
  | 3 => rfl
  | _ + 4 => rfl
theorem st_congresslaw11_Two_3 (x : congresslaw11_Two) (v : api_Place) : vupd (c_congresslaw11_Two x) 3 (e_api_Place v) = c_congresslaw11_Two { x with Given := v } := by
  funext j; match j with
  | 0 => rfl
  | 1 => rfl
  | 2 => rfl
  | 3 => rfl
  | _ + 4 => rfl
def e_s_a8_u32 (x : _root_.List (Nat → Int)) : V := .sl 8 x.length fun j => (e_a8_u32 (x.getD j (fun _ => 0)))
theorem d_s_a8_u32 (x : _root_.List (Nat → Int)) : (e_s_a8_u32 x).Data := fun j => (d_a8_u32 (x.getD j (fun _ => 0)))
def e_s_i64 (x : _root_.List Int) : V := .sl 1 x.length fun j => (.int .i64 (x.getD j 0))
theorem d_s_i64 (x : _root_.List Int) : (e_s_i64 x).Data := fun _ => trivial
def e_s_api_Place (x : _root_.List api_Place) : V := .sl 3 x.length fun j => (e_api_Place (x.getD j z_api_Place))
theorem d_s_api_Place (x : _root_.List api_Place) : (e_s_api_Place x).Data := fun j => (d_api_Place (x.getD j z_api_Place))

def enc_api_Place (x : api_Place) : _root_.List Value := [.int .u32 x.Round, .int .i64 x.From, .int .i64 x.Slot]
instance : Inhabited api_Place := ⟨z_api_Place⟩
theorem eo_api_Place : EncOk e_api_Place enc_api_Place 3 where
  len _ := rfl
  one x v hv := by
    simp only [enc_api_Place, List.mem_cons, List.not_mem_nil, or_false] at hv
    rcases hv with rfl | rfl | rfl <;> rfl
  to e x := ⟨_, rfl, rfl, fun c hc => by
    simp only [enc_api_Place, List.mem_toArray, List.mem_cons, List.not_mem_nil, or_false] at hc
    rcases hc with rfl | rfl | rfl <;> rfl, fun j hj => match j, hj with
    | 0, _ => ⟨rfl, rfl⟩
    | 1, _ => ⟨rfl, rfl⟩
    | 2, _ => ⟨rfl, rfl⟩
    | k + 3, hj => absurd (show k + 3 < 3 from hj) (by omega)⟩
  of e x cs h := by
    obtain ⟨cs', hcs, hs, h1, h2⟩ := h
    cases hcs
    apply enc_ext (n := 3) hs rfl
    intro j hj
    match j, hj with
    | 0, _ => exact (h2 0 (by decide)).2
    | 1, _ => exact (h2 1 (by decide)).2
    | 2, _ => exact (h2 2 (by decide)).2
    | k + 3, hj => exact absurd hj (by omega)
  agg _ := rfl
  size _ := rfl

noncomputable def ident_List (p0 : (Nat → Int)) : Option ((_root_.List Int)) :=
  (loop (ω := Fl ((_root_.List Int)) (_root_.List Int)) (fun (x1 : Int × _root_.List Int) =>
    if (decide (x1.1 < 8)) then
      jn (fun x6 : _root_.List Int =>
        some (.next ((IntKind.i64.wrap (x1.1 + 1)), x6))) fun j3 =>
      (ib x1.1 8).bind fun _ =>
      if ((p0 x1.1.toNat) != 0) then
        (fit (x1.2 ++ ([x1.1] : _root_.List Int)).length 8).bind fun _ =>
        j3 ((x1.2 ++ ([x1.1] : _root_.List Int)))
      else
        j3 (x1.2)
    else
      some (.done (.nx (x1.2)))) (0, ([] : _root_.List Int))).bind fun wn2 => Fl.elim wn2 (fun y7 =>
    some y7) (fun r => some r)

noncomputable def cmp_isNaN_uint32 (p0 : Int) : Option (Bool) :=
  some (p0 != p0)

noncomputable def cmp_Compare_uint32 (p0 : Int) (p1 : Int) : Option (Int) :=
  (cmp_isNaN_uint32 p0).bind fun v1 =>
  (cmp_isNaN_uint32 p1).bind fun v3 =>
  if v1 then
    if v3 then
      some 0
    else
      some (-1)
  else
    if v3 then
      some 1
    else
      if (decide (p0 < p1)) then
        some (-1)
      else
        if (decide (p0 > p1)) then
          some 1
        else
          some 0

noncomputable def cmp_isNaN_int (p0 : Int) : Option (Bool) :=
  some (p0 != p0)

noncomputable def cmp_Compare_int (p0 : Int) (p1 : Int) : Option (Int) :=
  (cmp_isNaN_int p0).bind fun v1 =>
  (cmp_isNaN_int p1).bind fun v3 =>
  if v1 then
    if v3 then
      some 0
    else
      some (-1)
  else
    if v3 then
      some 1
    else
      if (decide (p0 < p1)) then
        some (-1)
      else
        if (decide (p0 > p1)) then
          some 1
        else
          some 0

noncomputable def cmp_Or_int (p0 : (_root_.List Int)) : Option (Int) :=
  (loop (ω := Fl (Int) (Unit)) (fun (x1 : Int) =>
    if (decide (x1 < (p0.length : Int))) then
      (ib x1 p0.length).bind fun _ =>
      if ((p0.getD x1.toNat 0) != 0) then
        some (.done (.rt (p0.getD x1.toNat 0)))
      else
        some (.next ((IntKind.i64.wrap (x1 + 1))))
    else
      some (.done (.nx ()))) (0)).bind fun wn2 => Fl.elim wn2 (fun y4 =>
    some 0) (fun r => some r)

noncomputable def round_Before (p0 : api_Place) (p1 : api_Place) : Option (Bool) :=
  (cmp_Compare_uint32 p0.Round p1.Round).bind fun v1 =>
  (cmp_Compare_int p0.From p1.From).bind fun v3 =>
  (cmp_Compare_int p0.Slot p1.Slot).bind fun v5 =>
  (cmp_Or_int ([v1, v3, v5] : _root_.List Int)).bind fun v7 =>
  some (decide (v7 < 0))

noncomputable def cut_places_1 (p0 : api_Place) (p1 : api_Place) : Option (Int) :=
  (round_Before p0 p1).bind fun v1 =>
  if v1 then
    some (-1)
  else
    (round_Before p1 p0).bind fun v3 =>
    if v3 then
      some 1
    else
      some 0

noncomputable def cut_places (p0 : (Nat → Int)) (p1 : (Int → Option (Int))) (p2 : (Nat → Int)) : Option ((_root_.List api_Place)) :=
  (ident_List p0).bind fun v1 =>
  (loop (ω := Fl ((_root_.List api_Place)) (_root_.List api_Place)) (fun (x3 : Int × _root_.List api_Place) =>
    if (decide (x3.1 < (v1.length : Int))) then
      (ib x3.1 v1.length).bind fun _ =>
      (p1 (v1.getD x3.1.toNat 0)).bind fun v6 =>
      (loop (ω := Fl ((_root_.List api_Place)) (_root_.List api_Place)) (fun (x8 : Int × _root_.List api_Place) =>
        (ib (v1.getD x3.1.toNat 0) 8).bind fun _ =>
        lt (((decide (x8.1 ≤ (IntKind.u64.wrap (p2 ((v1.getD x3.1.toNat 0).toNat))))) && (decide (x8.1 < (IntKind.u64.wrap (v6 + 100))))) : Bool) fun v11 =>
        if v11 then
          (fit (x8.2 ++ ([({ Round := (IntKind.u32.wrap (x8.1)), From := v1.getD x3.1.toNat 0, Slot := 0 } : api_Place)] : _root_.List api_Place)).length 24).bind fun _ =>
          lt ((x8.2 ++ ([({ Round := (IntKind.u32.wrap (x8.1)), From := v1.getD x3.1.toNat 0, Slot := 0 } : api_Place)] : _root_.List api_Place)) : _root_.List api_Place) fun v13 =>
          some (.next ((IntKind.u64.wrap (x8.1 + 1)), v13))
        else
          some (.done (.nx (x8.2)))) (v6, x3.2)).bind fun wn9 => Fl.elim wn9 (fun y14 =>
        some (.next ((IntKind.i64.wrap (x3.1 + 1)), y14))) (fun r => some (.done (.rt r)))
    else
      some (.done (.nx (x3.2)))) (0, ([] : _root_.List api_Place))).bind fun wn4 => Fl.elim wn4 (fun y15 =>
    (srt cut_places_1 y15).bind fun v16 =>
    (sb 0 (if 100 < (v16.length : Int) then 100 else (v16.length : Int)) v16.length).bind fun _ =>
    (inb (((if 100 < (v16.length : Int) then 100 else (v16.length : Int)).toNat) - 0) v16.length).bind fun _ =>
    some (v16.take (((if 100 < (v16.length : Int) then 100 else (v16.length : Int)).toNat) - 0))) (fun r => some r)

noncomputable def cut_Missing_1 (p0 : Int) (q0 : (Nat → Int)) : Option (Int) :=
  (ib p0 8).bind fun _ =>
  some (IntKind.u64.wrap ((IntKind.u64.wrap (q0 p0.toNat)) + 1))

noncomputable def cut_Missing (p0 : (Nat → Int)) (p1 : (Nat → Int)) (p2 : (Nat → Int)) : Option ((_root_.List api_Place)) :=
  (cut_places p2 (fun z0 => cut_Missing_1 z0 p0) p1).bind fun v1 =>
  some v1

noncomputable def cut_Union (p0 : (_root_.List (Nat → Int))) : Option ((Nat → Int)) :=
  (loop (ω := Fl ((Nat → Int)) ((Nat → Int))) (fun (x1 : Int × (Nat → Int)) =>
    if (decide (x1.1 < (p0.length : Int))) then
      (ib x1.1 p0.length).bind fun _ =>
      (loop (ω := Fl ((Nat → Int)) ((Nat → Int))) (fun (x4 : Int × (Nat → Int)) =>
        if (decide (x4.1 < 8)) then
          (ib x4.1 8).bind fun _ =>
          (ib x4.1 8).bind fun _ =>
          (ib x4.1 8).bind fun _ =>
          lt (aupd x4.2 x4.1.toNat (if (x4.2 x4.1.toNat) < ((p0.getD x1.1.toNat (fun _ => 0)) x4.1.toNat) then (p0.getD x1.1.toNat (fun _ => 0)) x4.1.toNat else x4.2 x4.1.toNat) : (Nat → Int)) fun v9 =>
          some (.next ((IntKind.i64.wrap (x4.1 + 1)), v9))
        else
          some (.done (.nx (x4.2)))) (0, x1.2)).bind fun wn5 => Fl.elim wn5 (fun y10 =>
        some (.next ((IntKind.i64.wrap (x1.1 + 1)), y10))) (fun r => some (.done (.rt r)))
    else
      some (.done (.nx (x1.2)))) (0, (fun _ => 0))).bind fun wn2 => Fl.elim wn2 (fun y11 =>
    some y11) (fun r => some r)

noncomputable def congressref11_Places (p0 : (_root_.List api_Place)) (p1 : (_root_.List api_Place)) : Option (Bool) :=
  if ((p0.length : Int) != (p1.length : Int)) then
    some false
  else
    (loop (ω := Fl (Bool) (Unit)) (fun (x1 : Int) =>
      if (decide (x1 < (p0.length : Int))) then
        (ib x1 p0.length).bind fun _ =>
        (ib x1 p1.length).bind fun _ =>
        lt ((!(b_api_Place (p0.getD x1.toNat z_api_Place) (p1.getD x1.toNat z_api_Place))) : Bool) fun v5 =>
        if v5 then
          some (.done (.rt false))
        else
          some (.next ((IntKind.i64.wrap (x1 + 1))))
      else
        some (.done (.nx ()))) (0)).bind fun wn2 => Fl.elim wn2 (fun y6 =>
      some true) (fun r => some r)

noncomputable def cut_Within (p0 : (Nat → Int)) (p1 : (Nat → Int)) : Option (Bool) :=
  (cut_Union ([p0, p1] : _root_.List (Nat → Int))).bind fun v1 =>
  some (b_a8_u32 v1 p1)

noncomputable def cut_Rest_1 (p0 : Int) (q0 : api_Place) : Option (Int) :=
  (round_Before ({ Round := q0.Round, From := p0, Slot := 0 } : api_Place) q0).bind fun v1 =>
  jn (fun x4 : Int =>
    some (if x4 < 1 then 1 else x4)) fun j3 =>
  if v1 then
    j3 ((IntKind.u64.wrap ((IntKind.u64.wrap (q0.Round)) + 1)))
  else
    j3 ((IntKind.u64.wrap (q0.Round)))

noncomputable def cut_Rest (p0 : api_Place) (p1 : (Nat → Int)) (p2 : (Nat → Int)) : Option ((_root_.List api_Place)) :=
  (cut_places p2 (fun z0 => cut_Rest_1 z0 p0) p1).bind fun v1 =>
  some v1

noncomputable def congresslaw11_fixed : Option (Bool) :=
  (cut_Missing (aset (fun _ => 0) [(0, 1), (1, 2)]) (aset (fun _ => 0) [(0, 2), (1, 3)]) (aset (fun _ => 0) [(0, 1), (1, 1)])).bind fun v1 =>
  (cut_Union ([(aset (fun _ => 0) [(0, 1), (1, 3)]), (aset (fun _ => 0) [(0, 2), (1, 2)])] : _root_.List (Nat → Int))).bind fun v3 =>
  (whn (b_a8_u32 v3 (aset (fun _ => 0) [(0, 2), (1, 3)])) (cut_Union []) (fun _ => 0)).bind fun v5 =>
  (whn ((b_a8_u32 v3 (aset (fun _ => 0) [(0, 2), (1, 3)])) && (b_a8_u32 v5 (aset (fun _ => 0) []))) (congressref11_Places v1 ([({ Round := 2, From := 0, Slot := 0 } : api_Place), ({ Round := 3, From := 1, Slot := 0 } : api_Place)] : _root_.List api_Place)) false).bind fun v7 =>
  (whn (((b_a8_u32 v3 (aset (fun _ => 0) [(0, 2), (1, 3)])) && (b_a8_u32 v5 (aset (fun _ => 0) []))) && v7) (cut_Within (aset (fun _ => 0) [(0, 1)]) (aset (fun _ => 0) [(0, 1)])) false).bind fun v9 =>
  (whn ((((b_a8_u32 v3 (aset (fun _ => 0) [(0, 2), (1, 3)])) && (b_a8_u32 v5 (aset (fun _ => 0) []))) && v7) && v9) (cut_Within (aset (fun _ => 0) [(0, 2)]) (aset (fun _ => 0) [(0, 1)])) false).bind fun v11 =>
  (whn (((((b_a8_u32 v3 (aset (fun _ => 0) [(0, 2), (1, 3)])) && (b_a8_u32 v5 (aset (fun _ => 0) []))) && v7) && v9) && (!v11)) (cut_Rest ({ Round := 0, From := 0, Slot := 0 } : api_Place) (aset (fun _ => 0) [(0, 1), (1, 1)]) (aset (fun _ => 0) [(0, 1), (1, 1)])) []).bind fun v13 =>
  lt (((((((b_a8_u32 v3 (aset (fun _ => 0) [(0, 2), (1, 3)])) && (b_a8_u32 v5 (aset (fun _ => 0) []))) && v7) && v9) && (!v11)) && ((v13.length : Int) == 2)) : Bool) fun v15 =>
  some v15

noncomputable def congressref11_Union (p0 : (_root_.List (Nat → Int))) : Option ((Nat → Int)) :=
  (loop (ω := Fl ((Nat → Int)) ((Nat → Int))) (fun (x1 : Int × (Nat → Int)) =>
    if (decide (x1.1 < (p0.length : Int))) then
      (loop (ω := Fl ((Nat → Int)) ((Nat → Int))) (fun (x3 : Int × (Nat → Int)) =>
        if (decide (x3.1 < 8)) then
          jn (fun x13 : (Nat → Int) =>
            some (.next ((IntKind.i64.wrap (x3.1 + 1)), x13))) fun j5 =>
          (ib x1.1 p0.length).bind fun _ =>
          (ib x3.1 8).bind fun _ =>
          (ib x3.1 8).bind fun _ =>
          lt ((decide (((p0.getD x1.1.toNat (fun _ => 0)) x3.1.toNat) > (x3.2 x3.1.toNat))) : Bool) fun v9 =>
          if v9 then
            (ib x1.1 p0.length).bind fun _ =>
            (ib x3.1 8).bind fun _ =>
            (ib x3.1 8).bind fun _ =>
            j5 (aupd x3.2 x3.1.toNat ((p0.getD x1.1.toNat (fun _ => 0)) x3.1.toNat))
          else
            j5 (x3.2)
        else
          some (.done (.nx (x3.2)))) (0, x1.2)).bind fun wn4 => Fl.elim wn4 (fun y14 =>
        some (.next ((IntKind.i64.wrap (x1.1 + 1)), y14))) (fun r => some (.done (.rt r)))
    else
      some (.done (.nx (x1.2)))) (0, (aset (fun _ => 0) []))).bind fun wn2 => Fl.elim wn2 (fun y15 =>
    some y15) (fun r => some r)

noncomputable def congressref11_Within (p0 : (Nat → Int)) (p1 : (Nat → Int)) : Option (Bool) :=
  (loop (ω := Fl (Bool) (Unit)) (fun (x1 : Int) =>
    if (decide (x1 < 8)) then
      (ib x1 8).bind fun _ =>
      (ib x1 8).bind fun _ =>
      if (decide ((p0 x1.toNat) > (p1 x1.toNat))) then
        some (.done (.rt false))
      else
        some (.next ((IntKind.i64.wrap (x1 + 1))))
    else
      some (.done (.nx ()))) (0)).bind fun wn2 => Fl.elim wn2 (fun y5 =>
    some true) (fun r => some r)

noncomputable def congressref07_List (p0 : (Nat → Int)) : Option ((_root_.List Int)) :=
  (loop (ω := Fl ((_root_.List Int)) (_root_.List Int)) (fun (x1 : Int × _root_.List Int) =>
    if (decide (x1.1 < 8)) then
      jn (fun x6 : _root_.List Int =>
        some (.next ((IntKind.i64.wrap (x1.1 + 1)), x6))) fun j3 =>
      (ib x1.1 8).bind fun _ =>
      if (decide ((p0 x1.1.toNat) > 0)) then
        (fit (x1.2 ++ ([x1.1] : _root_.List Int)).length 8).bind fun _ =>
        j3 ((x1.2 ++ ([x1.1] : _root_.List Int)))
      else
        j3 (x1.2)
    else
      some (.done (.nx (x1.2)))) (0, ([] : _root_.List Int))).bind fun wn2 => Fl.elim wn2 (fun y7 =>
    some y7) (fun r => some r)

noncomputable def congressref09_Before (p0 : api_Place) (p1 : api_Place) : Option (Bool) :=
  if (p0.Round != p1.Round) then
    some (decide (p0.Round < p1.Round))
  else
    if (p0.From != p1.From) then
      some (decide (p0.From < p1.From))
    else
      some (decide (p0.Slot < p1.Slot))

noncomputable def congressref11_Next (p0 : api_Place) (p1 : Bool) (p2 : (Nat → Int)) (p3 : (Nat → Int)) (p4 : (Nat → Int)) : Option (api_Place × Bool) :=
  (congressref07_List p4).bind fun v1 =>
  (loop (ω := Fl (api_Place × Bool) (Bool × api_Place)) (fun (x3 : Bool × Int × api_Place) =>
    if (decide (x3.2.1 < (v1.length : Int))) then
      jn (fun x24 : Bool × api_Place =>
        some (.next (x24.1, (IntKind.i64.wrap (x3.2.1 + 1)), x24.2))) fun j5 =>
      (ib x3.2.1 v1.length).bind fun _ =>
      (ib (v1.getD x3.2.1.toNat 0) 8).bind fun _ =>
      lt ((decide ((IntKind.u64.wrap (p0.Round)) ≤ (IntKind.u64.wrap (p2 ((v1.getD x3.2.1.toNat 0).toNat))))) : Bool) fun v8 =>
      jn (fun x11 : Int =>
        lt (({ Round := (IntKind.u32.wrap (x11)), From := v1.getD x3.2.1.toNat 0, Slot := 0 } : api_Place) : api_Place) fun v12 =>
        (loop (ω := Fl (api_Place × Bool) (Int × api_Place)) (fun (x13 : Int × api_Place) =>
          (ib (v1.getD x3.2.1.toNat 0) 8).bind fun _ =>
          (whn (decide (x13.1 ≤ (IntKind.u64.wrap (p3 ((v1.getD x3.2.1.toNat 0).toNat))))) (congressref09_Before x13.2 p0) false).bind fun v16 =>
          lt (((decide (x13.1 ≤ (IntKind.u64.wrap (p3 ((v1.getD x3.2.1.toNat 0).toNat))))) && (v16 || ((b_api_Place x13.2 p0) && (!p1)))) : Bool) fun v18 =>
          if v18 then
            some (.next ((IntKind.u64.wrap (x13.1 + 1)), { x13.2 with Round := (IntKind.u32.wrap ((IntKind.u64.wrap (x13.1 + 1)))) }))
          else
            some (.done (.nx (x13.1, x13.2)))) (x11, v12)).bind fun wn14 => Fl.elim wn14 (fun y19 =>
          (ib (v1.getD x3.2.1.toNat 0) 8).bind fun _ =>
          (whn ((decide (y19.1 ≤ (IntKind.u64.wrap (p3 ((v1.getD x3.2.1.toNat 0).toNat))))) && (!(!x3.1))) (congressref09_Before y19.2 x3.2.2) false).bind fun v21 =>
          lt (((decide (y19.1 ≤ (IntKind.u64.wrap (p3 ((v1.getD x3.2.1.toNat 0).toNat))))) && ((!x3.1) || v21)) : Bool) fun v23 =>
          if v23 then
            j5 (true, y19.2)
          else
            j5 (x3.1, x3.2.2)) (fun r => some (.done (.rt r)))) fun j9 =>
      if v8 then
        (ib (v1.getD x3.2.1.toNat 0) 8).bind fun _ =>
        j9 ((IntKind.u64.wrap ((IntKind.u64.wrap (p2 ((v1.getD x3.2.1.toNat 0).toNat))) + 1)))
      else
        j9 ((IntKind.u64.wrap (p0.Round)))
    else
      some (.done (.nx (x3.1, x3.2.2)))) (false, 0, ({ Round := 0, From := 0, Slot := 0 } : api_Place))).bind fun wn4 => Fl.elim wn4 (fun y25 =>
    some (y25.2, y25.1)) (fun r => some r)

noncomputable def congressref11_Missing (p0 : (Nat → Int)) (p1 : (Nat → Int)) (p2 : (Nat → Int)) : Option ((_root_.List api_Place)) :=
  (congressref11_Next ({ Round := 0, From := 0, Slot := 0 } : api_Place) true p0 p1 p2).bind fun v1 =>
  (loop (ω := Fl ((_root_.List api_Place)) (_root_.List api_Place)) (fun (x3 : Bool × _root_.List api_Place × api_Place) =>
    if (x3.1 && (decide ((x3.2.1.length : Int) < 100))) then
      (fit (x3.2.1 ++ ([x3.2.2] : _root_.List api_Place)).length 24).bind fun _ =>
      (congressref11_Next x3.2.2 false p0 p1 p2).bind fun v6 =>
      some (.next (v6.2, (x3.2.1 ++ ([x3.2.2] : _root_.List api_Place)), v6.1))
    else
      some (.done (.nx (x3.2.1)))) (v1.2, ([] : _root_.List api_Place), v1.1)).bind fun wn4 => Fl.elim wn4 (fun y8 =>
    some y8) (fun r => some r)

noncomputable def congressref11_Rest (p0 : api_Place) (p1 : (Nat → Int)) (p2 : (Nat → Int)) : Option ((_root_.List api_Place)) :=
  (congressref11_Next p0 true (aset (fun _ => 0) []) p1 p2).bind fun v1 =>
  (loop (ω := Fl ((_root_.List api_Place)) (_root_.List api_Place)) (fun (x3 : Bool × _root_.List api_Place × api_Place) =>
    if (x3.1 && (decide ((x3.2.1.length : Int) < 100))) then
      (fit (x3.2.1 ++ ([x3.2.2] : _root_.List api_Place)).length 24).bind fun _ =>
      (congressref11_Next x3.2.2 false (aset (fun _ => 0) []) p1 p2).bind fun v6 =>
      some (.next (v6.2, (x3.2.1 ++ ([x3.2.2] : _root_.List api_Place)), v6.1))
    else
      some (.done (.nx (x3.2.1)))) (v1.2, ([] : _root_.List api_Place), v1.1)).bind fun wn4 => Fl.elim wn4 (fun y8 =>
    some y8) (fun r => some r)

noncomputable def congresslaw11_CutTells (p0 : (_root_.List (Nat → Int))) (p1 : congresslaw11_Two) : Option (Bool) :=
  (congresslaw11_fixed).bind fun v1 =>
  (whn v1 (cut_Union p0) (fun _ => 0)).bind fun v3 =>
  (whn v1 (congressref11_Union p0) (fun _ => 0)).bind fun v5 =>
  (whn (v1 && (b_a8_u32 v3 v5)) (cut_Within p1.A p1.B) false).bind fun v7 =>
  (whn (v1 && (b_a8_u32 v3 v5)) (congressref11_Within p1.A p1.B) false).bind fun v9 =>
  (whn ((v1 && (b_a8_u32 v3 v5)) && (v7 == v9)) (cut_Missing p1.A p1.B p1.M) []).bind fun v11 =>
  (whn ((v1 && (b_a8_u32 v3 v5)) && (v7 == v9)) (congressref11_Missing p1.A p1.B p1.M) []).bind fun v13 =>
  (whn ((v1 && (b_a8_u32 v3 v5)) && (v7 == v9)) (congressref11_Places v11 v13) false).bind fun v15 =>
  (whn (((v1 && (b_a8_u32 v3 v5)) && (v7 == v9)) && v15) (cut_Rest p1.Given p1.B p1.M) []).bind fun v17 =>
  (whn (((v1 && (b_a8_u32 v3 v5)) && (v7 == v9)) && v15) (congressref11_Rest p1.Given p1.B p1.M) []).bind fun v19 =>
  (whn (((v1 && (b_a8_u32 v3 v5)) && (v7 == v9)) && v15) (congressref11_Places v17 v19) false).bind fun v21 =>
  some ((((v1 && (b_a8_u32 v3 v5)) && (v7 == v9)) && v15) && v21)

noncomputable def congresslaw11_CutUnion (p0 : (_root_.List (Nat → Int))) (p1 : (_root_.List (Nat → Int))) (p2 : (Nat → Int)) : Option (Bool) :=
  (congresslaw11_fixed).bind fun v1 =>
  lt ((((!v1) || (decide ((p0.length : Int) > 50))) || (decide ((p1.length : Int) > 50))) : Bool) fun v3 =>
  if v3 then
    (congresslaw11_fixed).bind fun v4 =>
    some v4
  else
    (cut_Union p0).bind fun v6 =>
    (loop (ω := Fl (Bool) (Bool)) (fun (x8 : Bool × Int) =>
      if (decide (x8.2 < (p0.length : Int))) then
        (ib x8.2 p0.length).bind fun _ =>
        (cut_Within (p0.getD x8.2.toNat (fun _ => 0)) v6).bind fun v11 =>
        if (!v11) then
          some (.done (.rt false))
        else
          (ibg x8.1 x8.2 p0.length).bind fun _ =>
          (whn x8.1 (cut_Within (p0.getD x8.2.toNat (fun _ => 0)) p2) false).bind fun v14 =>
          some (.next ((x8.1 && v14), (IntKind.i64.wrap (x8.2 + 1))))
      else
        some (.done (.nx (x8.1)))) (true, 0)).bind fun wn9 => Fl.elim wn9 (fun y16 =>
      (fit (([] : _root_.List (Nat → Int)) ++ p1).length 32).bind fun _ =>
      (fit ((([] : _root_.List (Nat → Int)) ++ p1) ++ p0).length 32).bind fun _ =>
      (cut_Within v6 p2).bind fun v19 =>
      (whn (v19 == y16) (cut_Union p1) (fun _ => 0)).bind fun v21 =>
      (whn (v19 == y16) (cut_Union ([v6, v21] : _root_.List (Nat → Int))) (fun _ => 0)).bind fun v23 =>
      (whn (v19 == y16) (cut_Union ((([] : _root_.List (Nat → Int)) ++ p1) ++ p0)) (fun _ => 0)).bind fun v25 =>
      (whn ((v19 == y16) && (b_a8_u32 v23 v25)) (cut_Union ([v6, v6] : _root_.List (Nat → Int))) (fun _ => 0)).bind fun v27 =>
      some (((v19 == y16) && (b_a8_u32 v23 v25)) && (b_a8_u32 v27 v6))) (fun r => some r)

noncomputable def congressref10_Is (p0 : (Nat → Int)) (p1 : Int) : Option (Bool) :=
  (ibg ((decide (p1 ≥ 0)) && (decide (p1 < 8))) p1 8).bind fun _ =>
  some (((decide (p1 ≥ 0)) && (decide (p1 < 8))) && ((p0 p1.toNat) != 0))

noncomputable def congresslaw11_CutMissing (p0 : congresslaw11_Two) : Option (Bool) :=
  (cut_Missing p0.A p0.B p0.M).bind fun v1 =>
  (congresslaw11_fixed).bind fun v3 =>
  if ((!v3) || (decide ((v1.length : Int) > 100))) then
    some false
  else
    (loop (ω := Fl (Bool) ((Nat → Int))) (fun (x5 : Int × (Nat → Int)) =>
      if (decide (x5.1 < (v1.length : Int))) then
        (ib x5.1 v1.length).bind fun _ =>
        (congressref10_Is p0.M ((v1.getD x5.1.toNat z_api_Place).From)).bind fun v8 =>
        (ibg ((!((!v8) || (((v1.getD x5.1.toNat z_api_Place).Slot) != 0))) && (decide (x5.1 > 0))) (IntKind.i64.wrap (x5.1 - 1)) v1.length).bind fun _ =>
        (whn ((!((!v8) || (((v1.getD x5.1.toNat z_api_Place).Slot) != 0))) && (decide (x5.1 > 0))) (congressref09_Before (v1.getD ((IntKind.i64.wrap (x5.1 - 1)).toNat) z_api_Place) (v1.getD x5.1.toNat z_api_Place)) false).bind fun v11 =>
        lt ((((!v8) || (((v1.getD x5.1.toNat z_api_Place).Slot) != 0)) || ((decide (x5.1 > 0)) && (!v11))) : Bool) fun v13 =>
        if v13 then
          some (.done (.rt false))
        else
          (ib (iand .i64 ((v1.getD x5.1.toNat z_api_Place).From) 7) 8).bind fun _ =>
          (ibg (!(((v1.getD x5.1.toNat z_api_Place).Round) != (IntKind.u32.wrap ((x5.2 ((iand .i64 ((v1.getD x5.1.toNat z_api_Place).From) 7).toNat)) + 1)))) (iand .i64 ((v1.getD x5.1.toNat z_api_Place).From) 7) 8).bind fun _ =>
          lt (((((v1.getD x5.1.toNat z_api_Place).Round) != (IntKind.u32.wrap ((x5.2 ((iand .i64 ((v1.getD x5.1.toNat z_api_Place).From) 7).toNat)) + 1))) || (decide (((v1.getD x5.1.toNat z_api_Place).Round) > (p0.B ((iand .i64 ((v1.getD x5.1.toNat z_api_Place).From) 7).toNat))))) : Bool) fun v16 =>
          if v16 then
            some (.done (.rt false))
          else
            (ib (iand .i64 ((v1.getD x5.1.toNat z_api_Place).From) 7) 8).bind fun _ =>
            lt (aupd x5.2 ((iand .i64 ((v1.getD x5.1.toNat z_api_Place).From) 7).toNat) ((v1.getD x5.1.toNat z_api_Place).Round) : (Nat → Int)) fun v18 =>
            some (.next ((IntKind.i64.wrap (x5.1 + 1)), v18))
      else
        some (.done (.nx (x5.2)))) (0, p0.A)).bind fun wn6 => Fl.elim wn6 (fun y19 =>
      if ((v1.length : Int) == 100) then
        some true
      else
        (loop (ω := Fl (Bool) (Unit)) (fun (x20 : Int) =>
          if (decide (x20 < 8)) then
            (ib x20 8).bind fun _ =>
            (ibg ((p0.M x20.toNat) != 0) x20 8).bind fun _ =>
            (ibg ((p0.M x20.toNat) != 0) x20 8).bind fun _ =>
            (ibg ((p0.M x20.toNat) != 0) x20 8).bind fun _ =>
            lt ((((p0.M x20.toNat) != 0) && ((y19 x20.toNat) != (if (p0.A x20.toNat) < (p0.B x20.toNat) then p0.B x20.toNat else p0.A x20.toNat))) : Bool) fun v26 =>
            if v26 then
              some (.done (.rt false))
            else
              some (.next ((IntKind.i64.wrap (x20 + 1))))
          else
            some (.done (.nx ()))) (0)).bind fun wn21 => Fl.elim wn21 (fun y27 =>
          some true) (fun r => some r)) (fun r => some r)

noncomputable def congresslaw11_CutRest (p0 : congresslaw11_Two) (p1 : api_Place) : Option (Bool) :=
  (cut_Rest p0.Given p0.B p0.M).bind fun v1 =>
  (cut_Rest p1 p0.B p0.M).bind fun v3 =>
  (congresslaw11_fixed).bind fun v5 =>
  (whn (!(!v5)) (congressref09_Before p1 p0.Given) false).bind fun v7 =>
  if (((!v5) || v7) || (decide ((v1.length : Int) ≥ 100))) then
    (congresslaw11_fixed).bind fun v9 =>
    some v9
  else
    (loop (ω := Fl (Bool) (Int)) (fun (x11 : Int) =>
      (ibg (decide (x11 < (v1.length : Int))) x11 v1.length).bind fun _ =>
      (whn (decide (x11 < (v1.length : Int))) (congressref09_Before (v1.getD x11.toNat z_api_Place) p1) false).bind fun v14 =>
      if ((decide (x11 < (v1.length : Int))) && v14) then
        some (.next ((IntKind.i64.wrap (x11 + 1))))
      else
        some (.done (.nx (x11)))) (0)).bind fun wn12 => Fl.elim wn12 (fun y16 =>
      (sb y16 ((v1.length : Nat) : Int) v1.length).bind fun _ =>
      (congressref11_Places ((v1.take v1.length).drop y16.toNat) v3).bind fun v18 =>
      some v18) (fun r => some r)

noncomputable def congresslaw11_CutWithin (p0 : (Nat → Int)) (p1 : (Nat → Int)) (p2 : (Nat → Int)) : Option (Bool) :=
  (congresslaw11_fixed).bind fun v1 =>
  (whn (!(!v1)) (cut_Within p0 p0) false).bind fun v3 =>
  (whn (!((!v1) || (!v3))) (cut_Within p0 p1) false).bind fun v5 =>
  (whn ((!((!v1) || (!v3))) && v5) (cut_Within p1 p0) false).bind fun v7 =>
  if (((!v1) || (!v3)) || (v5 && (v7 != (b_a8_u32 p0 p1)))) then
    some false
  else
    (cut_Within p0 p1).bind fun v9 =>
    (whn (!(!v9)) (cut_Within p1 p2) false).bind fun v11 =>
    (whn (!((!v9) || (!v11))) (cut_Within p0 p2) false).bind fun v13 =>
    some (((!v9) || (!v11)) || v13)
end Go.Proofs.Ytnfjibcfnchkkaa
