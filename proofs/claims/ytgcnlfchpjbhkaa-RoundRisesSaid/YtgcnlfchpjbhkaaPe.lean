/- Pure laws of chapter 09: tells, serves, may. Conditions: none. -/
import Derived.Test.YtgcnlfchpjbhkaaPd
set_option linter.unusedVariables false
set_option linter.unusedSimpArgs false
namespace Go.Proofs.Ytgcnlfchpjbhkaa
open Go.Eng
def upF (l : Int) : Int := if l < IntKind.u32.wrap (l + 1) then IntKind.u32.wrap (l + 1) else l
def posF (p0 p1 : Nat → Int) : api_Place := match (listF p1 8).find? (fun x => p0 x.toNat == (leastF p0 p1).1) with
  | some x => { Round := upF (leastF p0 p1).1, From := x, Slot := 0 }
  | none => { Round := 0, From := 0, Slot := 0 }
theorem elim_find {ρ : Type} (o : Option Int) (g : Int → ρ) (d : ρ) : (match o with | some x => (Fl.rt (g x) : Fl ρ Unit) | none => .nx ()).elim (fun _ => some d) (fun r => some r) = some (match o with | some x => g x | none => d) := by
  cases o <;> rfl
theorem pos_eq (p0 p1 : Nat → Int) : round_Position p0 p1 = some (posF p0 p1) := by
  have hl := listF_len p1 8
  unfold round_Position
  rw [least_eq, list_eq]
  simp only [Option.bind_some]
  rw [seek (listF p1 8) (fun x => p0 x.toNat == (leastF p0 p1).1) (fun x => ({ Round := upF (leastF p0 p1).1, From := x, Slot := 0 } : api_Place)) (fun n hn => by
    have hn' : (n : Int) < ((listF p1 8).length : Int) := by omega
    have e1 : IntKind.i64.wrap ((n : Int) + 1) = ((n + 1 : Nat) : Int) := by rw [w64] <;> omega
    obtain ⟨j, hj, hj8, _⟩ := listF_in.1 (getD_in (d := (0 : Int)) hn)
    simp only [hn', decide_true, if_true, ib_n hn, hj, ib_n hj8, Option.bind_some, Int.toNat_natCast, e1, lt]
    rfl) (by simp)]
  exact elim_find _ _ _
theorem rpos_eq {p0 p1 : Nat → Int} (w0 : U32 p0) (w1 : U32 p1) : congressref09_Position p0 p1 = some (posF p0 p1) := by
  have hl := listF_len p1 8
  unfold congressref09_Position
  rw [rleast_eq w0 w1]
  simp only [Option.bind_some]
  by_cases h : (listF p1 8).length = 0
  · have e : leastF p0 p1 = (0, false) := by rw [leastF, if_pos h]
    have e2 : listF p1 8 = [] := List.length_eq_zero_iff.1 h
    rw [e]
    simp [posF, e2]
  · have e : (leastF p0 p1).2 = true := by rw [leastF, if_neg h]
    obtain ⟨j, hj, hj8, hjn⟩ := listF_in.1 (getD_in (d := (0 : Int)) (show 0 < (listF p1 8).length by omega))
    have hge := least_ge0 (p1 := p1) w0 hj8 hjn
    have hle := least_mem (p1 := p1) w0 hj8 hjn
    have hw := wf_u32.1 (w0 j hj8)
    rw [e]
    simp only [Bool.not_true, Bool.false_eq_true, if_false, jn, rlist_eq w1, Option.bind_some]
    have key : ∀ u : Int, u = upF (leastF p0 p1).1 → ((loop (ω := Fl (api_Place) (Unit)) (fun (x7 : Int) =>
        if (decide (x7 < ((listF p1 8).length : Int))) then
          (ib x7 (listF p1 8).length).bind fun _ =>
          (ib ((listF p1 8).getD x7.toNat 0) 8).bind fun _ =>
          if ((p0 (((listF p1 8).getD x7.toNat 0).toNat)) == (leastF p0 p1).1) then
            (ib x7 (listF p1 8).length).bind fun _ =>
            some (.done (.rt ({ Round := u, From := (listF p1 8).getD x7.toNat 0, Slot := 0 } : api_Place)))
          else
            some (.next ((IntKind.i64.wrap (x7 + 1))))
        else
          some (.done (.nx ()))) (0)).bind fun wn8 => Fl.elim wn8 (fun y12 =>
        some ({ Round := 0, From := 0, Slot := 0 } : api_Place)) (fun r => some r)) = some (posF p0 p1) := by
      intro u hu
      rw [seek (listF p1 8) (fun x => p0 x.toNat == (leastF p0 p1).1) (fun x => ({ Round := u, From := x, Slot := 0 } : api_Place)) (fun n hn => by
        have hn' : (n : Int) < ((listF p1 8).length : Int) := by omega
        have e1 : IntKind.i64.wrap ((n : Int) + 1) = ((n + 1 : Nat) : Int) := by rw [w64] <;> omega
        obtain ⟨j, hj, hj8, _⟩ := listF_in.1 (getD_in (d := (0 : Int)) hn)
        simp only [hn', decide_true, if_true, ib_n hn, hj, ib_n hj8, Option.bind_some, Int.toNat_natCast, e1]) (by simp)]
      simp only [Option.bind_some]
      exact (elim_find _ _ _).trans (by rw [hu]; rfl)
    by_cases hm : (IntKind.u32.wrap ((leastF p0 p1).1 + 1)) = 0
    · rw [if_neg (by simp [hm])]
      refine key _ ?_
      rw [upF, hm, if_neg (by omega)]
    · rw [if_pos (by simp [hm])]
      refine key _ ?_
      rw [upF, if_pos]
      rw [w32] at hm ⊢; omega
theorem fixed_eq : congresslaw09_fixed = some true := by
  simp only [congresslaw09_fixed, least_eq, serv_eq _ _ ({ Round := 2, From := 0, Slot := 0 } : api_Place) _ (by decide), serv_eq _ _ ({ Round := 1, From := 0, Slot := 0 } : api_Place) _ (by decide), pos_eq, may_eq, Option.bind_some]
  decide +kernel
theorem pure_roundTells (a0 : (Nat → Int)) (a1 : (Nat → Int)) (a2 : congresslaw09_Two) (w0 : ∀ j, j < 8 → (Lit.int .u32 (a0 j)).wf = true) (w1 : ∀ j, j < 8 → (Lit.int .u32 (a1 j)).wf = true) (w2 : w_congresslaw09_Two a2) : congresslaw09_RoundTells a0 a1 a2 = some true := by
  have hp : ∀ p : api_Place, b_api_Place p p = true := fun p => beqP.2 rfl
  unfold congresslaw09_RoundTells
  simp only [least_eq, rleast_eq w0 w1, fixed_eq, Option.bind_some, may_eq, rmay_eq w0 w1, before_eq, rbefore_eq, pos_eq, rpos_eq w0 w1, beq_self_eq_true, Bool.and_self, whn, if_true, hp, lt]
theorem s3 (p0 p1 : Nat → Int) (p2 : api_Place) : servF p0 p1 p2 3 = (askF p0 p1 p2 && decide ((leastF p0 p1).1 > p2.Round)) := rfl
theorem s2 (p0 p1 : Nat → Int) (p2 : api_Place) : servF p0 p1 p2 2 = (askF p0 p1 p2 && (decide ((leastF p0 p1).1 ≥ p2.Round - 1) && aheadF p0 p1 p2 p2.From.toNat)) := rfl
theorem s1 (p0 p1 : Nat → Int) (p2 : api_Place) : servF p0 p1 p2 1 = (askF p0 p1 p2 && decide ((leastF p0 p1).1 ≥ p2.Round - 1)) := rfl
theorem s0 (p0 p1 : Nat → Int) (p2 : api_Place) : servF p0 p1 p2 0 = (askF p0 p1 p2 && true) := rfl
theorem ahead_iff {p0 p1 : Nat → Int} {p2 : api_Place} {n : Nat} : aheadF p0 p1 p2 n = true ↔ ∀ j, j < n → p1 j ≠ 0 → p2.Round ≤ p0 j := by
  simp only [aheadF, List.all_eq_true, List.mem_range]
  constructor
  · intro h j hj hn
    have := h j hj
    simpa [hn] using this
  · intro h j hj
    by_cases hn : p1 j = 0
    · simp [hn]
    · have := h j hj hn
      simpa [hn] using this
theorem serv32 {p0 p1 : Nat → Int} {p2 : api_Place} (w0 : U32 p0) (h : servF p0 p1 p2 3 = true) : servF p0 p1 p2 2 = true := by
  rw [s3, Bool.and_eq_true, decide_eq_true_eq] at h
  obtain ⟨ha, h⟩ := h
  obtain ⟨f0, f8, fm, fr, fl⟩ := askF_iff.1 ha
  rw [s2, ha, Bool.true_and, Bool.and_eq_true, decide_eq_true_eq, ahead_iff]
  refine ⟨by omega, fun j hj hn => ?_⟩
  have := least_mem (p1 := p1) w0 (show j < 8 by omega) hn
  omega
theorem serv21 {p0 p1 : Nat → Int} {p2 : api_Place} (h : servF p0 p1 p2 2 = true) : servF p0 p1 p2 1 = true := by
  rw [s2, Bool.and_eq_true, Bool.and_eq_true] at h
  rw [s1, h.1, h.2.1]; rfl
theorem serv10 {p0 p1 : Nat → Int} {p2 : api_Place} (h : servF p0 p1 p2 1 = true) : servF p0 p1 p2 0 = true := by
  rw [s1, Bool.and_eq_true] at h
  rw [s0, h.1]; rfl
theorem servN {p0 p1 : Nat → Int} {p2 : api_Place} : servF p0 p1 p2 (-1) = false ∧ servF p0 p1 p2 4 = false := by
  constructor <;> simp [servF]
theorem imp_b {a b : Bool} (h : a = true → b = true) : (!a || b) = true := by
  cases a
  · rfl
  · rw [h rfl]; rfl
theorem pure_roundServes (a0 : (Nat → Int)) (a1 : (Nat → Int)) (a2 : api_Place) (w0 : ∀ j, j < 8 → (Lit.int .u32 (a0 j)).wf = true) (w1 : ∀ j, j < 8 → (Lit.int .u32 (a1 j)).wf = true) (w2 : w_api_Place a2) : congresslaw09_RoundServes a0 a1 a2 = some true := by
  have hr := w2.1
  unfold congresslaw09_RoundServes
  rw [loop_seq (s0 := (0, ([] : _root_.List Bool))) (fun n => ((n : Int), (List.range n).map fun (k : Nat) => servF a0 a1 a2 (k : Int))) 4 (w := .nx [servF a0 a1 a2 0, servF a0 a1 a2 1, servF a0 a1 a2 2, servF a0 a1 a2 3]) rfl (fun n hn => by
    have hn' : (n : Int) < 4 := by omega
    have e1 : IntKind.i64.wrap ((n : Int) + 1) = ((n + 1 : Nat) : Int) := by rw [w64] <;> omega
    simp only [hn', decide_true, if_true, serv_eq _ _ _ _ hr, rserv_eq w0 w1 hr, Option.bind_some, bne_self_eq_false, Bool.false_eq_true, if_false, e1]
    rw [fit_t (by simp; omega) (by omega), List.range_succ, List.map_append]
    rfl) rfl]
  have h0 : ∀ g : Bool, ibg g 0 [servF a0 a1 a2 0, servF a0 a1 a2 1, servF a0 a1 a2 2, servF a0 a1 a2 3].length = some () := fun g => ibg_t (fun _ => by simp)
  have h1 : ∀ g : Bool, ibg g 1 [servF a0 a1 a2 0, servF a0 a1 a2 1, servF a0 a1 a2 2, servF a0 a1 a2 3].length = some () := fun g => ibg_t (fun _ => by simp)
  have h2 : ∀ g : Bool, ibg g 2 [servF a0 a1 a2 0, servF a0 a1 a2 1, servF a0 a1 a2 2, servF a0 a1 a2 3].length = some () := fun g => ibg_t (fun _ => by simp)
  have h3 : ∀ g : Bool, ibg g 3 [servF a0 a1 a2 0, servF a0 a1 a2 1, servF a0 a1 a2 2, servF a0 a1 a2 3].length = some () := fun g => ibg_t (fun _ => by simp)
  have i32 := imp_b (serv32 (p1 := a1) (p2 := a2) w0)
  have i21 := imp_b (serv21 (p0 := a0) (p1 := a1) (p2 := a2))
  have i10 := imp_b (serv10 (p0 := a0) (p1 := a1) (p2 := a2))
  have g0 : ([servF a0 a1 a2 0, servF a0 a1 a2 1, servF a0 a1 a2 2, servF a0 a1 a2 3] : _root_.List Bool).getD 0 false = servF a0 a1 a2 0 := rfl
  have g1 : ([servF a0 a1 a2 0, servF a0 a1 a2 1, servF a0 a1 a2 2, servF a0 a1 a2 3] : _root_.List Bool).getD 1 false = servF a0 a1 a2 1 := rfl
  have g2 : ([servF a0 a1 a2 0, servF a0 a1 a2 1, servF a0 a1 a2 2, servF a0 a1 a2 3] : _root_.List Bool).getD 2 false = servF a0 a1 a2 2 := rfl
  have g3 : ([servF a0 a1 a2 0, servF a0 a1 a2 1, servF a0 a1 a2 2, servF a0 a1 a2 3] : _root_.List Bool).getD 3 false = servF a0 a1 a2 3 := rfl
  simp only [Option.bind_some, Fl.elim, fixed_eq, h0, h1, h2, h3, g0, g1, g2, g3, serv_eq _ _ _ _ hr, servN.1, servN.2, i32, i21, i10, Bool.and_self, whn, if_true, Bool.not_false, lt]
theorem mem_of {p1 : Nat → Int} {j : Nat} (hj : j < 8) : memF p1 (j : Int) = (p1 j != 0) := by
  have h1 : decide ((j : Int) ≥ 0) = true := decide_eq_true (by omega)
  have h2 : decide ((j : Int) < 8) = true := decide_eq_true (by omega)
  simp only [memF, h1, h2, Bool.and_self, Bool.true_and, Int.toNat_natCast]
theorem pure_roundMay (a0 : (Nat → Int)) (a1 : (Nat → Int)) (w0 : ∀ j, j < 8 → (Lit.int .u32 (a0 j)).wf = true) (w1 : ∀ j, j < 8 → (Lit.int .u32 (a1 j)).wf = true) : congresslaw09_RoundMay a0 a1 = some true := by
  unfold congresslaw09_RoundMay
  rw [least_eq]
  simp only [Option.bind_some, may_eq]
  rw [loop_seq (s0 := (false, true, 0)) (fun n => ((List.range n).any (fun j => (a1 j != 0) && (a0 j == (leastF a0 a1).1)), (List.range n).all (fun j => (a1 j == 0) || (a0 j == (leastF a0 a1).1)), (n : Int))) 8
    (w := .nx ((List.range 8).any (fun j => (a1 j != 0) && (a0 j == (leastF a0 a1).1)), (List.range 8).all (fun j => (a1 j == 0) || (a0 j == (leastF a0 a1).1)))) rfl (fun n hn => by
    have hn' : (n : Int) < 8 := by omega
    have e1 : IntKind.i64.wrap ((n : Int) + 1) = ((n + 1 : Nat) : Int) := by rw [w64] <;> omega
    have ibt : ∀ g, ibg g (n : Int) 8 = some () := fun g => ibg_t (fun _ => by omega)
    have hm := least_mem (p1 := a1) w0 hn
    have hc : (((((a1 n) == 0) && ((a1 n != 0) && (a0 n == (leastF a0 a1).1))) || (((a1 n) != 0) && (((a1 n != 0) && (a0 n == (leastF a0 a1).1)) != ((a0 n) == (leastF a0 a1).1)))) || (((a1 n) != 0) && (decide ((a0 n) < (leastF a0 a1).1)))) = false := by
      by_cases h : a1 n = 0
      · simp [h]
      · have := hm h
        have h2 : decide (a0 n < (leastF a0 a1).1) = false := decide_eq_false (by omega)
        have h3 : (a1 n == 0) = false := by simpa using h
        have h4 : (a1 n != 0) = true := by simpa using h
        simp only [h2, h3, h4, Bool.true_and, Bool.false_and, bne_self_eq_false, Bool.or_self]
    simp only [hn', decide_true, if_true, ib_n hn, ibt, Option.bind_some, Int.toNat_natCast, e1, mem_of hn, lt, hc, Bool.false_eq_true, if_false, List.range_succ, List.any_append, List.all_append, List.any_cons, List.any_nil, List.all_cons, List.all_nil, Bool.or_false, Bool.and_true]) rfl]
  simp only [Option.bind_some, Fl.elim]
  have hany : (List.range 8).any (fun j => (a1 j != 0) && (a0 j == (leastF a0 a1).1)) = (leastF a0 a1).2 := by
    by_cases h : (listF a1 8).length = 0
    · have e2 : listF a1 8 = [] := List.length_eq_zero_iff.1 h
      have e : (leastF a0 a1).2 = false := by rw [leastF, if_pos h]
      rw [e, Bool.eq_false_iff]
      intro hh
      obtain ⟨j, hj, hp⟩ := List.any_eq_true.1 hh
      simp only [Bool.and_eq_true, bne_iff_ne] at hp
      exact len_pos (List.mem_range.1 hj) hp.1 h
    · have e : (leastF a0 a1).2 = true := by rw [leastF, if_neg h]
      obtain ⟨j, hj, hj8, hjn⟩ := listF_in.1 (getD_in (d := (0 : Int)) (show 0 < (listF a1 8).length by omega))
      obtain ⟨i, hi, hin, hi2⟩ := least_is (p1 := a1) w0 hj8 hjn
      rw [e, List.any_eq_true]
      exact ⟨i, List.mem_range.2 hi, by simp [hin, hi2]⟩
  rw [hany]
  have fin : congresslaw09_fixed.bind (fun v22 => some (v22 && ((leastF a0 a1).2 == (leastF a0 a1).2))) = some true := by
    rw [fixed_eq]; simp
  by_cases hA : (List.range 8).all (fun j => (a1 j == 0) || (a0 j == (leastF a0 a1).1)) = true
  · rw [hA, loop_seq (s0 := 0) (fun n => (n : Int)) 8 (w := .nx ()) rfl (fun n hn => by
      have hn' : (n : Int) < 8 := by omega
      have e1 : IntKind.i64.wrap ((n : Int) + 1) = ((n + 1 : Nat) : Int) := by rw [w64] <;> omega
      have hh := List.all_eq_true.1 hA n (List.mem_range.2 hn)
      simp only [hn', decide_true, Bool.and_self, if_true, ib_n hn, Option.bind_some, Int.toNat_natCast, e1, mem_of hn]
      by_cases h : a1 n = 0
      · simp [h, whn]
      · have h3 : (a1 n == 0) = false := by simpa using h
        have h4 : (a1 n != 0) = true := by simpa using h
        rw [h3, Bool.false_or] at hh
        simp only [h4, hh, whn, if_true, Bool.and_self, Option.bind_some, Bool.not_true, Bool.and_false, Bool.false_eq_true, if_false]) rfl]
    simp only [Option.bind_some, Fl.elim]
    exact fin
  · simp only [Bool.not_eq_true] at hA
    rw [hA, loop_dn (s := 0) (w := .nx ()) rfl]
    simp only [Option.bind_some, Fl.elim]
    exact fin
end Go.Proofs.Ytgcnlfchpjbhkaa
