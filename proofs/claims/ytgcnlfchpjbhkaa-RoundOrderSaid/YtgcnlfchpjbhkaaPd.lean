/- What the functions of chapter 09 answer, in closed form: service, position, may. Conditions: none. -/
import Derived.Test.YtgcnlfchpjbhkaaPc
set_option linter.unusedVariables false
set_option linter.unusedSimpArgs false
namespace Go.Proofs.Ytgcnlfchpjbhkaa
open Go.Eng
/-- What lies in a list first, as a loop finds it. -/
theorem seek {ρ : Type} {body : Int → Option (Stp Int (Fl ρ Unit))} (l : _root_.List Int) (P : Int → Bool) (g : Int → ρ)
    (h : ∀ n, n < l.length → body (n : Int) = if P (l.getD n 0) = true then some (.done (.rt (g (l.getD n 0)))) else some (.next ((n + 1 : Nat) : Int))) (hl : body ((l.length : Nat) : Int) = some (.done (.nx ()))) :
    loop body 0 = some (match l.find? P with | some x => .rt (g x) | none => .nx ()) := by
  obtain ⟨w, hw, hp⟩ := loop_count (body := body) (fun n s => s = (n : Int) ∧ l.find? P = (l.drop n).find? P) (fun w => w = (match l.find? P with | some x => .rt (g x) | none => .nx ())) l.length (s0 := 0) ⟨rfl, rfl⟩
    (fun n s hn hs => by
      obtain ⟨rfl, hs⟩ := hs
      have hd : l.drop n = l.getD n 0 :: l.drop (n + 1) := by
        rw [List.getD_eq_getElem?_getD, List.getElem?_eq_getElem hn]; exact List.drop_eq_getElem_cons hn
      by_cases hP : P (l.getD n 0) = true
      · right
        refine ⟨.rt (g (l.getD n 0)), by rw [h n hn, if_pos hP], ?_⟩
        rw [hs, hd, List.find?_cons_of_pos hP]
      · left
        refine ⟨_, by rw [h n hn, if_neg hP], rfl, ?_⟩
        rw [hs, hd, List.find?_cons_of_neg hP])
    (fun s hs => by
      obtain ⟨rfl, hs⟩ := hs
      refine ⟨.nx (), hl, ?_⟩
      rw [hs, List.drop_length]; rfl)
  rw [hw, hp]
theorem ahead_eq (p0 p1 : Nat → Int) (p2 : api_Place) (h0 : 0 ≤ p2.From) (h8 : p2.From < 8) : round_ahead p0 p1 p2 = some (aheadF p0 p1 p2 p2.From.toNat) := by
  unfold round_ahead
  rw [scan (fun j => (p1 j != 0) && decide (p0 j < p2.Round)) p2.From.toNat (fun n hn => by
    have hn' : (n : Int) < p2.From := by omega
    have hn8 : n < 8 := by omega
    have e1 : IntKind.i64.wrap ((n : Int) + 1) = ((n + 1 : Nat) : Int) := by rw [w64] <;> omega
    have ibt : ∀ g, ibg g (n : Int) 8 = some () := fun g => ibg_t (fun _ => by omega)
    simp only [hn', decide_true, if_true, ib_n hn8, ibt, Option.bind_some, Int.toNat_natCast, e1]) (by
    have : decide ((p2.From.toNat : Int) < p2.From) = false := decide_eq_false (by omega)
    simp only [this, Bool.false_eq_true, if_false])]
  have e : ((List.range p2.From.toNat).all fun j => !((p1 j != 0) && decide (p0 j < p2.Round))) = aheadF p0 p1 p2 p2.From.toNat := rfl
  rw [e]
  simp only [Option.bind_some]
  by_cases h : aheadF p0 p1 p2 p2.From.toNat = true
  · rw [if_pos h, h]; rfl
  · rw [if_neg h]; simp only [Bool.not_eq_true] at h; rw [h]; rfl
/-- All members stand at a round or behind it. -/
def fullF (p0 p1 : Nat → Int) (r : Int) : Bool := (listF p1 8).all fun x => !decide (p0 x.toNat < r)
theorem full_eq {p0 p1 : Nat → Int} (w0 : U32 p0) (w1 : U32 p1) (r : Int) : congressref09_Full p0 p1 r = some (fullF p0 p1 r) := by
  have hl := listF_len p1 8
  unfold congressref09_Full
  rw [rlist_eq w1]
  simp only [Option.bind_some]
  rw [seek (ρ := Bool) (listF p1 8) (fun x => decide (p0 x.toNat < r)) (fun _ => false) (fun n hn => by
    have hn' : (n : Int) < ((listF p1 8).length : Int) := by omega
    have e1 : IntKind.i64.wrap ((n : Int) + 1) = ((n + 1 : Nat) : Int) := by rw [w64] <;> omega
    obtain ⟨j, hj, hj8, _⟩ := listF_in.1 (getD_in (d := (0 : Int)) hn)
    have hw := wf_u32.1 (w0 j hj8)
    have e2 : IntKind.u64.wrap (p0 j) = p0 j := by rw [wu64]; omega
    simp only [hn', decide_true, if_true, ib_n hn, hj, ib_n hj8, Option.bind_some, Int.toNat_natCast, e1, e2]) (by simp)]
  simp only [Option.bind_some]
  have key : ∀ (l : _root_.List Int) (P : Int → Bool), (match l.find? P with | some x => (Fl.rt false : Fl Bool Unit) | none => .nx ()).elim (fun _ => some true) (fun r => some r) = some (l.all fun x => !P x) := by
    intro l P
    induction l with
    | nil => rfl
    | cons a l ih =>
      by_cases hP : P a = true
      · rw [List.find?_cons_of_pos hP]; simp [hP, Fl.elim]
      · rw [List.find?_cons_of_neg hP, ih]; simp only [Bool.not_eq_true] at hP; simp [hP]
  exact key _ _
theorem full_iff {p0 p1 : Nat → Int} {r : Int} : fullF p0 p1 r = true ↔ ∀ j, j < 8 → p1 j ≠ 0 → r ≤ p0 j := by
  simp only [fullF, List.all_eq_true, listF_in]
  constructor
  · intro h j hj hn
    have := h j ⟨j, rfl, hj, hn⟩
    simpa using this
  · rintro h x ⟨j, rfl, hj, hn⟩
    have := h j hj hn
    simpa using this
theorem len_pos {p1 : Nat → Int} {j : Nat} (hj : j < 8) (hn : p1 j ≠ 0) : (listF p1 8).length ≠ 0 := by
  have : (j : Int) ∈ listF p1 8 := listF_in.2 ⟨j, rfl, hj, hn⟩
  intro h
  rw [List.length_eq_zero_iff] at h
  rw [h] at this; cases this
/-- The least round, by what lies under it. -/
theorem least_le {p0 p1 : Nat → Int} (w0 : U32 p0) {j : Nat} (hj : j < 8) (hn : p1 j ≠ 0) (r : Int) : r ≤ (leastF p0 p1).1 ↔ ∀ i, i < 8 → p1 i ≠ 0 → r ≤ p0 i := by
  rw [leastF, if_neg (len_pos hj hn)]
  simp only [minF_le, listF_in]
  constructor
  · rintro ⟨_, h⟩ i hi hni
    have := h i ⟨i, rfl, hi, hni⟩
    simpa using this
  · intro h
    refine ⟨?_, ?_⟩
    · have := h j hj hn; have := wf_u32.1 (w0 j hj); omega
    · rintro x ⟨i, rfl, hi, hni⟩
      simpa using h i hi hni
theorem least_is {p0 p1 : Nat → Int} (w0 : U32 p0) {j : Nat} (hj : j < 8) (hn : p1 j ≠ 0) : ∃ i, i < 8 ∧ p1 i ≠ 0 ∧ (leastF p0 p1).1 = p0 i := by
  have h1 := (least_le w0 hj hn (leastF p0 p1).1).1 (Int.le_refl _) j hj hn
  rw [leastF, if_neg (len_pos hj hn)] at *
  simp only at *
  rcases minF_is p0 (listF p1 8) 4294967295 with h | ⟨x, hx, h⟩
  · exact ⟨j, hj, hn, by have := wf_u32.1 (w0 j hj); omega⟩
  · obtain ⟨i, rfl, hi, hni⟩ := listF_in.1 hx
    exact ⟨i, hi, hni, by simpa using h⟩
theorem least_mem {p0 p1 : Nat → Int} (w0 : U32 p0) {j : Nat} (hj : j < 8) (hn : p1 j ≠ 0) : (leastF p0 p1).1 ≤ p0 j := (least_le w0 hj hn _).1 (Int.le_refl _) j hj hn
theorem least_ge0 {p0 p1 : Nat → Int} (w0 : U32 p0) {j : Nat} (hj : j < 8) (hn : p1 j ≠ 0) : 0 ≤ (leastF p0 p1).1 :=
  (least_le w0 hj hn 0).2 fun i hi _ => (wf_u32.1 (w0 i hi)).1
/-- A place that can be asked for. -/
def askF (p0 p1 : Nat → Int) (p2 : api_Place) : Bool := (memF p1 p2.From && (p2.Round != 0)) && decide (p2.Round ≤ p0 p2.From.toNat)
def servF (p0 p1 : Nat → Int) (p2 : api_Place) (k : Int) : Bool :=
  askF p0 p1 p2 && (if k = 0 then true else if k = 1 then decide ((leastF p0 p1).1 ≥ p2.Round - 1) else if k = 2 then decide ((leastF p0 p1).1 ≥ p2.Round - 1) && aheadF p0 p1 p2 p2.From.toNat else if k = 3 then decide ((leastF p0 p1).1 > p2.Round) else false)
theorem memF_iff {p1 : Nat → Int} {i : Int} : memF p1 i = true ↔ 0 ≤ i ∧ i < 8 ∧ p1 i.toNat ≠ 0 := by
  simp only [memF, Bool.and_eq_true, decide_eq_true_eq, bne_iff_ne, ge_iff_le, and_assoc]
theorem askF_iff {p0 p1 : Nat → Int} {p2 : api_Place} : askF p0 p1 p2 = true ↔ 0 ≤ p2.From ∧ p2.From < 8 ∧ p1 p2.From.toNat ≠ 0 ∧ p2.Round ≠ 0 ∧ p2.Round ≤ p0 p2.From.toNat := by
  simp only [askF, Bool.and_eq_true, memF_iff, decide_eq_true_eq, bne_iff_ne, and_assoc]
theorem serv_eq (p0 p1 : Nat → Int) (p2 : api_Place) (k : Int) (w2 : (Lit.int .u32 p2.Round).wf = true) : round_Service p0 p1 p2 k = some (servF p0 p1 p2 k) := by
  have hr := wf_u32.1 w2
  unfold round_Service
  rw [member_eq]
  simp only [Option.bind_some]
  rw [ibg_t (fun h => by
    have : memF p1 p2.From = true := by
      simp only [Bool.not_or, Bool.not_not, Bool.and_eq_true] at h; exact h.1
    have := memF_iff.1 this; omega)]
  simp only [Option.bind_some, lt]
  have e : (((!memF p1 p2.From) || (p2.Round == 0)) || (decide (p2.Round > (p0 p2.From.toNat)))) = !askF p0 p1 p2 := by
    have : ∀ (m : Bool) (r x : Int), (((!m) || (r == 0)) || decide (r > x)) = !((m && (r != 0)) && decide (r ≤ x)) := by
      intro m r x
      have hb : decide (r > x) = !decide (r ≤ x) := by
        rw [Bool.eq_iff_iff]; simp only [decide_eq_true_eq, Bool.not_eq_true', decide_eq_false_iff_not]; omega
      have hc : (r != 0) = !(r == 0) := rfl
      rw [hb, hc]; cases m <;> cases (r == 0) <;> cases decide (r ≤ x) <;> rfl
    exact this _ _ _
  rw [e]
  by_cases ha : askF p0 p1 p2 = true
  · have ha' := askF_iff.1 ha
    have e1 : IntKind.u32.wrap (p2.Round - 1) = p2.Round - 1 := by rw [w32]; omega
    rw [if_neg (by simp [ha]), least_eq]
    simp only [Option.bind_some, e1, ahead_eq p0 p1 p2 ha'.1 ha'.2.1, servF, ha, Bool.true_and, beq_iff_eq]
    by_cases k0 : k = 0
    · rw [if_pos k0, if_pos k0]
    rw [if_neg k0, if_neg k0]
    by_cases k1 : k = 1
    · rw [if_pos k1, if_pos k1]
    rw [if_neg k1, if_neg k1]
    by_cases k2 : k = 2
    · rw [if_pos k2, if_pos k2]
      simp only [whn]
      by_cases hd : decide ((leastF p0 p1).1 ≥ p2.Round - 1) = true
      · rw [if_pos hd]; rfl
      · rw [if_neg hd]
        simp only [Bool.not_eq_true] at hd
        simp only [hd, Bool.false_and, Option.bind_some]
    rw [if_neg k2, if_neg k2]
    by_cases k3 : k = 3
    · rw [if_pos k3, if_pos k3]
    rw [if_neg k3, if_neg k3]
  · simp only [Bool.not_eq_true] at ha
    rw [if_pos (by simp [ha])]
    simp [servF, ha]
theorem rserv_eq {p0 p1 : Nat → Int} {p2 : api_Place} {k : Int} (w0 : U32 p0) (w1 : U32 p1) (w2 : (Lit.int .u32 p2.Round).wf = true) : congressref09_Service p0 p1 p2 k = some (servF p0 p1 p2 k) := by
  have hr := wf_u32.1 w2
  unfold congressref09_Service
  rw [ibg_t (fun h => by simp at h; omega), ibg_t (fun h => by simp at h; omega)]
  simp only [Option.bind_some, lt]
  have e : (((((((decide (p2.From < 0)) || (decide (p2.From > 7))) || ((p1 p2.From.toNat) == 0)) || (p2.Round == 0)) || (decide (p2.Round > (p0 p2.From.toNat)))) || (decide (k < 0))) || (decide (k > 3))) = !(askF p0 p1 p2 && decide (0 ≤ k ∧ k ≤ 3)) := by
    by_cases ha : askF p0 p1 p2 = true
    · have ha' := askF_iff.1 ha
      rw [ha, Bool.eq_iff_iff]
      simp only [Bool.true_and, Bool.or_eq_true, decide_eq_true_eq, beq_iff_eq, Bool.not_eq_true', decide_eq_false_iff_not]
      omega
    · have ha' : ¬ (0 ≤ p2.From ∧ p2.From < 8 ∧ p1 p2.From.toNat ≠ 0 ∧ p2.Round ≠ 0 ∧ p2.Round ≤ p0 p2.From.toNat) := fun h => ha (askF_iff.2 h)
      simp only [Bool.not_eq_true] at ha
      rw [ha, Bool.eq_iff_iff]
      simp only [Bool.false_and, Bool.not_false, Bool.or_eq_true, decide_eq_true_eq, beq_iff_eq, iff_true]
      omega
  rw [e]
  by_cases ha : askF p0 p1 p2 = true
  · have ha' := askF_iff.1 ha
    obtain ⟨f0, f8, fm, fr, fl⟩ := ha'
    have fm8 : p2.From.toNat < 8 := by omega
    have e0 : IntKind.u64.wrap p2.Round = p2.Round := by rw [wu64]; omega
    have e1 : IntKind.u64.wrap (p2.Round + 1) = p2.Round + 1 := by rw [wu64]; omega
    have e2 : IntKind.u64.wrap (p2.Round - 1) = p2.Round - 1 := by rw [wu64]; omega
    by_cases hk : 0 ≤ k ∧ k ≤ 3
    · rw [if_neg (by simp [ha, hk])]
      simp only [servF, ha, Bool.true_and, beq_iff_eq, full_eq w0 w1, e0, e1, e2, Option.bind_some]
      have g3 : fullF p0 p1 (p2.Round + 1) = decide ((leastF p0 p1).1 > p2.Round) := by
        rw [Bool.eq_iff_iff, full_iff, decide_eq_true_eq]
        have := least_le w0 fm8 fm (p2.Round + 1)
        constructor
        · intro h; have := this.2 h; omega
        · intro h; exact this.1 (by omega)
      have g1 : fullF p0 p1 (p2.Round - 1) = decide ((leastF p0 p1).1 ≥ p2.Round - 1) := by
        rw [Bool.eq_iff_iff, full_iff, decide_eq_true_eq]
        exact (least_le w0 fm8 fm (p2.Round - 1)).symm
      rw [g3, g1]
      by_cases k3 : k = 3
      · rw [if_pos k3]; simp [k3]
      rw [if_neg k3]
      by_cases k0 : k = 0
      · rw [if_pos k0, if_pos k0]
      rw [if_neg k0, if_neg k0]
      by_cases hd : decide ((leastF p0 p1).1 ≥ p2.Round - 1) = true
      · rw [if_neg (by simp [hd])]
        by_cases k2 : k = 2
        · rw [scan (fun j => (p1 j != 0) && decide (p0 j < p2.Round)) p2.From.toNat (fun n hn => by
            have hn' : (n : Int) < p2.From := by omega
            have hn8 : n < 8 := by omega
            have e1 : IntKind.i64.wrap ((n : Int) + 1) = ((n + 1 : Nat) : Int) := by rw [w64] <;> omega
            have ibt : ∀ g, ibg g (n : Int) 8 = some () := fun g => ibg_t (fun _ => by omega)
            simp only [hn', k2, decide_true, beq_self_eq_true, Bool.and_self, if_true, ib_n hn8, ibt, Option.bind_some, Int.toNat_natCast, e1]) (by
            have : decide ((p2.From.toNat : Int) < p2.From) = false := decide_eq_false (by omega)
            simp only [this, Bool.false_and, Bool.false_eq_true, if_false])]
          have ee : ((List.range p2.From.toNat).all fun j => !((p1 j != 0) && decide (p0 j < p2.Round))) = aheadF p0 p1 p2 p2.From.toNat := rfl
          have k1 : ¬ k = 1 := by omega
          rw [ee, if_neg k1, if_pos k2, hd]
          simp only [Option.bind_some, Bool.true_and]
          by_cases h : aheadF p0 p1 p2 p2.From.toNat = true
          · rw [if_pos h, h]; rfl
          · rw [if_neg h]; simp only [Bool.not_eq_true] at h; rw [h]; rfl
        · have k1 : k = 1 := by omega
          rw [loop_dn (s := 0) (w := .nx ()) (by simp [k2]), if_pos k1, hd]; rfl
      · rw [if_pos (by simpa using hd)]
        simp only [Bool.not_eq_true] at hd
        rw [hd]
        by_cases k1 : k = 1
        · rw [if_pos k1]
        · have k2 : k = 2 := by omega
          rw [if_neg k1, if_pos k2]; rfl
    · rw [if_pos (by simp [ha]; omega)]
      simp only [servF, ha, Bool.true_and]
      have k0 : ¬ k = 0 := by omega
      have k1 : ¬ k = 1 := by omega
      have k2 : ¬ k = 2 := by omega
      have k3 : ¬ k = 3 := by omega
      rw [if_neg k0, if_neg k1, if_neg k2, if_neg k3]
  · simp only [Bool.not_eq_true] at ha
    rw [if_pos (by simp [ha])]
    simp [servF, ha]
theorem may_eq (p0 p1 : Nat → Int) (i : Int) : round_May p0 p1 i = some (memF p1 i && (p0 i.toNat == (leastF p0 p1).1)) := by
  unfold round_May
  rw [least_eq, member_eq]
  simp only [Option.bind_some]
  rw [ibg_t (fun h => by have := memF_iff.1 h; omega)]
  rfl
theorem rmay_eq {p0 p1 : Nat → Int} (w0 : U32 p0) (w1 : U32 p1) (i : Int) : congressref09_May p0 p1 i = some (memF p1 i && (p0 i.toNat == (leastF p0 p1).1)) := by
  unfold congressref09_May
  rw [ibg_t (fun h => by simp at h; omega), ibg_t (fun h => by simp at h; omega)]
  simp only [Option.bind_some, full_eq w0 w1]
  have e : (((decide (i ≥ 0)) && (decide (i < 8))) && (p1 i.toNat != 0)) = memF p1 i := rfl
  rw [e]
  by_cases hm : memF p1 i = true
  · obtain ⟨h0, h8, hn⟩ := memF_iff.1 hm
    have hi8 : i.toNat < 8 := by omega
    have hw := wf_u32.1 (w0 i.toNat hi8)
    have e1 : IntKind.u64.wrap (p0 i.toNat) = p0 i.toNat := by rw [wu64]; omega
    have g : fullF p0 p1 (p0 i.toNat) = (p0 i.toNat == (leastF p0 p1).1) := by
      rw [Bool.eq_iff_iff, full_iff, beq_iff_eq, ← least_le w0 hi8 hn]
      have := least_mem w0 hi8 hn
      omega
    simp only [hm, whn, if_true, Option.bind_some, Bool.true_and, e1, g, lt]
  · simp only [Bool.not_eq_true] at hm
    simp only [hm, whn, Bool.false_eq_true, if_false, Option.bind_some, Bool.false_and, lt]
end Go.Proofs.Ytgcnlfchpjbhkaa
