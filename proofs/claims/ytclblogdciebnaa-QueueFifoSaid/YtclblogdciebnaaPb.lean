/- Chapter 09: what may be delivered, in closed form. Conditions: none. -/
import Derived.Test.YtclblogdciebnaaIn
import Derived.Test.YtclblogdciebnaaEngW
set_option linter.unusedVariables false
set_option linter.unusedSimpArgs false
namespace Go.Proofs.Ytclblogdciebnaa.R9
open Go.Eng
def cmpI (a b : Int) : Int := if a < b then -1 else if a > b then 1 else 0
theorem cmpu_eq (a b : Int) : cmp_Compare_uint32 a b = some (cmpI a b) := by
  simp only [cmp_Compare_uint32, cmp_isNaN_uint32, Option.bind_some, bne_self_eq_false, Bool.false_eq_true, if_false, decide_eq_true_eq, cmpI]
  split
  · rfl
  · split <;> rfl
theorem cmpi_eq (a b : Int) : cmp_Compare_int a b = some (cmpI a b) := by
  simp only [cmp_Compare_int, cmp_isNaN_int, Option.bind_some, bne_self_eq_false, Bool.false_eq_true, if_false, decide_eq_true_eq, cmpI]
  split
  · rfl
  · split <;> rfl
theorem or_eq (a b c : Int) : cmp_Or_int [a, b, c] = some (if a ≠ 0 then a else if b ≠ 0 then b else c) := by
  have e1 : IntKind.i64.wrap 1 = 1 := by rw [w64] <;> omega
  have e2 : IntKind.i64.wrap 2 = 2 := by rw [w64] <;> omega
  have e3 : IntKind.i64.wrap 3 = 3 := by rw [w64] <;> omega
  unfold cmp_Or_int
  by_cases ha : a = 0
  · rw [loop_nx (s := 0) (s' := 1) (by simp [ib, ha, e1])]
    by_cases hb : b = 0
    · rw [loop_nx (s := 1) (s' := 2) (by simp [ib, hb, e2])]
      by_cases hc : c = 0
      · rw [loop_nx (s := 2) (s' := 3) (by simp [ib, hc, e3]), loop_dn (s := 3) (w := .nx ()) (by simp)]
        simp [ha, hb, hc, Fl.elim]
      · rw [loop_dn (s := 2) (w := .rt c) (by simp [ib, hc])]
        simp [ha, hb, Fl.elim]
    · rw [loop_dn (s := 1) (w := .rt b) (by simp [ib, hb])]
      simp [ha, hb, Fl.elim]
  · rw [loop_dn (s := 0) (w := .rt a) (by simp [ib, ha])]
    simp [ha, Fl.elim]
theorem cmpI_lt {a b : Int} : cmpI a b < 0 ↔ a < b := by unfold cmpI; split; omega; split <;> omega
theorem cmpI_z {a b : Int} : cmpI a b = 0 ↔ a = b := by unfold cmpI; split; omega; split <;> omega
def befF (a b : api_Place) : Bool := decide (a.Round < b.Round ∨ (a.Round = b.Round ∧ (a.From < b.From ∨ (a.From = b.From ∧ a.Slot < b.Slot))))
theorem before_eq (a b : api_Place) : round_Before a b = some (befF a b) := by
  simp only [round_Before, cmpu_eq, cmpi_eq, or_eq, Option.bind_some, befF, Option.some.injEq, decide_eq_decide]
  have h1 := @cmpI_lt a.Round b.Round; have h2 := @cmpI_z a.Round b.Round
  have h3 := @cmpI_lt a.From b.From; have h4 := @cmpI_z a.From b.From
  have h5 := @cmpI_lt a.Slot b.Slot
  split
  · omega
  · split <;> omega
theorem rbefore_eq (a b : api_Place) : congressref09_Before a b = some (befF a b) := by
  simp only [congressref09_Before, befF, bne_iff_ne]
  split
  · simp only [Option.some.injEq, decide_eq_decide]; omega
  · split
    · simp only [Option.some.injEq, decide_eq_decide]; omega
    · simp only [Option.some.injEq, decide_eq_decide]; omega
theorem beqP {p q : api_Place} : b_api_Place p q = true ↔ p = q := by
  cases p; cases q; simp [b_api_Place]

def listF (f : Nat → Int) (n : Nat) : _root_.List Int := ((List.range n).filter fun j => f j != 0).map fun (j : Nat) => (j : Int)
theorem listF_s (f : Nat → Int) (n : Nat) : listF f (n + 1) = if f n ≠ 0 then listF f n ++ [(n : Int)] else listF f n := by
  unfold listF
  rw [List.range_succ, List.filter_append, List.map_append]
  by_cases h : f n = 0 <;> simp [h]
theorem listF_len (f : Nat → Int) (n : Nat) : (listF f n).length ≤ n := by
  unfold listF
  rw [List.length_map]
  exact Nat.le_trans (List.length_filter_le _ _) (by simp)
theorem fit_t {n b : Nat} (h : n ≤ 1000000) (hb : b ≤ 100) : fit n b = some () := by
  unfold fit
  rw [if_pos]
  refine ⟨by unfold maxLen; omega, ?_⟩
  have : n * b ≤ 1000000 * 100 := Nat.mul_le_mul h hb
  omega
theorem list_eq (f : Nat → Int) : ident_List f = some (listF f 8) := by
  unfold ident_List
  rw [loop_seq (s0 := (0, ([] : _root_.List Int))) (fun n => ((n : Int), listF f n)) 8 (w := .nx (listF f 8)) rfl (fun n hn => by
    have hn' : (n : Int) < 8 := by omega
    have e1 : IntKind.i64.wrap ((n : Int) + 1) = ((n + 1 : Nat) : Int) := by rw [w64] <;> omega
    have hl := listF_len f n
    simp only [hn', decide_true, if_true, jn, ib_n hn, Option.bind_some, Int.toNat_natCast, e1]
    rw [fit_t (by simp; omega) (by omega), listF_s]
    by_cases h : f n = 0 <;> simp [h]) (by simp)]
  simp only [Option.bind_some, Fl.elim]
def U32 (f : Nat → Int) : Prop := ∀ j, j < 8 → (Lit.int .u32 (f j)).wf = true
theorem rlist_eq {f : Nat → Int} (w : U32 f) : congressref07_List f = some (listF f 8) := by
  unfold congressref07_List
  rw [loop_seq (s0 := (0, ([] : _root_.List Int))) (fun n => ((n : Int), listF f n)) 8 (w := .nx (listF f 8)) rfl (fun n hn => by
    have hn' : (n : Int) < 8 := by omega
    have e1 : IntKind.i64.wrap ((n : Int) + 1) = ((n + 1 : Nat) : Int) := by rw [w64] <;> omega
    have hl := listF_len f n
    have hw := wf_u32.1 (w n hn)
    simp only [hn', decide_true, if_true, jn, ib_n hn, Option.bind_some, Int.toNat_natCast, e1]
    rw [fit_t (by simp; omega) (by omega), listF_s]
    by_cases h : f n = 0
    · simp [h]
    · rw [if_pos (by simp; omega), if_pos h]; rfl) (by simp)]
  simp only [Option.bind_some, Fl.elim]
theorem listF_in {f : Nat → Int} {n : Nat} {x : Int} : x ∈ listF f n ↔ ∃ j : Nat, x = (j : Int) ∧ j < n ∧ f j ≠ 0 := by
  simp only [listF, List.mem_map, List.mem_filter, List.mem_range]
  constructor
  · rintro ⟨j, ⟨h1, h2⟩, h3⟩; exact ⟨j, h3.symm, h1, by simpa using h2⟩
  · rintro ⟨j, rfl, h1, h2⟩; exact ⟨j, ⟨h1, by simpa using h2⟩, rfl⟩
/-- The least of the members' rounds, from a start. -/
def minF (p0 : Nat → Int) (m : Int) (l : _root_.List Int) : Int := l.foldl (fun m j => if p0 j.toNat < m then p0 j.toNat else m) m
theorem minF_s (p0 : Nat → Int) (m : Int) (l : _root_.List Int) (x : Int) : minF p0 m (l ++ [x]) = if p0 x.toNat < minF p0 m l then p0 x.toNat else minF p0 m l := by
  unfold minF; rw [List.foldl_append]; rfl
theorem minF_le (p0 : Nat → Int) : ∀ (l : _root_.List Int) (m r : Int), r ≤ minF p0 m l ↔ r ≤ m ∧ ∀ x ∈ l, r ≤ p0 x.toNat
  | [], m, r => by simp [minF]
  | a :: l, m, r => by
    have : minF p0 m (a :: l) = minF p0 (if p0 a.toNat < m then p0 a.toNat else m) l := rfl
    rw [this, minF_le p0 l]
    constructor
    · rintro ⟨h1, h2⟩
      refine ⟨by split at h1 <;> omega, fun x hx => ?_⟩
      rcases List.mem_cons.1 hx with rfl | hx
      · split at h1 <;> omega
      · exact h2 x hx
    · rintro ⟨h1, h2⟩
      have := h2 a (by simp)
      exact ⟨by split <;> omega, fun x hx => h2 x (by simp [hx])⟩
theorem minF_is (p0 : Nat → Int) : ∀ (l : _root_.List Int) (m : Int), minF p0 m l = m ∨ ∃ x ∈ l, minF p0 m l = p0 x.toNat
  | [], m => .inl rfl
  | a :: l, m => by
    have e : minF p0 m (a :: l) = minF p0 (if p0 a.toNat < m then p0 a.toNat else m) l := rfl
    rw [e]
    rcases minF_is p0 l (if p0 a.toNat < m then p0 a.toNat else m) with h | ⟨x, h1, h2⟩
    · rw [h]
      split
      · right; exact ⟨a, by simp, rfl⟩
      · left; rfl
    · right; exact ⟨x, by simp [h1], h2⟩
def leastF (p0 p1 : Nat → Int) : Int × Bool := if (listF p1 8).length = 0 then (0, false) else (minF p0 4294967295 (listF p1 8), true)
theorem least_eq (p0 p1 : Nat → Int) : round_Least p0 p1 = some (leastF p0 p1) := by
  have hl := listF_len p1 8
  unfold round_Least leastF
  rw [list_eq]
  simp only [Option.bind_some]
  by_cases h : (listF p1 8).length = 0
  · simp [h]
  · rw [if_neg (by simpa using h), if_neg h]
    rw [loop_seq (s0 := (4294967295, 0)) (fun n => (minF p0 4294967295 ((listF p1 8).take n), (n : Int))) (listF p1 8).length (w := .nx (minF p0 4294967295 (listF p1 8))) rfl (fun n hn => by
      have hn' : (n : Int) < ((listF p1 8).length : Int) := by omega
      have e1 : IntKind.i64.wrap ((n : Int) + 1) = ((n + 1 : Nat) : Int) := by rw [w64] <;> omega
      obtain ⟨j, hj, hj8, _⟩ := listF_in.1 (getD_in (d := (0 : Int)) hn)
      simp only [hn', decide_true, if_true, ib_n hn, Option.bind_some, Int.toNat_natCast, e1, lt]
      rw [take_s (d := 0) hn, minF_s, hj, ib_n hj8]; rfl) (by simp)]
    simp only [Option.bind_some, Fl.elim]
def memF (p1 : Nat → Int) (i : Int) : Bool := ((decide (i ≥ 0)) && (decide (i < 8))) && (p1 i.toNat != 0)
theorem member_eq (p1 : Nat → Int) (i : Int) : round_member p1 i = some (memF p1 i) := by
  unfold round_member
  rw [ibg_t (fun h => by simp at h; omega)]
  rfl
def aheadF (p0 p1 : Nat → Int) (p2 : api_Place) (n : Nat) : Bool := (List.range n).all fun j => !((p1 j != 0) && decide (p0 j < p2.Round))
theorem ahead_eq (p0 p1 : Nat → Int) (p2 : api_Place) (h0 : 0 ≤ p2.From) (h8 : p2.From < 8) : round_ahead p0 p1 p2 = some (aheadF p0 p1 p2 p2.From.toNat) := by
  unfold round_ahead
  rw [scan (fun j => (p1 j != 0) && decide (p0 j < p2.Round)) p2.From.toNat (fun n hn => by
    have hn' : (n : Int) < p2.From := by omega
    have hn8 : n < 8 := by omega
    have e1 : IntKind.i64.wrap ((n : Int) + 1) = ((n + 1 : Nat) : Int) := by rw [w64] <;> omega
    have ibt : ∀ g, ibg g (n : Int) 8 = some () := fun g => ibg_t (fun _ => by omega)
    simp only [hn', decide_true, if_true, ib_n hn8, ibt, Option.bind_some, Int.toNat_natCast, e1]) (by
    have : decide ((p2.From.toNat : Int) < p2.From) = false := decide_eq_false (by omega)
    simp only [this, Bool.false_eq_true, if_false])]
  have e : ((List.range p2.From.toNat).all fun j => !((p1 j != 0) && decide (p0 j < p2.Round))) = aheadF p0 p1 p2 p2.From.toNat := rfl
  rw [e]
  simp only [Option.bind_some]
  by_cases h : aheadF p0 p1 p2 p2.From.toNat = true
  · rw [if_pos h, h]; rfl
  · rw [if_neg h]; simp only [Bool.not_eq_true] at h; rw [h]; rfl
/-- All members stand at a round or behind it. -/
def fullF (p0 p1 : Nat → Int) (r : Int) : Bool := (listF p1 8).all fun x => !decide (p0 x.toNat < r)
theorem full_eq {p0 p1 : Nat → Int} (w0 : U32 p0) (w1 : U32 p1) (r : Int) : congressref09_Full p0 p1 r = some (fullF p0 p1 r) := by
  have hl := listF_len p1 8
  unfold congressref09_Full
  rw [rlist_eq w1]
  simp only [Option.bind_some]
  rw [seek (ρ := Bool) (listF p1 8) (fun x => decide (p0 x.toNat < r)) (fun _ => false) (fun n hn => by
    have hn' : (n : Int) < ((listF p1 8).length : Int) := by omega
    have e1 : IntKind.i64.wrap ((n : Int) + 1) = ((n + 1 : Nat) : Int) := by rw [w64] <;> omega
    obtain ⟨j, hj, hj8, _⟩ := listF_in.1 (getD_in (d := (0 : Int)) hn)
    have hw := wf_u32.1 (w0 j hj8)
    have e2 : IntKind.u64.wrap (p0 j) = p0 j := by rw [wu64]; omega
    simp only [hn', decide_true, if_true, ib_n hn, hj, ib_n hj8, Option.bind_some, Int.toNat_natCast, e1, e2]) (by simp)]
  simp only [Option.bind_some]
  have key : ∀ (l : _root_.List Int) (P : Int → Bool), (match l.find? P with | some x => (Fl.rt false : Fl Bool Unit) | none => .nx ()).elim (fun _ => some true) (fun r => some r) = some (l.all fun x => !P x) := by
    intro l P
    induction l with
    | nil => rfl
    | cons a l ih =>
      by_cases hP : P a = true
      · rw [List.find?_cons_of_pos hP]; simp [hP, Fl.elim]
      · rw [List.find?_cons_of_neg hP, ih]; simp only [Bool.not_eq_true] at hP; simp [hP]
  exact key _ _
theorem full_iff {p0 p1 : Nat → Int} {r : Int} : fullF p0 p1 r = true ↔ ∀ j, j < 8 → p1 j ≠ 0 → r ≤ p0 j := by
  simp only [fullF, List.all_eq_true, listF_in]
  constructor
  · intro h j hj hn
    have := h j ⟨j, rfl, hj, hn⟩
    simpa using this
  · rintro h x ⟨j, rfl, hj, hn⟩
    have := h j hj hn
    simpa using this
theorem len_pos {p1 : Nat → Int} {j : Nat} (hj : j < 8) (hn : p1 j ≠ 0) : (listF p1 8).length ≠ 0 := by
  have : (j : Int) ∈ listF p1 8 := listF_in.2 ⟨j, rfl, hj, hn⟩
  intro h
  rw [List.length_eq_zero_iff] at h
  rw [h] at this; cases this
/-- The least round, by what lies under it. -/
theorem least_le {p0 p1 : Nat → Int} (w0 : U32 p0) {j : Nat} (hj : j < 8) (hn : p1 j ≠ 0) (r : Int) : r ≤ (leastF p0 p1).1 ↔ ∀ i, i < 8 → p1 i ≠ 0 → r ≤ p0 i := by
  rw [leastF, if_neg (len_pos hj hn)]
  simp only [minF_le, listF_in]
  constructor
  · rintro ⟨_, h⟩ i hi hni
    have := h i ⟨i, rfl, hi, hni⟩
    simpa using this
  · intro h
    refine ⟨?_, ?_⟩
    · have := h j hj hn; have := wf_u32.1 (w0 j hj); omega
    · rintro x ⟨i, rfl, hi, hni⟩
      simpa using h i hi hni
theorem least_is {p0 p1 : Nat → Int} (w0 : U32 p0) {j : Nat} (hj : j < 8) (hn : p1 j ≠ 0) : ∃ i, i < 8 ∧ p1 i ≠ 0 ∧ (leastF p0 p1).1 = p0 i := by
  have h1 := (least_le w0 hj hn (leastF p0 p1).1).1 (Int.le_refl _) j hj hn
  rw [leastF, if_neg (len_pos hj hn)] at *
  simp only at *
  rcases minF_is p0 (listF p1 8) 4294967295 with h | ⟨x, hx, h⟩
  · exact ⟨j, hj, hn, by have := wf_u32.1 (w0 j hj); omega⟩
  · obtain ⟨i, rfl, hi, hni⟩ := listF_in.1 hx
    exact ⟨i, hi, hni, by simpa using h⟩
theorem least_mem {p0 p1 : Nat → Int} (w0 : U32 p0) {j : Nat} (hj : j < 8) (hn : p1 j ≠ 0) : (leastF p0 p1).1 ≤ p0 j := (least_le w0 hj hn _).1 (Int.le_refl _) j hj hn
theorem least_ge0 {p0 p1 : Nat → Int} (w0 : U32 p0) {j : Nat} (hj : j < 8) (hn : p1 j ≠ 0) : 0 ≤ (leastF p0 p1).1 :=
  (least_le w0 hj hn 0).2 fun i hi _ => (wf_u32.1 (w0 i hi)).1
/-- A place that can be asked for. -/
def askF (p0 p1 : Nat → Int) (p2 : api_Place) : Bool := (memF p1 p2.From && (p2.Round != 0)) && decide (p2.Round ≤ p0 p2.From.toNat)
def servF (p0 p1 : Nat → Int) (p2 : api_Place) (k : Int) : Bool :=
  askF p0 p1 p2 && (if k = 0 then true else if k = 1 then decide ((leastF p0 p1).1 ≥ p2.Round - 1) else if k = 2 then decide ((leastF p0 p1).1 ≥ p2.Round - 1) && aheadF p0 p1 p2 p2.From.toNat else if k = 3 then decide ((leastF p0 p1).1 > p2.Round) else false)
theorem memF_iff {p1 : Nat → Int} {i : Int} : memF p1 i = true ↔ 0 ≤ i ∧ i < 8 ∧ p1 i.toNat ≠ 0 := by
  simp only [memF, Bool.and_eq_true, decide_eq_true_eq, bne_iff_ne, ge_iff_le, and_assoc]
theorem askF_iff {p0 p1 : Nat → Int} {p2 : api_Place} : askF p0 p1 p2 = true ↔ 0 ≤ p2.From ∧ p2.From < 8 ∧ p1 p2.From.toNat ≠ 0 ∧ p2.Round ≠ 0 ∧ p2.Round ≤ p0 p2.From.toNat := by
  simp only [askF, Bool.and_eq_true, memF_iff, decide_eq_true_eq, bne_iff_ne, and_assoc]
theorem serv_eq (p0 p1 : Nat → Int) (p2 : api_Place) (k : Int) (w2 : (Lit.int .u32 p2.Round).wf = true) : round_Service p0 p1 p2 k = some (servF p0 p1 p2 k) := by
  have hr := wf_u32.1 w2
  unfold round_Service
  rw [member_eq]
  simp only [Option.bind_some]
  rw [ibg_t (fun h => by
    have : memF p1 p2.From = true := by
      simp only [Bool.not_or, Bool.not_not, Bool.and_eq_true] at h; exact h.1
    have := memF_iff.1 this; omega)]
  simp only [Option.bind_some, lt]
  have e : (((!memF p1 p2.From) || (p2.Round == 0)) || (decide (p2.Round > (p0 p2.From.toNat)))) = !askF p0 p1 p2 := by
    have : ∀ (m : Bool) (r x : Int), (((!m) || (r == 0)) || decide (r > x)) = !((m && (r != 0)) && decide (r ≤ x)) := by
      intro m r x
      have hb : decide (r > x) = !decide (r ≤ x) := by
        rw [Bool.eq_iff_iff]; simp only [decide_eq_true_eq, Bool.not_eq_true', decide_eq_false_iff_not]; omega
      have hc : (r != 0) = !(r == 0) := rfl
      rw [hb, hc]; cases m <;> cases (r == 0) <;> cases decide (r ≤ x) <;> rfl
    exact this _ _ _
  rw [e]
  by_cases ha : askF p0 p1 p2 = true
  · have ha' := askF_iff.1 ha
    have e1 : IntKind.u32.wrap (p2.Round - 1) = p2.Round - 1 := by rw [w32]; omega
    rw [if_neg (by simp [ha]), least_eq]
    simp only [Option.bind_some, e1, ahead_eq p0 p1 p2 ha'.1 ha'.2.1, servF, ha, Bool.true_and, beq_iff_eq]
    by_cases k0 : k = 0
    · rw [if_pos k0, if_pos k0]
    rw [if_neg k0, if_neg k0]
    by_cases k1 : k = 1
    · rw [if_pos k1, if_pos k1]
    rw [if_neg k1, if_neg k1]
    by_cases k2 : k = 2
    · rw [if_pos k2, if_pos k2]
      simp only [whn]
      by_cases hd : decide ((leastF p0 p1).1 ≥ p2.Round - 1) = true
      · rw [if_pos hd]; rfl
      · rw [if_neg hd]
        simp only [Bool.not_eq_true] at hd
        simp only [hd, Bool.false_and, Option.bind_some]
    rw [if_neg k2, if_neg k2]
    by_cases k3 : k = 3
    · rw [if_pos k3, if_pos k3]
    rw [if_neg k3, if_neg k3]
  · simp only [Bool.not_eq_true] at ha
    rw [if_pos (by simp [ha])]
    simp [servF, ha]
theorem rserv_eq {p0 p1 : Nat → Int} {p2 : api_Place} {k : Int} (w0 : U32 p0) (w1 : U32 p1) (w2 : (Lit.int .u32 p2.Round).wf = true) : congressref09_Service p0 p1 p2 k = some (servF p0 p1 p2 k) := by
  have hr := wf_u32.1 w2
  unfold congressref09_Service
  rw [ibg_t (fun h => by simp at h; omega), ibg_t (fun h => by simp at h; omega)]
  simp only [Option.bind_some, lt]
  have e : (((((((decide (p2.From < 0)) || (decide (p2.From > 7))) || ((p1 p2.From.toNat) == 0)) || (p2.Round == 0)) || (decide (p2.Round > (p0 p2.From.toNat)))) || (decide (k < 0))) || (decide (k > 3))) = !(askF p0 p1 p2 && decide (0 ≤ k ∧ k ≤ 3)) := by
    by_cases ha : askF p0 p1 p2 = true
    · have ha' := askF_iff.1 ha
      rw [ha, Bool.eq_iff_iff]
      simp only [Bool.true_and, Bool.or_eq_true, decide_eq_true_eq, beq_iff_eq, Bool.not_eq_true', decide_eq_false_iff_not]
      omega
    · have ha' : ¬ (0 ≤ p2.From ∧ p2.From < 8 ∧ p1 p2.From.toNat ≠ 0 ∧ p2.Round ≠ 0 ∧ p2.Round ≤ p0 p2.From.toNat) := fun h => ha (askF_iff.2 h)
      simp only [Bool.not_eq_true] at ha
      rw [ha, Bool.eq_iff_iff]
      simp only [Bool.false_and, Bool.not_false, Bool.or_eq_true, decide_eq_true_eq, beq_iff_eq, iff_true]
      omega
  rw [e]
  by_cases ha : askF p0 p1 p2 = true
  · have ha' := askF_iff.1 ha
    obtain ⟨f0, f8, fm, fr, fl⟩ := ha'
    have fm8 : p2.From.toNat < 8 := by omega
    have e0 : IntKind.u64.wrap p2.Round = p2.Round := by rw [wu64]; omega
    have e1 : IntKind.u64.wrap (p2.Round + 1) = p2.Round + 1 := by rw [wu64]; omega
    have e2 : IntKind.u64.wrap (p2.Round - 1) = p2.Round - 1 := by rw [wu64]; omega
    by_cases hk : 0 ≤ k ∧ k ≤ 3
    · rw [if_neg (by simp [ha, hk])]
      simp only [servF, ha, Bool.true_and, beq_iff_eq, full_eq w0 w1, e0, e1, e2, Option.bind_some]
      have g3 : fullF p0 p1 (p2.Round + 1) = decide ((leastF p0 p1).1 > p2.Round) := by
        rw [Bool.eq_iff_iff, full_iff, decide_eq_true_eq]
        have := least_le w0 fm8 fm (p2.Round + 1)
        constructor
        · intro h; have := this.2 h; omega
        · intro h; exact this.1 (by omega)
      have g1 : fullF p0 p1 (p2.Round - 1) = decide ((leastF p0 p1).1 ≥ p2.Round - 1) := by
        rw [Bool.eq_iff_iff, full_iff, decide_eq_true_eq]
        exact (least_le w0 fm8 fm (p2.Round - 1)).symm
      rw [g3, g1]
      by_cases k3 : k = 3
      · rw [if_pos k3]; simp [k3]
      rw [if_neg k3]
      by_cases k0 : k = 0
      · rw [if_pos k0, if_pos k0]
      rw [if_neg k0, if_neg k0]
      by_cases hd : decide ((leastF p0 p1).1 ≥ p2.Round - 1) = true
      · rw [if_neg (by simp [hd])]
        by_cases k2 : k = 2
        · rw [scan (fun j => (p1 j != 0) && decide (p0 j < p2.Round)) p2.From.toNat (fun n hn => by
            have hn' : (n : Int) < p2.From := by omega
            have hn8 : n < 8 := by omega
            have e1 : IntKind.i64.wrap ((n : Int) + 1) = ((n + 1 : Nat) : Int) := by rw [w64] <;> omega
            have ibt : ∀ g, ibg g (n : Int) 8 = some () := fun g => ibg_t (fun _ => by omega)
            simp only [hn', k2, decide_true, beq_self_eq_true, Bool.and_self, if_true, ib_n hn8, ibt, Option.bind_some, Int.toNat_natCast, e1]) (by
            have : decide ((p2.From.toNat : Int) < p2.From) = false := decide_eq_false (by omega)
            simp only [this, Bool.false_and, Bool.false_eq_true, if_false])]
          have ee : ((List.range p2.From.toNat).all fun j => !((p1 j != 0) && decide (p0 j < p2.Round))) = aheadF p0 p1 p2 p2.From.toNat := rfl
          have k1 : ¬ k = 1 := by omega
          rw [ee, if_neg k1, if_pos k2, hd]
          simp only [Option.bind_some, Bool.true_and]
          by_cases h : aheadF p0 p1 p2 p2.From.toNat = true
          · rw [if_pos h, h]; rfl
          · rw [if_neg h]; simp only [Bool.not_eq_true] at h; rw [h]; rfl
        · have k1 : k = 1 := by omega
          rw [loop_dn (s := 0) (w := .nx ()) (by simp [k2]), if_pos k1, hd]; rfl
      · rw [if_pos (by simpa using hd)]
        simp only [Bool.not_eq_true] at hd
        rw [hd]
        by_cases k1 : k = 1
        · rw [if_pos k1]
        · have k2 : k = 2 := by omega
          rw [if_neg k1, if_pos k2]; rfl
    · rw [if_pos (by simp [ha]; omega)]
      simp only [servF, ha, Bool.true_and]
      have k0 : ¬ k = 0 := by omega
      have k1 : ¬ k = 1 := by omega
      have k2 : ¬ k = 2 := by omega
      have k3 : ¬ k = 3 := by omega
      rw [if_neg k0, if_neg k1, if_neg k2, if_neg k3]
  · simp only [Bool.not_eq_true] at ha
    rw [if_pos (by simp [ha])]
    simp [servF, ha]
theorem s3 (p0 p1 : Nat → Int) (p2 : api_Place) : servF p0 p1 p2 3 = (askF p0 p1 p2 && decide ((leastF p0 p1).1 > p2.Round)) := rfl
theorem s2 (p0 p1 : Nat → Int) (p2 : api_Place) : servF p0 p1 p2 2 = (askF p0 p1 p2 && (decide ((leastF p0 p1).1 ≥ p2.Round - 1) && aheadF p0 p1 p2 p2.From.toNat)) := rfl
theorem s1 (p0 p1 : Nat → Int) (p2 : api_Place) : servF p0 p1 p2 1 = (askF p0 p1 p2 && decide ((leastF p0 p1).1 ≥ p2.Round - 1)) := rfl
theorem s0 (p0 p1 : Nat → Int) (p2 : api_Place) : servF p0 p1 p2 0 = (askF p0 p1 p2 && true) := rfl
theorem ahead_iff {p0 p1 : Nat → Int} {p2 : api_Place} {n : Nat} : aheadF p0 p1 p2 n = true ↔ ∀ j, j < n → p1 j ≠ 0 → p2.Round ≤ p0 j := by
  simp only [aheadF, List.all_eq_true, List.mem_range]
  constructor
  · intro h j hj hn
    have := h j hj
    simpa [hn] using this
  · intro h j hj
    by_cases hn : p1 j = 0
    · simp [hn]
    · have := h j hj hn
      simpa [hn] using this
theorem serv32 {p0 p1 : Nat → Int} {p2 : api_Place} (w0 : U32 p0) (h : servF p0 p1 p2 3 = true) : servF p0 p1 p2 2 = true := by
  rw [s3, Bool.and_eq_true, decide_eq_true_eq] at h
  obtain ⟨ha, h⟩ := h
  obtain ⟨f0, f8, fm, fr, fl⟩ := askF_iff.1 ha
  rw [s2, ha, Bool.true_and, Bool.and_eq_true, decide_eq_true_eq, ahead_iff]
  refine ⟨by omega, fun j hj hn => ?_⟩
  have := least_mem (p1 := p1) w0 (show j < 8 by omega) hn
  omega
theorem serv21 {p0 p1 : Nat → Int} {p2 : api_Place} (h : servF p0 p1 p2 2 = true) : servF p0 p1 p2 1 = true := by
  rw [s2, Bool.and_eq_true, Bool.and_eq_true] at h
  rw [s1, h.1, h.2.1]; rfl
theorem serv10 {p0 p1 : Nat → Int} {p2 : api_Place} (h : servF p0 p1 p2 1 = true) : servF p0 p1 p2 0 = true := by
  rw [s1, Bool.and_eq_true] at h
  rw [s0, h.1]; rfl
theorem servN {p0 p1 : Nat → Int} {p2 : api_Place} : servF p0 p1 p2 (-1) = false ∧ servF p0 p1 p2 4 = false := by
  constructor <;> simp [servF]
theorem bef_iff {a b : api_Place} : befF a b = true ↔ a.Round < b.Round ∨ (a.Round = b.Round ∧ (a.From < b.From ∨ (a.From = b.From ∧ a.Slot < b.Slot))) := by
  unfold befF; rw [decide_eq_true_eq]
theorem bef_trans {a b c : api_Place} (h1 : befF a b = true) (h2 : befF b c = true) : befF a c = true := by
  rw [bef_iff] at *; omega
theorem bef_tri (a b : api_Place) : befF a b = true ∨ befF b a = true ∨ a = b := by
  have e : a = b ↔ a.Round = b.Round ∧ a.From = b.From ∧ a.Slot = b.Slot := by cases a; cases b; simp
  rw [bef_iff, bef_iff, e]; omega
end Go.Proofs.Ytclblogdciebnaa.R9
