/- What chapter 12's smaller functions answer, in closed form. Conditions: none. -/
import Derived.Test.YteajgbkgijaebaaIn
import Derived.Test.YteajgbkgijaebaaEngR
set_option linter.unusedVariables false
set_option linter.unusedSimpArgs false
namespace Go.Proofs.Yteajgbkgijaebaa
open Go.Eng
theorem all8 {x y : Nat → Int} : b_a8_u32 x y = true ↔ ∀ j, j < 8 → x j = y j := by
  simp [b_a8_u32, List.all_eq_true, List.mem_range]
theorem brefl8 (x : Nat → Int) : b_a8_u32 x x = true := all8.2 fun _ _ => rfl
def cmpI (a b : Int) : Int := if a < b then -1 else if a > b then 1 else 0
theorem cmpu_eq (a b : Int) : cmp_Compare_uint32 a b = some (cmpI a b) := by
  simp only [cmp_Compare_uint32, cmp_isNaN_uint32, Option.bind_some, bne_self_eq_false, Bool.false_eq_true, if_false, decide_eq_true_eq, cmpI]
  split
  · rfl
  · split <;> rfl
theorem or_eq (a b c : Int) : cmp_Or_int [a, b, c] = some (if a ≠ 0 then a else if b ≠ 0 then b else c) := by
  have e1 : IntKind.i64.wrap 1 = 1 := by rw [w64] <;> omega
  have e2 : IntKind.i64.wrap 2 = 2 := by rw [w64] <;> omega
  have e3 : IntKind.i64.wrap 3 = 3 := by rw [w64] <;> omega
  unfold cmp_Or_int
  by_cases ha : a = 0
  · rw [loop_nx (s := 0) (s' := 1) (by simp [ib, ha, e1])]
    by_cases hb : b = 0
    · rw [loop_nx (s := 1) (s' := 2) (by simp [ib, hb, e2])]
      by_cases hc : c = 0
      · rw [loop_nx (s := 2) (s' := 3) (by simp [ib, hc, e3]), loop_dn (s := 3) (w := .nx ()) (by simp)]
        simp [ha, hb, hc, Fl.elim]
      · rw [loop_dn (s := 2) (w := .rt c) (by simp [ib, hc])]
        simp [ha, hb, Fl.elim]
    · rw [loop_dn (s := 1) (w := .rt b) (by simp [ib, hb])]
      simp [ha, hb, Fl.elim]
  · rw [loop_dn (s := 0) (w := .rt a) (by simp [ib, ha])]
    simp [ha, Fl.elim]
def cmpId (p q : api_Id) : Int := if cmpI p.Epoch q.Epoch ≠ 0 then cmpI p.Epoch q.Epoch else if cmpI p.Coord q.Coord ≠ 0 then cmpI p.Coord q.Coord else cmpI p.Inc q.Inc
theorem cmp_eq (p q : api_Id) : ident_Compare p q = some (cmpId p q) := by
  simp only [ident_Compare, cmpu_eq, or_eq, Option.bind_some, cmpId]
theorem cmpI_lt {a b : Int} : cmpI a b < 0 ↔ a < b := by unfold cmpI; split; omega; split <;> omega
theorem cmpI_gt {a b : Int} : cmpI a b > 0 ↔ a > b := by unfold cmpI; split; omega; split <;> omega
theorem cmpI_z {a b : Int} : cmpI a b = 0 ↔ a = b := by unfold cmpI; split; omega; split <;> omega
theorem cmpI_r (a b : Int) : cmpI a b = -1 ∨ cmpI a b = 0 ∨ cmpI a b = 1 := by unfold cmpI; split; omega; split <;> omega
theorem cmpI_n (a b : Int) : cmpI a b = - cmpI b a := by unfold cmpI; split <;> split <;> (try split) <;> omega
theorem cmp_gt {p q : api_Id} : cmpId p q > 0 ↔ p.Epoch > q.Epoch ∨ (p.Epoch = q.Epoch ∧ (p.Coord > q.Coord ∨ (p.Coord = q.Coord ∧ p.Inc > q.Inc))) := by
  have h1 := @cmpI_gt p.Epoch q.Epoch; have h2 := @cmpI_z p.Epoch q.Epoch
  have h3 := @cmpI_gt p.Coord q.Coord; have h4 := @cmpI_z p.Coord q.Coord
  have h5 := @cmpI_gt p.Inc q.Inc
  unfold cmpId; split
  · omega
  · split <;> omega
theorem cmp_lt {p q : api_Id} : cmpId p q < 0 ↔ p.Epoch < q.Epoch ∨ (p.Epoch = q.Epoch ∧ (p.Coord < q.Coord ∨ (p.Coord = q.Coord ∧ p.Inc < q.Inc))) := by
  have h1 := @cmpI_lt p.Epoch q.Epoch; have h2 := @cmpI_z p.Epoch q.Epoch
  have h3 := @cmpI_lt p.Coord q.Coord; have h4 := @cmpI_z p.Coord q.Coord
  have h5 := @cmpI_lt p.Inc q.Inc
  unfold cmpId; split
  · omega
  · split <;> omega
theorem cmp_z {p q : api_Id} : cmpId p q = 0 ↔ p = q := by
  have h2 := @cmpI_z p.Epoch q.Epoch
  have h4 := @cmpI_z p.Coord q.Coord
  have h6 := @cmpI_z p.Inc q.Inc
  have e : p = q ↔ p.Epoch = q.Epoch ∧ p.Coord = q.Coord ∧ p.Inc = q.Inc := by
    cases p; cases q; simp
  rw [e]
  unfold cmpId; split
  · omega
  · split <;> omega
theorem cmp_r (p q : api_Id) : cmpId p q = -1 ∨ cmpId p q = 0 ∨ cmpId p q = 1 := by
  have h2 := cmpI_r p.Epoch q.Epoch
  have h4 := cmpI_r p.Coord q.Coord
  have h6 := cmpI_r p.Inc q.Inc
  unfold cmpId; split
  · omega
  · split <;> omega
theorem cmp_n (p q : api_Id) : cmpId p q = - cmpId q p := by
  have h1 := cmp_r p q; have h2 := cmp_r q p
  have h3 := @cmp_lt p q; have h4 := @cmp_gt q p; have h5 := @cmp_gt p q; have h6 := @cmp_lt q p
  have h7 : cmpId p q > 0 ↔ cmpId q p < 0 := by rw [h5, h6]; omega
  have h8 : cmpId p q < 0 ↔ cmpId q p > 0 := by rw [h3, h4]; omega
  omega
theorem beqId {p q : api_Id} : b_api_Id p q = true ↔ p = q := by
  cases p; cases q; simp [b_api_Id]
theorem breflId (p : api_Id) : b_api_Id p p = true := beqId.2 rfl

def listF (f : Nat → Int) (n : Nat) : _root_.List Int := ((List.range n).filter fun j => f j != 0).map fun (j : Nat) => (j : Int)
theorem listF_s (f : Nat → Int) (n : Nat) : listF f (n + 1) = if f n ≠ 0 then listF f n ++ [(n : Int)] else listF f n := by
  unfold listF
  rw [List.range_succ, List.filter_append, List.map_append]
  by_cases h : f n = 0 <;> simp [h]
theorem listF_len (f : Nat → Int) (n : Nat) : (listF f n).length ≤ n := by
  unfold listF
  rw [List.length_map]
  exact Nat.le_trans (List.length_filter_le _ _) (by simp)
theorem fit_t {n b : Nat} (h : n ≤ 1000000) (hb : b ≤ 100) : fit n b = some () := by
  unfold fit
  rw [if_pos]
  refine ⟨by unfold maxLen; omega, ?_⟩
  have : n * b ≤ 1000000 * 100 := Nat.mul_le_mul h hb
  omega
theorem list_eq (f : Nat → Int) : ident_List f = some (listF f 8) := by
  unfold ident_List
  rw [loop_seq (s0 := (0, ([] : _root_.List Int))) (fun n => ((n : Int), listF f n)) 8 (w := .nx (listF f 8)) rfl (fun n hn => by
    have hn' : (n : Int) < 8 := by omega
    have e1 : IntKind.i64.wrap ((n : Int) + 1) = ((n + 1 : Nat) : Int) := by rw [w64] <;> omega
    have hl := listF_len f n
    simp only [hn', decide_true, if_true, jn, ib_n hn, Option.bind_some, Int.toNat_natCast, e1]
    rw [fit_t (by simp; omega) (by omega), listF_s]
    by_cases h : f n = 0 <;> simp [h]) (by simp)]
  simp only [Option.bind_some, Fl.elim]
theorem rlist_eq {f : Nat → Int} (w : ∀ j, j < 8 → (Lit.int .u32 (f j)).wf = true) : congressref07_List f = some (listF f 8) := by
  unfold congressref07_List
  rw [loop_seq (s0 := (0, ([] : _root_.List Int))) (fun n => ((n : Int), listF f n)) 8 (w := .nx (listF f 8)) rfl (fun n hn => by
    have hn' : (n : Int) < 8 := by omega
    have e1 : IntKind.i64.wrap ((n : Int) + 1) = ((n + 1 : Nat) : Int) := by rw [w64] <;> omega
    have hl := listF_len f n
    have hw := wf_u32.1 (w n hn)
    simp only [hn', decide_true, if_true, jn, ib_n hn, Option.bind_some, Int.toNat_natCast, e1]
    rw [fit_t (by simp; omega) (by omega), listF_s]
    by_cases h : f n = 0
    · simp [h]
    · rw [if_pos (by simp; omega), if_pos h]; rfl) (by simp)]
  simp only [Option.bind_some, Fl.elim]
def leastF (f : Nat → Int) : Int × Bool := if (listF f 8).length = 0 then (0, false) else ((listF f 8).getD 0 0, true)
theorem least_eq (f : Nat → Int) : ident_Least f = some (leastF f) := by
  unfold ident_Least leastF
  rw [list_eq]
  simp only [Option.bind_some]
  by_cases h : (listF f 8).length = 0
  · simp [h]
  · rw [if_neg (by simpa using h), if_neg h, ib_t (by omega) (by omega)]; rfl
def hasF (f : Nat → Int) (i v : Int) : Bool := ((((decide (i ≥ 0)) && (decide (i < 8))) && (v != 0)) && (f i.toNat == v))
theorem has_eq (f : Nat → Int) (i v : Int) : ident_Has f i v = some (hasF f i v) := by
  unfold ident_Has
  rw [ibg_t (by simp; omega)]; rfl
theorem rcmp_eq (p q : api_Id) : congressref07_Compare p q = some (cmpId p q) := by
  have e1 : IntKind.i64.wrap 1 = 1 := by rw [w64] <;> omega
  have e2 : IntKind.i64.wrap 2 = 2 := by rw [w64] <;> omega
  have e3 : IntKind.i64.wrap 3 = 3 := by rw [w64] <;> omega
  have c1 : ∀ a b : Int, cmpI a b = if a < b then -1 else if a > b then 1 else 0 := fun _ _ => rfl
  have a0 : ∀ p : api_Id, aset (fun _ => (0 : Int)) [(0, p.Epoch), (1, p.Coord), (2, p.Inc)] 0 = p.Epoch := fun _ => rfl
  have a1 : ∀ p : api_Id, aset (fun _ => (0 : Int)) [(0, p.Epoch), (1, p.Coord), (2, p.Inc)] 1 = p.Coord := fun _ => rfl
  have a2 : ∀ p : api_Id, aset (fun _ => (0 : Int)) [(0, p.Epoch), (1, p.Coord), (2, p.Inc)] 2 = p.Inc := fun _ => rfl
  have t1 : (1 : Int).toNat = 1 := rfl
  have t2 : (2 : Int).toNat = 2 := rfl
  unfold congressref07_Compare
  simp only [congressref07_three, Option.bind_some]
  by_cases h1 : p.Epoch < q.Epoch
  · rw [loop_dn (s := 0) (w := .rt (-1)) (by simp [ib, a0, h1])]; simp [h1, Fl.elim, cmpId, c1]
  by_cases h2 : p.Epoch > q.Epoch
  · rw [loop_dn (s := 0) (w := .rt 1) (by simp [ib, a0, h1, h2])]; simp [h1, h2, Fl.elim, cmpId, c1]
  rw [loop_nx (s := 0) (s' := 1) (by simp [ib, a0, h1, h2, e1])]
  by_cases h3 : p.Coord < q.Coord
  · rw [loop_dn (s := 1) (w := .rt (-1)) (by simp [ib, a1, t1, h3])]; simp [h1, h2, h3, Fl.elim, cmpId, c1]
  by_cases h4 : p.Coord > q.Coord
  · rw [loop_dn (s := 1) (w := .rt 1) (by simp [ib, a1, t1, h3, h4])]; simp [h1, h2, h3, h4, Fl.elim, cmpId, c1]
  rw [loop_nx (s := 1) (s' := 2) (by simp [ib, a1, t1, h3, h4, e2])]
  by_cases h5 : p.Inc < q.Inc
  · rw [loop_dn (s := 2) (w := .rt (-1)) (by simp [ib, a2, t2, h5])]; simp [h1, h2, h3, h4, h5, Fl.elim, cmpId, c1]
  by_cases h6 : p.Inc > q.Inc
  · rw [loop_dn (s := 2) (w := .rt 1) (by simp [ib, a2, t2, h5, h6])]; simp [h1, h2, h3, h4, h5, h6, Fl.elim, cmpId, c1]
  rw [loop_nx (s := 2) (s' := 3) (by simp [ib, a2, t2, h5, h6, e3]), loop_dn (s := 3) (w := .nx ()) (by simp)]
  simp [h1, h2, h3, h4, h5, h6, Fl.elim, cmpId, c1]
theorem le_iff {p q : api_Id} : cmpId p q ≤ 0 ↔ p.Epoch < q.Epoch ∨ (p.Epoch = q.Epoch ∧ (p.Coord < q.Coord ∨ (p.Coord = q.Coord ∧ p.Inc ≤ q.Inc))) := by
  have h := @cmp_gt p q
  constructor
  · intro h1
    have h2 : ¬ (p.Epoch > q.Epoch ∨ (p.Epoch = q.Epoch ∧ (p.Coord > q.Coord ∨ (p.Coord = q.Coord ∧ p.Inc > q.Inc)))) := fun h3 => by have := h.2 h3; omega
    clear h; omega
  · intro h1
    have h2 : ¬ (p.Epoch > q.Epoch ∨ (p.Epoch = q.Epoch ∧ (p.Coord > q.Coord ∨ (p.Coord = q.Coord ∧ p.Inc > q.Inc)))) := by clear h; omega
    have h3 : ¬ cmpId p q > 0 := fun h4 => h2 (h.1 h4)
    omega
theorem le_trans' {p q r : api_Id} (h1 : cmpId p q ≤ 0) (h2 : cmpId q r ≤ 0) : cmpId p r ≤ 0 := by
  rw [le_iff] at *; omega
end Go.Proofs.Yteajgbkgijaebaa
