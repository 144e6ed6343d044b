/- What the functions of chapter 07 answer, in closed form, and its pure laws. Conditions: none. -/
import Derived.Test.YthkgpbjgkchilaaIn
import Derived.Test.YthkgpbjgkchilaaEngR
set_option linter.unusedVariables false
set_option linter.unusedSimpArgs false
namespace Go.Proofs.Ythkgpbjgkchilaa
open Go.Eng
theorem all8 {x y : Nat → Int} : b_a8_u32 x y = true ↔ ∀ j, j < 8 → x j = y j := by
  simp [b_a8_u32, List.all_eq_true, List.mem_range]
theorem brefl8 (x : Nat → Int) : b_a8_u32 x x = true := all8.2 fun _ _ => rfl
def cmpI (a b : Int) : Int := if a < b then -1 else if a > b then 1 else 0
theorem cmpu_eq (a b : Int) : cmp_Compare_uint32 a b = some (cmpI a b) := by
  simp only [cmp_Compare_uint32, cmp_isNaN_uint32, Option.bind_some, bne_self_eq_false, Bool.false_eq_true, if_false, decide_eq_true_eq, cmpI]
  split
  · rfl
  · split <;> rfl
theorem or_eq (a b c : Int) : cmp_Or_int [a, b, c] = some (if a ≠ 0 then a else if b ≠ 0 then b else c) := by
  have e1 : IntKind.i64.wrap 1 = 1 := by rw [w64] <;> omega
  have e2 : IntKind.i64.wrap 2 = 2 := by rw [w64] <;> omega
  have e3 : IntKind.i64.wrap 3 = 3 := by rw [w64] <;> omega
  unfold cmp_Or_int
  by_cases ha : a = 0
  · rw [loop_nx (s := 0) (s' := 1) (by simp [ib, ha, e1])]
    by_cases hb : b = 0
    · rw [loop_nx (s := 1) (s' := 2) (by simp [ib, hb, e2])]
      by_cases hc : c = 0
      · rw [loop_nx (s := 2) (s' := 3) (by simp [ib, hc, e3]), loop_dn (s := 3) (w := .nx ()) (by simp)]
        simp [ha, hb, hc, Fl.elim]
      · rw [loop_dn (s := 2) (w := .rt c) (by simp [ib, hc])]
        simp [ha, hb, Fl.elim]
    · rw [loop_dn (s := 1) (w := .rt b) (by simp [ib, hb])]
      simp [ha, hb, Fl.elim]
  · rw [loop_dn (s := 0) (w := .rt a) (by simp [ib, ha])]
    simp [ha, Fl.elim]
def cmpId (p q : api_Id) : Int := if cmpI p.Epoch q.Epoch ≠ 0 then cmpI p.Epoch q.Epoch else if cmpI p.Coord q.Coord ≠ 0 then cmpI p.Coord q.Coord else cmpI p.Inc q.Inc
theorem cmp_eq (p q : api_Id) : ident_Compare p q = some (cmpId p q) := by
  simp only [ident_Compare, cmpu_eq, or_eq, Option.bind_some, cmpId]
theorem cmpI_lt {a b : Int} : cmpI a b < 0 ↔ a < b := by unfold cmpI; split; omega; split <;> omega
theorem cmpI_gt {a b : Int} : cmpI a b > 0 ↔ a > b := by unfold cmpI; split; omega; split <;> omega
theorem cmpI_z {a b : Int} : cmpI a b = 0 ↔ a = b := by unfold cmpI; split; omega; split <;> omega
theorem cmpI_r (a b : Int) : cmpI a b = -1 ∨ cmpI a b = 0 ∨ cmpI a b = 1 := by unfold cmpI; split; omega; split <;> omega
theorem cmpI_n (a b : Int) : cmpI a b = - cmpI b a := by unfold cmpI; split <;> split <;> (try split) <;> omega
theorem cmp_gt {p q : api_Id} : cmpId p q > 0 ↔ p.Epoch > q.Epoch ∨ (p.Epoch = q.Epoch ∧ (p.Coord > q.Coord ∨ (p.Coord = q.Coord ∧ p.Inc > q.Inc))) := by
  have h1 := @cmpI_gt p.Epoch q.Epoch; have h2 := @cmpI_z p.Epoch q.Epoch
  have h3 := @cmpI_gt p.Coord q.Coord; have h4 := @cmpI_z p.Coord q.Coord
  have h5 := @cmpI_gt p.Inc q.Inc
  unfold cmpId; split
  · omega
  · split <;> omega
theorem cmp_lt {p q : api_Id} : cmpId p q < 0 ↔ p.Epoch < q.Epoch ∨ (p.Epoch = q.Epoch ∧ (p.Coord < q.Coord ∨ (p.Coord = q.Coord ∧ p.Inc < q.Inc))) := by
  have h1 := @cmpI_lt p.Epoch q.Epoch; have h2 := @cmpI_z p.Epoch q.Epoch
  have h3 := @cmpI_lt p.Coord q.Coord; have h4 := @cmpI_z p.Coord q.Coord
  have h5 := @cmpI_lt p.Inc q.Inc
  unfold cmpId; split
  · omega
  · split <;> omega
theorem cmp_z {p q : api_Id} : cmpId p q = 0 ↔ p = q := by
  have h2 := @cmpI_z p.Epoch q.Epoch
  have h4 := @cmpI_z p.Coord q.Coord
  have h6 := @cmpI_z p.Inc q.Inc
  have e : p = q ↔ p.Epoch = q.Epoch ∧ p.Coord = q.Coord ∧ p.Inc = q.Inc := by
    cases p; cases q; simp
  rw [e]
  unfold cmpId; split
  · omega
  · split <;> omega
theorem cmp_r (p q : api_Id) : cmpId p q = -1 ∨ cmpId p q = 0 ∨ cmpId p q = 1 := by
  have h2 := cmpI_r p.Epoch q.Epoch
  have h4 := cmpI_r p.Coord q.Coord
  have h6 := cmpI_r p.Inc q.Inc
  unfold cmpId; split
  · omega
  · split <;> omega
theorem cmp_n (p q : api_Id) : cmpId p q = - cmpId q p := by
  have h1 := cmp_r p q; have h2 := cmp_r q p
  have h3 := @cmp_lt p q; have h4 := @cmp_gt q p; have h5 := @cmp_gt p q; have h6 := @cmp_lt q p
  have h7 : cmpId p q > 0 ↔ cmpId q p < 0 := by rw [h5, h6]; omega
  have h8 : cmpId p q < 0 ↔ cmpId q p > 0 := by rw [h3, h4]; omega
  omega
theorem beqId {p q : api_Id} : b_api_Id p q = true ↔ p = q := by
  cases p; cases q; simp [b_api_Id]
theorem breflId (p : api_Id) : b_api_Id p p = true := beqId.2 rfl

def listF (f : Nat → Int) (n : Nat) : _root_.List Int := ((List.range n).filter fun j => f j != 0).map fun (j : Nat) => (j : Int)
theorem listF_s (f : Nat → Int) (n : Nat) : listF f (n + 1) = if f n ≠ 0 then listF f n ++ [(n : Int)] else listF f n := by
  unfold listF
  rw [List.range_succ, List.filter_append, List.map_append]
  by_cases h : f n = 0 <;> simp [h]
theorem listF_len (f : Nat → Int) (n : Nat) : (listF f n).length ≤ n := by
  unfold listF
  rw [List.length_map]
  exact Nat.le_trans (List.length_filter_le _ _) (by simp)
theorem fit_t {n b : Nat} (h : n ≤ 1000000) (hb : b ≤ 100) : fit n b = some () := by
  unfold fit
  rw [if_pos]
  refine ⟨by unfold maxLen; omega, ?_⟩
  have : n * b ≤ 1000000 * 100 := Nat.mul_le_mul h hb
  omega
theorem list_eq (f : Nat → Int) : ident_List f = some (listF f 8) := by
  unfold ident_List
  rw [loop_seq (s0 := (0, ([] : _root_.List Int))) (fun n => ((n : Int), listF f n)) 8 (w := .nx (listF f 8)) rfl (fun n hn => by
    have hn' : (n : Int) < 8 := by omega
    have e1 : IntKind.i64.wrap ((n : Int) + 1) = ((n + 1 : Nat) : Int) := by rw [w64] <;> omega
    have hl := listF_len f n
    simp only [hn', decide_true, if_true, jn, ib_n hn, Option.bind_some, Int.toNat_natCast, e1]
    rw [fit_t (by simp; omega) (by omega), listF_s]
    by_cases h : f n = 0 <;> simp [h]) (by simp)]
  simp only [Option.bind_some, Fl.elim]
theorem rlist_eq {f : Nat → Int} (w : ∀ j, j < 8 → (Lit.int .u32 (f j)).wf = true) : congressref07_List f = some (listF f 8) := by
  unfold congressref07_List
  rw [loop_seq (s0 := (0, ([] : _root_.List Int))) (fun n => ((n : Int), listF f n)) 8 (w := .nx (listF f 8)) rfl (fun n hn => by
    have hn' : (n : Int) < 8 := by omega
    have e1 : IntKind.i64.wrap ((n : Int) + 1) = ((n + 1 : Nat) : Int) := by rw [w64] <;> omega
    have hl := listF_len f n
    have hw := wf_u32.1 (w n hn)
    simp only [hn', decide_true, if_true, jn, ib_n hn, Option.bind_some, Int.toNat_natCast, e1]
    rw [fit_t (by simp; omega) (by omega), listF_s]
    by_cases h : f n = 0
    · simp [h]
    · rw [if_pos (by simp; omega), if_pos h]; rfl) (by simp)]
  simp only [Option.bind_some, Fl.elim]
def leastF (f : Nat → Int) : Int × Bool := if (listF f 8).length = 0 then (0, false) else ((listF f 8).getD 0 0, true)
theorem least_eq (f : Nat → Int) : ident_Least f = some (leastF f) := by
  unfold ident_Least leastF
  rw [list_eq]
  simp only [Option.bind_some]
  by_cases h : (listF f 8).length = 0
  · simp [h]
  · rw [if_neg (by simpa using h), if_neg h, ib_t (by omega) (by omega)]; rfl
theorem many_eq (f : Nat → Int) : ident_Many f = some ((listF f 8).length : Int) := by
  unfold ident_Many; rw [list_eq]; rfl
def hasF (f : Nat → Int) (i v : Int) : Bool := ((((decide (i ≥ 0)) && (decide (i < 8))) && (v != 0)) && (f i.toNat == v))
theorem has_eq (f : Nat → Int) (i v : Int) : ident_Has f i v = some (hasF f i v) := by
  unfold ident_Has
  rw [ibg_t (by simp; omega)]; rfl
def sameF (p q : Nat → Int) (n : Nat) : Nat → Int := fun j => if j < n ∧ p j = q j then p j else 0
theorem sameF_s {p q : Nat → Int} {n : Nat} : sameF p q (n + 1) = if p n = q n then aupd (sameF p q n) n (p n) else sameF p q n := by
  funext j
  by_cases h : p n = q n
  · rw [if_pos h]
    by_cases hj : j = n
    · subst hj; simp [sameF, aupd, h]
    · have : j < n + 1 ↔ j < n := by omega
      simp [sameF, aupd, hj, this]
  · rw [if_neg h]
    by_cases hj : j = n
    · subst hj; simp [sameF, h]
    · have : j < n + 1 ↔ j < n := by omega
      simp [sameF, this]
theorem same_eq (p q : Nat → Int) : ident_Same p q = some (sameF p q 8) := by
  unfold ident_Same
  rw [loop_seq (s0 := (0, fun _ => 0)) (fun n => ((n : Int), sameF p q n)) 8 (w := .nx (sameF p q 8)) (Prod.ext rfl (funext fun j => by simp [sameF])) (fun n hn => by
    have hn' : (n : Int) < 8 := by omega
    have e1 : IntKind.i64.wrap ((n : Int) + 1) = ((n + 1 : Nat) : Int) := by rw [w64] <;> omega
    simp only [hn', decide_true, if_true, jn, ib_n hn, Option.bind_some, Int.toNat_natCast, e1]
    rw [sameF_s]
    by_cases h : p n = q n
    · simp [h]
    · rw [if_neg (by simpa using Ne.symm h), if_neg h]) (by simp)]
  simp only [Option.bind_some, Fl.elim]
theorem rsame_eq (p q : Nat → Int) : congressref07_Same p q = some (sameF p q 8) := by
  unfold congressref07_Same
  rw [loop_seq (s0 := (0, aset (fun _ => 0) [])) (fun n => ((n : Int), sameF p q n)) 8 (w := .nx (sameF p q 8)) (Prod.ext rfl (funext fun j => by simp [sameF, aset])) (fun n hn => by
    have hn' : (n : Int) < 8 := by omega
    have e1 : IntKind.i64.wrap ((n : Int) + 1) = ((n + 1 : Nat) : Int) := by rw [w64] <;> omega
    simp only [hn', decide_true, if_true, jn, ib_n hn, Option.bind_some, Int.toNat_natCast, e1]
    rw [sameF_s]
    by_cases h : p n = q n
    · simp [h]
    · rw [if_neg (by simpa using h), if_neg h]) (by simp)]
  simp only [Option.bind_some, Fl.elim]
theorem rcmp_eq (p q : api_Id) : congressref07_Compare p q = some (cmpId p q) := by
  have e1 : IntKind.i64.wrap 1 = 1 := by rw [w64] <;> omega
  have e2 : IntKind.i64.wrap 2 = 2 := by rw [w64] <;> omega
  have e3 : IntKind.i64.wrap 3 = 3 := by rw [w64] <;> omega
  have c1 : ∀ a b : Int, cmpI a b = if a < b then -1 else if a > b then 1 else 0 := fun _ _ => rfl
  have a0 : ∀ p : api_Id, aset (fun _ => (0 : Int)) [(0, p.Epoch), (1, p.Coord), (2, p.Inc)] 0 = p.Epoch := fun _ => rfl
  have a1 : ∀ p : api_Id, aset (fun _ => (0 : Int)) [(0, p.Epoch), (1, p.Coord), (2, p.Inc)] 1 = p.Coord := fun _ => rfl
  have a2 : ∀ p : api_Id, aset (fun _ => (0 : Int)) [(0, p.Epoch), (1, p.Coord), (2, p.Inc)] 2 = p.Inc := fun _ => rfl
  have t1 : (1 : Int).toNat = 1 := rfl
  have t2 : (2 : Int).toNat = 2 := rfl
  unfold congressref07_Compare
  simp only [congressref07_three, Option.bind_some]
  by_cases h1 : p.Epoch < q.Epoch
  · rw [loop_dn (s := 0) (w := .rt (-1)) (by simp [ib, a0, h1])]; simp [h1, Fl.elim, cmpId, c1]
  by_cases h2 : p.Epoch > q.Epoch
  · rw [loop_dn (s := 0) (w := .rt 1) (by simp [ib, a0, h1, h2])]; simp [h1, h2, Fl.elim, cmpId, c1]
  rw [loop_nx (s := 0) (s' := 1) (by simp [ib, a0, h1, h2, e1])]
  by_cases h3 : p.Coord < q.Coord
  · rw [loop_dn (s := 1) (w := .rt (-1)) (by simp [ib, a1, t1, h3])]; simp [h1, h2, h3, Fl.elim, cmpId, c1]
  by_cases h4 : p.Coord > q.Coord
  · rw [loop_dn (s := 1) (w := .rt 1) (by simp [ib, a1, t1, h3, h4])]; simp [h1, h2, h3, h4, Fl.elim, cmpId, c1]
  rw [loop_nx (s := 1) (s' := 2) (by simp [ib, a1, t1, h3, h4, e2])]
  by_cases h5 : p.Inc < q.Inc
  · rw [loop_dn (s := 2) (w := .rt (-1)) (by simp [ib, a2, t2, h5])]; simp [h1, h2, h3, h4, h5, Fl.elim, cmpId, c1]
  by_cases h6 : p.Inc > q.Inc
  · rw [loop_dn (s := 2) (w := .rt 1) (by simp [ib, a2, t2, h5, h6])]; simp [h1, h2, h3, h4, h5, h6, Fl.elim, cmpId, c1]
  rw [loop_nx (s := 2) (s' := 3) (by simp [ib, a2, t2, h5, h6, e3]), loop_dn (s := 3) (w := .nx ()) (by simp)]
  simp [h1, h2, h3, h4, h5, h6, Fl.elim, cmpId, c1]
theorem ints_refl {l : _root_.List Int} (hl : l.length ≤ 1000000) : congressref07_Ints l l = some true := by
  unfold congressref07_Ints
  rw [if_neg (by simp), loop_seq (s0 := 0) (fun n => (n : Int)) l.length (w := .nx ()) rfl (fun n hn => by
    have hn' : (n : Int) < (l.length : Int) := by omega
    have e1 : IntKind.i64.wrap ((n : Int) + 1) = ((n + 1 : Nat) : Int) := by rw [w64] <;> omega
    simp only [hn', decide_true, if_true, ib_n hn, Option.bind_some, Int.toNat_natCast, e1, bne_self_eq_false, Bool.false_eq_true, if_false]) (by simp)]
  rfl
def hiF (l : _root_.List api_Id) : api_Id := l.foldl (fun b x => if cmpId x b > 0 then x else b) z_api_Id
theorem hi_s (l : _root_.List api_Id) (x : api_Id) : hiF (l ++ [x]) = if cmpId x (hiF l) > 0 then x else hiF l := by
  unfold hiF; rw [List.foldl_append]; rfl
theorem high_eq {l : _root_.List api_Id} (hl : l.length ≤ maxLen) : ident_Highest l = some (hiF l) := by
  have hm : l.length ≤ 9223372036854775807 := hl
  unfold ident_Highest
  rw [loop_seq (s0 := (0, z_api_Id)) (fun n => ((n : Int), hiF (l.take n))) l.length (w := .nx (hiF l)) rfl (fun n hn => by
    have hn' : (n : Int) < (l.length : Int) := by omega
    have e1 : IntKind.i64.wrap ((n : Int) + 1) = ((n + 1 : Nat) : Int) := by rw [w64] <;> omega
    have ht : l.take (n + 1) = l.take n ++ [l.getD n z_api_Id] := by
      rw [List.take_add_one, List.getD_eq_getElem?_getD, List.getElem?_eq_getElem hn]; rfl
    simp only [hn', decide_true, if_true, jn, ib_n hn, Option.bind_some, Int.toNat_natCast, e1, cmp_eq]
    rw [ht, hi_s]
    by_cases hc : cmpId (l.getD n z_api_Id) (hiF (List.take n l)) > 0
    · rw [if_pos (decide_eq_true hc), if_pos hc]
    · rw [if_neg (by simpa using hc), if_neg hc]) (by simp)]
  simp only [Option.bind_some, Fl.elim]
theorem fixed_eq : congresslaw07_fixed = some true := by
  have h : ident_Highest ([({ Epoch := 2, Coord := 1, Inc := 1 } : api_Id), ({ Epoch := 1, Coord := 7, Inc := 9 } : api_Id), ({ Epoch := 2, Coord := 1, Inc := 2 } : api_Id)] : _root_.List api_Id) = some _ := high_eq (by decide)
  simp only [congresslaw07_fixed, least_eq, cmp_eq, h, many_eq, has_eq, Option.bind_some]
  decide +kernel

theorem le_iff {p q : api_Id} : cmpId p q ≤ 0 ↔ p.Epoch < q.Epoch ∨ (p.Epoch = q.Epoch ∧ (p.Coord < q.Coord ∨ (p.Coord = q.Coord ∧ p.Inc ≤ q.Inc))) := by
  have h := @cmp_gt p q
  constructor
  · intro h1
    have h2 : ¬ (p.Epoch > q.Epoch ∨ (p.Epoch = q.Epoch ∧ (p.Coord > q.Coord ∨ (p.Coord = q.Coord ∧ p.Inc > q.Inc)))) := fun h3 => by have := h.2 h3; omega
    clear h; omega
  · intro h1
    have h2 : ¬ (p.Epoch > q.Epoch ∨ (p.Epoch = q.Epoch ∧ (p.Coord > q.Coord ∨ (p.Coord = q.Coord ∧ p.Inc > q.Inc)))) := by clear h; omega
    have h3 : ¬ cmpId p q > 0 := fun h4 => h2 (h.1 h4)
    omega
theorem le_trans' {p q r : api_Id} (h1 : cmpId p q ≤ 0) (h2 : cmpId q r ≤ 0) : cmpId p r ≤ 0 := by
  rw [le_iff] at *; omega
theorem pure_identOrder (a0 : api_Id) (a1 : api_Id) (a2 : api_Id) (w0 : w_api_Id a0) (w1 : w_api_Id a1) (w2 : w_api_Id a2) : congresslaw07_IdentOrder a0 a1 a2 = some true := by
  have r01 := cmp_r a0 a1; have r12 := cmp_r a1 a2; have r02 := cmp_r a0 a2
  have n01 := cmp_n a0 a1
  have hz : cmpId a0 a0 = 0 := cmp_z.2 rfl
  have hw : IntKind.i64.wrap (0 - cmpId a1 a0) = cmpId a0 a1 := by rw [w64] <;> omega
  have hq : (cmpId a0 a1 == 0) = b_api_Id a0 a1 := by
    rw [Bool.eq_iff_iff, beqId, beq_iff_eq, cmp_z]
  have n12 := cmp_n a1 a2; have n02 := cmp_n a0 a2
  have t0 : cmpId a0 a2 = 0 → cmpId a1 a2 = cmpId a1 a0 := fun h => by rw [cmp_z.1 h]
  have t1 : cmpId a0 a1 ≤ 0 → cmpId a1 a2 ≤ 0 → cmpId a0 a2 ≤ 0 ∧ (cmpId a0 a2 < 0 ∨ (cmpId a0 a1 = 0 ∧ cmpId a1 a2 = 0)) := by
    intro h1 h2
    have h3 := le_trans' h1 h2
    refine ⟨h3, ?_⟩
    by_cases h4 : cmpId a0 a2 = 0
    · have := t0 h4; right; omega
    · left; omega
  have t2 : cmpId a0 a1 ≥ 0 → cmpId a1 a2 ≥ 0 → cmpId a0 a2 ≥ 0 := by
    intro h1 h2
    have h3 : cmpId a2 a0 ≤ 0 := le_trans' (q := a1) (by omega) (by omega)
    omega
  unfold congresslaw07_IdentOrder
  simp only [cmp_eq, fixed_eq, Option.bind_some, whn, Bool.not_true, Bool.not_false, if_true, Bool.false_or, hw, hq, hz, bne_self_eq_false, lt]
  rw [if_neg (by simp; omega)]
  clear hw t0
  simp only [← hq, Option.some.injEq, Bool.and_eq_true, Bool.or_eq_true, decide_eq_true_eq, beq_iff_eq]
  omega
theorem pure_identSame (a0 : (Nat → Int)) (a1 : (Nat → Int)) (a2 : (Nat → Int)) (w0 : ∀ j, j < 8 → (Lit.int .u32 (a0 j)).wf = true) (w1 : ∀ j, j < 8 → (Lit.int .u32 (a1 j)).wf = true) (w2 : ∀ j, j < 8 → (Lit.int .u32 (a2 j)).wf = true) : congresslaw07_IdentSame a0 a1 a2 = some true := by
  have e1 : b_a8_u32 (sameF a0 a1 8) (sameF a1 a0 8) = true := all8.2 fun j hj => by
    simp only [sameF, hj, true_and]
    by_cases h : a0 j = a1 j
    · rw [if_pos h, if_pos h.symm, h]
    · rw [if_neg h, if_neg (Ne.symm h)]
  have e2 : b_a8_u32 (sameF a0 a0 8) a0 = true := all8.2 fun j hj => by simp [sameF, hj]
  have e3 : b_a8_u32 (sameF (sameF a0 a1 8) a2 8) (sameF a0 (sameF a1 a2 8) 8) = true := all8.2 fun j hj => by
    simp only [sameF, hj, true_and]
    by_cases h : a0 j = a1 j <;> by_cases h2 : a1 j = a2 j <;> simp [h, h2] <;> (repeat' split) <;> omega
  have e4 : ((listF (sameF a0 a1 8) 8).length : Int) ≤ ((listF a0 8).length : Int) := by
    have : ∀ n, n ≤ 8 → (listF (sameF a0 a1 8) n).length ≤ (listF a0 n).length := by
      intro n
      induction n with
      | zero => intro _; exact Nat.le_refl _
      | succ n ih =>
        intro hn
        have ih := ih (by omega)
        rw [listF_s, listF_s]
        have hs : sameF a0 a1 8 n ≠ 0 → a0 n ≠ 0 := by simp only [sameF]; split <;> simp
        by_cases h : sameF a0 a1 8 n ≠ 0
        · rw [if_pos h, if_pos (hs h)]; simp; exact ih
        · rw [if_neg h]; split
          · simp; omega
          · exact ih
    have := this 8 (by omega); omega
  simp only [congresslaw07_IdentSame, same_eq, fixed_eq, many_eq, Option.bind_some, whn, if_true, e1, e2, e3, lt, Bool.and_self, decide_eq_true e4]
theorem pure_identTells (a0 : api_Id) (a1 : api_Id) (a2 : congresslaw07_Two) (w0 : w_api_Id a0) (w1 : w_api_Id a1) (w2 : w_congresslaw07_Two a2) : congresslaw07_IdentTells a0 a1 a2 = some true := by
  have hl := listF_len a2.M 8
  unfold congresslaw07_IdentTells
  simp only [rlist_eq w2.1, least_eq, Option.bind_some, lt, jn, fixed_eq, whn, if_true, cmp_eq, rcmp_eq, list_eq, many_eq, same_eq, rsame_eq, has_eq, beq_self_eq_true, Bool.true_and, Bool.and_self, ints_refl (l := listF a2.M 8) (by omega), brefl8, Bool.and_true]
  have hL : ((leastF a2.M).2 == decide (((listF a2.M 8).length : Int) > 0)) = true := by
    unfold leastF
    by_cases h : (listF a2.M 8).length = 0
    · rw [if_pos h]; simp only [h]; rfl
    · rw [if_neg h]
      have : ((listF a2.M 8).length : Int) > 0 := by omega
      simp only [decide_eq_true this, beq_self_eq_true]
  have hL2 : (((leastF a2.M).2 && ((leastF a2.M).1 == (listF a2.M 8).getD 0 0)) || ((!(leastF a2.M).2) && ((leastF a2.M).1 == 0))) = true := by
    unfold leastF; split <;> simp
  have hL3 : (leastF a2.M).2 = true → 0 < (listF a2.M 8).length := by
    unfold leastF; split
    · intro h; cases h
    · intro _; omega
  simp only [hL, hL2, Bool.true_and, Bool.and_self, if_true, Option.bind_some, beq_self_eq_true, brefl8, ints_refl (l := listF a2.M 8) (by omega), Bool.and_true]
  rw [ibg_t (fun h => by have := hL3 h; omega)]
  simp only [Option.bind_some]
  by_cases h : ((decide (a2.I ≥ 0)) && (decide (a2.I < 8))) = true
  · rw [if_pos h, ibg_t (fun _ => by simp at h; omega)]
    simp only [Option.bind_some, hasF, h, Bool.true_and, beq_self_eq_true]
  · rw [if_neg h]
    have h' : ((decide (a2.I ≥ 0)) && (decide (a2.I < 8))) = false := by simpa using h
    simp only [hasF, h', Bool.false_and, beq_self_eq_true]
end Go.Proofs.Ythkgpbjgkchilaa
