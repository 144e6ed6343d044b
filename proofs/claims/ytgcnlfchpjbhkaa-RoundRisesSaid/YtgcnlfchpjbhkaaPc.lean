/- What the functions of chapter 09 answer, in closed form. Conditions: none. -/
import Derived.Test.YtgcnlfchpjbhkaaIn
import Derived.Test.YtgcnlfchpjbhkaaEngR
set_option linter.unusedVariables false
set_option linter.unusedSimpArgs false
namespace Go.Proofs.Ytgcnlfchpjbhkaa
open Go.Eng
def cmpI (a b : Int) : Int := if a < b then -1 else if a > b then 1 else 0
theorem cmpu_eq (a b : Int) : cmp_Compare_uint32 a b = some (cmpI a b) := by
  simp only [cmp_Compare_uint32, cmp_isNaN_uint32, Option.bind_some, bne_self_eq_false, Bool.false_eq_true, if_false, decide_eq_true_eq, cmpI]
  split
  · rfl
  · split <;> rfl
theorem cmpi_eq (a b : Int) : cmp_Compare_int a b = some (cmpI a b) := by
  simp only [cmp_Compare_int, cmp_isNaN_int, Option.bind_some, bne_self_eq_false, Bool.false_eq_true, if_false, decide_eq_true_eq, cmpI]
  split
  · rfl
  · split <;> rfl
theorem or_eq (a b c : Int) : cmp_Or_int [a, b, c] = some (if a ≠ 0 then a else if b ≠ 0 then b else c) := by
  have e1 : IntKind.i64.wrap 1 = 1 := by rw [w64] <;> omega
  have e2 : IntKind.i64.wrap 2 = 2 := by rw [w64] <;> omega
  have e3 : IntKind.i64.wrap 3 = 3 := by rw [w64] <;> omega
  unfold cmp_Or_int
  by_cases ha : a = 0
  · rw [loop_nx (s := 0) (s' := 1) (by simp [ib, ha, e1])]
    by_cases hb : b = 0
    · rw [loop_nx (s := 1) (s' := 2) (by simp [ib, hb, e2])]
      by_cases hc : c = 0
      · rw [loop_nx (s := 2) (s' := 3) (by simp [ib, hc, e3]), loop_dn (s := 3) (w := .nx ()) (by simp)]
        simp [ha, hb, hc, Fl.elim]
      · rw [loop_dn (s := 2) (w := .rt c) (by simp [ib, hc])]
        simp [ha, hb, Fl.elim]
    · rw [loop_dn (s := 1) (w := .rt b) (by simp [ib, hb])]
      simp [ha, hb, Fl.elim]
  · rw [loop_dn (s := 0) (w := .rt a) (by simp [ib, ha])]
    simp [ha, Fl.elim]
theorem cmpI_lt {a b : Int} : cmpI a b < 0 ↔ a < b := by unfold cmpI; split; omega; split <;> omega
theorem cmpI_z {a b : Int} : cmpI a b = 0 ↔ a = b := by unfold cmpI; split; omega; split <;> omega
def befF (a b : api_Place) : Bool := decide (a.Round < b.Round ∨ (a.Round = b.Round ∧ (a.From < b.From ∨ (a.From = b.From ∧ a.Slot < b.Slot))))
theorem before_eq (a b : api_Place) : round_Before a b = some (befF a b) := by
  simp only [round_Before, cmpu_eq, cmpi_eq, or_eq, Option.bind_some, befF, Option.some.injEq, decide_eq_decide]
  have h1 := @cmpI_lt a.Round b.Round; have h2 := @cmpI_z a.Round b.Round
  have h3 := @cmpI_lt a.From b.From; have h4 := @cmpI_z a.From b.From
  have h5 := @cmpI_lt a.Slot b.Slot
  split
  · omega
  · split <;> omega
theorem rbefore_eq (a b : api_Place) : congressref09_Before a b = some (befF a b) := by
  simp only [congressref09_Before, befF, bne_iff_ne]
  split
  · simp only [Option.some.injEq, decide_eq_decide]; omega
  · split
    · simp only [Option.some.injEq, decide_eq_decide]; omega
    · simp only [Option.some.injEq, decide_eq_decide]; omega
theorem beqP {p q : api_Place} : b_api_Place p q = true ↔ p = q := by
  cases p; cases q; simp [b_api_Place]

def listF (f : Nat → Int) (n : Nat) : _root_.List Int := ((List.range n).filter fun j => f j != 0).map fun (j : Nat) => (j : Int)
theorem listF_s (f : Nat → Int) (n : Nat) : listF f (n + 1) = if f n ≠ 0 then listF f n ++ [(n : Int)] else listF f n := by
  unfold listF
  rw [List.range_succ, List.filter_append, List.map_append]
  by_cases h : f n = 0 <;> simp [h]
theorem listF_len (f : Nat → Int) (n : Nat) : (listF f n).length ≤ n := by
  unfold listF
  rw [List.length_map]
  exact Nat.le_trans (List.length_filter_le _ _) (by simp)
theorem fit_t {n b : Nat} (h : n ≤ 1000000) (hb : b ≤ 100) : fit n b = some () := by
  unfold fit
  rw [if_pos]
  refine ⟨by unfold maxLen; omega, ?_⟩
  have : n * b ≤ 1000000 * 100 := Nat.mul_le_mul h hb
  omega
theorem list_eq (f : Nat → Int) : ident_List f = some (listF f 8) := by
  unfold ident_List
  rw [loop_seq (s0 := (0, ([] : _root_.List Int))) (fun n => ((n : Int), listF f n)) 8 (w := .nx (listF f 8)) rfl (fun n hn => by
    have hn' : (n : Int) < 8 := by omega
    have e1 : IntKind.i64.wrap ((n : Int) + 1) = ((n + 1 : Nat) : Int) := by rw [w64] <;> omega
    have hl := listF_len f n
    simp only [hn', decide_true, if_true, jn, ib_n hn, Option.bind_some, Int.toNat_natCast, e1]
    rw [fit_t (by simp; omega) (by omega), listF_s]
    by_cases h : f n = 0 <;> simp [h]) (by simp)]
  simp only [Option.bind_some, Fl.elim]
def U32 (f : Nat → Int) : Prop := ∀ j, j < 8 → (Lit.int .u32 (f j)).wf = true
theorem rlist_eq {f : Nat → Int} (w : U32 f) : congressref07_List f = some (listF f 8) := by
  unfold congressref07_List
  rw [loop_seq (s0 := (0, ([] : _root_.List Int))) (fun n => ((n : Int), listF f n)) 8 (w := .nx (listF f 8)) rfl (fun n hn => by
    have hn' : (n : Int) < 8 := by omega
    have e1 : IntKind.i64.wrap ((n : Int) + 1) = ((n + 1 : Nat) : Int) := by rw [w64] <;> omega
    have hl := listF_len f n
    have hw := wf_u32.1 (w n hn)
    simp only [hn', decide_true, if_true, jn, ib_n hn, Option.bind_some, Int.toNat_natCast, e1]
    rw [fit_t (by simp; omega) (by omega), listF_s]
    by_cases h : f n = 0
    · simp [h]
    · rw [if_pos (by simp; omega), if_pos h]; rfl) (by simp)]
  simp only [Option.bind_some, Fl.elim]
theorem listF_in {f : Nat → Int} {n : Nat} {x : Int} : x ∈ listF f n ↔ ∃ j : Nat, x = (j : Int) ∧ j < n ∧ f j ≠ 0 := by
  simp only [listF, List.mem_map, List.mem_filter, List.mem_range]
  constructor
  · rintro ⟨j, ⟨h1, h2⟩, h3⟩; exact ⟨j, h3.symm, h1, by simpa using h2⟩
  · rintro ⟨j, rfl, h1, h2⟩; exact ⟨j, ⟨h1, by simpa using h2⟩, rfl⟩
theorem getD_in {α : Type} {l : _root_.List α} {d : α} {k : Nat} (h : k < l.length) : l.getD k d ∈ l := by
  rw [List.getD_eq_getElem?_getD, List.getElem?_eq_getElem h]; exact List.getElem_mem h
theorem take_s {α : Type} {l : _root_.List α} {d : α} {n : Nat} (hn : n < l.length) : l.take (n + 1) = l.take n ++ [l.getD n d] := by
  rw [List.take_add_one, List.getD_eq_getElem?_getD, List.getElem?_eq_getElem hn]; rfl
/-- The least of the members' rounds, from a start. -/
def minF (p0 : Nat → Int) (m : Int) (l : _root_.List Int) : Int := l.foldl (fun m j => if p0 j.toNat < m then p0 j.toNat else m) m
theorem minF_s (p0 : Nat → Int) (m : Int) (l : _root_.List Int) (x : Int) : minF p0 m (l ++ [x]) = if p0 x.toNat < minF p0 m l then p0 x.toNat else minF p0 m l := by
  unfold minF; rw [List.foldl_append]; rfl
theorem minF_le (p0 : Nat → Int) : ∀ (l : _root_.List Int) (m r : Int), r ≤ minF p0 m l ↔ r ≤ m ∧ ∀ x ∈ l, r ≤ p0 x.toNat
  | [], m, r => by simp [minF]
  | a :: l, m, r => by
    have : minF p0 m (a :: l) = minF p0 (if p0 a.toNat < m then p0 a.toNat else m) l := rfl
    rw [this, minF_le p0 l]
    constructor
    · rintro ⟨h1, h2⟩
      refine ⟨by split at h1 <;> omega, fun x hx => ?_⟩
      rcases List.mem_cons.1 hx with rfl | hx
      · split at h1 <;> omega
      · exact h2 x hx
    · rintro ⟨h1, h2⟩
      have := h2 a (by simp)
      exact ⟨by split <;> omega, fun x hx => h2 x (by simp [hx])⟩
theorem minF_is (p0 : Nat → Int) : ∀ (l : _root_.List Int) (m : Int), minF p0 m l = m ∨ ∃ x ∈ l, minF p0 m l = p0 x.toNat
  | [], m => .inl rfl
  | a :: l, m => by
    have e : minF p0 m (a :: l) = minF p0 (if p0 a.toNat < m then p0 a.toNat else m) l := rfl
    rw [e]
    rcases minF_is p0 l (if p0 a.toNat < m then p0 a.toNat else m) with h | ⟨x, h1, h2⟩
    · rw [h]
      split
      · right; exact ⟨a, by simp, rfl⟩
      · left; rfl
    · right; exact ⟨x, by simp [h1], h2⟩
def leastF (p0 p1 : Nat → Int) : Int × Bool := if (listF p1 8).length = 0 then (0, false) else (minF p0 4294967295 (listF p1 8), true)
theorem least_eq (p0 p1 : Nat → Int) : round_Least p0 p1 = some (leastF p0 p1) := by
  have hl := listF_len p1 8
  unfold round_Least leastF
  rw [list_eq]
  simp only [Option.bind_some]
  by_cases h : (listF p1 8).length = 0
  · simp [h]
  · rw [if_neg (by simpa using h), if_neg h]
    rw [loop_seq (s0 := (4294967295, 0)) (fun n => (minF p0 4294967295 ((listF p1 8).take n), (n : Int))) (listF p1 8).length (w := .nx (minF p0 4294967295 (listF p1 8))) rfl (fun n hn => by
      have hn' : (n : Int) < ((listF p1 8).length : Int) := by omega
      have e1 : IntKind.i64.wrap ((n : Int) + 1) = ((n + 1 : Nat) : Int) := by rw [w64] <;> omega
      obtain ⟨j, hj, hj8, _⟩ := listF_in.1 (getD_in (d := (0 : Int)) hn)
      simp only [hn', decide_true, if_true, ib_n hn, Option.bind_some, Int.toNat_natCast, e1, lt]
      rw [take_s (d := 0) hn, minF_s, hj, ib_n hj8]; rfl) (by simp)]
    simp only [Option.bind_some, Fl.elim]
theorem rleast_eq {p0 p1 : Nat → Int} (w0 : U32 p0) (w1 : U32 p1) : congressref09_Least p0 p1 = some (leastF p0 p1) := by
  have hl := listF_len p1 8
  unfold congressref09_Least leastF
  rw [rlist_eq w1]
  simp only [Option.bind_some]
  by_cases h : (listF p1 8).length = 0
  · simp [h]
  · rw [if_neg (by simpa using h), if_neg h, ib_t (by omega) (by omega)]
    obtain ⟨j0, hj0, hj08, _⟩ := listF_in.1 (getD_in (d := (0 : Int)) (show 0 < (listF p1 8).length by omega))
    have hw := wf_u32.1 (w0 j0 hj08)
    have hs : p0 ((listF p1 8).getD 0 0).toNat = minF p0 4294967295 ((listF p1 8).take 1) := by
      rw [take_s (n := 0) (d := 0) (by omega), List.take_zero, minF_s, hj0]
      have e3 : minF p0 4294967295 [] = 4294967295 := rfl
      rw [e3, Int.toNat_natCast]
      by_cases hc : p0 j0 < 4294967295
      · rw [if_pos hc]
      · rw [if_neg hc]; omega
    simp only [Option.bind_some]
    rw [hj0, ib_n hj08, ← hj0]
    simp only [Option.bind_some]
    rw [loop_seq (s0 := (p0 ((listF p1 8).getD 0 0).toNat, 1)) (fun n => (minF p0 4294967295 ((listF p1 8).take (n + 1)), ((n + 1 : Nat) : Int))) ((listF p1 8).length - 1) (w := .nx (minF p0 4294967295 (listF p1 8))) (Prod.ext hs rfl) (fun n hn => by
      have hn1 : n + 1 < (listF p1 8).length := by omega
      have hn' : ((n + 1 : Nat) : Int) < ((listF p1 8).length : Int) := by omega
      have e1 : IntKind.i64.wrap (((n + 1 : Nat) : Int) + 1) = ((n + 1 + 1 : Nat) : Int) := by rw [w64] <;> omega
      obtain ⟨j, hj, hj8, _⟩ := listF_in.1 (getD_in (d := (0 : Int)) hn1)
      simp only [hn', decide_true, if_true, ib_n hn1, Option.bind_some, Int.toNat_natCast, e1, jn]
      rw [take_s (d := 0) hn1, minF_s]
      simp only [hj, ib_n hj8, Option.bind_some, Int.toNat_natCast]
      by_cases hc : p0 j < minF p0 4294967295 ((listF p1 8).take (n + 1))
      · rw [if_pos (decide_eq_true hc), if_pos hc]
      · rw [if_neg (by simpa using hc), if_neg hc]) (by
        have e2 : (listF p1 8).length - 1 + 1 = (listF p1 8).length := by omega
        simp [e2])]
    simp only [Option.bind_some, Fl.elim]
def memF (p1 : Nat → Int) (i : Int) : Bool := ((decide (i ≥ 0)) && (decide (i < 8))) && (p1 i.toNat != 0)
theorem member_eq (p1 : Nat → Int) (i : Int) : round_member p1 i = some (memF p1 i) := by
  unfold round_member
  rw [ibg_t (fun h => by simp at h; omega)]
  rfl
def aheadF (p0 p1 : Nat → Int) (p2 : api_Place) (n : Nat) : Bool := (List.range n).all fun j => !((p1 j != 0) && decide (p0 j < p2.Round))
theorem scan {body : Int → Option (Stp Int (Fl Bool Unit))} (P : Nat → Bool) (N : Nat) (h : ∀ n, n < N → body (n : Int) = if P n = true then some (.done (.rt false)) else some (.next ((n + 1 : Nat) : Int))) (hl : body (N : Int) = some (.done (.nx ()))) :
    loop body 0 = some (if ((List.range N).all fun j => !P j) = true then .nx () else .rt false) := by
  obtain ⟨w, hw, hp⟩ := loop_count (body := body) (fun n s => s = (n : Int) ∧ ∀ j, j < n → P j = false) (fun w => w = (if ((List.range N).all fun j => !P j) = true then .nx () else .rt false)) N (s0 := 0) ⟨rfl, fun j hj => absurd hj (by omega)⟩
    (fun n s hn hs => by
      obtain ⟨rfl, hs⟩ := hs
      by_cases hP : P n = true
      · right
        refine ⟨.rt false, by rw [h n hn, if_pos hP], ?_⟩
        rw [if_neg]
        intro hall
        have := List.all_eq_true.1 hall n (List.mem_range.2 hn)
        simp [hP] at this
      · left
        refine ⟨_, by rw [h n hn, if_neg hP], rfl, fun j hj => ?_⟩
        by_cases hjn : j = n
        · subst hjn; simpa using hP
        · exact hs j (by omega))
    (fun s hs => by
      obtain ⟨rfl, hs⟩ := hs
      refine ⟨.nx (), hl, ?_⟩
      rw [if_pos]
      rw [List.all_eq_true]
      intro j hj
      rw [hs j (List.mem_range.1 hj)]; rfl)
  rw [hw, hp]
end Go.Proofs.Ytgcnlfchpjbhkaa
