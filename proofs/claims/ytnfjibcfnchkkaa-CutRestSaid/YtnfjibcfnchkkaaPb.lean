/- Chapters 07 and 09, as far as chapter 11 asks: lists of members, which place stands before which. Conditions: none. -/
import Derived.Test.YtnfjibcfnchkkaaIn
import Derived.Test.YtnfjibcfnchkkaaEngW
set_option linter.unusedVariables false
set_option linter.unusedSimpArgs false
namespace Go.Proofs.Ytnfjibcfnchkkaa.R9
open Go.Eng
def cmpI (a b : Int) : Int := if a < b then -1 else if a > b then 1 else 0
theorem cmpu_eq (a b : Int) : cmp_Compare_uint32 a b = some (cmpI a b) := by
  simp only [cmp_Compare_uint32, cmp_isNaN_uint32, Option.bind_some, bne_self_eq_false, Bool.false_eq_true, if_false, decide_eq_true_eq, cmpI]
  split
  · rfl
  · split <;> rfl
theorem cmpi_eq (a b : Int) : cmp_Compare_int a b = some (cmpI a b) := by
  simp only [cmp_Compare_int, cmp_isNaN_int, Option.bind_some, bne_self_eq_false, Bool.false_eq_true, if_false, decide_eq_true_eq, cmpI]
  split
  · rfl
  · split <;> rfl
theorem or_eq (a b c : Int) : cmp_Or_int [a, b, c] = some (if a ≠ 0 then a else if b ≠ 0 then b else c) := by
  have e1 : IntKind.i64.wrap 1 = 1 := by rw [w64] <;> omega
  have e2 : IntKind.i64.wrap 2 = 2 := by rw [w64] <;> omega
  have e3 : IntKind.i64.wrap 3 = 3 := by rw [w64] <;> omega
  unfold cmp_Or_int
  by_cases ha : a = 0
  · rw [loop_nx (s := 0) (s' := 1) (by simp [ib, ha, e1])]
    by_cases hb : b = 0
    · rw [loop_nx (s := 1) (s' := 2) (by simp [ib, hb, e2])]
      by_cases hc : c = 0
      · rw [loop_nx (s := 2) (s' := 3) (by simp [ib, hc, e3]), loop_dn (s := 3) (w := .nx ()) (by simp)]
        simp [ha, hb, hc, Fl.elim]
      · rw [loop_dn (s := 2) (w := .rt c) (by simp [ib, hc])]
        simp [ha, hb, Fl.elim]
    · rw [loop_dn (s := 1) (w := .rt b) (by simp [ib, hb])]
      simp [ha, hb, Fl.elim]
  · rw [loop_dn (s := 0) (w := .rt a) (by simp [ib, ha])]
    simp [ha, Fl.elim]
theorem cmpI_lt {a b : Int} : cmpI a b < 0 ↔ a < b := by unfold cmpI; split; omega; split <;> omega
theorem cmpI_z {a b : Int} : cmpI a b = 0 ↔ a = b := by unfold cmpI; split; omega; split <;> omega
def befF (a b : api_Place) : Bool := decide (a.Round < b.Round ∨ (a.Round = b.Round ∧ (a.From < b.From ∨ (a.From = b.From ∧ a.Slot < b.Slot))))
theorem before_eq (a b : api_Place) : round_Before a b = some (befF a b) := by
  simp only [round_Before, cmpu_eq, cmpi_eq, or_eq, Option.bind_some, befF, Option.some.injEq, decide_eq_decide]
  have h1 := @cmpI_lt a.Round b.Round; have h2 := @cmpI_z a.Round b.Round
  have h3 := @cmpI_lt a.From b.From; have h4 := @cmpI_z a.From b.From
  have h5 := @cmpI_lt a.Slot b.Slot
  split
  · omega
  · split <;> omega
theorem rbefore_eq (a b : api_Place) : congressref09_Before a b = some (befF a b) := by
  simp only [congressref09_Before, befF, bne_iff_ne]
  split
  · simp only [Option.some.injEq, decide_eq_decide]; omega
  · split
    · simp only [Option.some.injEq, decide_eq_decide]; omega
    · simp only [Option.some.injEq, decide_eq_decide]; omega
theorem beqP {p q : api_Place} : b_api_Place p q = true ↔ p = q := by
  cases p; cases q; simp [b_api_Place]

def listF (f : Nat → Int) (n : Nat) : _root_.List Int := ((List.range n).filter fun j => f j != 0).map fun (j : Nat) => (j : Int)
theorem listF_s (f : Nat → Int) (n : Nat) : listF f (n + 1) = if f n ≠ 0 then listF f n ++ [(n : Int)] else listF f n := by
  unfold listF
  rw [List.range_succ, List.filter_append, List.map_append]
  by_cases h : f n = 0 <;> simp [h]
theorem listF_len (f : Nat → Int) (n : Nat) : (listF f n).length ≤ n := by
  unfold listF
  rw [List.length_map]
  exact Nat.le_trans (List.length_filter_le _ _) (by simp)
theorem fit_t {n b : Nat} (h : n ≤ 1000000) (hb : b ≤ 100) : fit n b = some () := by
  unfold fit
  rw [if_pos]
  refine ⟨by unfold maxLen; omega, ?_⟩
  have : n * b ≤ 1000000 * 100 := Nat.mul_le_mul h hb
  omega
theorem list_eq (f : Nat → Int) : ident_List f = some (listF f 8) := by
  unfold ident_List
  rw [loop_seq (s0 := (0, ([] : _root_.List Int))) (fun n => ((n : Int), listF f n)) 8 (w := .nx (listF f 8)) rfl (fun n hn => by
    have hn' : (n : Int) < 8 := by omega
    have e1 : IntKind.i64.wrap ((n : Int) + 1) = ((n + 1 : Nat) : Int) := by rw [w64] <;> omega
    have hl := listF_len f n
    simp only [hn', decide_true, if_true, jn, ib_n hn, Option.bind_some, Int.toNat_natCast, e1]
    rw [fit_t (by simp; omega) (by omega), listF_s]
    by_cases h : f n = 0 <;> simp [h]) (by simp)]
  simp only [Option.bind_some, Fl.elim]
def U32 (f : Nat → Int) : Prop := ∀ j, j < 8 → (Lit.int .u32 (f j)).wf = true
theorem rlist_eq {f : Nat → Int} (w : U32 f) : congressref07_List f = some (listF f 8) := by
  unfold congressref07_List
  rw [loop_seq (s0 := (0, ([] : _root_.List Int))) (fun n => ((n : Int), listF f n)) 8 (w := .nx (listF f 8)) rfl (fun n hn => by
    have hn' : (n : Int) < 8 := by omega
    have e1 : IntKind.i64.wrap ((n : Int) + 1) = ((n + 1 : Nat) : Int) := by rw [w64] <;> omega
    have hl := listF_len f n
    have hw := wf_u32.1 (w n hn)
    simp only [hn', decide_true, if_true, jn, ib_n hn, Option.bind_some, Int.toNat_natCast, e1]
    rw [fit_t (by simp; omega) (by omega), listF_s]
    by_cases h : f n = 0
    · simp [h]
    · rw [if_pos (by simp; omega), if_pos h]; rfl) (by simp)]
  simp only [Option.bind_some, Fl.elim]
theorem listF_in {f : Nat → Int} {n : Nat} {x : Int} : x ∈ listF f n ↔ ∃ j : Nat, x = (j : Int) ∧ j < n ∧ f j ≠ 0 := by
  simp only [listF, List.mem_map, List.mem_filter, List.mem_range]
  constructor
  · rintro ⟨j, ⟨h1, h2⟩, h3⟩; exact ⟨j, h3.symm, h1, by simpa using h2⟩
  · rintro ⟨j, rfl, h1, h2⟩; exact ⟨j, ⟨h1, by simpa using h2⟩, rfl⟩
theorem bef_iff {a b : api_Place} : befF a b = true ↔ a.Round < b.Round ∨ (a.Round = b.Round ∧ (a.From < b.From ∨ (a.From = b.From ∧ a.Slot < b.Slot))) := by
  unfold befF; rw [decide_eq_true_eq]
theorem bef_trans {a b c : api_Place} (h1 : befF a b = true) (h2 : befF b c = true) : befF a c = true := by
  rw [bef_iff] at *; omega
theorem bef_tri (a b : api_Place) : befF a b = true ∨ befF b a = true ∨ a = b := by
  have e : a = b ↔ a.Round = b.Round ∧ a.From = b.From ∧ a.Slot = b.Slot := by cases a; cases b; simp
  rw [bef_iff, bef_iff, e]; omega

end Go.Proofs.Ytnfjibcfnchkkaa.R9
