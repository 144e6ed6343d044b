/- Pure laws of chapter 07, the second half: members, and the highest name. Conditions: none. -/
import Derived.Test.YthkgpbjgkchilaaPc
set_option linter.unusedVariables false
set_option linter.unusedSimpArgs false
namespace Go.Proofs.Ythkgpbjgkchilaa
open Go.Eng
theorem listF_mem {f : Nat → Int} {n k : Nat} (h : k < (listF f n).length) : ∃ j : Nat, (listF f n).getD k 0 = (j : Int) ∧ j < n ∧ f j ≠ 0 := by
  have : (listF f n).getD k 0 ∈ listF f n := by
    rw [List.getD_eq_getElem?_getD, List.getElem?_eq_getElem h]; exact List.getElem_mem h
  simp only [listF, List.mem_map, List.mem_filter, List.mem_range] at this
  obtain ⟨j, ⟨h1, h2⟩, h3⟩ := this
  exact ⟨j, h3.symm, h1, by simpa using h2⟩
theorem getD_l {l m : _root_.List Int} {k : Nat} (h : k < l.length) : (l ++ m).getD k 0 = l.getD k 0 := by
  simp [List.getD_eq_getElem?_getD, List.getElem?_append_left h]
theorem getD_r {l : _root_.List Int} {x : Int} : (l ++ [x]).getD l.length 0 = x := by
  simp [List.getD_eq_getElem?_getD]
theorem listF_up (f : Nat → Int) : ∀ (n k : Nat), k + 1 < (listF f n).length → (listF f n).getD k 0 < (listF f n).getD (k + 1) 0
  | 0, k, h => by simp [listF] at h
  | n + 1, k, h => by
    rw [listF_s] at h ⊢
    by_cases hf : f n ≠ 0
    · rw [if_pos hf] at h ⊢
      rw [List.length_append] at h
      simp only [List.length_cons, List.length_nil] at h
      by_cases hk : k + 1 < (listF f n).length
      · rw [getD_l (by omega), getD_l hk]
        exact listF_up f n k hk
      · have hk2 : k + 1 = (listF f n).length := by omega
        rw [getD_l (by omega), hk2, getD_r]
        obtain ⟨j, h1, h2, _⟩ := listF_mem (f := f) (n := n) (k := k) (by omega)
        rw [h1]; omega
    · rw [if_neg hf] at h ⊢
      exact listF_up f n k h
theorem pure_identMembers (a0 : (Nat → Int)) (w0 : ∀ j, j < 8 → (Lit.int .u32 (a0 j)).wf = true) : congresslaw07_IdentMembers a0 = some true := by
  have hl := listF_len a0 8
  have hL : ((leastF a0).2 != decide (((listF a0 8).length : Int) > 0)) = false := by
    unfold leastF
    by_cases h : (listF a0 8).length = 0
    · rw [if_pos h]; simp only [h]; rfl
    · rw [if_neg h]
      have : ((listF a0 8).length : Int) > 0 := by omega
      simp only [decide_eq_true this, bne_self_eq_false]
  unfold congresslaw07_IdentMembers
  simp only [list_eq, least_eq, fixed_eq, many_eq, Option.bind_some, whn, hL, Bool.not_true, Bool.or_false, Bool.not_false, if_true, bne_self_eq_false, lt, Bool.false_eq_true, if_false]
  rw [loop_seq (s0 := 0) (fun n => (n : Int)) (listF a0 8).length (w := .nx ()) rfl (fun n hn => by
    have hn' : (n : Int) < ((listF a0 8).length : Int) := by omega
    have e1 : IntKind.i64.wrap ((n : Int) + 1) = ((n + 1 : Nat) : Int) := by rw [w64] <;> omega
    have e2 : IntKind.i64.wrap ((n : Int) - 1) = (n : Int) - 1 := by rw [w64] <;> omega
    obtain ⟨j, hj, hj8, hjf⟩ := listF_mem hn
    have hw := wf_u32.1 (w0 j hj8)
    have g1 : decide ((listF a0 8).getD n 0 < 0) = false := by rw [hj]; simp
    have g2 : decide ((listF a0 8).getD n 0 > 7) = false := by rw [hj]; simp; omega
    have g3 : ((decide ((n : Int) > 0)) && (decide ((listF a0 8).getD (((n : Int) - 1)).toNat 0 ≥ (listF a0 8).getD n 0))) = false := by
      by_cases h0 : n = 0
      · simp [h0]
      · have := listF_up a0 8 (n - 1) (by omega)
        rw [show n - 1 + 1 = n by omega] at this
        have e3 : ((n : Int) - 1).toNat = n - 1 := by omega
        rw [e3]; simp; intro _; exact this
    have e4 : iand .i64 (listF a0 8 |>.getD n 0) 7 = j := by
      rw [hj]
      have : ∀ j : Nat, j < 8 → iand .i64 (j : Int) 7 = j := by decide +kernel
      exact this j hj8
    have g4 : hasF a0 (j : Int) (a0 j) = true := by
      simp only [hasF, Int.toNat_natCast, beq_self_eq_true, Bool.and_true]
      simp [hjf]; omega
    have ibt : ∀ g, ibg g (n : Int) (listF a0 8).length = some () := fun g => ibg_t (fun _ => by omega)
    simp only [hn', decide_true, if_true, ib_n hn, Option.bind_some, Int.toNat_natCast, e1, e2, g1, g2, Bool.or_self, Bool.not_false, Bool.true_and, ibt, e4]
    rw [ibg_t (fun h => by simp at h; omega)]
    have g5 := g3
    simp only [hj] at g5
    simp only [Option.bind_some, g3, Bool.not_false, has_eq, hj, g4, g5, if_true, Bool.or_self, Bool.not_true, Bool.false_eq_true, if_false]
    rw [ibg_t (fun h => by omega)]
    simp only [Option.bind_some, g5, Bool.or_self, Bool.not_false, if_true, Bool.not_true, Bool.false_eq_true, if_false]) (by simp)]
  simp only [Option.bind_some, Fl.elim]
  rw [loop_seq (s0 := (0, 0)) (fun n => (((listF a0 n).length : Int), (n : Int))) 8 (w := .nx ((listF a0 8).length : Int)) rfl (fun n hn => by
    have hn' : (n : Int) < 8 := by omega
    have hln := listF_len a0 n
    have e1 : IntKind.i64.wrap ((n : Int) + 1) = ((n + 1 : Nat) : Int) := by rw [w64] <;> omega
    have e2 : IntKind.i64.wrap (((listF a0 n).length : Int) + 1) = (((listF a0 n).length + 1 : Nat) : Int) := by rw [w64] <;> omega
    simp only [hn', decide_true, if_true, jn, ib_n hn, Option.bind_some, Int.toNat_natCast, e1, e2]
    rw [listF_s]
    by_cases h : a0 n = 0 <;> simp [h]) (by simp)]
  have hL3 : (!(!(leastF a0).2)) = true → 0 < (listF a0 8).length := by
    unfold leastF; split
    · intro h; cases h
    · intro _; omega
  simp only [Option.bind_some, Fl.elim, beq_self_eq_true, Bool.true_and]
  rw [ibg_t (fun h => by have := hL3 h; omega)]
  simp only [Option.bind_some, Option.some.injEq]
  unfold leastF; split <;> simp

theorem hi_max : ∀ (l : _root_.List api_Id) (b : api_Id), let m := l.foldl (fun b x => if cmpId x b > 0 then x else b) b; (m = b ∨ m ∈ l) ∧ cmpId b m ≤ 0 ∧ ∀ x ∈ l, cmpId x m ≤ 0
  | [], b => ⟨.inl rfl, by show cmpId b b ≤ 0; rw [cmp_z.2 rfl]; exact Int.le_refl _, fun x hx => by cases hx⟩
  | a :: l, b => by
    simp only [List.foldl_cons]
    have ih := hi_max l (if cmpId a b > 0 then a else b)
    simp only at ih
    obtain ⟨h1, h2, h3⟩ := ih
    have key : cmpId a (if cmpId a b > 0 then a else b) ≤ 0 ∧ cmpId b (if cmpId a b > 0 then a else b) ≤ 0 := by
      have hn := cmp_n a b
      by_cases h : cmpId a b > 0
      · rw [if_pos h]; exact ⟨by rw [cmp_z.2 rfl]; exact Int.le_refl _, by omega⟩
      · rw [if_neg h]; exact ⟨by omega, by rw [cmp_z.2 rfl]; exact Int.le_refl _⟩
    refine ⟨?_, le_trans' key.2 h2, ?_⟩
    · rcases h1 with h1 | h1
      · rw [h1]
        by_cases h : cmpId a b > 0
        · rw [if_pos h]; right; simp
        · rw [if_neg h]; left; rfl
      · right; simp [h1]
    · intro x hx
      rcases List.mem_cons.1 hx with rfl | hx
      · exact le_trans' key.1 h2
      · exact h3 x hx
theorem hi_rev (l : _root_.List api_Id) : hiF l.reverse = hiF l := by
  have h1 := hi_max l z_api_Id
  have h2 := hi_max l.reverse z_api_Id
  simp only at h1 h2
  have e1 : l.foldl (fun b x => if cmpId x b > 0 then x else b) z_api_Id = hiF l := rfl
  have e2 : l.reverse.foldl (fun b x => if cmpId x b > 0 then x else b) z_api_Id = hiF l.reverse := rfl
  rw [e1] at h1; rw [e2] at h2
  have a1 : cmpId (hiF l.reverse) (hiF l) ≤ 0 := by
    rcases h2.1 with h | h
    · rw [h]; exact h1.2.1
    · exact h1.2.2 _ (by simpa using h)
  have a2 : cmpId (hiF l) (hiF l.reverse) ≤ 0 := by
    rcases h1.1 with h | h
    · rw [h]; exact h2.2.1
    · exact h2.2.2 _ (by simpa using h)
  have := cmp_n (hiF l) (hiF l.reverse)
  exact cmp_z.1 (by omega)
theorem pure_identHighest (a0 : (_root_.List api_Id)) (w0 : a0.length ≤ maxLen ∧ ∀ j, j < a0.length → w_api_Id (a0.getD j z_api_Id)) : congresslaw07_IdentHighest a0 = some true := by
  unfold congresslaw07_IdentHighest
  simp only [fixed_eq, Option.bind_some, Bool.not_true, Bool.false_or, decide_eq_true_eq]
  by_cases hl : (a0.length : Int) > 100
  · rw [if_pos hl]
  rw [if_neg hl, high_eq w0.1]
  simp only [Option.bind_some]
  have hm := hi_max a0 z_api_Id
  simp only at hm
  have e1 : a0.foldl (fun b x => if cmpId x b > 0 then x else b) z_api_Id = hiF a0 := rfl
  rw [e1] at hm
  obtain ⟨h1, h2, h3⟩ := hm
  have hz : ({ Epoch := 0, Coord := 0, Inc := 0 } : api_Id) = z_api_Id := rfl
  rw [loop_seq (s0 := ((b_api_Id (hiF a0) ({ Epoch := 0, Coord := 0, Inc := 0 } : api_Id)), 0, ([] : _root_.List api_Id)))
    (fun n => (b_api_Id (hiF a0) z_api_Id || (a0.take n).any (fun x => b_api_Id x (hiF a0)), (n : Int), (a0.reverse.take n))) a0.length (w := .nx (b_api_Id (hiF a0) z_api_Id || a0.any (fun x => b_api_Id x (hiF a0)), a0.reverse)) (by simp [hz]) (fun n hn => by
    have hn' : (n : Int) < (a0.length : Int) := by omega
    have w1 : IntKind.i64.wrap ((n : Int) + 1) = ((n + 1 : Nat) : Int) := by rw [w64] <;> omega
    have w2 : IntKind.i64.wrap ((IntKind.i64.wrap ((a0.length : Int) - 1)) - (n : Int)) = ((a0.length - 1 - n : Nat) : Int) := by
      rw [w64 (n := (a0.length : Int) - 1) (by omega) (by omega), w64 (by omega) (by omega)]; omega
    have ibt : ∀ g, ibg g (n : Int) a0.length = some () := fun g => ibg_t (fun _ => by omega)
    have hx : a0.getD n z_api_Id ∈ a0 := by rw [List.getD_eq_getElem?_getD, List.getElem?_eq_getElem hn]; exact List.getElem_mem hn
    have hc : ¬ (cmpId (a0.getD n z_api_Id) (hiF a0) > 0) := by have := h3 _ hx; omega
    have ht : a0.take (n + 1) = a0.take n ++ [a0.getD n z_api_Id] := by
      rw [List.take_add_one, List.getD_eq_getElem?_getD, List.getElem?_eq_getElem hn]; rfl
    have hr : a0.reverse.take (n + 1) = a0.reverse.take n ++ [a0.getD (a0.length - 1 - n) z_api_Id] := by
      rw [List.take_add_one, List.getD_eq_getElem?_getD, List.getElem?_reverse hn, List.getElem?_eq_getElem (by omega)]; rfl
    simp only [hn', decide_true, if_true, ibt, ib_n hn, Option.bind_some, Int.toNat_natCast, w1, w2, ib_n (show a0.length - 1 - n < a0.length by omega), lt, cmp_eq, hc, Bool.false_eq_true, if_false]
    rw [fit_t (by simp; omega) (by omega), ht, hr]
    simp only [Option.bind_some, List.any_append, List.any_cons, List.any_nil, Bool.or_false, Bool.or_assoc]) (by
      have e : a0.reverse.take a0.length = a0.reverse := List.take_of_length_le (by simp)
      simp [e])]
  simp only [Option.bind_some, Fl.elim]
  have hf : (b_api_Id (hiF a0) z_api_Id || a0.any (fun x => b_api_Id x (hiF a0))) = true := by
    rcases h1 with h | h
    · rw [h, breflId]; rfl
    · rw [Bool.or_eq_true]; right
      rw [List.any_eq_true]
      exact ⟨_, h, breflId _⟩
  rw [hf]
  simp only [whn, if_true]
  rw [high_eq (by simpa using w0.1), hi_rev]
  simp only [Option.bind_some, breflId, Bool.and_self]
end Go.Proofs.Ythkgpbjgkchilaa
