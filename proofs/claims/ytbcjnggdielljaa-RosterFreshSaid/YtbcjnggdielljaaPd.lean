/- The laws of chapter 17 on rosters that may be. Conditions: none. -/
import Derived.Test.YtbcjnggdielljaaPc
set_option linter.unusedVariables false
set_option linter.unusedSimpArgs false
namespace Go.Proofs.Ytbcjnggdielljaa
open Go.Eng
/-- What a session at a place of a roster obeys. -/
def Fine (t : Ses) (b : Int) : Prop := ∀ i, i < t.length → (1 ≤ (t.getD i z_api_Session).Id ∧ (t.getD i z_api_Session).Id ≤ b) ∧ (t.getD i z_api_Session).Number ≤ 4294967295 ∧ (i ≠ 0 → (t.getD (i - 1) z_api_Session).Id < (t.getD i z_api_Session).Id)
theorem mayF_iff {r : api_Roster} : mayF r = true ↔ Fine r.List r.Last ∧ r.List.length ≤ 4 ∧ r.Last ≤ 65535 := by
  unfold mayF Fine
  rw [Bool.and_eq_true, Bool.and_eq_true, decide_eq_true_eq, decide_eq_true_eq, List.all_eq_true]
  constructor
  · rintro ⟨h1, h2, h3⟩
    refine ⟨fun i hi => ?_, by omega, h3⟩
    have := h1 i (List.mem_range.2 hi)
    simp only [badR, Bool.not_eq_true', Bool.or_eq_false_iff, Bool.and_eq_false_iff, decide_eq_false_iff_not] at this
    omega
  · rintro ⟨h1, h2, h3⟩
    refine ⟨fun i hi => ?_, by omega, h3⟩
    obtain ⟨a, b, c⟩ := h1 i (List.mem_range.1 hi)
    simp only [badR, Bool.not_eq_true', Bool.or_eq_false_iff, Bool.and_eq_false_iff, decide_eq_false_iff_not]
    omega
theorem Fine.mono {t : Ses} {b : Int} (h : Fine t b) {i j : Nat} (hij : i < j) (hj : j < t.length) : (t.getD i z_api_Session).Id < (t.getD j z_api_Session).Id := by
  induction j with
  | zero => omega
  | succ j ih =>
    have := (h (j + 1) hj).2.2 (by omega)
    rw [Nat.add_sub_cancel] at this
    by_cases h1 : i = j
    · subst h1; exact this
    · have := ih (by omega) (by omega); omega
theorem Fine.inj {t : Ses} {b : Int} (h : Fine t b) {i j : Nat} (hi : i < t.length) (hj : j < t.length) (e : (t.getD i z_api_Session).Id = (t.getD j z_api_Session).Id) : i = j := by
  rcases Nat.lt_trichotomy i j with q | q | q
  · have := h.mono q hj; omega
  · exact q
  · have := h.mono q hi; omega
theorem getF_some {t : Ses} {id : Int} (h : (getF t id).isSome = true) : ∃ i, i < t.length ∧ findF t id = (i : Int) ∧ getF t id = some (t.getD i z_api_Session) ∧ (t.getD i z_api_Session).Id = id := by
  rcases findF_spec t id with ⟨h1, h2⟩ | ⟨i, h1, h2, h3, h4, _⟩
  · rw [h2] at h; cases h
  · exact ⟨i, h1, h2, h3, h4⟩
theorem getF_of {t : Ses} {id : Int} {i : Nat} (hi : i < t.length) (h : (t.getD i z_api_Session).Id = id) : (getF t id).isSome = true := by
  unfold getF
  rw [List.find?_isSome]
  exact ⟨_, getD_in hi, by simpa using h⟩
theorem getF_no {t : Ses} {id : Int} (h : ∀ i, i < t.length → (t.getD i z_api_Session).Id ≠ id) : (getF t id).isSome = false := by
  cases hc : (getF t id).isSome with
  | false => rfl
  | true => obtain ⟨i, h1, _, _, h4⟩ := getF_some hc; exact absurd h4 (h i h1)
theorem app_get (l : Ses) (s : api_Session) (j : Nat) : (l ++ [s]).getD j z_api_Session = if j < l.length then l.getD j z_api_Session else if j = l.length then s else z_api_Session := by
  simp only [List.getD_eq_getElem?_getD]
  split
  · rename_i h; rw [List.getElem?_append_left h]
  · rename_i h
    rw [List.getElem?_append_right (by omega)]
    split
    · rename_i h2; subst h2; simp
    · rename_i h2
      rw [List.getElem?_eq_none (by simp only [List.length_cons, List.length_nil]; omega)]; rfl
/-- What Open makes. -/
theorem open_fine {t : Ses} {b : Int} (h : Fine t b) (h0 : 0 ≤ b) : Fine (t ++ [{ Id := b + 1, Number := 0 }]) (b + 1) := by
  intro i hi
  rw [List.length_append, List.length_cons, List.length_nil] at hi
  rw [app_get]
  by_cases h1 : i < t.length
  · rw [if_pos h1, app_get, if_pos (by omega)]
    have := h i h1
    omega
  · rw [if_neg h1, if_pos (by omega)]
    refine ⟨⟨by simp only; omega, by simp only; omega⟩, by simp only; omega, fun hz => ?_⟩
    rw [app_get, if_pos (by omega)]
    have := (h (i - 1) (by omega)).1
    simp only; omega
theorem erase_fine {t : Ses} {b : Int} (h : Fine t b) {k : Nat} (hk : k < t.length) : Fine (t.eraseIdx k) b := by
  intro i hi
  rw [erase_len _ _ hk] at hi
  rw [erase_get _ _ _ hk, erase_get _ _ _ hk]
  by_cases h1 : i < k
  · rw [if_pos h1, if_pos (by omega)]; exact h i (by omega)
  · rw [if_neg h1]
    have a := h (i + 1) (by omega)
    refine ⟨a.1, a.2.1, fun hz => ?_⟩
    by_cases h2 : i - 1 < k
    · rw [if_pos h2]; exact h.mono (by omega) (by omega)
    · rw [if_neg h2]; exact h.mono (by omega) (by omega)
theorem set_fine {t : Ses} {b : Int} (h : Fine t b) {k : Nat} (hk : k < t.length) {s : api_Session} (e : s.Id = (t.getD k z_api_Session).Id) (hs : s.Number ≤ 4294967295) : Fine (t.set k s) b := by
  have hid : ∀ i, ((t.set k s).getD i z_api_Session).Id = (t.getD i z_api_Session).Id := by
    intro i
    rw [getD_set]
    split
    · rename_i q; rw [← q.1, e]
    · rfl
  intro i hi
  rw [List.length_set] at hi
  rw [hid, hid]
  have := h i hi
  refine ⟨this.1, ?_, this.2.2⟩
  rw [getD_set]
  split
  · exact hs
  · exact this.2.1
theorem erase_has {t : Ses} {b : Int} (h : Fine t b) {k : Nat} (hk : k < t.length) : (getF (t.eraseIdx k) (t.getD k z_api_Session).Id).isSome = false := by
  refine getF_no fun i hi => ?_
  rw [erase_len _ _ hk] at hi
  rw [erase_get _ _ _ hk]
  by_cases h1 : i < k
  · rw [if_pos h1]; have := h.mono h1 hk; omega
  · rw [if_neg h1]; have := h.mono (i := k) (j := i + 1) (by omega) (by omega); omega
theorem erase_keeps {t : Ses} {k i : Nat} (hk : k < t.length) (hi : i < t.length) (hn : i ≠ k) : (getF (t.eraseIdx k) (t.getD i z_api_Session).Id).isSome = true := by
  by_cases h1 : i < k
  · exact getF_of (i := i) (by rw [erase_len _ _ hk]; omega) (by rw [erase_get _ _ _ hk, if_pos h1])
  · refine getF_of (i := i - 1) (by rw [erase_len _ _ hk]; omega) ?_
    rw [erase_get _ _ _ hk, if_neg (by omega)]
    have : i - 1 + 1 = i := by omega
    rw [this]
theorem open_two (r : api_Roster) : ((openF r).2.2 = 161 ∧ (4 ≤ r.List.length ∨ r.Last ≥ 65535)) ∨ (openF r = ({ Last := r.Last + 1, List := r.List ++ [{ Id := r.Last + 1, Number := 0 }] }, r.Last + 1, 0) ∧ ¬ (4 ≤ r.List.length ∨ r.Last ≥ 65535)) := by
  unfold openF
  by_cases h : 4 ≤ r.List.length ∨ r.Last ≥ 65535
  · rw [if_pos h]; exact .inl ⟨rfl, h⟩
  · rw [if_neg h]; exact .inr ⟨rfl, h⟩
theorem close_two (r : api_Roster) (id : Int) : (closeF r id = (zR, 162) ∧ (getF r.List id).isSome = false) ∨ ∃ i, i < r.List.length ∧ (r.List.getD i z_api_Session).Id = id ∧ (getF r.List id).isSome = true ∧ closeF r id = ({ r with List := r.List.eraseIdx i }, 0) := by
  unfold closeF
  rcases findF_spec r.List id with ⟨h1, h2⟩ | ⟨i, h1, h2, h3, h4, _⟩
  · rw [h2]; exact .inl ⟨rfl, rfl⟩
  · rw [h3, h2]; exact .inr ⟨i, h1, h4, rfl, rfl⟩
theorem next_two (r : api_Roster) (id : Int) : (nextF r id = (zR, 0, 162) ∧ ((getF r.List id).isSome = false ∨ ∃ i, i < r.List.length ∧ (r.List.getD i z_api_Session).Number ≥ 4294967295)) ∨ ∃ i, i < r.List.length ∧ (r.List.getD i z_api_Session).Id = id ∧ (getF r.List id).isSome = true ∧ (r.List.getD i z_api_Session).Number < 4294967295 ∧ nextF r id = ({ r with List := r.List.set i { r.List.getD i z_api_Session with Number := (r.List.getD i z_api_Session).Number + 1 } }, (r.List.getD i z_api_Session).Number + 1, 0) := by
  unfold nextF
  rcases findF_spec r.List id with ⟨h1, h2⟩ | ⟨i, h1, h2, h3, h4, _⟩
  · rw [h2]; exact .inl ⟨rfl, .inl rfl⟩
  · rw [h3, h2]
    simp only [Int.toNat_natCast]
    by_cases hc : (r.List.getD i z_api_Session).Number ≥ 4294967295
    · rw [if_pos hc]; exact .inl ⟨rfl, .inr ⟨i, h1, hc⟩⟩
    · rw [if_neg hc]; exact .inr ⟨i, h1, h4, rfl, by omega, rfl⟩
/-- ROSTER FULL. -/
def rN (n : Nat) : api_Roster := { Last := n, List := (_root_.List.range n).map fun (k : Nat) => ses ((k : Int) + 1) }
theorem rN_room (n : Nat) (h : n ≤ 1000) : Room (rN n).List := room_small (by simp [rN]; omega)
theorem pure_rosterFull (a0 : Int) (w0 : (Lit.int .u64 a0).wf = true) : congresslaw17_RosterFull a0 = some true := by
  unfold congresslaw17_RosterFull
  rw [loop_seq (F := fun n => ((n : Int), rN n)) 4 (s0 := (0, { Last := 0, List := [] })) (w := .nx (rN 4)) rfl]
  · have h4 := rN_room 4 (by omega)
    have e4 : openF (rN 4) = (zR, 0, 161) := rfl
    simp only [Option.bind_some, Fl.elim, open_eq _ h4 (Int.natCast_nonneg 4), close_eq _ a0 h4, fixed_eq, e4]
    rcases close_two (rN 4) a0 with ⟨h1, h2⟩ | ⟨i, h1, h2, h3, h5⟩
    · have hn : ¬ (1 ≤ a0 ∧ a0 ≤ 4) := by
        rintro ⟨q1, q2⟩
        have : a0 = 1 ∨ a0 = 2 ∨ a0 = 3 ∨ a0 = 4 := by omega
        rcases this with rfl | rfl | rfl | rfl <;> cases h2
      have hd : ((decide (a0 ≥ 1)) && (decide (a0 ≤ 4))) = false := by
        simp only [Bool.and_eq_false_iff, decide_eq_false_iff_not]; omega
      rw [h1]
      simp only [hd]
      rfl
    · have hi : i < 4 := h1
      have e5 : ∀ i, i < 4 → (∀ a : Int, a = ((rN 4).List.getD i z_api_Session).Id → a = (i : Int) + 1) ∧ openF { rN 4 with List := (rN 4).List.eraseIdx i } = ({ Last := 5, List := (rN 4).List.eraseIdx i ++ [ses 5] }, 5, 0) ∧ openF { Last := 5, List := (rN 4).List.eraseIdx i ++ [ses 5] } = (zR, 0, 161) ∧ (getF ((rN 4).List.eraseIdx i ++ [ses 5]) ((i : Int) + 1)).isSome = false ∧ (getF ((rN 4).List.eraseIdx i ++ [ses 5]) 5).isSome = true := by
        intro i hi
        match i, hi with
        | 0, _ => exact ⟨fun a h => h, rfl, rfl, rfl, rfl⟩
        | 1, _ => exact ⟨fun a h => h, rfl, rfl, rfl, rfl⟩
        | 2, _ => exact ⟨fun a h => h, rfl, rfl, rfl, rfl⟩
        | 3, _ => exact ⟨fun a h => h, rfl, rfl, rfl, rfl⟩
        | n + 4, h => omega
      obtain ⟨g1, g2, g3, g4, g5⟩ := e5 i hi
      have ea := g1 a0 h2.symm
      have hd : ((decide (a0 ≥ 1)) && (decide (a0 ≤ 4))) = true := by
        simp only [Bool.and_eq_true, decide_eq_true_eq]; omega
      have k1 : Room ((rN 4).List.eraseIdx i) := room_small (by have := List.length_eraseIdx_le (rN 4).List i; have e : (rN 4).List.length = 4 := rfl; omega)
      have k2 : Room ((rN 4).List.eraseIdx i ++ [ses 5]) := room_small (by have := List.length_eraseIdx_le (rN 4).List i; have e : (rN 4).List.length = 4 := rfl; simp only [List.length_append, List.length_cons, List.length_nil]; omega)
      rw [h5]
      simp only [hd, lt, Option.bind_some]
      rw [if_neg (by decide), if_neg (by decide), open_eq { rN 4 with List := (rN 4).List.eraseIdx i } k1 (Int.natCast_nonneg 4), g2]
      simp only [Option.bind_some]
      rw [open_eq { Last := 5, List := (rN 4).List.eraseIdx i ++ [ses 5] } k2 (by simp), g3]
      simp only [Option.bind_some, has_eq { Last := 5, List := (rN 4).List.eraseIdx i ++ [ses 5] } _ k2, ea, g4, g5]
      rfl
  · intro n hn
    have h4 := rN_room n (by omega)
    simp only
    rw [if_pos (by simp; omega), open_eq _ h4 (Int.natCast_nonneg n)]
    match n, hn with
    | 0, _ => rfl
    | 1, _ => rfl
    | 2, _ => rfl
    | 3, _ => rfl
    | n + 4, h => omega
  · rfl
/-- ROSTER STAYS. -/
theorem open_last {r : api_Roster} (h : 0 ≤ r.Last) : 0 ≤ (openF r).1.Last := by
  unfold openF
  split
  · exact Int.le_refl _
  · simp only; omega
theorem close_last {r : api_Roster} {id : Int} (h : 0 ≤ r.Last) : 0 ≤ (closeF r id).1.Last := by
  unfold closeF
  split
  · exact Int.le_refl _
  · exact h
theorem next_last {r : api_Roster} {id : Int} (h : 0 ≤ r.Last) : 0 ≤ (nextF r id).1.Last := by
  unfold nextF
  split
  · exact Int.le_refl _
  · split
    · exact Int.le_refl _
    · exact h
theorem open_stays {r : api_Roster} (h : mayF r = true) (h0 : 0 ≤ r.Last) : ((openF r).2.2 == 0) = true → mayF (openF r).1 = true ∧ (openF r).1.List.length = r.List.length + 1 ∧ ∀ i, i < r.List.length → (openF r).1.List.getD i z_api_Session = r.List.getD i z_api_Session := by
  rcases open_two r with ⟨h1, h2⟩ | ⟨h1, h2⟩
  · rw [h1]; intro q; cases q
  · intro _
    obtain ⟨f, hl, hb⟩ := mayF_iff.1 h
    rw [h1]
    refine ⟨mayF_iff.2 ⟨open_fine f h0, ?_, ?_⟩, ?_, fun i hi => ?_⟩
    · simp only [List.length_append, List.length_cons, List.length_nil]; omega
    · simp only; omega
    · simp only [List.length_append, List.length_cons, List.length_nil]
    · simp only [app_get, if_pos hi]
theorem close_stays {r : api_Roster} {id : Int} (h : mayF r = true) : ((closeF r id).2 == 0) = true → mayF (closeF r id).1 = true ∧ (getF (closeF r id).1.List id).isSome = false ∧ ∀ i, i < r.List.length → (r.List.getD i z_api_Session).Id ≠ id → (getF (closeF r id).1.List (r.List.getD i z_api_Session).Id).isSome = true := by
  obtain ⟨f, hl, hb⟩ := mayF_iff.1 h
  rcases close_two r id with ⟨h1, h2⟩ | ⟨k, hk, h2, h3, h1⟩
  · rw [h1]; intro q; cases q
  · intro _
    rw [h1]
    refine ⟨mayF_iff.2 ⟨erase_fine f hk, ?_, hb⟩, ?_, fun i hi hn => ?_⟩
    · simp only [erase_len _ _ hk]; omega
    · rw [← h2]; exact erase_has f hk
    · exact erase_keeps hk hi (fun e => hn (by rw [e, h2]))
theorem next_stays {r : api_Roster} {id : Int} (h : mayF r = true) : ((nextF r id).2.2 == 0) = true → mayF (nextF r id).1 = true ∧ (nextF r id).1.List.length = r.List.length ∧ ∀ i, i < r.List.length → (r.List.getD i z_api_Session).Id ≠ id → (nextF r id).1.List.getD i z_api_Session = r.List.getD i z_api_Session := by
  obtain ⟨f, hl, hb⟩ := mayF_iff.1 h
  rcases next_two r id with ⟨h1, h2⟩ | ⟨k, hk, h2, h3, h4, h1⟩
  · rw [h1]; intro q; cases q
  · intro _
    rw [h1]
    refine ⟨mayF_iff.2 ⟨set_fine f hk rfl (by simp only; omega), ?_, hb⟩, ?_, fun i hi hn => ?_⟩
    · simp only [List.length_set]; exact hl
    · simp only [List.length_set]
    · simp only [getD_set]
      rw [if_neg]
      rintro ⟨e, _⟩
      exact hn (by rw [← e, h2])
theorem b_self (s : api_Session) : b_api_Session s s = true := by simp [b_api_Session]
theorem pure_rosterStays (a0 : api_Roster) (a1 : Int) (w0 : w_api_Roster a0) (w1 : (Lit.int .u64 a1).wf = true) : congresslaw17_RosterStays a0 a1 = some true := by
  have hr : Room a0.List := room_of w0.2.1.2
  have hL := (wf_u64.1 w0.1).1
  have hm := maxLen_le
  have hl := hr.len
  have hw : ∀ s ∈ a0.List, 0 ≤ s.Number := fun s hs => (wf_u64.1 (wf_at w0.2.2 s hs).2).1
  unfold congresslaw17_RosterStays
  simp only [fixed_eq, Option.bind_some, whn, Bool.not_true, Bool.not_false, if_true, may_eq a0 hr hL, Bool.false_or]
  cases hM : mayF a0 with
  | false => rfl
  | true =>
    have hO := open_stays hM hL
    have hC := close_stays (id := a1) hM
    have hN := next_stays (id := a1) hM
    simp only [Bool.not_true, Bool.false_eq_true, if_false, open_eq a0 hr hL, close_eq a0 a1 hr, next_eq a0 a1 hr hw, Option.bind_some,
      may_eq _ (open_room hr) (open_last hL), may_eq _ (close_room (id := a1) hr) (close_last hL), may_eq _ (next_room (id := a1) hr) (next_last hL), has_eq _ _ (close_room (id := a1) hr)]
    have hlen : IntKind.i64.wrap ((a0.List.length : Int) + 1) = (a0.List.length : Int) + 1 := by
      unfold Room at hr
      exact w64 (by omega) (by omega)
    rw [hlen]
    generalize openF a0 = x at *
    generalize closeF a0 a1 = y at *
    generalize nextF a0 a1 = z at *
    generalize hx : (x.2.2 == 0) = bx at *
    generalize hy : (y.2 == 0) = by_ at *
    generalize hz : (z.2.2 == 0) = bz at *
    have s1 : (if bx = true then some (mayF x.1) else some false) = some bx := by cases bx with
      | false => rfl
      | true => rw [if_pos rfl, (hO rfl).1]
    rw [s1]
    simp only [Option.bind_some]
    have e1 : (bx && !bx) = false := by cases bx <;> rfl
    simp only [e1, Bool.not_false, Bool.true_and, Bool.false_or]
    have s2 : (if by_ = true then some (mayF y.1) else some false) = some by_ := by cases by_ with
      | false => rfl
      | true => rw [if_pos rfl, (hC rfl).1]
    rw [s2]
    simp only [Option.bind_some]
    have s3 : (if (by_ && !!by_) = true then some (getF y.1.List a1).isSome else some false) = some false := by cases by_ with
      | false => rfl
      | true => rw [(hC rfl).2.1]; rfl
    rw [s3]
    simp only [Option.bind_some]
    have e2 : (by_ && (!by_ || false)) = false := by cases by_ <;> rfl
    simp only [e2, Bool.not_false, Bool.true_and, Bool.false_or]
    have s4 : (if bz = true then some (mayF z.1) else some false) = some bz := by cases bz with
      | false => rfl
      | true => rw [if_pos rfl, (hN rfl).1]
    rw [s4]
    have e3 : (bz && !bz) = false := by cases bz <;> rfl
    simp only [Option.bind_some, e3, lt, Bool.false_eq_true, if_false]
    rw [if_neg, loop_seq (F := fun n => (n : Int)) a0.List.length (s0 := 0) (w := .nx ()) rfl]
    · rfl
    · intro n hn
      rw [if_pos (by simp; omega), ib_n hn]
      simp only [Option.bind_some, Int.toNat_natCast]
      rw [ibg_t (fun q => ⟨by omega, by have := (hO q).2.1; omega⟩)]
      simp only [Option.bind_some]
      have e4 : (bx && !b_api_Session (x.1.List.getD n z_api_Session) (a0.List.getD n z_api_Session)) = false := by cases bx with
        | false => rfl
        | true => rw [(hO rfl).2.2 n hn, b_self]; rfl
      simp only [e4, Bool.not_false, Bool.true_and, Bool.false_or]
      rw [ibg_t (fun q => ⟨by omega, by rw [Bool.and_eq_true] at q; have := (hN q.1).2.1; omega⟩)]
      simp only [Option.bind_some]
      have e5 : (bz && ((a0.List.getD n z_api_Session).Id != a1) && !b_api_Session (z.1.List.getD n z_api_Session) (a0.List.getD n z_api_Session)) = false := by cases bz with
        | false => rfl
        | true =>
          by_cases q : (a0.List.getD n z_api_Session).Id = a1
          · have q' : ((a0.List.getD n z_api_Session).Id != a1) = false := by rw [q]; exact bne_self_eq_false a1
            rw [q']; rfl
          · rw [(hN rfl).2.2 n hn q, b_self]; simp
      simp only [e5, Bool.not_false, Bool.true_and, Bool.false_or]
      have e6 : (if (by_ && ((a0.List.getD n z_api_Session).Id != a1)) = true then some (getF y.1.List (a0.List.getD n z_api_Session).Id).isSome else some false) = some (by_ && ((a0.List.getD n z_api_Session).Id != a1)) := by cases by_ with
        | false => rfl
        | true =>
          by_cases q : (a0.List.getD n z_api_Session).Id = a1
          · have q' : ((a0.List.getD n z_api_Session).Id != a1) = false := by rw [q]; exact bne_self_eq_false a1
            rw [q']; rfl
          · have q' : ((a0.List.getD n z_api_Session).Id != a1) = true := bne_iff_ne.2 q
            rw [(hC rfl).2.2 n hn q, q']; rfl
      rw [e6]
      simp only [Option.bind_some]
      have e7 : (by_ && ((a0.List.getD n z_api_Session).Id != a1) && !(by_ && ((a0.List.getD n z_api_Session).Id != a1))) = false := by
        cases (by_ && ((a0.List.getD n z_api_Session).Id != a1)) <;> rfl
      rw [e7, if_neg (by simp), w64 (by omega) (by omega)]; rfl
    · rw [if_neg (by simp)]
    · have t1 : (bx && ((x.1.List.length : Int) != (a0.List.length : Int) + 1)) = false := by cases bx with
        | false => rfl
        | true => rw [(hO rfl).2.1]; simp
      have t2 : (bz && ((z.1.List.length : Int) != (a0.List.length : Int))) = false := by cases bz with
        | false => rfl
        | true => rw [(hN rfl).2.1]; simp
      rw [t1, t2]; simp
end Go.Proofs.Ytbcjnggdielljaa
