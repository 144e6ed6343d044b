/- What the functions of chapter 17 answer, in closed form. Conditions: none. -/
import Derived.Test.YtbcjnggdielljaaIn
import Derived.Test.YtbcjnggdielljaaEngW
set_option linter.unusedVariables false
set_option linter.unusedSimpArgs false
namespace Go.Proofs.Ytbcjnggdielljaa
open Go.Eng
abbrev Ses := _root_.List api_Session
def Room (t : Ses) : Prop := t.length ≤ 8796093022000
theorem big9 : (8796093022300 : Nat) ≤ maxLen := by decide
theorem mul_b {n : Nat} (h : n ≤ 8796093022200) : n * 16 ≤ 140737488355328 := Nat.le_trans (Nat.mul_le_mul_right 16 h) (by decide)
theorem room_of {t : Ses} (h : t.length * 16 ≤ 140737488351232) : Room t := by
  unfold Room
  rcases Nat.lt_or_ge t.length 8796093022001 with q | q
  · omega
  · have := Nat.mul_le_mul_right 16 q
    have e : 8796093022001 * 16 = 140737488352016 := by decide
    omega
theorem Room.len {t : Ses} (h : Room t) : t.length ≤ maxLen := by unfold Room at h; have := big9; omega
theorem Room.fit {t : Ses} (h : Room t) : fit t.length 16 = some () := fit_t h.len (mul_b (by unfold Room at h; omega))
theorem fit1 {n : Nat} (h : n ≤ 8796093022200) : fit n 16 = some () := fit_t (by have := big9; omega) (mul_b h)
theorem room_small {t : Ses} (h : t.length ≤ 1000) : Room t := by unfold Room; omega
theorem clone_eq (t : Ses) (h : Room t) : slices_Clone_api_Session_api_Session t = some t := by
  have : slices_Clone_api_Session_api_Session t = cloneG 16 t := rfl
  rw [this, cloneG_eq h.len (mul_b (by unfold Room at h; omega))]
theorem copied_eq (r : api_Roster) (h : Room r.List) : roster_copied r = some r := by
  unfold roster_copied; rw [clone_eq _ h]; rfl
def findF (t : Ses) (id : Int) : Int := fidx t z_api_Session (fun s => s.Id == id)
def getF (t : Ses) (id : Int) : Option api_Session := t.find? (fun s => s.Id == id)
theorem find_eq (r : api_Roster) (id : Int) (h : Room r.List) : roster_find r id = some (findF r.List id) := by
  have : slices_IndexFunc_api_Session_api_Session r.List (fun z0 => roster_find_1 z0 id) = idxG z_api_Session r.List (fun z0 => roster_find_1 z0 id) := rfl
  rw [roster_find, this, idxG_eq z_api_Session r.List (fun z0 => roster_find_1 z0 id) (fun s => s.Id == id) (fun _ => rfl) h.len]; rfl
theorem rfind_eq (r : api_Roster) (id : Int) (h : Room r.List) : congressref17_Find r id = some (findF r.List id) := by
  have hm := maxLen_le
  have hl := h.len
  unfold congressref17_Find
  rw [loop_find r.List.length (fun i => (r.List.getD i z_api_Session).Id == id) (fun i => (i : Int))]
  · unfold findF fidx
    cases (List.range r.List.length).find? (fun i => (r.List.getD i z_api_Session).Id == id) <;> rfl
  · intro n hn
    rw [if_pos (by simp; omega), ib_n hn]
    simp only [Option.bind_some, Int.toNat_natCast]
    split
    · rfl
    · rw [w64 (by omega) (by omega)]; rfl
  · rw [if_neg (by simp)]
theorem findF_spec (t : Ses) (id : Int) : (findF t id = -1 ∧ getF t id = none) ∨ ∃ i : Nat, i < t.length ∧ findF t id = i ∧ getF t id = some (t.getD i z_api_Session) ∧ (t.getD i z_api_Session).Id = id ∧ ∀ j, j < i → (t.getD j z_api_Session).Id ≠ id := by
  rcases fidx_spec t z_api_Session (fun s => s.Id == id) with ⟨h1, h2, h3⟩ | ⟨i, h1, h2, h3, h4, h5⟩
  · exact .inl ⟨h1, h2⟩
  · exact .inr ⟨i, h1, h2, h4, by simpa using h3, fun j hj => by simpa using h5 j hj⟩
theorem has_eq (r : api_Roster) (id : Int) (h : Room r.List) : roster_Has r id = some (getF r.List id).isSome := by
  unfold roster_Has
  rw [find_eq r id h]
  simp only [Option.bind_some, Option.some.injEq]
  rcases findF_spec r.List id with ⟨h1, h2⟩ | ⟨i, h1, h2, h3, _⟩
  · rw [h1, h2]; rfl
  · rw [h2, h3]; simp
def zR : api_Roster := { Last := 0, List := [] }
def openF (r : api_Roster) : api_Roster × Int × Int :=
  if 4 ≤ r.List.length ∨ r.Last ≥ 65535 then (zR, 0, 161) else ({ Last := r.Last + 1, List := r.List ++ [{ Id := r.Last + 1, Number := 0 }] }, r.Last + 1, 0)
theorem open_eq (r : api_Roster) (h : Room r.List) (hL : 0 ≤ r.Last) : roster_Open r = some (openF r) := by
  unfold roster_Open openF
  by_cases hc : 4 ≤ r.List.length ∨ r.Last ≥ 65535
  · rw [if_pos hc, if_pos (by simp only [Bool.or_eq_true, decide_eq_true_eq]; omega)]; rfl
  · have e1 : IntKind.u64.wrap (r.Last + 1) = r.Last + 1 := by rw [wu64]; omega
    rw [if_neg hc, if_neg (by simp only [Bool.or_eq_true, decide_eq_true_eq]; omega), copied_eq r h]
    simp only [Option.bind_some, e1, lt]
    have hlen : (r.List ++ [({ Id := r.Last + 1, Number := 0 } : api_Session)]).length = r.List.length + 1 := by simp
    rw [fit1 (by omega)]; rfl
theorem ropen_eq (r : api_Roster) (h : Room r.List) (hL : 0 ≤ r.Last) : congressref17_Open r = some (openF r) := by
  unfold congressref17_Open openF
  by_cases hc : 4 ≤ r.List.length ∨ r.Last ≥ 65535
  · rw [if_pos hc, if_pos (by simp only [Bool.or_eq_true, decide_eq_true_eq]; omega)]; rfl
  · have e1 : IntKind.u64.wrap (r.Last + 1) = r.Last + 1 := by rw [wu64]; omega
    rw [if_neg hc, if_neg (by simp only [Bool.or_eq_true, decide_eq_true_eq]; omega)]
    simp only [List.nil_append, e1, lt]
    have hlen : (r.List ++ [({ Id := r.Last + 1, Number := 0 } : api_Session)]).length = r.List.length + 1 := by simp
    rw [h.fit]
    simp only [Option.bind_some]
    rw [fit1 (by omega)]; rfl
theorem ext_getD {α : Type} {l m : _root_.List α} {d : α} (h1 : l.length = m.length) (h : ∀ j, j < l.length → l.getD j d = m.getD j d) : l = m := by
  have := take_ext (d := d) (n := l.length) (Nat.le_refl _) (by omega) h
  rw [List.take_length, h1, List.take_length] at this
  exact this
theorem erase_get (l : Ses) (i j : Nat) (hi : i < l.length) : (l.eraseIdx i).getD j z_api_Session = if j < i then l.getD j z_api_Session else l.getD (j + 1) z_api_Session := by
  simp only [List.getD_eq_getElem?_getD, List.getElem?_eraseIdx]
  split <;> rfl
theorem erase_len (l : Ses) (i : Nat) (hi : i < l.length) : (l.eraseIdx i).length = l.length - 1 := by
  rw [List.length_eraseIdx, if_pos hi]
theorem delete_eq (l : Ses) (i : Nat) (hi : i < l.length) : slices_Delete_api_Session_api_Session l (i : Int) ((i + 1 : Nat) : Int) = some (l.eraseIdx i) := by
  unfold slices_Delete_api_Session_api_Session
  rw [sb_t ⟨by omega, by omega, by omega⟩]
  simp only [Option.bind_some]
  rw [sb_t ⟨by omega, by omega, by omega⟩]
  simp only [Option.bind_some]
  rw [if_neg (by simp only [beq_iff_eq]; omega), sb_t ⟨by omega, by omega, by omega⟩]
  simp only [Option.bind_some, Int.toNat_natCast]
  rw [inb_t (by omega)]
  simp only [Option.bind_some]
  rw [inb_t (by omega)]
  simp only [Option.bind_some, shf_len]
  rw [sb_t ⟨by omega, by omega, by omega⟩]
  simp only [Option.bind_some]
  rw [inb_t (by omega)]
  simp only [Option.bind_some, lt, clr_len, shf_len]
  rw [inb_t (by omega)]
  simp only [Option.bind_some, Option.some.injEq]
  refine ext_getD (d := z_api_Session) ?_ (fun j hj => ?_)
  · rw [List.length_take, clr_len, shf_len, erase_len l i hi]; omega
  · rw [List.length_take, clr_len, shf_len] at hj
    rw [getD_take _ _ (by omega), clr_get _ _ _ _ _ (by rw [shf_len]; omega), if_neg (by omega), shf_get _ _ _ _ _ (by omega), erase_get l i j hi]
    by_cases h : j < i
    · rw [if_neg (by omega), if_pos h]
    · rw [if_pos (by omega), if_neg h]
      congr 1; omega
def closeF (r : api_Roster) (id : Int) : api_Roster × Int :=
  match getF r.List id with
  | none => (zR, 162)
  | some _ => ({ r with List := r.List.eraseIdx (findF r.List id).toNat }, 0)
theorem close_eq (r : api_Roster) (id : Int) (h : Room r.List) : roster_Close r id = some (closeF r id) := by
  unfold roster_Close closeF
  rw [find_eq r id h]
  simp only [Option.bind_some]
  rcases findF_spec r.List id with ⟨h1, h2⟩ | ⟨i, h1, h2, h3, _⟩
  · rw [h1, h2]; rfl
  · have hm := maxLen_le
    have hl := h.len
    have e1 : IntKind.i64.wrap ((i : Int) + 1) = ((i + 1 : Nat) : Int) := by rw [w64 (by omega) (by omega)]; rfl
    rw [h2, h3, if_neg (by simp), copied_eq r h]
    simp only [Option.bind_some, e1, delete_eq _ _ h1, Int.toNat_natCast]
theorem rclose_eq (r : api_Roster) (id : Int) (h : Room r.List) : congressref17_Close r id = some (closeF r id) := by
  unfold congressref17_Close closeF
  rw [rfind_eq r id h]
  simp only [Option.bind_some]
  rcases findF_spec r.List id with ⟨h1, h2⟩ | ⟨i, h1, h2, h3, _⟩
  · rw [h1, h2]; rfl
  · have hm := maxLen_le
    have hl := h.len
    rw [h2, h3, if_neg (by simp)]
    rw [loop_seq (F := fun n => ((n : Int), (r.List.take n).eraseIdx i)) r.List.length (s0 := (0, [])) (w := .nx (r.List.eraseIdx i)) (by simp)]
    · rfl
    · intro n hn
      have e1 : IntKind.i64.wrap ((n : Int) + 1) = ((n + 1 : Nat) : Int) := by rw [w64 (by omega) (by omega)]; rfl
      simp only
      rw [if_pos (by simp; omega), jn, e1, take_s (d := z_api_Session) hn]
      by_cases hq : n = i
      · subst hq
        rw [if_neg (by simp)]
        rw [List.eraseIdx_append_of_length_le (by simp; omega)]
        rw [List.eraseIdx_of_length_le (by simp; omega)]
        simp [Nat.min_eq_left (Nat.le_of_lt hn)]
      · rw [if_pos (by simp; omega), ib_n hn]
        simp only [Option.bind_some, Int.toNat_natCast]
        have hlen : ((r.List.take n).eraseIdx i ++ [r.List.getD n z_api_Session]).length ≤ r.List.length := by
          have := List.length_eraseIdx_le (r.List.take n) i
          simp only [List.length_append, List.length_cons, List.length_nil, List.length_take] at this ⊢
          omega
        rw [fit1 (by unfold Room at h; omega)]
        simp only [Option.bind_some]
        by_cases hlt : i < n
        · rw [List.eraseIdx_append_of_lt_length (by simp; omega)]
        · rw [List.eraseIdx_of_length_le (by simp; omega), List.eraseIdx_of_length_le (by simp; omega)]
    · simp only
      rw [if_neg (by simp), List.take_length]
def nextF (r : api_Roster) (id : Int) : api_Roster × Int × Int :=
  match getF r.List id with
  | none => (zR, 0, 162)
  | some s => if s.Number ≥ 4294967295 then (zR, 0, 162) else ({ r with List := r.List.set (findF r.List id).toNat { s with Number := s.Number + 1 } }, s.Number + 1, 0)
theorem next_eq (r : api_Roster) (id : Int) (h : Room r.List) (hw : ∀ s ∈ r.List, 0 ≤ s.Number) : roster_Next r id = some (nextF r id) := by
  unfold roster_Next nextF
  rw [find_eq r id h]
  simp only [Option.bind_some]
  rcases findF_spec r.List id with ⟨h1, h2⟩ | ⟨i, h1, h2, h3, _⟩
  · rw [h1, h2]; rfl
  · have hn := hw _ (getD_in (d := z_api_Session) h1)
    rw [h2, h3, ibg_t (fun _ => ⟨by omega, by omega⟩)]
    simp only [Option.bind_some, lt, Int.toNat_natCast]
    by_cases hc : (r.List.getD i z_api_Session).Number ≥ 4294967295
    · rw [if_pos (by simp only [Bool.or_eq_true, decide_eq_true_eq]; exact .inr hc), if_pos hc]; rfl
    · have e1 : IntKind.u64.wrap ((r.List.getD i z_api_Session).Number + 1) = (r.List.getD i z_api_Session).Number + 1 := by rw [wu64]; omega
      rw [if_neg (by simp only [Bool.or_eq_true, decide_eq_true_eq]; omega), if_neg hc, copied_eq r h]
      simp only [Option.bind_some]
      rw [ib_n h1]
      simp only [Option.bind_some, e1]
      rw [ib_n (by simpa using h1)]
      simp only [Option.bind_some, getD_set, h1, and_self, if_true]
theorem rnext_eq (r : api_Roster) (id : Int) (h : Room r.List) (hw : ∀ s ∈ r.List, 0 ≤ s.Number) : congressref17_Next r id = some (nextF r id) := by
  unfold congressref17_Next nextF
  rw [rfind_eq r id h]
  simp only [Option.bind_some]
  rcases findF_spec r.List id with ⟨h1, h2⟩ | ⟨i, h1, h2, h3, _⟩
  · rw [h1, h2]; rfl
  · have hn := hw _ (getD_in (d := z_api_Session) h1)
    rw [h2, h3, ibg_t (fun _ => ⟨by omega, by omega⟩)]
    simp only [Option.bind_some, lt, Int.toNat_natCast]
    by_cases hc : (r.List.getD i z_api_Session).Number ≥ 4294967295
    · rw [if_pos (by simp only [Bool.or_eq_true, decide_eq_true_eq]; exact .inr hc), if_pos hc]; rfl
    · have e1 : IntKind.u64.wrap ((r.List.getD i z_api_Session).Number + 1) = (r.List.getD i z_api_Session).Number + 1 := by rw [wu64]; omega
      rw [if_neg (by simp only [Bool.or_eq_true, decide_eq_true_eq]; omega), if_neg hc]
      simp only [List.nil_append]
      rw [h.fit]
      simp only [Option.bind_some]
      rw [ib_n h1]
      simp only [Option.bind_some, e1]
      rw [ib_n (by simpa using h1)]
      simp only [Option.bind_some, getD_set, h1, and_self, if_true]
/-- May a roster be? -/
def badR (r : api_Roster) (i : Nat) : Bool := ((((decide ((r.List.getD i z_api_Session).Id < 1)) || (decide ((r.List.getD i z_api_Session).Id > r.Last))) || (decide ((r.List.getD i z_api_Session).Number > 4294967295))) || ((decide ((i : Int) > 0)) && (decide ((r.List.getD (i - 1) z_api_Session).Id ≥ (r.List.getD i z_api_Session).Id))))
def mayF (r : api_Roster) : Bool := ((List.range r.List.length).all fun i => !badR r i) && ((decide ((r.List.length : Int) ≤ 4)) && (decide (r.Last ≤ 65535)))
theorem rmay_eq (r : api_Roster) (h : Room r.List) : congressref17_May r = some (mayF r) := by
  have hm := maxLen_le
  have hl := h.len
  unfold congressref17_May
  rw [scan (badR r) r.List.length]
  · unfold mayF
    cases (List.range r.List.length).all fun i => !badR r i with
    | true => rfl
    | false => rfl
  · intro n hn
    rw [if_pos (by simp; omega), ib_n hn]
    simp only [Option.bind_some, Int.toNat_natCast]
    have e1 : IntKind.i64.wrap ((n : Int) + 1) = ((n + 1 : Nat) : Int) := by rw [w64 (by omega) (by omega)]; rfl
    have e2 : IntKind.i64.wrap ((n : Int) - 1) = (n : Int) - 1 := w64 (by omega) (by omega)
    have e3 : ((n : Int) - 1).toNat = n - 1 := by omega
    rw [e2, ibg_t (fun q => by simp only [Bool.and_eq_true, decide_eq_true_eq] at q; omega)]
    simp only [Option.bind_some, lt, e1, e3, badR]
    rfl
  · rw [if_neg (by simp)]
def okA (r : api_Roster) (i : Nat) : Bool := !((decide ((r.List.getD i z_api_Session).Id ≤ (if i = 0 then 0 else (r.List.getD (i - 1) z_api_Session).Id))) || (decide ((r.List.getD i z_api_Session).Number > 4294967295)))
def lastId (r : api_Roster) (n : Nat) : Int := if n = 0 then 0 else (r.List.getD (n - 1) z_api_Session).Id
theorem may_eq (r : api_Roster) (h : Room r.List) (hL : 0 ≤ r.Last) : roster_May r = some (mayF r) := by
  have hm := maxLen_le
  have hl := h.len
  unfold roster_May
  obtain ⟨w, hw, hp⟩ := loop_count (body := fun (x1 : Int × Int) =>
    if (decide (x1.2 < (r.List.length : Int))) then
      (ib x1.2 r.List.length).bind fun _ =>
      lt (((decide (((r.List.getD x1.2.toNat z_api_Session).Id) ≤ x1.1)) || (decide (((r.List.getD x1.2.toNat z_api_Session).Number) > 4294967295))) : Bool) fun v4 =>
      if v4 then
        some (.done (.rt false))
      else
        some (.next ((r.List.getD x1.2.toNat z_api_Session).Id, (IntKind.i64.wrap (x1.2 + 1))))
    else
      some (.done (.nx (x1.1)))) (fun n s => s = (lastId r n, (n : Int)) ∧ ∀ j, j < n → okA r j = true)
    (fun w => w = (if ((List.range r.List.length).all (okA r)) = true then (.nx (lastId r r.List.length) : Fl Bool Int) else .rt false)) r.List.length (s0 := (0, 0)) ⟨rfl, fun j hj => absurd hj (by omega)⟩
    (fun n s hn hs => by
      obtain ⟨rfl, hs⟩ := hs
      simp only
      have e1 : IntKind.i64.wrap ((n : Int) + 1) = ((n + 1 : Nat) : Int) := by rw [w64 (by omega) (by omega)]; rfl
      by_cases hP : okA r n = true
      · left
        refine ⟨((r.List.getD n z_api_Session).Id, ((n + 1 : Nat) : Int)), ?_, ⟨by simp [lastId], fun j hj => ?_⟩⟩
        · rw [if_pos (by simp; omega), ib_n hn]
          simp only [Option.bind_some, lt, Int.toNat_natCast, e1]
          have hq := hP
          simp only [okA, Bool.not_eq_true'] at hq
          unfold lastId
          rw [if_neg (by rw [hq]; simp)]
        · by_cases hj2 : j = n
          · subst hj2; exact hP
          · exact hs j (by omega)
      · right
        refine ⟨.rt false, ?_, ?_⟩
        · rw [if_pos (by simp; omega), ib_n hn]
          simp only [Option.bind_some, lt, Int.toNat_natCast]
          have hq := hP
          simp only [okA, Bool.not_eq_true', Bool.not_eq_false] at hq
          unfold lastId
          rw [if_pos (by rw [hq])]
        · rw [if_neg]
          intro hall
          exact hP (List.all_eq_true.1 hall n (List.mem_range.2 hn)))
    (fun s hs => by
      obtain ⟨rfl, hs⟩ := hs
      refine ⟨.nx (lastId r r.List.length), by simp only; rw [if_neg (by simp)], ?_⟩
      rw [if_pos]
      rw [List.all_eq_true]
      intro j hj
      exact hs j (List.mem_range.1 hj))
  rw [hw, hp]
  have key : (((List.range r.List.length).all (okA r)) = true ∧ lastId r r.List.length ≤ r.Last) ↔ ((List.range r.List.length).all fun i => !badR r i) = true := by
    rw [List.all_eq_true, List.all_eq_true]
    constructor
    · rintro ⟨h1, h2⟩
      have step : ∀ i, i < r.List.length → (r.List.getD i z_api_Session).Id > (if i = 0 then 0 else (r.List.getD (i - 1) z_api_Session).Id) ∧ (r.List.getD i z_api_Session).Number ≤ 4294967295 := by
        intro i hi
        have := h1 i (List.mem_range.2 hi)
        simp only [okA, Bool.not_eq_true', Bool.or_eq_false_iff, decide_eq_false_iff_not] at this
        omega
      have pos : ∀ i, i < r.List.length → (r.List.getD i z_api_Session).Id ≥ 1 := by
        intro i
        induction i with
        | zero => intro hi; have := (step 0 hi).1; simp only [if_true] at this; omega
        | succ i ih =>
          intro hi
          have a := (step (i + 1) hi).1
          have b := ih (by omega)
          rw [if_neg (by omega), Nat.add_sub_cancel] at a
          omega
      have up : ∀ k i, i + k + 1 = r.List.length → (r.List.getD i z_api_Session).Id ≤ r.Last := by
        intro k
        induction k with
        | zero =>
          intro i hi
          have e : lastId r r.List.length = (r.List.getD i z_api_Session).Id := by
            unfold lastId
            rw [if_neg (by omega)]
            congr 2; omega
          omega
        | succ k ih =>
          intro i hi
          have h3 := ih (i + 1) (by omega)
          have h4 := (step (i + 1) (by omega)).1
          rw [if_neg (by omega)] at h4
          simp only [Nat.add_sub_cancel] at h4
          omega
      intro i hi
      have hi' := List.mem_range.1 hi
      have a := step i hi'
      have b := pos i hi'
      have c := up (r.List.length - i - 1) i (by omega)
      simp only [badR, Bool.not_eq_true', Bool.or_eq_false_iff, Bool.and_eq_false_iff, decide_eq_false_iff_not]
      refine ⟨⟨⟨by omega, by omega⟩, by omega⟩, ?_⟩
      by_cases h0 : i = 0
      · left; omega
      · right
        have := a.1
        rw [if_neg h0] at this
        omega
    · intro h1
      have step : ∀ i, i < r.List.length → (1 ≤ (r.List.getD i z_api_Session).Id ∧ (r.List.getD i z_api_Session).Id ≤ r.Last) ∧ (r.List.getD i z_api_Session).Number ≤ 4294967295 ∧ (i ≠ 0 → (r.List.getD (i - 1) z_api_Session).Id < (r.List.getD i z_api_Session).Id) := by
        intro i hi
        have := h1 i (List.mem_range.2 hi)
        simp only [badR, Bool.not_eq_true', Bool.or_eq_false_iff, Bool.and_eq_false_iff, decide_eq_false_iff_not] at this
        omega
      refine ⟨fun i hi => ?_, ?_⟩
      · obtain ⟨a, b, c⟩ := step i (List.mem_range.1 hi)
        simp only [okA, Bool.not_eq_true', Bool.or_eq_false_iff, decide_eq_false_iff_not]
        refine ⟨?_, by omega⟩
        by_cases h0 : i = 0
        · rw [if_pos h0]; omega
        · rw [if_neg h0]; have := c h0; omega
      · unfold lastId
        by_cases h0 : r.List.length = 0
        · rw [if_pos h0]; exact hL
        · rw [if_neg h0]
          exact (step (r.List.length - 1) (by omega)).1.2
  unfold mayF
  by_cases h1 : ((List.range r.List.length).all (okA r)) = true
  · rw [if_pos h1]
    simp only [Option.bind_some, Fl.elim, lt, Option.some.injEq]
    by_cases h2 : lastId r r.List.length ≤ r.Last
    · rw [key.1 ⟨h1, h2⟩]
      have : decide (lastId r r.List.length ≤ r.Last) = true := by simpa using h2
      rw [this, Bool.and_true, Bool.true_and]
    · have h3 : ((List.range r.List.length).all fun i => !badR r i) = false := Bool.eq_false_iff.2 fun q => h2 (key.2 q).2
      have : decide (lastId r r.List.length ≤ r.Last) = false := by simpa using h2
      rw [h3, this, Bool.and_false, Bool.false_and, Bool.false_and]
  · have h3 : ((List.range r.List.length).all fun i => !badR r i) = false := Bool.eq_false_iff.2 fun q => h1 (key.2 q).1
    rw [if_neg h1, h3]; rfl
theorem is_eq (r : api_Roster) (h : Room r.List) : congressref17_Is r r = some true := by
  have hm := maxLen_le
  have hl := h.len
  unfold congressref17_Is
  simp only [lt]
  rw [if_neg (by simp), loop_seq (F := fun n => ((n : Nat) : Int)) r.List.length (s0 := 0) (w := .nx ()) rfl]
  · rfl
  · intro n hn
    rw [if_pos (by simp; omega), ib_n hn]
    simp only [Option.bind_some, Int.toNat_natCast]
    have : b_api_Session (r.List.getD n z_api_Session) (r.List.getD n z_api_Session) = true := by simp [b_api_Session]
    simp only [this, Bool.not_true, Bool.false_eq_true, if_false]
    rw [w64 (by omega) (by omega)]; rfl
  · rw [if_neg (by simp)]
def ses (i : Int) : api_Session := { Id := i, Number := 0 }
theorem fixed_eq : congresslaw17_fixed = some true := by
  have s0 : Room ({ Last := 0, List := [] } : api_Roster).List := room_small (by simp)
  unfold congresslaw17_fixed
  rw [open_eq _ s0 (by simp)]
  have e1 : openF { Last := 0, List := [] } = ({ Last := 1, List := [ses 1] }, 1, 0) := rfl
  have e2 : openF { Last := 1, List := [ses 1] } = ({ Last := 2, List := [ses 1, ses 2] }, 2, 0) := rfl
  have e3 : closeF { Last := 2, List := [ses 1, ses 2] } 1 = ({ Last := 2, List := [ses 2] }, 0) := rfl
  have e4 : openF { Last := 2, List := [ses 2] } = ({ Last := 3, List := [ses 2, ses 3] }, 3, 0) := rfl
  have e5 : nextF { Last := 3, List := [ses 2, ses 3] } 3 = ({ Last := 3, List := [ses 2, { Id := 3, Number := 1 }] }, 1, 0) := rfl
  have e6 : closeF { Last := 3, List := [ses 2, ses 3] } 1 = (zR, 162) := rfl
  have r1 : Room [ses 1] := room_small (by simp)
  have r2 : Room [ses 1, ses 2] := room_small (by simp)
  have r3 : Room [ses 2] := room_small (by simp)
  have r4 : Room [ses 2, ses 3] := room_small (by simp)
  rw [e1]
  simp only [Option.bind_some]
  rw [open_eq _ r1 (by simp), e2]
  simp only [Option.bind_some]
  rw [close_eq _ _ r2, e3]
  simp only [Option.bind_some]
  rw [open_eq _ r3 (by simp), e4]
  simp only [Option.bind_some]
  rw [next_eq _ _ r4 (by simp [ses]), e5]
  simp only [Option.bind_some]
  rw [close_eq _ _ r4, e6]
  simp only [Option.bind_some, has_eq { Last := 3, List := [ses 2, ses 3] } _ r4, may_eq { Last := 3, List := [ses 2, ses 3] } r4 (by simp)]
  rfl
theorem open_room {r : api_Roster} (h : Room r.List) : Room (openF r).1.List := by
  unfold openF
  split
  · exact room_small (by simp [zR])
  · exact room_small (by simp; omega)
theorem close_room {r : api_Roster} {id : Int} (h : Room r.List) : Room (closeF r id).1.List := by
  unfold closeF
  split
  · exact room_small (by simp [zR])
  · have := List.length_eraseIdx_le r.List (findF r.List id).toNat
    unfold Room at *
    simp only
    omega
theorem next_room {r : api_Roster} {id : Int} (h : Room r.List) : Room (nextF r id).1.List := by
  unfold nextF
  split
  · exact room_small (by simp [zR])
  · split
    · exact room_small (by simp [zR])
    · unfold Room at *
      simpa using h
theorem wf_at {t : Ses} (h : ∀ j, j < t.length → w_api_Session (t.getD j z_api_Session)) : ∀ y ∈ t, w_api_Session y := by
  intro y hy
  obtain ⟨j, hj, rfl⟩ := List.getElem_of_mem hy
  have := h j hj
  rw [List.getD_eq_getElem?_getD, List.getElem?_eq_getElem hj] at this
  exact this
theorem pure_rosterTells (a0 : api_Roster) (a1 : Int) (w0 : w_api_Roster a0) (w1 : (Lit.int .u64 a1).wf = true) : congresslaw17_RosterTells a0 a1 = some true := by
  have hr : Room a0.List := room_of w0.2.1.2
  have hL := (wf_u64.1 w0.1).1
  have hw : ∀ s ∈ a0.List, 0 ≤ s.Number := fun s hs => (wf_u64.1 (wf_at w0.2.2 s hs).2).1
  have hg : decide (findF a0.List a1 ≥ 0) = (getF a0.List a1).isSome := by
    rcases findF_spec a0.List a1 with ⟨h1, h2⟩ | ⟨i, h1, h2, h3, _⟩
    · rw [h1, h2]; rfl
    · rw [h2, h3]; simp
  unfold congresslaw17_RosterTells
  simp only [open_eq a0 hr hL, ropen_eq a0 hr hL, close_eq a0 a1 hr, rclose_eq a0 a1 hr, next_eq a0 a1 hr hw, rnext_eq a0 a1 hr hw, fixed_eq, has_eq a0 a1 hr, rfind_eq a0 a1 hr, may_eq a0 hr hL, rmay_eq a0 hr, hg, Option.bind_some, whn, if_true,
    is_eq _ (open_room hr), is_eq _ (close_room (id := a1) hr), is_eq _ (next_room (id := a1) hr), beq_self_eq_true, Bool.and_self, Bool.and_true, lt]
end Go.Proofs.Ytbcjnggdielljaa
