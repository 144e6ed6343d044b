/- What the functions of chapter 14 answer, in closed form. Conditions: none. -/
import Derived.Test.YtdaeajonhfkpaaaIn
import Derived.Test.YtdaeajonhfkpaaaEngW
set_option linter.unusedVariables false
set_option linter.unusedSimpArgs false
namespace Go.Proofs.Ytdaeajonhfkpaaa
open Go.Eng
abbrev Lets := _root_.List api_Letter
def Room (t : Lets) : Prop := t.length ≤ maxLen ∧ t.length * 40 ≤ 140737488351232
theorem Room.small {t : Lets} (h : Room t) : t.length < 4398046511104 := by have := h.2; omega
theorem bigMax : (9223372036854775807 : Nat) ≤ maxLen := by decide
theorem clone_eq (t : Lets) (h : Room t) : slices_Clone_api_Letter_api_Letter t = some t := by
  have : slices_Clone_api_Letter_api_Letter t = cloneG 40 t := rfl
  rw [this, cloneG_eq h.1 (by have := h.2; omega)]
def onB (f t : Int) (x : api_Letter) : Bool := (x.From == f) && (x.To == t)
def plF (l : Lets) (f t : Int) (n : Nat) : _root_.List Nat := (List.range n).filter fun i => onB f t (l.getD i z_api_Letter)
theorem pl_s (l : Lets) (f t : Int) (n : Nat) : plF l f t (n + 1) = plF l f t n ++ (if onB f t (l.getD n z_api_Letter) = true then [n] else []) := by
  simp only [plF, List.range_succ, List.filter_append]
  congr 1
  by_cases h : onB f t (l.getD n z_api_Letter) = true
  · rw [if_pos h, List.filter_cons_of_pos (by exact h)]; rfl
  · rw [if_neg h, List.filter_cons_of_neg (by exact h)]; rfl
theorem pl_le (l : Lets) (f t : Int) (n : Nat) : (plF l f t n).length ≤ n := by
  have := List.length_filter_le (fun i => onB f t (l.getD i z_api_Letter)) (List.range n)
  rw [List.length_range] at this; exact this
theorem pl_mem {l : Lets} {f t : Int} {n i : Nat} (h : i ∈ plF l f t n) : i < n ∧ onB f t (l.getD i z_api_Letter) = true := by
  simp only [plF, List.mem_filter, List.mem_range] at h; exact h
theorem pl_pre (l : Lets) (f t : Int) : ∀ (m n : Nat), n ≤ m → ∃ r, plF l f t m = plF l f t n ++ r := by
  intro m n h
  induction m with
  | zero => obtain rfl : n = 0 := by omega
            exact ⟨[], by simp⟩
  | succ m ih =>
    by_cases q : n = m + 1
    · subst q; exact ⟨[], by simp⟩
    · obtain ⟨r, hr⟩ := ih (by omega)
      rw [pl_s, hr]
      exact ⟨_, List.append_assoc _ _ _⟩
def placesF (l : Lets) (f t : Int) : _root_.List Int := (plF l f t l.length).map fun (i : Nat) => (i : Int)
theorem places_eq (l : Lets) (f t : Int) (h : Room l) : lossy_places l f t = some (placesF l f t) := by
  have hs := h.small
  unfold lossy_places
  rw [loop_seq (s0 := (0, ([] : _root_.List Int))) (fun n => ((n : Int), (plF l f t n).map fun (i : Nat) => (i : Int))) l.length (w := .nx (placesF l f t)) (by simp [plF]) (fun n hn => by
    have hn' : (n : Int) < (l.length : Int) := by omega
    have e1 : IntKind.i64.wrap ((n : Int) + 1) = ((n + 1 : Nat) : Int) := by rw [w64] <;> omega
    have hle := pl_le l f t n
    simp only [hn', decide_true, if_true, ib_n hn, Option.bind_some, Int.toNat_natCast, e1, jn, lt, pl_s, List.map_append]
    have hc : ((l.getD n z_api_Letter).From == f && (l.getD n z_api_Letter).To == t) = onB f t (l.getD n z_api_Letter) := rfl
    rw [hc]
    by_cases hP : onB f t (l.getD n z_api_Letter) = true
    · rw [if_pos hP, if_pos hP, fit_t (by have := bigMax; simp; omega) (by simp; omega)]; rfl
    · rw [if_neg hP, if_neg hP]; simp) (by simp [placesF])]
  rfl
def pick (k : Int) (n : Nat) : Nat := ((k.tmod n + n).tmod n).toNat
theorem pick_lt (k : Int) {n : Nat} (h : 0 < n) : pick k n < n ∧ ((k.tmod n + n).tmod n) = (pick k n : Int) := by
  have h1 := Int.lt_tmod_of_pos k (show (0 : Int) < n by omega)
  have h3 : 0 ≤ (k.tmod n + n).tmod (n : Int) := Int.tmod_nonneg _ (by omega)
  have h4 := Int.tmod_lt_of_pos (k.tmod n + n) (show (0 : Int) < n by omega)
  unfold pick; omega
def findF (l : Lets) (f t k : Int) : Int × Bool :=
  let n := (plF l f t l.length).length
  if n = 0 then (0, false) else (((plF l f t l.length).getD (pick k n) 0 : Nat), true)
theorem wrapPick (k : Int) {n : Nat} (h0 : 0 < n) (hn : n < 4398046511104) : IntKind.i64.wrap (k.tmod n + n) = k.tmod n + n := by
  have h1 := Int.lt_tmod_of_pos k (show (0 : Int) < n by omega)
  have h2 := Int.tmod_lt_of_pos k (show (0 : Int) < n by omega)
  rw [w64] <;> omega
theorem find_eq (l : Lets) (f t k : Int) (h : Room l) : lossy_Find l f t k = some (findF l f t k) := by
  have hs := h.small
  have hle := pl_le l f t l.length
  unfold lossy_Find findF
  rw [places_eq l f t h]
  simp only [Option.bind_some, placesF, List.length_map]
  by_cases h0 : (plF l f t l.length).length = 0
  · rw [if_pos (by simp [h0]), if_pos h0]
  · obtain ⟨p1, p2⟩ := pick_lt k (Nat.pos_of_ne_zero h0)
    rw [if_neg (by simp only [beq_iff_eq]; omega), if_neg h0, nz_t (by omega)]
    simp only [Option.bind_some]
    rw [wrapPick k (by omega) (by omega), p2, ib_n p1]
    simp only [Option.bind_some, lt, Int.toNat_natCast]
    congr 2
    simp [List.getD_eq_getElem?_getD, p1]
theorem many_eq (l : Lets) (f t : Int) (h : Room l) : lossy_Many l f t = some ((plF l f t l.length).length : Int) := by
  unfold lossy_Many
  rw [places_eq l f t h]; simp [placesF]
theorem rmany_eq (l : Lets) (f t : Int) (h : Room l) : congressref14_Many l f t = some ((plF l f t l.length).length : Int) := by
  have hs := h.small
  unfold congressref14_Many
  rw [loop_seq (s0 := (0, 0)) (fun n => (((plF l f t n).length : Int), (n : Int))) l.length (w := .nx ((plF l f t l.length).length : Int)) (by simp [plF]) (fun n hn => by
    have hn' : (n : Int) < (l.length : Int) := by omega
    have e1 : IntKind.i64.wrap ((n : Int) + 1) = ((n + 1 : Nat) : Int) := by rw [w64] <;> omega
    have hle := pl_le l f t n
    have hc : ((l.getD n z_api_Letter).From == f && (l.getD n z_api_Letter).To == t) = onB f t (l.getD n z_api_Letter) := rfl
    simp only [hn', decide_true, if_true, ib_n hn, Option.bind_some, Int.toNat_natCast, e1, jn, lt, pl_s, hc]
    rw [ibg_t (fun _ => by omega)]
    simp only [Option.bind_some]
    by_cases hP : onB f t (l.getD n z_api_Letter) = true
    · rw [if_pos hP, if_pos hP, w64 (by omega) (by omega)]; simp
    · rw [if_neg hP, if_neg hP]; simp) (by simp)]
  rfl
theorem rfind_eq (l : Lets) (f t k : Int) (h : Room l) : congressref14_Find l f t k = some (findF l f t k) := by
  have hs := h.small
  have hle := pl_le l f t l.length
  unfold congressref14_Find findF
  rw [rmany_eq l f t h]
  simp only [Option.bind_some]
  by_cases h0 : (plF l f t l.length).length = 0
  · rw [if_pos (by simp [h0]), if_pos h0]
  · obtain ⟨p1, p2⟩ := pick_lt k (Nat.pos_of_ne_zero h0)
    rw [if_neg (by simp only [beq_iff_eq]; omega), if_neg h0, nz_t (by omega)]
    simp only [Option.bind_some]
    rw [wrapPick k (by omega) (by omega), p2]
    generalize pick k (plF l f t l.length).length = m at p1
    obtain ⟨w, hw, hp⟩ := loop_count (σ := Int × Int) (ω := Fl (Int × Bool) Unit) (body := fun (x5 : Int × Int) =>
      if (decide (x5.2 < (l.length : Int))) then
        jn (fun x11 : Int =>
          some (.next (x11, (IntKind.i64.wrap (x5.2 + 1))))) fun j7 =>
        (ib x5.2 l.length).bind fun _ =>
        (ibg (!(((l.getD x5.2.toNat z_api_Letter).From) != f)) x5.2 l.length).bind fun _ =>
        lt (((((l.getD x5.2.toNat z_api_Letter).From) != f) || (((l.getD x5.2.toNat z_api_Letter).To) != t)) : Bool) fun v10 =>
        if v10 then
          j7 (x5.1)
        else
          if (x5.1 == 0) then
            some (.done (.rt (x5.2, true)))
          else
            j7 ((IntKind.i64.wrap (x5.1 - 1)))
      else
        some (.done (.nx ())))
      (fun n s => s = ((m : Int) - (plF l f t n).length, (n : Int)) ∧ (plF l f t n).length ≤ m) (fun w => w = .rt (((plF l f t l.length).getD m 0 : Nat), true)) l.length (s0 := ((m : Int), 0)) ⟨by simp [plF], by simp [plF]⟩
      (fun n s hn hI => by
        obtain ⟨rfl, hm⟩ := hI
        have hn' : (n : Int) < (l.length : Int) := by omega
        have e1 : IntKind.i64.wrap ((n : Int) + 1) = ((n + 1 : Nat) : Int) := by rw [w64] <;> omega
        have hc : ((l.getD n z_api_Letter).From != f || (l.getD n z_api_Letter).To != t) = !onB f t (l.getD n z_api_Letter) := by simp only [onB, bne, Bool.not_and]
        simp only [hn', decide_true, if_true, ib_n hn, Option.bind_some, Int.toNat_natCast, e1, jn, lt, pl_s, hc]
        rw [ibg_t (fun _ => by omega)]
        simp only [Option.bind_some]
        by_cases hP : onB f t (l.getD n z_api_Letter) = true
        · rw [if_neg (by rw [hP]; decide)]
          by_cases hz : (plF l f t n).length = m
          · right
            rw [if_pos (by simp [hz])]
            refine ⟨_, rfl, ?_⟩
            obtain ⟨r, hr⟩ := pl_pre l f t l.length (n + 1) (by omega)
            have : (plF l f t l.length).getD m 0 = n := by
              rw [hr, pl_s, if_pos hP, ← hz]
              simp [List.getD_eq_getElem?_getD]
            rw [this]
          · left
            rw [if_neg (by simp only [beq_iff_eq]; omega), w64 (by omega) (by omega)]
            exact ⟨_, rfl, by rw [if_pos hP]; simp; omega, by rw [if_pos hP]; simp; omega⟩
        · rw [if_pos (by rw [Bool.not_eq_true] at hP; rw [hP]; rfl)]
          left
          exact ⟨_, rfl, by rw [if_neg hP]; simp, by rw [if_neg hP]; simpa using hm⟩)
      (fun s hI => by obtain ⟨rfl, hm⟩ := hI; omega)
    rw [hw, hp]; rfl
/-- What is found is a place of the link's. -/
theorem find_in {l : Lets} {f t k : Int} (h : (findF l f t k).2 = true) : ∃ i : Nat, (findF l f t k).1 = i ∧ i < l.length ∧ onB f t (l.getD i z_api_Letter) = true := by
  unfold findF at h ⊢
  by_cases h0 : (plF l f t l.length).length = 0
  · simp [h0] at h
  · obtain ⟨p1, _⟩ := pick_lt k (Nat.pos_of_ne_zero h0)
    simp only [if_neg h0]
    refine ⟨_, rfl, ?_⟩
    exact pl_mem (getD_in (d := 0) p1)
/-- A run of a list struck, as it is printed. -/
theorem delete_eq (l : Lets) (i : Nat) (hi : i < l.length) (h : Room l) : slices_Delete_api_Letter_api_Letter l (i : Int) ((i + 1 : Nat) : Int) = some (l.eraseIdx i) := by
  have hs := h.small
  unfold slices_Delete_api_Letter_api_Letter
  have b1 : ¬ (((i : Int) == ((i + 1 : Nat) : Int)) = true) := by simp only [beq_iff_eq]; omega
  rw [sb_t ⟨by omega, by omega, by omega⟩]
  simp only [Option.bind_some]
  rw [sb_t ⟨by omega, by omega, by omega⟩]
  simp only [Option.bind_some, if_neg b1]
  rw [sb_t ⟨by omega, by omega, by omega⟩]
  simp only [Option.bind_some]
  simp only [Int.toNat_natCast, Nat.sub_zero]
  rw [inb_t (by omega)]
  simp only [Option.bind_some]
  rw [inb_t (by omega)]
  simp only [Option.bind_some, shf_len]
  rw [sb_t ⟨by omega, by omega, by omega⟩]
  simp only [Option.bind_some]
  rw [inb_t (by omega)]
  simp only [Option.bind_some, lt, clr_len, shf_len]
  rw [inb_t (by omega)]
  simp only [Option.bind_some, Option.some.injEq]
  have hel : (l.eraseIdx i).length = l.length - 1 := by rw [List.length_eraseIdx]; simp [hi]
  have e2 : i + (l.length - (i + 1)) = l.length - 1 := by omega
  rw [e2, ← List.take_of_length_le (l := l.eraseIdx i) (i := l.length - 1) (by omega)]
  refine take_ext (d := z_api_Letter) (by rw [clr_len, shf_len]; omega) (by omega) (fun k hk => ?_)
  rw [clr_get _ _ _ _ _ (by rw [shf_len]; omega), if_neg (by omega), shf_get _ _ _ _ _ (by omega)]
  simp only [List.getD_eq_getElem?_getD, List.getElem?_eraseIdx]
  by_cases hki : k < i
  · rw [if_neg (by omega), if_pos hki]
  · rw [if_pos (by omega), if_neg hki]
    congr 2; omega
def takeF (l : Lets) (f t k : Int) : Lets × api_Letter × Bool :=
  if (findF l f t k).2 = true then (l.eraseIdx (findF l f t k).1.toNat, l.getD (findF l f t k).1.toNat z_api_Letter, true) else (l, z_api_Letter, false)
theorem take_eq (l : Lets) (f t k : Int) (h : Room l) : lossy_Take l f t k = some (takeF l f t k) := by
  have hs := h.small
  unfold lossy_Take takeF
  rw [clone_eq l h, find_eq l f t k h]
  simp only [Option.bind_some]
  by_cases hf : (findF l f t k).2 = true
  · obtain ⟨i, h1, h2, _⟩ := find_in hf
    rw [if_neg (by simp [hf]), if_pos hf, h1, w64 (by omega) (by omega), show ((i : Int) + 1) = ((i + 1 : Nat) : Int) by omega, delete_eq l i h2 h]
    simp only [Option.bind_some]
    rw [ib_n h2]; rfl
  · rw [if_pos (by simp [hf]), if_neg hf]; rfl
theorem rtake_eq (l : Lets) (f t k : Int) (h : Room l) : congressref14_Take l f t k = some (takeF l f t k) := by
  have hs := h.small
  unfold congressref14_Take takeF
  rw [rfind_eq l f t k h]
  simp only [Option.bind_some]
  by_cases hf : (findF l f t k).2 = true
  · obtain ⟨i, h1, h2, _⟩ := find_in hf
    rw [if_neg (by simp [hf]), if_pos hf, h1]
    rw [sb_t ⟨by omega, by omega, by omega⟩]
    simp only [Option.bind_some, Int.toNat_natCast, List.nil_append, List.drop_zero, List.take_length]
    rw [fit_t (by have := h.1; simp; omega) (by have := h.2; simp; omega)]
    rw [w64 (by omega) (by omega), show ((i : Int) + 1) = ((i + 1 : Nat) : Int) by omega]
    simp only [Option.bind_some, Int.toNat_natCast]
    rw [sb_t ⟨by omega, by omega, by omega⟩]
    simp only [Option.bind_some]
    rw [fit_t (by have := h.1; simp; omega) (by have := h.2; simp; omega)]
    simp only [Option.bind_some, lt]
    rw [ib_n h2, ← List.eraseIdx_eq_take_drop_succ]; rfl
  · rw [if_pos (by simp [hf]), if_neg hf]; rfl
end Go.Proofs.Ytdaeajonhfkpaaa
