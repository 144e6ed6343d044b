/- What the functions of chapter 10 answer, in closed form. Conditions: none. -/
import Derived.Test.YtbkofjefhnnmlaaIn
import Derived.Test.YtbkofjefhnnmlaaEngW
set_option linter.unusedVariables false
set_option linter.unusedSimpArgs false
namespace Go.Proofs.Ytbkofjefhnnmlaa
open Go.Eng
abbrev Tab := _root_.List api_Kept
/-- There is room for so many more. -/
def Room (k : Nat) (t : Tab) : Prop := t.length ≤ 399822410088 + k
theorem mul_b {n : Nat} (h : n ≤ 399822410099) : n * 352 ≤ 140737488355328 := Nat.le_trans (Nat.mul_le_mul_right 352 h) (by decide)
theorem room_of {t : Tab} (h : t.length * 352 ≤ 140737488351232) : Room 0 t := by
  unfold Room
  rcases Nat.lt_or_ge t.length 399822410089 with q | q
  · omega
  · have := Nat.mul_le_mul_right 352 q
    have e : 399822410089 * 352 = 140737488351328 := by decide
    omega
theorem big_len {t : Tab} (h : t.length * 352 ≤ 140737488355328) : t.length ≤ maxLen := by
  have : (400000000000 : Nat) ≤ maxLen := by decide
  omega
theorem Room.le {k : Nat} {t : Tab} (h : Room k t) (hk : k ≤ 11) : t.length ≤ 399822410099 := by unfold Room at h; omega
theorem Room.len {k : Nat} {t : Tab} (h : Room k t) (hk : k ≤ 11) : t.length ≤ maxLen := big_len (mul_b (h.le hk))
theorem room_app {k : Nat} {l m : Tab} {x : api_Kept} (h : Room k l) (hk : k ≤ 10) (hm : m.length ≤ l.length) : (m ++ [x]).length * 352 ≤ 140737488355328 := by
  refine mul_b ?_
  unfold Room at h
  have e : (m ++ [x]).length = m.length + 1 := by simp
  omega
theorem all8 {x y : Nat → Int} : b_a8_u32 x y = true ↔ ∀ j, j < 8 → x j = y j := by
  simp [b_a8_u32, List.all_eq_true, List.mem_range]
theorem brefl8 (x : Nat → Int) : b_a8_u32 x x = true := all8.2 fun _ _ => rfl
theorem breflE (x : api_Entry) : b_api_Entry x x = true := by
  have : (x.Text == x.Text) = true := by rw [beq_toListBytes]; simp
  simp [b_api_Entry, this]
theorem breflF (x : Nat → (Nat → api_Entry)) : b_a3_a2_api_Entry x x = true := by
  simp [b_a3_a2_api_Entry, b_a2_api_Entry, List.all_eq_true, breflE]
theorem breflK (x : api_Kept) : b_api_Kept x x = true := by simp [b_api_Kept, breflF]
theorem clone_eq {k : Nat} (t : Tab) (h : Room k t) (hk : k ≤ 11) : slices_Clone_api_Kept_api_Kept t = some t := by
  have : slices_Clone_api_Kept_api_Kept t = cloneG 352 t := rfl
  rw [this, cloneG_eq (h.len hk) (mul_b (h.le hk))]
def listF (f : Nat → Int) (n : Nat) : _root_.List Int := ((List.range n).filter fun j => f j != 0).map fun (j : Nat) => (j : Int)
theorem listF_s (f : Nat → Int) (n : Nat) : listF f (n + 1) = if f n ≠ 0 then listF f n ++ [(n : Int)] else listF f n := by
  unfold listF
  rw [List.range_succ, List.filter_append, List.map_append]
  by_cases h : f n = 0 <;> simp [h]
theorem listF_len (f : Nat → Int) (n : Nat) : (listF f n).length ≤ n := by
  unfold listF
  rw [List.length_map]
  exact Nat.le_trans (List.length_filter_le _ _) (by simp)
theorem big8 : (1000 : Nat) ≤ maxLen := by decide
theorem list_eq (f : Nat → Int) : ident_List f = some (listF f 8) := by
  unfold ident_List
  rw [loop_seq (s0 := (0, ([] : _root_.List Int))) (fun n => ((n : Int), listF f n)) 8 (w := .nx (listF f 8)) rfl (fun n hn => by
    have hn' : (n : Int) < 8 := by omega
    have e1 : IntKind.i64.wrap ((n : Int) + 1) = ((n + 1 : Nat) : Int) := by rw [w64] <;> omega
    have hl := listF_len f n
    have hb := big8
    simp only [hn', decide_true, if_true, jn, ib_n hn, Option.bind_some, Int.toNat_natCast, e1]
    rw [fit_t (by simp; omega) (by simp; omega), listF_s]
    by_cases h : f n = 0 <;> simp [h]) (by simp)]
  simp only [Option.bind_some, Fl.elim]
theorem listF_in {f : Nat → Int} {n : Nat} {x : Int} : x ∈ listF f n ↔ ∃ j : Nat, x = (j : Int) ∧ j < n ∧ f j ≠ 0 := by
  simp only [listF, List.mem_map, List.mem_filter, List.mem_range]
  constructor
  · rintro ⟨j, ⟨h1, h2⟩, h3⟩; exact ⟨j, h3.symm, h1, by simpa using h2⟩
  · rintro ⟨j, rfl, h1, h2⟩; exact ⟨j, ⟨h1, by simpa using h2⟩, rfl⟩
theorem index_eq (l : _root_.List Int) (x : Int) (hl : l.length ≤ maxLen) : slices_Index_int_int l x = some (fidx l 0 fun y => x == y) := by
  have hm := maxLen_le
  unfold slices_Index_int_int
  rw [loop_find l.length (fun i => x == l.getD i 0) (fun i => (i : Int))]
  · unfold fidx
    cases (List.range l.length).find? (fun i => x == l.getD i 0) <;> rfl
  · intro n hn
    rw [if_pos (by simp; omega), ib_n hn]
    simp only [Option.bind_some, Int.toNat_natCast]
    split
    · rfl
    · rw [w64 (by omega) (by omega)]; rfl
  · rw [if_neg (by simp)]
/-- Is a daemon a member? -/
def memB (m : Nat → Int) (i : Int) : Bool := ((decide (i ≥ 0)) && (decide (i < 8))) && (m i.toNat != 0)
theorem is_eq (m : Nat → Int) (i : Int) : congressref10_Is m i = some (memB m i) := by
  unfold congressref10_Is
  rw [ibg_t (by simp)]; rfl
theorem mem_iff (m : Nat → Int) (i : Int) : memB m i = true ↔ i ∈ listF m 8 := by
  rw [listF_in]
  simp only [memB, Bool.and_eq_true, decide_eq_true_eq, bne_iff_ne]
  constructor
  · rintro ⟨⟨h1, h2⟩, h3⟩; exact ⟨i.toNat, by omega, by omega, h3⟩
  · rintro ⟨j, rfl, h1, h2⟩; exact ⟨⟨by omega, by omega⟩, by simpa using h2⟩
theorem contains_eq (m : Nat → Int) (i : Int) : slices_Contains_int_int (listF m 8) i = some (memB m i) := by
  have hl := listF_len m 8
  have hb := big8
  unfold slices_Contains_int_int
  rw [index_eq _ _ (by omega)]
  simp only [Option.bind_some, Option.some.injEq]
  rw [Bool.eq_iff_iff, decide_eq_true_eq, mem_iff]
  rcases fidx_spec (listF m 8) 0 (fun y => i == y) with ⟨h1, h2, h3⟩ | ⟨k, h1, h2, h3, h4, _⟩
  · rw [h1, List.find?_eq_none] at *
    constructor
    · intro h; omega
    · intro h; have := h2 i h; simp at this
  · rw [h2]
    constructor
    · intro _
      have e : i = (listF m 8).getD k 0 := by simpa using h3
      rw [e]; exact getD_in h1
    · intro _; omega
/-- What is dropped as x is taken. -/
def oldB (x y : api_Kept) : Bool := ((y.From == x.From) && (decide (x.Round ≥ 3))) && (decide (y.Round ≤ (IntKind.u32.wrap (x.Round - 3))))
/-- Is it the next one? -/
def nextB (c m : Nat → Int) (x : api_Kept) : Bool := (memB m x.From && !(c x.From.toNat == 4294967295)) && (x.Round == IntKind.u32.wrap (c x.From.toNat + 1))
def takeF (l : Tab) (c m : Nat → Int) (x : api_Kept) : Tab × (Nat → Int) × Bool :=
  if nextB c m x = true then (l.filter (fun y => !oldB x y) ++ [x], aupd c x.From.toNat x.Round, true) else (l, c, false)
theorem memB_in {m : Nat → Int} {i : Int} (h : memB m i = true) : 0 ≤ i ∧ i < 8 := by
  simp only [memB, Bool.and_eq_true, decide_eq_true_eq] at h; exact h.1
theorem take_eq {k : Nat} (l : Tab) (c m : Nat → Int) (x : api_Kept) (hr : Room k l) (hk : k ≤ 10) : kept_Take l c m x = some (takeF l c m x) := by
  unfold kept_Take takeF nextB
  have hd : ∀ u, slices_DeleteFunc_api_Kept_api_Kept u (fun z0 => kept_Take_1 z0 x) = delG z_api_Kept u (fun z0 => kept_Take_1 z0 x) := fun _ => rfl
  rw [clone_eq l hr (by omega), list_eq]
  simp only [Option.bind_some, contains_eq]
  by_cases hm : memB m x.From = true
  · have hin := memB_in hm
    have hib : ∀ g, ibg g x.From 8 = some () := fun g => ibg_t fun _ => by omega
    simp only [hm, hib, Option.bind_some, Bool.not_true, Bool.false_or, lt, Bool.true_and]
    by_cases h1 : (c x.From.toNat == 4294967295) = true
    · simp only [h1, Bool.true_or, if_true, Bool.not_true, Bool.false_and, Bool.false_eq_true, if_false]
    · have h1' := Bool.eq_false_iff.2 h1
      simp only [h1', Bool.false_or, Bool.not_false, Bool.true_and, bne]
      by_cases h2 : (x.Round == IntKind.u32.wrap (c x.From.toNat + 1)) = true
      · simp only [h2, Bool.not_true, Bool.false_eq_true, if_false, if_true]
        rw [hd, delG_eq z_api_Kept l (fun z0 => kept_Take_1 z0 x) (oldB x) (fun _ => rfl) (hr.len (by omega))]
        simp only [Option.bind_some]
        rw [ib_t hin.1 hin.2]
        simp only [Option.bind_some]
        have hlen : (l.filter (fun y => !oldB x y) ++ [x]).length * 352 ≤ 140737488355328 := room_app hr hk (List.length_filter_le _ _)
        rw [fit_t (big_len hlen) hlen]; rfl
      · have h2' := Bool.eq_false_iff.2 h2
        simp only [h2', Bool.not_false, if_true, Bool.false_eq_true, if_false]
  · have hm' := Bool.eq_false_iff.2 hm
    simp [hm', ibg, lt]
theorem take_room {k : Nat} {l : Tab} {c m : Nat → Int} {x : api_Kept} (h : Room k l) : Room (k + 1) (takeF l c m x).1 := by
  unfold takeF
  split
  · have hl := List.length_filter_le (fun y => !oldB x y) l
    have e : (l.filter (fun y => !oldB x y) ++ [x]).length = (l.filter (fun y => !oldB x y)).length + 1 := by simp
    unfold Room at h ⊢
    simp only [e]
    omega
  · unfold Room at h ⊢
    simp only
    omega
theorem next_u {c : Int} {r : Int} (hc : 0 ≤ c ∧ c ≤ 4294967295) (hr : 0 ≤ r ∧ r ≤ 4294967295) : ((IntKind.u64.wrap r) != (IntKind.u64.wrap ((IntKind.u64.wrap c) + 1))) = !(!(c == 4294967295) && (r == IntKind.u32.wrap (c + 1))) := by
  have e1 : IntKind.u64.wrap r = r := by rw [wu64]; omega
  have e2 : IntKind.u64.wrap c = c := by rw [wu64]; omega
  have e3 : IntKind.u64.wrap (c + 1) = c + 1 := by rw [wu64]; omega
  rw [e1, e2, e3, w32, Bool.eq_iff_iff]
  simp only [bne_iff_ne, ne_eq, Bool.not_eq_true', Bool.and_eq_false_iff, Bool.not_eq_false', beq_iff_eq, beq_eq_false_iff_ne]
  omega
def W (t : Tab) : Prop := ∀ y ∈ t, 0 ≤ y.Round ∧ y.Round ≤ 4294967295
theorem rtake_eq {k : Nat} (l : Tab) (c m : Nat → Int) (x : api_Kept) (hr : Room k l) (hk0 : k ≤ 10) (hc : ∀ j, j < 8 → 0 ≤ c j ∧ c j ≤ 4294967295) (hx : 0 ≤ x.Round ∧ x.Round ≤ 4294967295) (hl : W l) : congressref10_Take l c m x = some (takeF l c m x) := by
  have hm0 := maxLen_le
  have hll := hr.len (by omega)
  unfold congressref10_Take takeF nextB
  rw [is_eq]
  simp only [Option.bind_some]
  by_cases hm : memB m x.From = true
  · have hin := memB_in hm
    simp only [hm, Bool.not_true, Bool.not_false, Bool.false_or, Bool.true_and]
    rw [ibg_t (fun _ => by omega)]
    simp only [Option.bind_some, lt]
    rw [next_u (hc _ (by omega)) hx]
    generalize hg : (!(c x.From.toNat == 4294967295) && (x.Round == IntKind.u32.wrap (c x.From.toNat + 1))) = g
    cases g with
    | false => rfl
    | true =>
      simp only [Bool.not_true, Bool.false_eq_true, if_false, if_true]
      rw [loop_seq (F := fun n => ((n : Int), (l.take n).filter fun y => !oldB x y)) l.length (s0 := (0, [])) (w := .nx (l.filter fun y => !oldB x y)) (by simp)]
      · simp only [Option.bind_some, Fl.elim]
        have hlen : (l.filter (fun y => !oldB x y) ++ [x]).length * 352 ≤ 140737488355328 := room_app hr (by omega) (List.length_filter_le _ _)
        rw [fit_t (big_len hlen) hlen]
        simp only [Option.bind_some]
        rw [ib_t hin.1 hin.2]; rfl
      · intro n hn
        have e1 : IntKind.i64.wrap ((n : Int) + 1) = ((n + 1 : Nat) : Int) := by rw [w64 (by omega) (by omega)]; rfl
        have hy := hl _ (getD_in (d := z_api_Kept) hn)
        simp only
        rw [if_pos (by simp; omega), jn, ib_n hn]
        simp only [Option.bind_some, Int.toNat_natCast]
        rw [ibg_t (fun _ => by omega)]
        simp only [Option.bind_some, lt, e1]
        have hk : (((l.getD n z_api_Kept).From != x.From) || (decide ((IntKind.u64.wrap ((IntKind.u64.wrap (l.getD n z_api_Kept).Round) + 3)) > (IntKind.u64.wrap x.Round)))) = !oldB x (l.getD n z_api_Kept) := by
          have q1 : IntKind.u64.wrap (l.getD n z_api_Kept).Round = (l.getD n z_api_Kept).Round := by rw [wu64]; omega
          have q2 : IntKind.u64.wrap ((l.getD n z_api_Kept).Round + 3) = (l.getD n z_api_Kept).Round + 3 := by rw [wu64]; omega
          have q3 : IntKind.u64.wrap x.Round = x.Round := by rw [wu64]; omega
          rw [q1, q2, q3]
          unfold oldB
          rw [w32]
          by_cases hf : ((l.getD n z_api_Kept).From == x.From) = true
          · simp only [bne, hf, Bool.not_true, Bool.false_or, Bool.true_and]
            rw [Bool.eq_iff_iff]
            simp only [decide_eq_true_eq, Bool.not_eq_true', Bool.and_eq_false_iff, decide_eq_false_iff_not]
            omega
          · have hf' := Bool.eq_false_iff.2 hf
            simp only [bne, hf', Bool.not_false, Bool.true_or, Bool.false_and]
        rw [take_s (d := z_api_Kept) hn, List.filter_append]
        by_cases hq : oldB x (l.getD n z_api_Kept) = true
        · rw [if_neg (by rw [hk, hq]; simp), List.filter_cons_of_neg (by rw [hq]; simp)]; simp
        · have hq' := Bool.eq_false_iff.2 hq
          rw [if_pos (by rw [hk, hq']; rfl)]
          have hlen : ((l.take n).filter (fun y => !oldB x y) ++ [l.getD n z_api_Kept]).length * 352 ≤ 140737488355328 := room_app hr (by omega) (Nat.le_trans (List.length_filter_le _ _) (List.length_take_le' _ _))
          rw [fit_t (big_len hlen) hlen, List.filter_cons_of_pos (by rw [hq']; rfl)]; rfl
      · simp only
        rw [if_neg (by simp), List.take_length]
  · have hm' := Bool.eq_false_iff.2 hm
    simp [hm', ibg, lt]
def isB (f r : Int) (y : api_Kept) : Bool := (y.From == f) && (y.Round == r)
def getF (t : Tab) (f r : Int) : (Nat → (Nat → api_Entry)) × Bool :=
  match t.find? (isB f r) with
  | some y => (y.Frame, true)
  | none => ((fun _ => (fun _ => z_api_Entry)), false)
theorem get_eq (t : Tab) (f r : Int) (hl : t.length ≤ maxLen) : kept_Get t f r = some (getF t f r) := by
  have : slices_IndexFunc_api_Kept_api_Kept t (fun z0 => kept_Get_1 z0 f r) = idxG z_api_Kept t (fun z0 => kept_Get_1 z0 f r) := rfl
  unfold kept_Get getF
  rw [this, idxG_eq z_api_Kept t (fun z0 => kept_Get_1 z0 f r) (isB f r) (fun _ => rfl) hl]
  simp only [Option.bind_some]
  rcases fidx_spec t z_api_Kept (isB f r) with ⟨h1, h2, _⟩ | ⟨i, h1, h2, h3, h4, _⟩
  · rw [h1, h2]; rfl
  · rw [h2, h4, if_neg (by simp), ib_n h1]; rfl
theorem rget_eq (t : Tab) (f r : Int) (hl : t.length ≤ maxLen) : congressref10_Get t f r = some (getF t f r) := by
  have hm := maxLen_le
  unfold congressref10_Get getF
  rw [loop_find t.length (fun i => isB f r (t.getD i z_api_Kept)) (fun i => ((t.getD i z_api_Kept).Frame, true))]
  · have hs := fidx_spec t z_api_Kept (isB f r)
    unfold fidx at hs
    cases hq : (List.range t.length).find? (fun i => isB f r (t.getD i z_api_Kept)) with
    | none =>
      rw [hq] at hs
      rcases hs with ⟨_, h2, _⟩ | ⟨i, _, h2, _⟩
      · rw [h2]; rfl
      · simp only at h2; omega
    | some i =>
      rw [hq] at hs
      rcases hs with ⟨h1, _⟩ | ⟨k, _, h2, _, h4, _⟩
      · simp only at h1; omega
      · have : i = k := by simp only at h2; omega
        subst this
        rw [h4]; rfl
  · intro n hn
    rw [if_pos (by simp; omega), ib_n hn]
    simp only [Option.bind_some, Int.toNat_natCast]
    rw [ibg_t (fun _ => by omega)]
    simp only [Option.bind_some, lt, isB]
    rw [w64 (by omega) (by omega)]
    rfl
  · rw [if_neg (by simp)]
def pickF (t : Tab) (n : Int) : api_Kept × Bool := if t.length = 0 then (z_api_Kept, false) else (t.getD (n.toNat % t.length) z_api_Kept, true)
theorem pick_n {t : Tab} {n : Int} (hl : t.length ≤ maxLen) (hn : 0 ≤ n ∧ n ≤ 4294967295) (h0 : t.length ≠ 0) : IntKind.u64.wrap (t.length : Int) ≠ 0 ∧ (IntKind.u64.wrap n).tmod (IntKind.u64.wrap (t.length : Int)) = ((n.toNat % t.length : Nat) : Int) ∧ n.toNat % t.length < t.length := by
  have hm := maxLen_le
  have e1 : IntKind.u64.wrap (t.length : Int) = t.length := by rw [wu64]; omega
  have e2 : IntKind.u64.wrap n = n := by rw [wu64]; omega
  rw [e1, e2]
  refine ⟨by omega, ?_, Nat.mod_lt _ (by omega)⟩
  obtain ⟨k, rfl⟩ : ∃ k : Nat, n = k := ⟨n.toNat, by omega⟩
  rfl
theorem pick_eq (t : Tab) (n : Int) (hl : t.length ≤ maxLen) (hn : 0 ≤ n ∧ n ≤ 4294967295) : kept_Pick t n = some (pickF t n) := by
  unfold kept_Pick pickF
  by_cases h0 : t.length = 0
  · rw [if_pos (by rw [h0]; rfl), if_pos h0]; rfl
  · obtain ⟨p1, p2, p3⟩ := pick_n hl hn h0
    rw [if_neg (by simp only [beq_iff_eq]; omega), if_neg h0, nz_t p1]
    simp only [Option.bind_some, p2, Int.toNat_natCast]
    rw [ib_n p3]; rfl
theorem rpick_eq (t : Tab) (n : Int) (hl : t.length ≤ maxLen) (hn : 0 ≤ n ∧ n ≤ 4294967295) : congressref10_Pick t n = some (pickF t n) := by
  have hm := maxLen_le
  unfold congressref10_Pick pickF
  by_cases h0 : t.length = 0
  · rw [if_pos (by rw [h0]; rfl), if_pos h0]; rfl
  · obtain ⟨p1, p2, p3⟩ := pick_n hl hn h0
    rw [if_neg (by simp only [beq_iff_eq]; omega), if_neg h0, nz_t p1]
    simp only [Option.bind_some, p2]
    rw [w64 (by omega) (by omega), ib_n p3]; rfl
theorem same_eq (t : Tab) (hl : t.length ≤ maxLen) : congressref10_Same t t = some true := by
  have hm := maxLen_le
  unfold congressref10_Same
  rw [if_neg (by simp), loop_seq (F := fun n => ((n : Nat) : Int)) t.length (s0 := 0) (w := .nx ()) rfl]
  · rfl
  · intro n hn
    rw [if_pos (by simp; omega), ib_n hn]
    simp only [Option.bind_some, Int.toNat_natCast, lt, breflK, Bool.not_true, Bool.false_eq_true, if_false]
    rw [w64 (by omega) (by omega)]; rfl
  · rw [if_neg (by simp)]
theorem room_small (t : Tab) (h : t.length ≤ 10) : Room 0 t := by unfold Room; omega
theorem fixed_eq : congresslaw10_fixed = some true := by
  have r1 : ∀ (f : Nat → (Nat → api_Entry)), Room 0 [({ From := 0, Round := 1, Frame := f } : api_Kept)] := fun f => room_small _ (by simp)
  have r2 : ∀ (f : Nat → (Nat → api_Entry)), Room 0 [({ From := 0, Round := 1, Frame := f } : api_Kept), { From := 0, Round := 2, Frame := f }] := fun f => room_small _ (by simp)
  have e1 : takeF [] (aset (fun _ => 0) []) (aset (fun _ => 0) [(0, 1)]) ({ From := 0, Round := 1, Frame := (fun _ => (fun _ => z_api_Entry)) } : api_Kept) = ([{ From := 0, Round := 1, Frame := (fun _ => (fun _ => z_api_Entry)) }], aupd (aset (fun _ => 0) []) 0 1, true) := rfl
  unfold congresslaw10_fixed
  rw [take_eq (k := 0) _ _ _ _ (room_small _ (by simp)) (by omega), e1]
  simp only [Option.bind_some, take_eq (k := 0) _ _ _ _ (r1 _) (by omega)]
  have e2 : takeF [({ From := 0, Round := 1, Frame := (fun _ => (fun _ => z_api_Entry)) } : api_Kept)] (aupd (aset (fun _ => 0) []) 0 1) (aset (fun _ => 0) [(0, 1)]) ({ From := 0, Round := 3, Frame := (fun _ => (fun _ => z_api_Entry)) } : api_Kept) = ([{ From := 0, Round := 1, Frame := (fun _ => (fun _ => z_api_Entry)) }], aupd (aset (fun _ => 0) []) 0 1, false) := rfl
  have e3 : takeF [({ From := 0, Round := 1, Frame := (fun _ => (fun _ => z_api_Entry)) } : api_Kept)] (aupd (aset (fun _ => 0) []) 0 1) (aset (fun _ => 0) [(0, 1)]) ({ From := 0, Round := 2, Frame := (fun _ => (fun _ => z_api_Entry)) } : api_Kept) = ([{ From := 0, Round := 1, Frame := (fun _ => (fun _ => z_api_Entry)) }, { From := 0, Round := 2, Frame := (fun _ => (fun _ => z_api_Entry)) }], aupd (aupd (aset (fun _ => 0) []) 0 1) 0 2, true) := rfl
  rw [e2, e3]
  simp only [Option.bind_some, take_eq (k := 0) _ _ _ _ (r2 _) (by omega), get_eq _ _ _ ((r2 _).len (by omega)), pick_eq _ _ ((r2 _).len (by omega)) (by omega : (0 : Int) ≤ 3 ∧ (3 : Int) ≤ 4294967295)]
  rfl
theorem wf_at {t : Tab} (h : ∀ j, j < t.length → w_api_Kept (t.getD j z_api_Kept)) : ∀ y ∈ t, w_api_Kept y := by
  intro y hy
  obtain ⟨j, hj, rfl⟩ := List.getElem_of_mem hy
  have := h j hj
  rw [List.getD_eq_getElem?_getD, List.getElem?_eq_getElem hj] at this
  exact this
theorem pure_keptTakes (a0 : congresslaw10_Was) (a1 : api_Kept) (a2 : Int) (w0 : w_congresslaw10_Was a0) (w1 : w_api_Kept a1) (w2 : (Lit.int .u32 a2).wf = true) : congresslaw10_KeptTakes a0 a1 a2 = some true := by
  have hr : Room 0 a0.L := room_of w0.1.1.2
  have hl := w0.1.1.1
  have hx := wf_u32.1 w1.2.1
  have hW : W a0.L := fun y hy => wf_u32.1 (wf_at w0.1.2 y hy).2.1
  have hc : ∀ j, j < 8 → 0 ≤ a0.C j ∧ a0.C j ≤ 4294967295 := fun j hj => wf_u32.1 (w0.2.1 j hj)
  have hn := wf_u32.1 w2
  have ht := (take_room (c := a0.C) (m := a0.M) (x := a1) hr).len (by omega)
  unfold congresslaw10_KeptTakes
  simp only [take_eq (k := 0) _ _ _ _ hr (by omega), rtake_eq _ _ _ _ hr (by omega) hc hx hW, get_eq _ _ _ hl, rget_eq _ _ _ hl, pick_eq _ _ hl hn, rpick_eq _ _ hl hn, fixed_eq, Option.bind_some, whn, if_true, same_eq _ ht, brefl8, breflF, breflK, beq_self_eq_true, Bool.and_self, lt]
end Go.Proofs.Ytbkofjefhnnmlaa
