/- What the functions of chapter 18 answer, in closed form. Conditions: none. -/
import Derived.Test.YtpcpfcijdliicaaIn
import Derived.Test.YtpcpfcijdliicaaEngW
set_option linter.unusedVariables false
set_option linter.unusedSimpArgs false
namespace Go.Proofs.Ytpcpfcijdliicaa
open Go.Eng
abbrev Tab := _root_.List api_Member
abbrev Mem := api_Member
def Room (k : Nat) (t : Tab) : Prop := (t.length + k) * 24 ≤ 140737488355300
theorem Room.small {k : Nat} {t : Tab} (h : Room k t) : t.length < 6000000000000 := by unfold Room at h; omega
theorem Room.le {k k' : Nat} {t t' : Tab} (h : Room k t) (hl : t'.length + k' ≤ t.length + k) : Room k' t' := by unfold Room at h ⊢; omega
theorem bigMax : (9223372036854775807 : Nat) ≤ maxLen := by decide
theorem b_iff (x y : Mem) : b_api_Member x y = true ↔ x = y := by
  obtain ⟨a, b, c⟩ := x
  obtain ⟨a', b', c'⟩ := y
  simp only [b_api_Member, Bool.and_eq_true, beq_iff_eq, api_Member.mk.injEq]
theorem b_refl (x : Mem) : b_api_Member x x = true := (b_iff x x).2 rfl
theorem b_comm (x y : Mem) : b_api_Member x y = b_api_Member y x := by
  rw [Bool.eq_iff_iff, b_iff, b_iff]; exact eq_comm
def lessB (a b : Mem) : Bool := if a.Group != b.Group then decide (a.Group < b.Group) else if a.Daemon != b.Daemon then decide (a.Daemon < b.Daemon) else decide (a.Session < b.Session)
theorem less_iff (a b : Mem) : lessB a b = true ↔ a.Group < b.Group ∨ (a.Group = b.Group ∧ (a.Daemon < b.Daemon ∨ (a.Daemon = b.Daemon ∧ a.Session < b.Session))) := by
  unfold lessB
  split
  · rename_i h; simp only [bne_iff_ne, ne_eq] at h; rw [decide_eq_true_eq]; omega
  · rename_i h; simp only [bne_iff_ne, ne_eq, Decidable.not_not] at h
    split
    · rename_i h2; simp only [bne_iff_ne, ne_eq] at h2; rw [decide_eq_true_eq]; omega
    · rename_i h2; simp only [bne_iff_ne, ne_eq, Decidable.not_not] at h2; rw [decide_eq_true_eq]; omega
theorem less_trans {a b c : Mem} (h1 : lessB a b = true) (h2 : lessB b c = true) : lessB a c = true := by
  rw [less_iff] at *; omega
theorem less_irr (a : Mem) : lessB a a = false := by
  rw [Bool.eq_false_iff]; intro h; rw [less_iff] at h; omega
theorem less_tri (a b : Mem) : lessB a b = true ∨ a = b ∨ lessB b a = true := by
  obtain ⟨a1, a2, a3⟩ := a
  obtain ⟨b1, b2, b3⟩ := b
  simp only [less_iff, api_Member.mk.injEq]; omega
theorem rless_eq (a b : Mem) : congressref18_Less a b = some (lessB a b) := by
  unfold congressref18_Less lessB
  split
  · rfl
  · split <;> rfl
def cmpI (x y : Int) : Int := if x < y then -1 else if x > y then 1 else 0
theorem cmpi_eq (x y : Int) : cmp_Compare_int x y = some (cmpI x y) := by
  unfold cmp_Compare_int cmpI cmp_isNaN_int
  simp only [Option.bind_some, bne_self_eq_false, Bool.false_eq_true, if_false, decide_eq_true_eq]
  split
  · rfl
  · split <;> rfl
theorem cmpu_eq (x y : Int) : cmp_Compare_uint64 x y = some (cmpI x y) := by
  unfold cmp_Compare_uint64 cmpI cmp_isNaN_uint64
  simp only [Option.bind_some, bne_self_eq_false, Bool.false_eq_true, if_false, decide_eq_true_eq]
  split
  · rfl
  · split <;> rfl
theorem or_eq (a b c : Int) : cmp_Or_int [a, b, c] = some (if a ≠ 0 then a else if b ≠ 0 then b else c) := by
  unfold cmp_Or_int
  rw [loop_find (ρ := Int) 3 (fun i => ([a, b, c] : _root_.List Int).getD i 0 != 0) (fun i => ([a, b, c] : _root_.List Int).getD i 0)]
  · have hr : List.range 3 = [0, 1, 2] := rfl
    rw [hr]
    by_cases ha : a = 0
    · by_cases hb : b = 0
      · by_cases hc : c = 0
        · subst ha; subst hb; subst hc; rfl
        · have hc' : (c == 0) = false := by simpa using hc
          subst ha; subst hb; simp [List.find?, hc, hc', Fl.elim, bne]
      · have hb' : (b == 0) = false := by simpa using hb
        subst ha; simp [List.find?, hb, hb', Fl.elim, bne]
    · have ha' : (a == 0) = false := by simpa using ha
      simp [List.find?, ha, ha', Fl.elim, bne]
  · intro n hn
    have hn' : (n : Int) < ((([a, b, c] : _root_.List Int).length : Nat) : Int) := by simp; omega
    have e1 : IntKind.i64.wrap ((n : Int) + 1) = ((n + 1 : Nat) : Int) := by rw [w64] <;> omega
    rw [if_pos (decide_eq_true hn'), ib_n (show n < ([a, b, c] : _root_.List Int).length by simp; omega)]
    simp only [Option.bind_some, Int.toNat_natCast, e1]
  · simp
theorem less_eq (a b : Mem) : group_Less a b = some (lessB a b) := by
  unfold group_Less group_compare
  rw [cmpi_eq, cmpi_eq, cmpu_eq]
  simp only [Option.bind_some, or_eq]
  congr 1
  rw [Bool.eq_iff_iff, decide_eq_true_eq, less_iff]
  unfold cmpI
  repeat' split
  all_goals omega
def rightB (m : Mem) : Bool := decide (m.Group ≥ 0) && decide (m.Group < 8) && decide (m.Daemon ≥ 0) && decide (m.Daemon < 8) && decide (m.Session ≤ 65535)
theorem right_eq (m : Mem) : group_right m = some (rightB m) := rfl
theorem rright_eq (m : Mem) : congressref18_Right m = some (rightB m) := by
  unfold congressref18_Right rightB
  simp only [lt]
  congr 1
  rw [Bool.eq_iff_iff]
  simp only [Bool.and_eq_true, decide_eq_true_eq]; omega
theorem clone_eq {k : Nat} (t : Tab) (h : Room k t) : slices_Clone_api_Member_api_Member t = some t := by
  have : slices_Clone_api_Member_api_Member t = cloneG 24 t := rfl
  have hb := bigMax
  unfold Room at h
  rw [this, cloneG_eq (by omega) (by omega)]
def hasB (t : Tab) (m : Mem) : Bool := t.any fun x => b_api_Member m x
theorem has_iff (t : Tab) (m : Mem) : hasB t m = true ↔ m ∈ t := by
  unfold hasB
  rw [List.any_eq_true]
  constructor
  · rintro ⟨x, h1, h2⟩; rw [(b_iff m x).1 h2]; exact h1
  · intro h; exact ⟨m, h, b_refl m⟩
theorem find_any (t : Tab) (P : Mem → Bool) : ((List.range t.length).find? fun i => P (t.getD i z_api_Member)).isSome = t.any P := by
  rw [Bool.eq_iff_iff, List.find?_isSome, List.any_eq_true]
  constructor
  · rintro ⟨i, h1, h2⟩
    have hi := List.mem_range.1 h1
    exact ⟨t.getD i z_api_Member, getD_in hi, h2⟩
  · rintro ⟨x, h1, h2⟩
    obtain ⟨i, hi, rfl⟩ := List.getElem_of_mem h1
    exact ⟨i, List.mem_range.2 hi, by simpa [List.getD_eq_getElem?_getD, hi] using h2⟩
theorem contains_eq (t : Tab) (m : Mem) (hl : t.length < 6000000000000) : slices_Contains_api_Member_api_Member t m = some (hasB t m) := by
  unfold slices_Contains_api_Member_api_Member slices_Index_api_Member_api_Member
  rw [loop_find (ρ := Int) t.length (fun i => b_api_Member m (t.getD i z_api_Member)) (fun i => (i : Int))]
  · have := find_any t (fun x => b_api_Member m x)
    unfold hasB
    cases hf : (List.range t.length).find? (fun i => b_api_Member m (t.getD i z_api_Member)) with
    | none => rw [hf] at this; rw [← this]; rfl
    | some i => rw [hf] at this; rw [← this]; simp [Fl.elim]
  · intro n hn
    have hn' : (n : Int) < (t.length : Int) := by omega
    have e1 : IntKind.i64.wrap ((n : Int) + 1) = ((n + 1 : Nat) : Int) := by rw [w64] <;> omega
    rw [if_pos (decide_eq_true hn'), ib_n hn]
    simp only [Option.bind_some, Int.toNat_natCast, e1]
  · simp
theorem rhas_eq (t : Tab) (m : Mem) (hl : t.length < 6000000000000) : congressref18_Has t m = some (hasB t m) := by
  unfold congressref18_Has
  rw [loop_find (ρ := Bool) t.length (fun i => b_api_Member (t.getD i z_api_Member) m) (fun i => true)]
  · have := find_any t (fun x => b_api_Member x m)
    have e : hasB t m = t.any fun x => b_api_Member x m := by unfold hasB; congr 1; funext x; exact b_comm m x
    rw [e]
    cases hf : (List.range t.length).find? (fun i => b_api_Member (t.getD i z_api_Member) m) with
    | none => rw [hf] at this; rw [← this]; rfl
    | some i => rw [hf] at this; rw [← this]; rfl
  · intro n hn
    have hn' : (n : Int) < (t.length : Int) := by omega
    have e1 : IntKind.i64.wrap ((n : Int) + 1) = ((n + 1 : Nat) : Int) := by rw [w64] <;> omega
    rw [if_pos (decide_eq_true hn'), ib_n hn]
    simp only [Option.bind_some, Int.toNat_natCast, e1]
  · simp
def ins (m : Mem) (t : Tab) : Tab := (t.takeWhile fun x => lessB x m) ++ m :: (t.dropWhile fun x => lessB x m)
theorem ins_len (m : Mem) (t : Tab) : (ins m t).length = t.length + 1 := by
  have h := congrArg List.length (List.takeWhile_append_dropWhile (p := fun x => lessB x m) (l := t))
  simp only [List.length_append] at h
  simp only [ins, List.length_append, List.length_cons]; omega
theorem ins_mem (m : Mem) (t : Tab) (x : Mem) : x ∈ ins m t ↔ x = m ∨ x ∈ t := by
  have h := List.takeWhile_append_dropWhile (p := fun x => lessB x m) (l := t)
  conv => rhs; rw [← h]
  simp only [ins, List.mem_append, List.mem_cons]
  constructor
  · rintro (h | h | h)
    · exact .inr (.inl h)
    · exact .inl h
    · exact .inr (.inr h)
  · rintro (h | h | h)
    · exact .inr (.inl h)
    · exact .inl h
    · exact .inr (.inr h)
def neB (m x : Mem) : Bool := !b_api_Member x m
def applyF (t : Tab) (d : Int) (e : api_Entry) : Tab × Bool :=
  let m : Mem := { Group := e.Group, Daemon := d, Session := e.Session }
  if rightB m = true ∧ e.Kind = 2 ∧ hasB t m = false then (ins m t, true)
  else if rightB m = true ∧ e.Kind = 3 ∧ hasB t m = true then (t.filter (neB m), true)
  else (t, false)
theorem deln_eq (t : Tab) (f : Mem → Option Bool) (P : Mem → Bool) (hf : ∀ x, f x = some (P x)) (hl : t.length < 6000000000000) : slices_DeleteFunc_api_Member_api_Member t f = some (t.filter fun x => !P x) := by
  have : slices_DeleteFunc_api_Member_api_Member t f = delG z_api_Member t f := rfl
  have hb := bigMax
  rw [this, delG_eq z_api_Member t f P hf (by omega)]
theorem apply_eq {k : Nat} (t : Tab) (d : Int) (e : api_Entry) (h : Room (k + 1) t) : group_Apply t d e = some (applyF t d e) := by
  have hs := h.small
  have hb := bigMax
  unfold group_Apply applyF
  simp only [lt]
  generalize hm : ({ Group := e.Group, Daemon := d, Session := e.Session } : Mem) = m
  rw [clone_eq t h]
  simp only [Option.bind_some]
  have hx : slices_IndexFunc_api_Member_api_Member t (fun z0 => group_Apply_1 z0 m) = some (fidx t z_api_Member fun x => !lessB x m) := by
    have : slices_IndexFunc_api_Member_api_Member t (fun z0 => group_Apply_1 z0 m) = idxG z_api_Member t (fun z0 => group_Apply_1 z0 m) := rfl
    rw [this, idxG_eq z_api_Member t _ (fun x => !lessB x m) (fun x => by unfold group_Apply_1; rw [less_eq]; rfl) (by omega)]
  rw [hx]
  simp only [Option.bind_some, jn]
  have hi : ∀ f : Int → Option (Tab × Bool), (if decide (fidx t z_api_Member (fun x => !lessB x m) < 0) = true then f (t.length : Int) else f (fidx t z_api_Member fun x => !lessB x m)) = f ((t.takeWhile fun x => lessB x m).length : Nat) := by
    intro f
    have := fidx_tw t z_api_Member (fun x => !lessB x m)
    simp only [Bool.not_not] at this
    rw [← this]
    by_cases q : fidx t z_api_Member (fun x => !lessB x m) < 0
    · rw [if_pos (decide_eq_true q), if_pos q]
    · rw [if_neg (by rw [decide_eq_true_eq]; exact q), if_neg q]
  rw [hi (fun x7 => (slices_Contains_api_Member_api_Member t m).bind fun v8 => (group_right m).bind fun v10 =>
    if (!v10) = true then some (t, false) else if (e.Kind == 2 && !v8) = true then (slices_Insert_api_Member_api_Member t x7 [m]).bind fun v12 => some (v12, true)
    else if (e.Kind == 3 && v8) = true then (slices_DeleteFunc_api_Member_api_Member t fun z0 => group_Apply_2 z0 m).bind fun v14 => some (v14, true) else some (t, false))]
  rw [contains_eq t m hs, right_eq]
  simp only [Option.bind_some]
  have hle : (t.takeWhile fun x => lessB x m).length ≤ t.length := by
    have h := congrArg List.length (List.takeWhile_append_dropWhile (p := fun x => lessB x m) (l := t))
    simp only [List.length_append] at h; omega
  have hins : slices_Insert_api_Member_api_Member t (((t.takeWhile fun x => lessB x m).length : Nat) : Int) [m] = some (ins m t) := by
    have : slices_Insert_api_Member_api_Member t (((t.takeWhile fun x => lessB x m).length : Nat) : Int) [m] = insG z_api_Member 24 t (((t.takeWhile fun x => lessB x m).length : Nat) : Int) [m] := rfl
    unfold Room at h
    rw [this, insG_eq z_api_Member 24 t _ m hle (by omega) (by omega)]
    obtain ⟨h1, h2⟩ := tw_take (fun x => lessB x m) t
    rw [h1, h2]; rfl
  rw [hins, deln_eq t (fun z0 => group_Apply_2 z0 m) (fun x => b_api_Member x m) (fun x => rfl) hs]
  simp only [Option.bind_some]
  cases hr : rightB m with
  | false => simp
  | true =>
    cases hh : hasB t m with
    | true =>
      by_cases h3 : e.Kind = 3
      · simp [h3, neB]; rfl
      · simp [h3]
    | false =>
      by_cases h2 : e.Kind = 2
      · simp [h2]
      · simp [h2]
theorem sess (e : api_Entry) : True := trivial
def mayP (t : Tab) : Prop := (∀ x ∈ t, rightB x = true) ∧ t.Pairwise fun a b => lessB a b = true
def mayB (t : Tab) : Bool := !((List.range t.length).any fun i => !rightB (t.getD i z_api_Member) || (decide ((i : Int) > 0) && !lessB (t.getD (i - 1) z_api_Member) (t.getD i z_api_Member)))
theorem may_loop (N : Nat) (P : Nat → Bool) : (match (List.range N).find? P with | some _ => (Fl.rt false : Fl Bool Unit) | none => .nx ()).elim (fun _ => some true) (fun r => some r) = some (!((List.range N).any P)) := by
  cases hf : (List.range N).find? P with
  | none =>
    rw [List.find?_eq_none] at hf
    have : (List.range N).any P = false := by
      rw [Bool.eq_false_iff]; intro h
      obtain ⟨x, h1, h2⟩ := List.any_eq_true.1 h
      exact hf x h1 h2
    rw [this]; rfl
  | some i =>
    have h1 := List.mem_of_find?_eq_some hf
    have h2 := List.find?_some hf
    have : (List.range N).any P = true := List.any_eq_true.2 ⟨i, h1, h2⟩
    rw [this]; rfl
theorem may_eq (t : Tab) (hl : t.length < 6000000000000) : group_May t = some (mayB t) := by
  unfold group_May
  rw [loop_find (ρ := Bool) t.length (fun i => !rightB (t.getD i z_api_Member) || (decide ((i : Int) > 0) && !lessB (t.getD (i - 1) z_api_Member) (t.getD i z_api_Member))) (fun _ => false)]
  · exact may_loop _ _
  · intro n hn
    have hn' : (n : Int) < (t.length : Int) := by omega
    have e1 : IntKind.i64.wrap ((n : Int) + 1) = ((n + 1 : Nat) : Int) := by rw [w64] <;> omega
    rw [if_pos (decide_eq_true hn'), ib_n hn, right_eq]
    simp only [Option.bind_some, Int.toNat_natCast, e1, less_eq]
    cases hr : rightB (t.getD n z_api_Member) with
    | false => simp [ibg, whn]
    | true =>
      by_cases h0 : n = 0
      · subst h0; simp [ibg, whn]
      · have e2 : IntKind.i64.wrap ((n : Int) - 1) = ((n - 1 : Nat) : Int) := by rw [w64] <;> omega
        rw [e2, ibg_t (fun _ => by omega)]
        have h1 : decide ((n : Int) > 0) = true := by simp; omega
        simp only [Option.bind_some, h1, whn, Bool.not_true, Bool.not_false, Bool.true_and, if_true, Bool.false_or, Int.toNat_natCast]
  · simp
theorem rmay_eq (t : Tab) (hl : t.length < 6000000000000) : congressref18_May t = some (mayB t) := by
  unfold congressref18_May
  rw [loop_find (ρ := Bool) t.length (fun i => !rightB (t.getD i z_api_Member) || (decide ((i : Int) > 0) && !lessB (t.getD (i - 1) z_api_Member) (t.getD i z_api_Member))) (fun _ => false)]
  · exact may_loop _ _
  · intro n hn
    have hn' : (n : Int) < (t.length : Int) := by omega
    have e1 : IntKind.i64.wrap ((n : Int) + 1) = ((n + 1 : Nat) : Int) := by rw [w64] <;> omega
    rw [if_pos (decide_eq_true hn'), ib_n hn, rright_eq]
    simp only [Option.bind_some, Int.toNat_natCast, e1, rless_eq]
    cases hr : rightB (t.getD n z_api_Member) with
    | false => simp [ibg, whn]
    | true =>
      by_cases h0 : n = 0
      · subst h0; simp [ibg, whn]
      · have e2 : IntKind.i64.wrap ((n : Int) - 1) = ((n - 1 : Nat) : Int) := by rw [w64] <;> omega
        rw [e2, ibg_t (fun _ => by omega)]
        have h1 : decide ((n : Int) > 0) = true := by simp; omega
        simp only [Option.bind_some]
        rw [ibg_t (fun _ => by omega)]
        simp only [Option.bind_some, h1, whn, Bool.not_true, Bool.not_false, Bool.true_and, if_true, Bool.false_or, Int.toNat_natCast]
  · simp
theorem may_iff (t : Tab) : mayB t = true ↔ mayP t := by
  have key : mayB t = true ↔ ∀ i, i < t.length → rightB (t.getD i z_api_Member) = true ∧ (0 < i → lessB (t.getD (i - 1) z_api_Member) (t.getD i z_api_Member) = true) := by
    unfold mayB
    rw [Bool.not_eq_true', Bool.eq_false_iff, ne_eq, List.any_eq_true]
    constructor
    · intro h i hi
      have h2 : ¬ ((!rightB (t.getD i z_api_Member) || (decide ((i : Int) > 0) && !lessB (t.getD (i - 1) z_api_Member) (t.getD i z_api_Member))) = true) := fun q => h ⟨i, List.mem_range.2 hi, q⟩
      simp only [Bool.or_eq_true, Bool.and_eq_true, Bool.not_eq_true', decide_eq_true_eq, not_or, not_and, Bool.not_eq_false] at h2
      exact ⟨h2.1, fun h0 => h2.2 (by omega)⟩
    · rintro h ⟨i, h1, h2⟩
      obtain ⟨a, b⟩ := h i (List.mem_range.1 h1)
      simp only [Bool.or_eq_true, Bool.and_eq_true, Bool.not_eq_true', decide_eq_true_eq] at h2
      rcases h2 with q | ⟨q1, q2⟩
      · rw [a] at q; cases q
      · rw [b (by omega)] at q2; cases q2
  rw [key]
  have gd : ∀ i (h : i < t.length), t.getD i z_api_Member = t[i] := fun i h => by simp [List.getD_eq_getElem?_getD, h]
  constructor
  · intro h
    refine ⟨fun x hx => ?_, ?_⟩
    · obtain ⟨i, hi, rfl⟩ := List.getElem_of_mem hx
      rw [← gd i hi]; exact (h i hi).1
    · rw [List.pairwise_iff_getElem]
      intro i j hi hj hij
      rw [← gd i hi, ← gd j hj]
      clear hi
      induction j with
      | zero => omega
      | succ j ih =>
        have h1 := (h (j + 1) hj).2 (by omega)
        rw [Nat.add_sub_cancel] at h1
        by_cases q : i = j
        · subst q; exact h1
        · exact less_trans (ih (by omega) (by omega)) h1
  · rintro ⟨h1, h2⟩ i hi
    refine ⟨by rw [gd i hi]; exact h1 _ (List.getElem_mem _), fun h0 => ?_⟩
    rw [gd i hi, gd (i - 1) (by omega)]
    exact List.pairwise_iff_getElem.1 h2 (i - 1) i (by omega) hi (by omega)
/-- Tables in order that have the same members are the same. -/
theorem sorted_ext {a b : Tab} (ha : a.Pairwise fun x y => lessB x y = true) (hb : b.Pairwise fun x y => lessB x y = true) (h : ∀ x, x ∈ a ↔ x ∈ b) : a = b := by
  induction a generalizing b with
  | nil =>
    cases b with
    | nil => rfl
    | cons y b => exact absurd ((h y).2 (by simp)) (by simp)
  | cons x a ih =>
    cases b with
    | nil => exact absurd ((h x).1 (by simp)) (by simp)
    | cons y b =>
      rw [List.pairwise_cons] at ha hb
      have hxy : x = y := by
        rcases List.mem_cons.1 ((h x).1 (by simp)) with q | q
        · exact q
        · rcases List.mem_cons.1 ((h y).2 (by simp)) with q2 | q2
          · exact q2.symm
          · have := less_trans (ha.1 y q2) (hb.1 x q)
            rw [less_irr] at this; cases this
      subst hxy
      congr 1
      refine ih ha.2 hb.2 (fun z => ?_)
      have hz := h z
      simp only [List.mem_cons] at hz
      constructor
      · intro q
        rcases hz.1 (.inr q) with r | r
        · subst r; have := ha.1 z q; rw [less_irr] at this; cases this
        · exact r
      · intro q
        rcases hz.2 (.inr q) with r | r
        · subst r; have := hb.1 z q; rw [less_irr] at this; cases this
        · exact r
theorem ins_sorted {t : Tab} (m : Mem) (h : t.Pairwise fun x y => lessB x y = true) (hm : m ∉ t) : (ins m t).Pairwise fun x y => lessB x y = true := by
  unfold ins
  induction t with
  | nil => simp
  | cons x t ih =>
    rw [List.pairwise_cons] at h
    have hne : m ≠ x := fun q => hm (by simp [q])
    have hmt : m ∉ t := fun q => hm (by simp [q])
    by_cases hx : lessB x m = true
    · rw [List.takeWhile_cons_of_pos (by exact hx), List.dropWhile_cons_of_pos (by exact hx), List.cons_append, List.pairwise_cons]
      refine ⟨fun y hy => ?_, ih h.2 hmt⟩
      have : y ∈ ins m t := hy
      rcases (ins_mem m t y).1 this with rfl | q
      · exact hx
      · exact h.1 y q
    · rw [List.takeWhile_cons_of_neg (by exact hx), List.dropWhile_cons_of_neg (by exact hx), List.nil_append, List.pairwise_cons]
      have hmx : lessB m x = true := by
        rcases less_tri m x with q | q | q
        · exact q
        · exact absurd q hne
        · exact absurd q hx
      refine ⟨fun y hy => ?_, List.pairwise_cons.2 h⟩
      rcases List.mem_cons.1 hy with rfl | q
      · exact hmx
      · exact less_trans hmx (h.1 y q)
theorem neB_iff (m x : Mem) : neB m x = true ↔ x ≠ m := by
  unfold neB; rw [Bool.not_eq_true', Bool.eq_false_iff, ne_eq, b_iff]
theorem apply_may {t : Tab} (h : mayP t) (d : Int) (e : api_Entry) : mayP (applyF t d e).1 := by
  unfold applyF
  simp only
  generalize ({ Group := e.Group, Daemon := d, Session := e.Session } : Mem) = m
  split
  · rename_i c
    refine ⟨fun x hx => ?_, ins_sorted m h.2 (fun q => by rw [(has_iff t m).2 q] at c; simp at c)⟩
    rcases (ins_mem m t x).1 hx with rfl | q
    · exact c.1
    · exact h.1 x q
  · split
    · exact ⟨fun x hx => h.1 x (List.mem_filter.1 hx).1, h.2.filter _⟩
    · exact h
theorem apply_len (t : Tab) (d : Int) (e : api_Entry) : (applyF t d e).1.length ≤ t.length + 1 := by
  unfold applyF
  simp only
  split
  · rw [ins_len]; exact Nat.le_refl _
  · split
    · have := List.length_filter_le (neB { Group := e.Group, Daemon := d, Session := e.Session }) t
      exact Nat.le_succ_of_le this
    · exact Nat.le_succ _
theorem apply_room {k : Nat} {t : Tab} (h : Room (k + 1) t) (d : Int) (e : api_Entry) : Room k (applyF t d e).1 := h.le (by have := apply_len t d e; omega)
def viewF (t : Tab) (g : Int) : Tab := t.filter fun x => x.Group == g
theorem those_eq {k : Nat} (t : Tab) (f : Mem → Option Bool) (P : Mem → Bool) (hf : ∀ x, f x = some (P x)) (h : Room k t) : group_those t f = some (t.filter P) := by
  unfold group_those
  rw [clone_eq t h]
  simp only [Option.bind_some]
  rw [deln_eq t _ (fun x => !P x) (fun x => by unfold group_those_1; rw [hf]; rfl) h.small]
  simp
theorem view_eq {k : Nat} (t : Tab) (g : Int) (h : Room k t) : group_View t g = some (viewF t g) := by
  unfold group_View
  rw [those_eq t (fun z0 => group_View_1 z0 g) (fun x => x.Group == g) (fun x => rfl) h]; rfl
def keepB (m : Nat → Int) (x : Mem) : Bool := decide (x.Daemon ≥ 0) && decide (x.Daemon < 8) && (m x.Daemon.toNat != 0)
def keepF (t : Tab) (m : Nat → Int) : Tab := t.filter (keepB m)
theorem keep_eq {k : Nat} (t : Tab) (m : Nat → Int) (h : Room k t) : group_Keep t m = some (keepF t m) := by
  unfold group_Keep
  rw [those_eq t (fun z0 => group_Keep_1 z0 m) (keepB m) (fun x => by
    unfold group_Keep_1
    rw [ibg_t (fun q => by simp at q; omega)]
    rfl) h]; rfl
theorem rview_eq {k : Nat} (t : Tab) (g : Int) (h : Room k t) : congressref18_View t g = some (viewF t g) := by
  have hs := h.small
  have hb := bigMax
  unfold Room at h
  unfold congressref18_View
  rw [loop_seq (s0 := ((0 : Int), ([] : Tab))) (fun n => ((n : Int), viewF (t.take n) g)) t.length (w := .nx (viewF t g)) (by simp [viewF]) (fun n hn => by
    have hn' : (n : Int) < (t.length : Int) := by omega
    have e1 : IntKind.i64.wrap ((n : Int) + 1) = ((n + 1 : Nat) : Int) := by rw [w64] <;> omega
    have hfl : (viewF (t.take n) g).length ≤ n := Nat.le_trans (List.length_filter_le _ _) (List.length_take_le n t)
    rw [if_pos (decide_eq_true hn'), ib_n hn]
    simp only [Option.bind_some, Int.toNat_natCast, e1, jn, ib_n hn]
    have ht : viewF (t.take (n + 1)) g = viewF (t.take n) g ++ (if (t.getD n z_api_Member).Group == g then [t.getD n z_api_Member] else []) := by
      unfold viewF
      rw [take_s (d := z_api_Member) hn, List.filter_append]
      congr 1
      by_cases q : ((t.getD n z_api_Member).Group == g) = true
      · rw [if_pos q, List.filter_cons_of_pos (by exact q)]; rfl
      · rw [if_neg q, List.filter_cons_of_neg (by exact q)]; rfl
    rw [ht]
    by_cases q : ((t.getD n z_api_Member).Group == g) = true
    · rw [if_pos q, if_pos q, fit_t (by simp; omega) (by simp; omega)]; rfl
    · rw [if_neg q, if_neg q]; simp) (by simp)]
  rfl
theorem and7 (d : Int) (h : 0 ≤ d ∧ d ≤ 7) : iand .i64 d 7 = d := by
  have : d = 0 ∨ d = 1 ∨ d = 2 ∨ d = 3 ∨ d = 4 ∨ d = 5 ∨ d = 6 ∨ d = 7 := by omega
  rcases this with rfl | rfl | rfl | rfl | rfl | rfl | rfl | rfl <;> rfl
theorem keepc (m : Nat → Int) (X : Mem) : (decide (X.Daemon ≥ 0) && decide (X.Daemon ≤ 7) && (m (iand .i64 X.Daemon 7).toNat != 0)) = keepB m X := by
  unfold keepB
  by_cases q : 0 ≤ X.Daemon ∧ X.Daemon ≤ 7
  · rw [and7 _ q]
    have a1 : decide (X.Daemon ≤ 7) = true := decide_eq_true q.2
    have a2 : decide (X.Daemon < 8) = true := decide_eq_true (by omega)
    rw [a1, a2]
  · have a1 : (decide (X.Daemon ≥ 0) && decide (X.Daemon ≤ 7)) = false := by
      rw [Bool.eq_false_iff]; intro h; simp at h; omega
    have a2 : (decide (X.Daemon ≥ 0) && decide (X.Daemon < 8)) = false := by
      rw [Bool.eq_false_iff]; intro h; simp at h; omega
    rw [a1, a2]; rfl
theorem rkeep_eq {k : Nat} (t : Tab) (m : Nat → Int) (h : Room k t) : congressref18_Keep t m = some (keepF t m) := by
  have hs := h.small
  have hb := bigMax
  unfold Room at h
  unfold congressref18_Keep
  rw [loop_seq (s0 := ((0 : Int), ([] : Tab))) (fun n => ((n : Int), keepF (t.take n) m)) t.length (w := .nx (keepF t m)) (by simp [keepF]) (fun n hn => by
    have hn' : (n : Int) < (t.length : Int) := by omega
    have e1 : IntKind.i64.wrap ((n : Int) + 1) = ((n + 1 : Nat) : Int) := by rw [w64] <;> omega
    have hfl : (keepF (t.take n) m).length ≤ n := Nat.le_trans (List.length_filter_le _ _) (List.length_take_le n t)
    rw [if_pos (decide_eq_true hn'), ib_n hn]
    simp only [Option.bind_some, Int.toNat_natCast, e1, jn, ib_n hn, lt]
    have ht : keepF (t.take (n + 1)) m = keepF (t.take n) m ++ (if keepB m (t.getD n z_api_Member) = true then [t.getD n z_api_Member] else []) := by
      unfold keepF
      rw [take_s (d := z_api_Member) hn, List.filter_append]
      congr 1
      by_cases q : keepB m (t.getD n z_api_Member) = true
      · rw [if_pos q, List.filter_cons_of_pos (by exact q)]; rfl
      · rw [if_neg q, List.filter_cons_of_neg (by exact q)]; rfl
    rw [ht]
    rw [ibg_t (fun q => by
      rw [Bool.and_eq_true, decide_eq_true_eq, decide_eq_true_eq] at q
      rw [and7 _ (by omega)]; omega)]
    simp only [Option.bind_some, keepc]
    by_cases q : keepB m (t.getD n z_api_Member) = true
    · rw [if_pos q, if_pos q, fit_t (by simp; omega) (by simp; omega)]; rfl
    · rw [if_neg q, if_neg q]; simp) (by simp)]
  rfl
theorem same_refl (a : Tab) (ha : a.length < 6000000000000) : congressref18_Same a a = some true := by
  unfold congressref18_Same
  rw [if_neg (by simp), loop_find (ρ := Bool) a.length (fun i => !b_api_Member (a.getD i z_api_Member) (a.getD i z_api_Member)) (fun _ => false)]
  · simp only [Option.bind_some]
    have : (List.range a.length).find? (fun i => !b_api_Member (a.getD i z_api_Member) (a.getD i z_api_Member)) = none := by
      rw [List.find?_eq_none]; intro x hx; simp [b_refl]
    rw [this]; simp [Fl.elim]
  · intro n hn
    have hn' : (n : Int) < (a.length : Int) := by omega
    have e1 : IntKind.i64.wrap ((n : Int) + 1) = ((n + 1 : Nat) : Int) := by rw [w64] <;> omega
    simp only [hn', decide_true, if_true, ib_n hn, Option.bind_some, Int.toNat_natCast, e1, lt]
  · simp
end Go.Proofs.Ytpcpfcijdliicaa
