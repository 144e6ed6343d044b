/- Pure laws of chapter 18: a table that may be stays one; entries of unlike members may come in either order. Conditions: none. -/
import Derived.Test.YtpcpfcijdliicaaPd
set_option linter.unusedVariables false
set_option linter.unusedSimpArgs false
namespace Go.Proofs.Ytpcpfcijdliicaa
open Go.Eng
/-- What a member is, of an entry. -/
def memOf (d : Int) (e : api_Entry) : Mem := { Group := e.Group, Daemon := d, Session := e.Session }
theorem apply_mem (t : Tab) (d : Int) (e : api_Entry) (x : Mem) : x ∈ (applyF t d e).1 ↔
    (rightB (memOf d e) = true ∧ e.Kind = 2 ∧ x = memOf d e) ∨ (x ∈ t ∧ ¬ (rightB (memOf d e) = true ∧ e.Kind = 3 ∧ x = memOf d e)) := by
  unfold applyF
  simp only
  show x ∈ (if rightB (memOf d e) = true ∧ e.Kind = 2 ∧ hasB t (memOf d e) = false then (ins (memOf d e) t, true) else if rightB (memOf d e) = true ∧ e.Kind = 3 ∧ hasB t (memOf d e) = true then (t.filter (neB (memOf d e)), true) else (t, false)).1 ↔ _
  generalize memOf d e = m
  by_cases c1 : rightB m = true ∧ e.Kind = 2 ∧ hasB t m = false
  · rw [if_pos c1]
    show x ∈ ins m t ↔ _
    rw [ins_mem]
    constructor
    · rintro (q | q)
      · exact .inl ⟨c1.1, c1.2.1, q⟩
      · exact .inr ⟨q, fun r => by have := r.2.1; have := c1.2.1; omega⟩
    · rintro (q | q)
      · exact .inl q.2.2
      · exact .inr q.1
  · rw [if_neg c1]
    by_cases c2 : rightB m = true ∧ e.Kind = 3 ∧ hasB t m = true
    · rw [if_pos c2]
      show x ∈ t.filter (neB m) ↔ _
      rw [List.mem_filter, neB_iff]
      constructor
      · rintro ⟨q1, q2⟩; exact .inr ⟨q1, fun r => q2 r.2.2⟩
      · rintro (q | q)
        · have := q.2.1; have := c2.2.1; omega
        · exact ⟨q.1, fun r => q.2 ⟨c2.1, c2.2.1, r⟩⟩
    · rw [if_neg c2]
      show x ∈ t ↔ _
      constructor
      · intro q
        refine .inr ⟨q, fun r => c2 ⟨r.1, r.2.1, ?_⟩⟩
        rw [has_iff]; exact r.2.2 ▸ q
      · rintro (q | q)
        · have hh : hasB t m = true := by
            cases hb : hasB t m with
            | true => rfl
            | false => exact absurd ⟨q.1, q.2.1, hb⟩ c1
          rw [q.2.2]; exact (has_iff t m).1 hh
        · exact q.1
theorem apply_did (t : Tab) (d : Int) (e : api_Entry) : (applyF t d e).2 = true ↔ (rightB (memOf d e) = true ∧ ((e.Kind = 2 ∧ memOf d e ∉ t) ∨ (e.Kind = 3 ∧ memOf d e ∈ t))) := by
  have hn : hasB t (memOf d e) = false ↔ memOf d e ∉ t := by rw [← has_iff, Bool.not_eq_true]
  unfold applyF
  simp only
  show (if rightB (memOf d e) = true ∧ e.Kind = 2 ∧ hasB t (memOf d e) = false then (ins (memOf d e) t, true) else if rightB (memOf d e) = true ∧ e.Kind = 3 ∧ hasB t (memOf d e) = true then (t.filter (neB (memOf d e)), true) else (t, false)).2 = true ↔ _
  by_cases c1 : rightB (memOf d e) = true ∧ e.Kind = 2 ∧ hasB t (memOf d e) = false
  · rw [if_pos c1]
    exact ⟨fun _ => ⟨c1.1, .inl ⟨c1.2.1, hn.1 c1.2.2⟩⟩, fun _ => rfl⟩
  · rw [if_neg c1]
    by_cases c2 : rightB (memOf d e) = true ∧ e.Kind = 3 ∧ hasB t (memOf d e) = true
    · rw [if_pos c2]
      exact ⟨fun _ => ⟨c2.1, .inr ⟨c2.2.1, (has_iff _ _).1 c2.2.2⟩⟩, fun _ => rfl⟩
    · rw [if_neg c2]
      refine ⟨fun q => (by cases q), fun q => ?_⟩
      rcases q with ⟨r, ⟨k, h⟩ | ⟨k, h⟩⟩
      · exact absurd ⟨r, k, hn.2 h⟩ c1
      · exact absurd ⟨r, k, (has_iff _ _).2 h⟩ c2
theorem apply_not {t : Tab} {d : Int} {e : api_Entry} (h : (applyF t d e).2 = false) : (applyF t d e).1 = t := by
  unfold applyF at h ⊢
  simp only at h ⊢
  split at h
  · cases h
  · split at h
    · cases h
    · rename_i c1 c2; rw [if_neg c1, if_neg c2]
theorem del_len {m : Mem} : ∀ {t : Tab}, t.Pairwise (fun a b => lessB a b = true) → m ∈ t → (t.filter (neB m)).length + 1 = t.length
  | [], _, h => by cases h
  | x :: t, hp, h => by
    rw [List.pairwise_cons] at hp
    by_cases hx : x = m
    · subst hx
      have hnot : x ∉ t := fun q => by have := hp.1 x q; rw [less_irr] at this; cases this
      have : t.filter (neB x) = t := by
        rw [List.filter_eq_self]; intro y hy; rw [neB_iff]; intro q; exact hnot (q ▸ hy)
      rw [List.filter_cons_of_neg (by rw [neB_iff]; simp), this]; rfl
    · have hm : m ∈ t := by
        rcases List.mem_cons.1 h with q | q
        · exact absurd q.symm hx
        · exact q
      rw [List.filter_cons_of_pos ((neB_iff m x).2 hx)]
      have := del_len hp.2 hm
      simp only [List.length_cons]; omega
theorem apply_lens {t : Tab} (h : mayP t) (d : Int) (e : api_Entry) : ((applyF t d e).1.length : Int) = (t.length : Int) + (if (applyF t d e).2 = true ∧ e.Kind = 2 then 1 else 0) - (if (applyF t d e).2 = true ∧ e.Kind = 3 then 1 else 0) := by
  unfold applyF
  simp only
  generalize ({ Group := e.Group, Daemon := d, Session := e.Session } : Mem) = m
  by_cases c1 : rightB m = true ∧ e.Kind = 2 ∧ hasB t m = false
  · rw [if_pos c1]
    have k := c1.2.1
    rw [if_pos ⟨rfl, k⟩, if_neg (by rintro ⟨_, q⟩; omega), ins_len]; simp
  · rw [if_neg c1]
    by_cases c2 : rightB m = true ∧ e.Kind = 3 ∧ hasB t m = true
    · rw [if_pos c2]
      have k := c2.2.1
      have := del_len h.2 ((has_iff t m).1 c2.2.2)
      rw [if_neg (by rintro ⟨_, q⟩; omega), if_pos ⟨rfl, k⟩]
      simp only; omega
    · rw [if_neg c2, if_neg (by rintro ⟨q, _⟩; cases q), if_neg (by rintro ⟨q, _⟩; cases q)]; simp
theorem pure_groupTurned (a0 : (_root_.List api_Member)) (a1 : congresslaw18_Did) (a2 : congresslaw18_Did) (w0 : (a0.length ≤ maxLen ∧ a0.length * 24 ≤ 140737488351232) ∧ ∀ j, j < a0.length → w_api_Member (a0.getD j z_api_Member)) (w1 : w_congresslaw18_Did a1) (w2 : w_congresslaw18_Did a2) : congresslaw18_GroupTurned a0 a1 a2 = some true := by
  have h := room_of w0
  have hs := h.small
  unfold congresslaw18_GroupTurned
  rw [fixed_eq]
  simp only [Option.bind_some, Bool.not_true, Bool.not_false, whn, if_true, Bool.false_or]
  rw [may_eq _ hs]
  simp only [Option.bind_some]
  by_cases hm : mayB a0 = true
  · rw [hm, if_neg (by decide)]
    have hP := (may_iff a0).1 hm
    simp only [lt]
    rw [apply_eq (k := 99) _ _ _ h]
    simp only [Option.bind_some]
    have hr1 := apply_room (k := 99) h a1.Daemon a1.E
    rw [loop_seq (s0 := (-1 : Int)) (fun n => (n : Int) - 1) 10 (w := (.nx () : Fl Bool Unit)) (by omega) (fun n hn => by
      have hn' : (n : Int) - 1 < 9 := by omega
      have e1 : IntKind.i64.wrap ((n : Int) - 1 + 1) = ((n + 1 : Nat) : Int) - 1 := by rw [w64] <;> omega
      rw [if_pos (decide_eq_true hn'), e1]
      by_cases q : (n : Int) - 1 = a1.E.Group
      · have : ((n : Int) - 1 != a1.E.Group) = false := by rw [q]; simp
        rw [this]; simp
      · have : ((n : Int) - 1 != a1.E.Group) = true := by simpa using q
        rw [this]
        simp only [if_true]
        rw [view_eq _ _ hr1, view_eq _ _ h]
        simp only [Option.bind_some]
        have hv : Room 100 (viewF a0 ((n : Int) - 1)) := filter_room _ h
        rw [view_apply _ _ _ _ q, same_refl _ hv.small]
        simp) (by simp)]
    simp only [Option.bind_some, Fl.elim]
    rw [apply_eq (k := 98) _ _ _ hr1, apply_eq (k := 99) _ _ _ h]
    simp only [Option.bind_some]
    have hr2 := apply_room (k := 99) h a2.Daemon a2.E
    rw [apply_eq (k := 98) _ _ _ hr2]
    simp only [Option.bind_some]
    cases hb : b_api_Member ({ Group := a1.E.Group, Daemon := a1.Daemon, Session := a1.E.Session } : api_Member) ({ Group := a2.E.Group, Daemon := a2.Daemon, Session := a2.E.Session } : api_Member) with
    | true => simp
    | false =>
      have hne : memOf a1.Daemon a1.E ≠ memOf a2.Daemon a2.E := fun q => by
        have := (b_iff _ _).2 q
        unfold memOf at this
        rw [hb] at this; cases this
      have e : (applyF (applyF a0 a1.Daemon a1.E).1 a2.Daemon a2.E).1 = (applyF (applyF a0 a2.Daemon a2.E).1 a1.Daemon a1.E).1 := by
        refine sorted_ext (apply_may (apply_may hP _ _) _ _).2 (apply_may (apply_may hP _ _) _ _).2 (fun x => ?_)
        rw [apply_mem, apply_mem, apply_mem, apply_mem]
        generalize memOf a1.Daemon a1.E = m at hne ⊢
        generalize memOf a2.Daemon a2.E = n at hne ⊢
        constructor
        · rintro (q | ⟨(q | q), r⟩)
          · exact .inr ⟨.inl q, fun z => hne (z.2.2.symm.trans q.2.2)⟩
          · exact .inl q
          · exact .inr ⟨.inr ⟨q.1, r⟩, q.2⟩
        · rintro (q | ⟨(q | q), r⟩)
          · exact .inr ⟨.inl q, fun z => hne (q.2.2.symm.trans z.2.2)⟩
          · exact .inl q
          · exact .inr ⟨.inr ⟨q.1, r⟩, q.2⟩
      have hr3 := apply_room (k := 98) hr2 a1.Daemon a1.E
      rw [e]
      simp only [Bool.not_false, if_true, same_refl _ hr3.small]
      simp
  · rw [Bool.not_eq_true] at hm
    rw [hm, if_pos (by decide)]
theorem pure_groupStays (a0 : (_root_.List api_Member)) (a1 : api_Entry) (a2 : Int) (w0 : (a0.length ≤ maxLen ∧ a0.length * 24 ≤ 140737488351232) ∧ ∀ j, j < a0.length → w_api_Member (a0.getD j z_api_Member)) (w1 : w_api_Entry a1) (w2 : (Lit.int .i64 a2).wf = true) : congresslaw18_GroupStays a0 a1 a2 = some true := by
  have h := room_of w0
  have hs := h.small
  unfold congresslaw18_GroupStays
  rw [fixed_eq]
  simp only [Option.bind_some, Bool.not_true, Bool.not_false, whn, if_true, Bool.false_or]
  rw [may_eq _ hs]
  simp only [Option.bind_some]
  by_cases hm : mayB a0 = true
  · rw [hm, if_neg (by decide)]
    have hP := (may_iff a0).1 hm
    rw [apply_eq (k := 99) _ _ _ h]
    simp only [Option.bind_some, lt]
    have hr1 := apply_room (k := 99) h a2 a1
    have hP1 := apply_may hP a2 a1
    have hB1 := (may_iff _).2 hP1
    have hmem := apply_mem a0 a2 a1
    have hdid := apply_did a0 a2 a1
    have hlen := apply_lens hP a2 a1
    have hnot := @apply_not a0 a2 a1
    have hmm : ({ Group := a1.Group, Daemon := a2, Session := a1.Session } : api_Member) = memOf a2 a1 := rfl
    rw [hmm]
    -- again: nothing
    have hagain : (applyF (applyF a0 a2 a1).1 a2 a1).2 = false := by
      rw [Bool.eq_false_iff]
      intro q
      have q := (apply_did _ _ _).1 q
      rcases q with ⟨r, ⟨k, z⟩ | ⟨k, z⟩⟩
      · exact z ((hmem _).2 (.inl ⟨r, k, rfl⟩))
      · rcases (hmem _).1 z with y | y
        · have := y.2.1; omega
        · exact y.2 ⟨r, k, rfl⟩
    have hagain1 := @apply_not (applyF a0 a2 a1).1 a2 a1 hagain
    generalize hA : applyF a0 a2 a1 = A at hr1 hP1 hB1 hmem hdid hlen hnot hagain hagain1 ⊢
    obtain ⟨A, did⟩ := A
    simp only at hr1 hP1 hB1 hmem hdid hlen hnot hagain hagain1 ⊢
    have hsA := hr1.small
    rw [may_eq _ hsA, hB1]
    simp only [Option.bind_some, Bool.not_true, Bool.not_false, Bool.true_and, Bool.false_or]
    have hsame : (if (!did) = true then congressref18_Same A a0 else some false) = some (!did) := by
      cases did with
      | true => rfl
      | false => rw [hnot rfl]; exact same_refl _ hs
    rw [hsame]
    simp only [Option.bind_some]
    rw [if_neg (by cases did <;> decide)]
    rw [rhas_eq A _ hsA, rhas_eq a0 _ hs]
    have hc : did = true → hasB A (memOf a2 a1) = (a1.Kind == 2) ∧ hasB a0 (memOf a2 a1) = !(a1.Kind == 2) := by
      intro q
      obtain ⟨r, z⟩ := hdid.1 q
      rcases z with ⟨k, z⟩ | ⟨k, z⟩
      · have a : hasB A (memOf a2 a1) = true := (has_iff _ _).2 ((hmem _).2 (.inl ⟨r, k, rfl⟩))
        have b : hasB a0 (memOf a2 a1) = false := by rw [Bool.eq_false_iff]; intro y; exact z ((has_iff _ _).1 y)
        rw [a, b, k]; exact ⟨rfl, rfl⟩
      · have a : hasB A (memOf a2 a1) = false := by
          rw [Bool.eq_false_iff]; intro y
          rcases (hmem _).1 ((has_iff _ _).1 y) with x | x
          · have := x.2.1; omega
          · exact x.2 ⟨r, k, rfl⟩
        have b : hasB a0 (memOf a2 a1) = true := (has_iff _ _).2 z
        rw [a, b, k]; exact ⟨rfl, rfl⟩
    have hbad : ∀ f : Bool → Option Bool, ((if did = true then some (hasB A (memOf a2 a1)) else some false).bind fun v14 => (if (!(did && (v14 != (a1.Kind == 2))) && did) = true then some (hasB a0 (memOf a2 a1)) else some false).bind fun v16 => f (did && (v14 != (a1.Kind == 2)) || did && (v16 == (a1.Kind == 2)))) = f false := by
      intro f
      cases hd : did with
      | false => simp
      | true =>
        obtain ⟨a, b⟩ := hc hd
        rw [a, b]
        cases (a1.Kind == 2) <;> simp
    rw [hbad (fun v18 => if v18 = true then some false else _)]
    simp only [Bool.false_eq_true, if_false]
    rw [loop_find (ρ := Bool) a0.length (fun _ => false) (fun _ => false)]
    · have hnf : (List.range a0.length).find? (fun _ => false) = none := by rw [List.find?_eq_none]; simp
      rw [hnf]
      simp only [Option.bind_some, Fl.elim]
      rw [apply_eq (k := 98) _ _ _ hr1]
      simp only [Option.bind_some, jn, hagain, hagain1, Bool.not_false, if_true, same_refl _ hsA, Bool.true_and]
      have hk : Room 99 (keepF A (aset (fun _ => 0) [(0, 1), (1, 0), (2, 1)])) := filter_room _ hr1
      have hkm : mayB (keepF A (aset (fun _ => 0) [(0, 1), (1, 0), (2, 1)])) = true := by
        rw [may_iff]
        exact ⟨fun x hx => hP1.1 x (List.mem_filter.1 hx).1, hP1.2.filter _⟩
      have fin : ∀ n : Int, n = (A.length : Int) → (((if ((A.length : Int) == n) = true then group_Keep A (aset (fun _ => 0) [(0, 1), (1, 0), (2, 1)]) else some []).bind fun v34 => (if ((A.length : Int) == n) = true then group_May v34 else some false).bind fun v36 => some (((A.length : Int) == n) && v36)) = some true) := by
        intro n hn
        subst hn
        simp only [beq_self_eq_true, if_true, keep_eq _ _ hr1, Option.bind_some, may_eq _ hk.small, hkm, Bool.and_self]
      by_cases k2 : a1.Kind = 2
      · have e3 : (a1.Kind == 3) = false := by rw [k2]; rfl
        have e2 : (a1.Kind == 2) = true := by rw [k2]; rfl
        rw [e3, e2]
        simp only [Bool.and_true, Bool.and_false, Bool.false_eq_true, if_false]
        cases hd : did with
        | true =>
          rw [hd, if_pos ⟨rfl, k2⟩, if_neg (by rintro ⟨_, q⟩; omega)] at hlen
          rw [if_pos rfl, w64 (by omega) (by omega)]
          exact fin _ (by omega)
        | false =>
          rw [hd, if_neg (by rintro ⟨q, _⟩; cases q), if_neg (by rintro ⟨q, _⟩; cases q)] at hlen
          rw [if_neg (by decide)]
          exact fin _ (by omega)
      · have e2 : (a1.Kind == 2) = false := by simpa using k2
        rw [e2]
        simp only [Bool.and_false, Bool.false_eq_true, if_false]
        rw [if_neg (by rintro ⟨_, q⟩; exact k2 q)] at hlen
        by_cases k3 : a1.Kind = 3
        · have e3 : (a1.Kind == 3) = true := by rw [k3]; rfl
          rw [e3]
          simp only [Bool.and_true]
          cases hd : did with
          | true =>
            rw [hd, if_pos ⟨rfl, k3⟩] at hlen
            rw [if_pos rfl, w64 (by omega) (by omega)]
            exact fin _ (by omega)
          | false =>
            rw [hd, if_neg (by rintro ⟨q, _⟩; cases q)] at hlen
            rw [if_neg (by decide)]
            exact fin _ (by omega)
        · have e3 : (a1.Kind == 3) = false := by simpa using k3
          rw [e3]
          simp only [Bool.and_false, Bool.false_eq_true, if_false]
          rw [if_neg (by rintro ⟨_, q⟩; exact k3 q)] at hlen
          exact fin _ (by omega)
    · intro n hn
      have hn' : (n : Int) < (a0.length : Int) := by omega
      have e1 : IntKind.i64.wrap ((n : Int) + 1) = ((n + 1 : Nat) : Int) := by rw [w64] <;> omega
      rw [if_pos (decide_eq_true hn'), ib_n hn]
      simp only [Option.bind_some, Int.toNat_natCast, e1]
      rw [ibg_t (fun _ => by omega)]
      simp only [Option.bind_some]
      cases hb : b_api_Member (a0.getD n z_api_Member) (memOf a2 a1) with
      | true => simp
      | false =>
        have hin : hasB A (a0.getD n z_api_Member) = true := by
          rw [has_iff, hmem]
          refine .inr ⟨getD_in hn, fun q => ?_⟩
          have := (b_iff _ _).2 q.2.2
          rw [hb] at this; cases this
        simp only [Bool.not_false, if_true, rhas_eq A _ hsA, Option.bind_some, hin]
        simp
    · simp
  · rw [Bool.not_eq_true] at hm
    rw [hm, if_pos (by decide)]
end Go.Proofs.Ytpcpfcijdliicaa
