/- Pure laws of chapter 18: the functions answer as the document says; entries of unlike members in either order. Conditions: none. -/
import Derived.Test.YtpcpfcijdliicaaPc
set_option linter.unusedVariables false
set_option linter.unusedSimpArgs false
namespace Go.Proofs.Ytpcpfcijdliicaa
open Go.Eng
/-- The reference's walk: what is laid behind so many members. -/
def laidB (m : Mem) (t : Tab) : Bool := t.any fun x => !lessB x m
theorem tw_all {p : Mem → Bool} : ∀ (l : Tab), (∀ x ∈ l, p x = true) → l.takeWhile p = l ∧ l.dropWhile p = []
  | [], _ => ⟨rfl, rfl⟩
  | x :: l, h => by
    obtain ⟨h1, h2⟩ := tw_all l (fun y hy => h y (by simp [hy]))
    rw [List.takeWhile_cons_of_pos (h x (by simp)), List.dropWhile_cons_of_pos (h x (by simp)), h1, h2]
    exact ⟨rfl, rfl⟩
theorem tw_app {p : Mem → Bool} (r : Tab) : ∀ (l : Tab), (∃ x ∈ l, p x = false) → (l ++ r).takeWhile p = l.takeWhile p ∧ (l ++ r).dropWhile p = l.dropWhile p ++ r
  | [], h => by obtain ⟨x, hx, _⟩ := h; cases hx
  | x :: l, h => by
    by_cases hx : p x = true
    · have h2 : ∃ y ∈ l, p y = false := by
        obtain ⟨y, hy, hp⟩ := h
        rcases List.mem_cons.1 hy with rfl | q
        · rw [hx] at hp; cases hp
        · exact ⟨y, q, hp⟩
      obtain ⟨h3, h4⟩ := tw_app r l h2
      rw [List.cons_append, List.takeWhile_cons_of_pos hx, List.dropWhile_cons_of_pos hx, List.takeWhile_cons_of_pos hx, List.dropWhile_cons_of_pos hx, h3, h4]
      exact ⟨rfl, rfl⟩
    · rw [List.cons_append, List.takeWhile_cons_of_neg hx, List.dropWhile_cons_of_neg hx, List.takeWhile_cons_of_neg hx, List.dropWhile_cons_of_neg hx]
      exact ⟨rfl, rfl⟩
theorem laid_ex {m : Mem} {t : Tab} (h : laidB m t = true) : ∃ x ∈ t, lessB x m = false := by
  obtain ⟨x, h1, h2⟩ := List.any_eq_true.1 h
  exact ⟨x, h1, by simpa using h2⟩
theorem laid_all {m : Mem} {t : Tab} (h : laidB m t = false) : ∀ x ∈ t, lessB x m = true := by
  intro x hx
  cases hh : lessB x m with
  | true => rfl
  | false =>
    have : laidB m t = true := List.any_eq_true.2 ⟨x, hx, by rw [hh]; rfl⟩
    rw [h] at this; cases this
theorem ins_laid {m x : Mem} {t : Tab} (h : laidB m t = true) : ins m (t ++ [x]) = ins m t ++ [x] := by
  obtain ⟨h1, h2⟩ := tw_app (p := fun x => lessB x m) [x] t (laid_ex h)
  unfold ins
  rw [h1, h2]; simp
theorem ins_not {m : Mem} {t : Tab} (h : laidB m t = false) : ins m t = t ++ [m] := by
  obtain ⟨h1, h2⟩ := tw_all (p := fun x => lessB x m) t (laid_all h)
  unfold ins
  rw [h1, h2]
theorem ins_now {m x : Mem} {t : Tab} (h : laidB m t = false) (hx : lessB x m = false) : ins m (t ++ [x]) = t ++ [m] ++ [x] := by
  have hl : ∀ (t : Tab), (∀ y ∈ t, lessB y m = true) → (t ++ [x]).takeWhile (fun y => lessB y m) = t ∧ (t ++ [x]).dropWhile (fun y => lessB y m) = [x] := by
    intro t
    induction t with
    | nil => intro _; exact ⟨by rw [List.nil_append, List.takeWhile_cons_of_neg (by rw [hx]; decide)], by rw [List.nil_append, List.dropWhile_cons_of_neg (by rw [hx]; decide)]⟩
    | cons y t ih =>
      intro hh
      obtain ⟨h3, h4⟩ := ih (fun z hz => hh z (by simp [hz]))
      have hy := hh y (by simp)
      rw [List.cons_append, List.takeWhile_cons_of_pos (by exact hy), List.dropWhile_cons_of_pos (by exact hy), h3, h4]
      exact ⟨rfl, rfl⟩
  obtain ⟨h1, h2⟩ := hl t (laid_all h)
  unfold ins
  rw [h1, h2]; simp
theorem laid_s (m x : Mem) (t : Tab) : laidB m (t ++ [x]) = (laidB m t || !lessB x m) := by simp [laidB]
theorem rapply_eq {k : Nat} (t : Tab) (d : Int) (e : api_Entry) (h : Room (k + 1) t) : congressref18_Apply t d e = some (applyF t d e) := by
  have hs := h.small
  have hb := bigMax
  unfold congressref18_Apply applyF
  simp only [lt]
  generalize hm : ({ Group := e.Group, Daemon := d, Session := e.Session } : Mem) = m
  rw [rright_eq]
  simp only [Option.bind_some, whn]
  cases hr : rightB m with
  | false => simp
  | true =>
    by_cases h23 : e.Kind = 2 ∨ e.Kind = 3
    · have hk : (e.Kind != 2 && e.Kind != 3) = false := by rcases h23 with q | q <;> rw [q] <;> rfl
      simp only [hk, Bool.not_true, Bool.or_false, Bool.not_false, if_true, rhas_eq t m hs, Option.bind_some, Bool.false_or]
      have htl : ∀ n, (t.take n).length ≤ t.length := fun n => List.length_take_le' n t
      unfold Room at h
      rcases h23 with h2 | h3
      · have e3 : (e.Kind == 3) = false := by rw [h2]; rfl
        rw [e3]
        cases hh : hasB t m with
        | true => simp [h2]
        | false =>
          have hne : ∀ n, n < t.length → b_api_Member (t.getD n z_api_Member) m = false := by
            intro n hn
            cases hq : b_api_Member (t.getD n z_api_Member) m with
            | false => rfl
            | true =>
              have := (has_iff t m).2 ((b_iff _ _).1 hq ▸ getD_in hn)
              rw [hh] at this; cases this
          rw [if_neg (by decide), if_pos ⟨trivial, h2, rfl⟩]
          rw [loop_seq (s0 := (false, (0 : Int), ([] : Tab))) (fun n => (laidB m (t.take n), (n : Int), if laidB m (t.take n) = true then ins m (t.take n) else t.take n)) t.length (w := .nx (laidB m t, if laidB m t = true then ins m t else t)) (by simp [laidB]) (fun n hn => by
            have hn' : (n : Int) < (t.length : Int) := by omega
            have e1 : IntKind.i64.wrap ((n : Int) + 1) = ((n + 1 : Nat) : Int) := by rw [w64] <;> omega
            have hl := htl n
            have hil := ins_len m (t.take n)
            rw [if_pos (decide_eq_true hn')]
            simp only [ib_n hn, Option.bind_some, Int.toNat_natCast, e1, jn, rless_eq, hne n hn, Bool.not_false, if_true, take_s (d := z_api_Member) hn, laid_s]
            rw [ibg_t (fun _ => by omega)]
            simp only [Option.bind_some]
            cases hL : laidB m (t.take n) with
            | true =>
              simp only [Bool.not_true, Bool.false_and, Bool.false_eq_true, if_false, if_true, Option.bind_some, Bool.true_or]
              rw [fit_t (by simp; omega) (by simp; omega), ins_laid hL]; rfl
            | false =>
              cases hx : lessB (t.getD n z_api_Member) m with
              | true =>
                simp only [Bool.not_true, Bool.not_false, Bool.and_false, Bool.false_eq_true, if_false, if_true, Option.bind_some, Bool.or_false]
                rw [fit_t (by simp; omega) (by simp; omega)]; rfl
              | false =>
                simp only [Bool.not_false, Bool.and_self, if_true, Bool.false_eq_true, if_false, Option.bind_some, Bool.or_true]
                rw [fit_t (by simp; omega) (by simp; omega)]
                simp only [Option.bind_some]
                rw [fit_t (by simp; omega) (by simp; omega), ins_now hL hx]; rfl) (by simp)]
          simp only [Option.bind_some, Fl.elim, jn]
          cases hL : laidB m t with
          | true => simp
          | false =>
            rw [if_pos (show (!false) = true from rfl)]
            simp only [Bool.false_eq_true, if_false]
            rw [fit_t (by simp; omega) (by simp; omega), ins_not hL]; rfl
      · have e3 : (e.Kind == 3) = true := by rw [h3]; rfl
        rw [e3]
        cases hh : hasB t m with
        | false => simp [h3]
        | true =>
          rw [if_neg (by decide), if_neg (by rintro ⟨_, q, _⟩; omega), if_pos ⟨trivial, h3, rfl⟩]
          rw [loop_seq (s0 := (true, (0 : Int), ([] : Tab))) (fun n => (true, (n : Int), (t.take n).filter (neB m))) t.length (w := .nx (true, t.filter (neB m))) (by simp) (fun n hn => by
            have hn' : (n : Int) < (t.length : Int) := by omega
            have e1 : IntKind.i64.wrap ((n : Int) + 1) = ((n + 1 : Nat) : Int) := by rw [w64] <;> omega
            have hfl : ((t.take n).filter (neB m)).length ≤ n := Nat.le_trans (List.length_filter_le _ _) (List.length_take_le n t)
            rw [if_pos (decide_eq_true hn')]
            simp only [ib_n hn, Option.bind_some, Int.toNat_natCast, e1, jn, rless_eq, Bool.not_true, Bool.false_and, Bool.false_eq_true, if_false, take_s (d := z_api_Member) hn, List.filter_append]
            rw [ibg_t (fun q => by cases q)]
            simp only [Option.bind_some]
            by_cases q : neB m (t.getD n z_api_Member) = true
            · have q' : (!b_api_Member (t.getD n z_api_Member) m) = true := q
              rw [if_pos q', fit_t (by simp; omega) (by simp; omega), List.filter_cons_of_pos q]; rfl
            · have q' : ¬ (!b_api_Member (t.getD n z_api_Member) m) = true := q
              rw [if_neg q', List.filter_cons_of_neg q]; simp) (by simp)]
          simp [Fl.elim, jn]
    · have hk : (e.Kind != 2 && e.Kind != 3) = true := by
        simp only [Bool.and_eq_true, bne_iff_ne, ne_eq]; omega
      simp only [hk, Bool.not_true, Bool.or_true, Bool.not_true, Bool.false_eq_true, if_false, Option.bind_some, Bool.true_or, if_true]
      rw [if_neg (by rintro ⟨_, q, _⟩; omega), if_neg (by rintro ⟨_, q, _⟩; omega)]
theorem fixed_eq : congresslaw18_fixed = some true := by
  have j5 : congresslaw18_join 5 = some { Kind := 2, Service := 2, Group := 1, Session := 5, Number := 0, Text := ByteArray.empty } := rfl
  have j9 : congresslaw18_join 9 = some { Kind := 2, Service := 2, Group := 1, Session := 9, Number := 0, Text := ByteArray.empty } := rfl
  have r0 : Room 5 ([] : Tab) := by unfold Room; decide
  have r1 : Room 5 ([{ Group := 1, Daemon := 2, Session := 5 }] : Tab) := by unfold Room; decide
  have r2 : Room 5 ([{ Group := 1, Daemon := 0, Session := 9 }, { Group := 1, Daemon := 2, Session := 5 }] : Tab) := by unfold Room; decide
  unfold congresslaw18_fixed
  rw [j5, j9]
  simp only [Option.bind_some]
  rw [apply_eq [] 2 _ r0]
  have a1 : applyF [] 2 { Kind := 2, Service := 2, Group := 1, Session := 5, Number := 0, Text := ByteArray.empty } = ([{ Group := 1, Daemon := 2, Session := 5 }], true) := rfl
  rw [a1]
  simp only [Option.bind_some]
  rw [apply_eq _ 0 _ r1]
  have a2 : applyF [{ Group := 1, Daemon := 2, Session := 5 }] 0 { Kind := 2, Service := 2, Group := 1, Session := 9, Number := 0, Text := ByteArray.empty } = ([{ Group := 1, Daemon := 0, Session := 9 }, { Group := 1, Daemon := 2, Session := 5 }], true) := rfl
  rw [a2]
  simp only [Option.bind_some]
  rw [apply_eq _ 0 _ r2]
  have a3 : (applyF [{ Group := 1, Daemon := 0, Session := 9 }, { Group := 1, Daemon := 2, Session := 5 }] 0 { Kind := 2, Service := 2, Group := 1, Session := 9, Number := 0, Text := ByteArray.empty }).2 = false := rfl
  rw [view_eq _ 1 r2, keep_eq _ _ r2]
  simp only [Option.bind_some]
  rw [a3]
  have v1 : viewF ([{ Group := 1, Daemon := 0, Session := 9 }, { Group := 1, Daemon := 2, Session := 5 }] : Tab) 1 = [{ Group := 1, Daemon := 0, Session := 9 }, { Group := 1, Daemon := 2, Session := 5 }] := rfl
  have v0 : viewF ([{ Group := 1, Daemon := 0, Session := 9 }, { Group := 1, Daemon := 2, Session := 5 }] : Tab) 0 = [] := rfl
  have k1 : (keepF ([{ Group := 1, Daemon := 0, Session := 9 }, { Group := 1, Daemon := 2, Session := 5 }] : Tab) (aset (fun _ => 0) [(0, 1)])).length = 1 := rfl
  have m1 : mayB ([{ Group := 1, Daemon := 0, Session := 9 }, { Group := 1, Daemon := 2, Session := 5 }] : Tab) = true := rfl
  rw [v1, k1, view_eq _ 0 r2, v0, may_eq _ (by decide), m1]
  simp only [List.length_cons, List.length_nil, whn, ibg, List.getD_cons_zero, b_refl, lt]
  simp
theorem room_of {a0 : Tab} (w0 : (a0.length ≤ maxLen ∧ a0.length * 24 ≤ 140737488351232) ∧ ∀ j, j < a0.length → w_api_Member (a0.getD j z_api_Member)) : Room 100 a0 := by
  have := w0.1.2
  unfold Room; omega
theorem filter_room {k : Nat} {t : Tab} (p : Mem → Bool) (h : Room k t) : Room k (t.filter p) := h.le (by have := List.length_filter_le p t; omega)
theorem pure_groupTells (a0 : (_root_.List api_Member)) (a1 : api_Entry) (a2 : congresslaw18_Where) (w0 : (a0.length ≤ maxLen ∧ a0.length * 24 ≤ 140737488351232) ∧ ∀ j, j < a0.length → w_api_Member (a0.getD j z_api_Member)) (w1 : w_api_Entry a1) (w2 : w_congresslaw18_Where a2) : congresslaw18_GroupTells a0 a1 a2 = some true := by
  have h := room_of w0
  have hs := h.small
  unfold congresslaw18_GroupTells
  rw [apply_eq (k := 99) _ _ _ h, rapply_eq (k := 99) _ _ _ h, less_eq, rless_eq, fixed_eq]
  simp only [Option.bind_some]
  have hl : ∀ i : Int, 0 ≤ i → i < 2 → ibg (!decide ((a0.length : Int) < 2)) i a0.length = some () := by
    intro i h0 h1
    refine ibg_t (fun q => ?_)
    rw [Bool.not_eq_true', decide_eq_false_iff_not] at q; omega
  rw [hl 0 (by omega) (by omega), hl 1 (by omega) (by omega)]
  simp only [Option.bind_some]
  have ha := apply_room (k := 99) h a2.Daemon a1
  have hv := filter_room (fun x => x.Group == a2.Group) h
  have hk := filter_room (keepB a2.M) h
  have sv : congressref18_Same (viewF a0 a2.Group) (viewF a0 a2.Group) = some true := same_refl _ hv.small
  have sk : congressref18_Same (keepF a0 a2.M) (keepF a0 a2.M) = some true := same_refl _ hk.small
  have sa := same_refl _ ha.small
  by_cases q : (a0.length : Int) < 2
  · have e : decide ((a0.length : Int) < 2) = true := decide_eq_true q
    simp [e, whn, sa, sv, sk, lt, view_eq _ _ h, rview_eq _ _ h, keep_eq _ _ h, rkeep_eq _ _ h, may_eq _ hs, rmay_eq _ hs]
  · have e : decide ((a0.length : Int) < 2) = false := decide_eq_false q
    simp [e, whn, sa, sv, sk, lt, view_eq _ _ h, rview_eq _ _ h, keep_eq _ _ h, rkeep_eq _ _ h, may_eq _ hs, rmay_eq _ hs]
theorem view_apply (t : Tab) (d : Int) (e : api_Entry) (g : Int) (hg : g ≠ e.Group) : viewF (applyF t d e).1 g = viewF t g := by
  unfold applyF viewF
  simp only
  generalize hm : ({ Group := e.Group, Daemon := d, Session := e.Session } : Mem) = m
  have hmg : (m.Group == g) = false := by rw [← hm]; simp; exact fun q => hg q.symm
  split
  · have h := List.takeWhile_append_dropWhile (p := fun x => lessB x m) (l := t)
    conv => rhs; rw [← h]
    unfold ins
    rw [List.filter_append, List.filter_append, List.filter_cons_of_neg (by rw [hmg]; decide)]
  · split
    · rw [List.filter_filter]
      congr 1
      funext x
      cases hx : (x.Group == g) with
      | false => simp
      | true =>
        have : neB m x = true := by
          rw [neB_iff]; intro q; rw [q] at hx; rw [hmg] at hx; cases hx
        simp [this]
    · rfl
theorem pure_groupKeeps (a0 : (_root_.List api_Member)) (a1 : (Nat → Int)) (a2 : (Nat → Int)) (w0 : (a0.length ≤ maxLen ∧ a0.length * 24 ≤ 140737488351232) ∧ ∀ j, j < a0.length → w_api_Member (a0.getD j z_api_Member)) (w1 : ∀ j, j < 8 → (Lit.int .u32 (a1 j)).wf = true) (w2 : ∀ j, j < 8 → (Lit.int .u32 (a2 j)).wf = true) : congresslaw18_GroupKeeps a0 a1 a2 = some true := by
  have h := room_of w0
  have hs := h.small
  unfold congresslaw18_GroupKeeps
  rw [loop_seq (s0 := ((0 : Int), (aset (fun _ => (0 : Int)) []))) (fun n => ((n : Int), fun j => if j < n ∧ a2 j ≠ 0 then a1 j else 0)) 8 (w := .nx (fun j => if j < 8 ∧ a2 j ≠ 0 then a1 j else 0)) (by simp [aset]) (fun n hn => by
    have hn' : (n : Int) < 8 := by omega
    have e1 : IntKind.i64.wrap ((n : Int) + 1) = ((n + 1 : Nat) : Int) := by rw [w64] <;> omega
    rw [if_pos (decide_eq_true hn'), ib_n hn]
    simp only [Option.bind_some, Int.toNat_natCast, e1, jn, ib_n hn]
    by_cases q : a2 n = 0
    · rw [if_neg (by simp [q])]
      congr 3
      funext j
      by_cases hj : j = n
      · subst hj; simp [q]
      · by_cases hj2 : j < n
        · simp [hj2, Nat.lt_succ_of_lt hj2]
        · have : ¬ j < n + 1 := by omega
          simp [hj2, this]
    · rw [if_pos (by simp [q])]
      congr 3
      funext j
      unfold aupd
      by_cases hj : j = n
      · subst hj; simp [q]
      · by_cases hj2 : j < n
        · simp [hj, hj2, Nat.lt_succ_of_lt hj2]
        · have : ¬ j < n + 1 := by omega
          simp [hj, hj2, this]) (by simp)]
  simp only [Option.bind_some, Fl.elim, fixed_eq, whn, Bool.not_true, Bool.not_false, if_true, Bool.false_or]
  have hk1 : Room 100 (keepF a0 a1) := filter_room _ h
  rw [keep_eq _ _ h]
  simp only [Option.bind_some]
  rw [keep_eq _ _ hk1, keep_eq _ _ h]
  simp only [Option.bind_some]
  have e : keepF (keepF a0 a1) a2 = keepF a0 (fun j => if j < 8 ∧ a2 j ≠ 0 then a1 j else 0) := by
    unfold keepF
    rw [List.filter_filter]
    congr 1
    funext x
    unfold keepB
    by_cases q : 0 ≤ x.Daemon ∧ x.Daemon < 8
    · have a1' : decide (x.Daemon ≥ 0) = true := decide_eq_true q.1
      have a2' : decide (x.Daemon < 8) = true := decide_eq_true q.2
      have a3 : x.Daemon.toNat < 8 := by omega
      rw [a1', a2']
      by_cases z : a2 x.Daemon.toNat = 0
      · simp [z]
      · simp [z, a3, bne, beq_eq_false_iff_ne.2 z]
    · have a1' : (decide (x.Daemon ≥ 0) && decide (x.Daemon < 8)) = false := by
        rw [Bool.eq_false_iff]; intro h; simp at h; omega
      rw [a1']; rfl
  have hk2 : Room 100 (keepF a0 (fun j => if j < 8 ∧ a2 j ≠ 0 then a1 j else 0)) := filter_room _ h
  rw [e, same_refl _ hk2.small]
  simp only [Option.bind_some, Bool.not_true, Bool.false_eq_true, if_false]
  rw [loop_find (ρ := Bool) 8 (fun _ => false) (fun _ => false)]
  · rfl
  · intro n hn
    have hn' : (n : Int) < 8 := by omega
    have e1 : IntKind.i64.wrap ((n : Int) + 1) = ((n + 1 : Nat) : Int) := by rw [w64] <;> omega
    rw [if_pos (decide_eq_true hn')]
    rw [view_eq _ _ hk1, view_eq _ _ h]
    simp only [Option.bind_some]
    have hv : Room 100 (viewF a0 (n : Int)) := filter_room _ h
    rw [keep_eq _ _ hv]
    simp only [Option.bind_some]
    have e2 : viewF (keepF a0 a1) (n : Int) = keepF (viewF a0 (n : Int)) a1 := by
      unfold viewF keepF
      rw [List.filter_filter, List.filter_filter]
      congr 1
      funext x
      exact Bool.and_comm _ _
    have hk3 : Room 100 (keepF (viewF a0 (n : Int)) a1) := filter_room _ hv
    rw [e2, same_refl _ hk3.small, e1]
    simp
  · simp
end Go.Proofs.Ytpcpfcijdliicaa
