/- The law of chapter 17 on what is opened: every session is new, every number once. Conditions: none. -/
import Derived.Test.YtbcjnggdielljaaPd
set_option linter.unusedVariables false
set_option linter.unusedSimpArgs false
namespace Go.Proofs.Ytbcjnggdielljaa
open Go.Eng
def Inv (n : Nat) (r : api_Roster) (sent : Ses) : Prop :=
  Fine r.List r.Last ∧ r.List.length ≤ 4 ∧ 0 ≤ r.Last ∧ r.Last ≤ n ∧ (sent.length : Int) = r.Last ∧
    ∀ i, i < r.List.length → (r.List.getD i z_api_Session).Number = (sent.getD ((r.List.getD i z_api_Session).Id - 1).toNat z_api_Session).Number ∧ 0 ≤ (r.List.getD i z_api_Session).Number ∧ (r.List.getD i z_api_Session).Number ≤ n
theorem Inv.up {n : Nat} {r : api_Roster} {sent : Ses} (h : Inv n r sent) : Inv (n + 1) r sent := by
  obtain ⟨h1, h2, h3, h4, h5, h6⟩ := h
  exact ⟨h1, h2, h3, by omega, h5, fun i hi => ⟨(h6 i hi).1, (h6 i hi).2.1, by have := (h6 i hi).2.2; omega⟩⟩
theorem inv_open {n : Nat} {r : api_Roster} {sent : Ses} (h : Inv n r sent) (hl : r.List.length < 4) : Inv (n + 1) { Last := r.Last + 1, List := r.List ++ [{ Id := r.Last + 1, Number := 0 }] } (sent ++ [{ Id := r.Last + 1, Number := 0 }]) := by
  obtain ⟨h1, h2, h3, h4, h5, h6⟩ := h
  refine ⟨open_fine h1 h3, ?_, by simp only; omega, by simp only; omega, ?_, fun i hi => ?_⟩
  · simp only [List.length_append, List.length_cons, List.length_nil]; omega
  · simp only [List.length_append, List.length_cons, List.length_nil]; omega
  · simp only [List.length_append, List.length_cons, List.length_nil] at hi
    simp only [app_get]
    by_cases hc : i < r.List.length
    · have := h6 i hc
      have := h1 i hc
      simp only [if_pos hc]
      rw [if_pos (by omega)]
      omega
    · rw [if_neg hc, if_pos (by omega)]
      simp only
      rw [if_neg (by omega), if_pos (by omega)]
      exact ⟨rfl, Int.le_refl _, by omega⟩
theorem inv_close {n : Nat} {r : api_Roster} {sent : Ses} {k : Nat} (h : Inv n r sent) (hk : k < r.List.length) : Inv (n + 1) { r with List := r.List.eraseIdx k } sent := by
  obtain ⟨h1, h2, h3, h4, h5, h6⟩ := h
  refine ⟨erase_fine h1 hk, ?_, h3, by simp only; omega, h5, fun i hi => ?_⟩
  · simp only [erase_len _ _ hk]; omega
  · simp only [erase_len _ _ hk] at hi
    simp only [erase_get _ _ _ hk]
    by_cases hc : i < k
    · simp only [if_pos hc]; have := h6 i (by omega); exact ⟨this.1, this.2.1, by omega⟩
    · simp only [if_neg hc]; have := h6 (i + 1) (by omega); exact ⟨this.1, this.2.1, by omega⟩
theorem inv_next {n : Nat} {r : api_Roster} {sent : Ses} {k : Nat} (h : Inv n r sent) (hn : n < 200) (hk : k < r.List.length) :
    Inv (n + 1) { r with List := r.List.set k { r.List.getD k z_api_Session with Number := (r.List.getD k z_api_Session).Number + 1 } } (sent.set ((r.List.getD k z_api_Session).Id - 1).toNat { sent.getD ((r.List.getD k z_api_Session).Id - 1).toNat z_api_Session with Number := (r.List.getD k z_api_Session).Number + 1 }) := by
  obtain ⟨h1, h2, h3, h4, h5, h6⟩ := h
  have hk6 := h6 k hk
  have hk1 := h1 k hk
  refine ⟨set_fine h1 hk rfl (by simp only; omega), ?_, h3, by simp only; omega, ?_, fun i hi => ?_⟩
  · simp only [List.length_set]; exact h2
  · simp only [List.length_set]; exact h5
  · simp only [List.length_set] at hi
    simp only [getD_set]
    by_cases hc : k = i
    · subst hc
      simp only [hk, and_self, if_true]
      rw [if_pos ⟨trivial, by omega⟩]
      refine ⟨rfl, ?_, ?_⟩
      · show 0 ≤ (r.List.getD k z_api_Session).Number + 1; omega
      · show (r.List.getD k z_api_Session).Number + 1 ≤ ((n + 1 : Nat) : Int); omega
    · have a := h6 i hi
      have b := h1 i hi
      simp only [hc, false_and, if_false]
      rw [if_neg]
      · exact ⟨a.1, a.2.1, by omega⟩
      · rintro ⟨e, _⟩
        exact hc (h1.inj hk hi (by omega))
theorem jn_gen {α β : Type} {k : α → β} {b : (α → β) → β} {Q : (α → β) → Prop} {P : β → Prop} (h1 : Q k) (h2 : ∀ j, Q j → P (b j)) : P (jn k b) := h2 k h1
theorem bind_loop {σ ω γ : Type} {body : σ → Option (Stp σ ω)} {s0 : σ} {w0 : ω} {K : ω → Option γ} {r : Option γ} (h : ∃ w, loop body s0 = some w ∧ w = w0) (h2 : K w0 = r) : (loop body s0).bind K = r := by
  obtain ⟨w, hw, rfl⟩ := h
  rw [hw]; exact h2
theorem Inv.room {n : Nat} {r : api_Roster} {sent : Ses} (h : Inv n r sent) : Room r.List := room_small (by have := h.2.1; omega)
theorem Inv.may {n : Nat} {r : api_Roster} {sent : Ses} (h : Inv n r sent) (hn : n ≤ 200) : mayF r = true := mayF_iff.2 ⟨h.1, h.2.1, by have := h.2.2.2.1; omega⟩
theorem pure_rosterFresh (a0 : (_root_.List congresslaw17_Do)) (w0 : (a0.length ≤ maxLen ∧ a0.length * 16 ≤ 140737488351232) ∧ ∀ j, j < a0.length → w_congresslaw17_Do (a0.getD j z_congresslaw17_Do)) : congresslaw17_RosterFresh a0 = some true := by
  have hm := maxLen_le
  have hl := w0.1.1
  unfold congresslaw17_RosterFresh
  refine bind_loop (w0 := (Fl.nx () : Fl Bool Unit)) (loop_count (fun n s => ∃ r sent, s = (r.Last, (n : Int), r, sent) ∧ Inv n r sent) (fun w => w = (Fl.nx () : Fl Bool Unit)) (min a0.length 200) ?_ ?_ ?_) ?_
  · exact ⟨{ Last := 0, List := [] }, [], rfl, fun i hi => absurd hi (by simp), by simp, by simp, by simp, by simp, fun i hi => absurd hi (by simp)⟩
  · rintro n s hn ⟨r, sent, rfl, hI⟩
    refine .inl ?_
    have hn1 : n < a0.length := by omega
    have hn2 : n < 200 := by omega
    have hc : ((decide ((n : Int) < (a0.length : Int))) && (decide ((n : Int) < 200))) = true := by
      simp only [Bool.and_eq_true, decide_eq_true_eq]; omega
    simp only
    rw [if_pos hc, ib_n hn1]
    simp only [Option.bind_some, Int.toNat_natCast]
    have e1 : IntKind.i64.wrap ((n : Int) + 1) = ((n + 1 : Nat) : Int) := by rw [w64 (by omega) (by omega)]; rfl
    have hr := hI.room
    obtain ⟨i1, i2, i3, i4, i5, i6⟩ := id hI
    have hw : ∀ s ∈ r.List, 0 ≤ s.Number := fun s hs => by
      obtain ⟨j, hj, rfl⟩ := List.getElem_of_mem hs
      have := (i6 j hj).2.1
      rw [List.getD_eq_getElem?_getD, List.getElem?_eq_getElem hj] at this
      exact this
    refine jn_gen (Q := fun j => ∀ r' sent', Inv (n + 1) r' sent' → j (r'.Last, r', sent') = some (Stp.next (r'.Last, ((n + 1 : Nat) : Int), r', sent'))) (P := fun o => ∃ s', o = some (Stp.next s') ∧ ∃ r sent, s' = (r.Last, ((n + 1 : Nat) : Int), r, sent) ∧ Inv (n + 1) r sent) ?_ fun j hj => ?_
    · intro r' sent' h'
      have hm' := h'.may (by omega)
      have q : decide ((r'.List.length : Int) > 4) = false := by have := h'.2.1; simp only [decide_eq_false_iff_not]; omega
      simp only [may_eq r' h'.room h'.2.2.1, hm', Option.bind_some, lt, q, Bool.not_true, bne_self_eq_false, Bool.or_self, Bool.false_eq_true, if_false, e1]
    · have out : ∀ r' sent', Inv (n + 1) r' sent' → ∃ s', j (r'.Last, r', sent') = some (Stp.next s') ∧ ∃ r sent, s' = (r.Last, ((n + 1 : Nat) : Int), r, sent) ∧ Inv (n + 1) r sent := fun r' sent' h' => ⟨_, hj r' sent' h', r', sent', rfl, h'⟩
      by_cases c0 : (((a0.getD n z_congresslaw17_Do).Do) == 0) = true
      · rw [if_pos c0, open_eq r hr i3]
        simp only [Option.bind_some]
        rcases open_two r with ⟨h1, h2⟩ | ⟨h1, h2⟩
        · have q : decide ((r.List.length : Int) < 4) = false := by simp only [decide_eq_false_iff_not]; omega
          rw [h1, q, if_neg (by decide), if_neg (by decide)]
          exact out r sent hI.up
        · have q : decide ((r.List.length : Int) < 4) = true := by simp only [decide_eq_true_eq]; omega
          have e2 : IntKind.u64.wrap (r.Last + 1) = r.Last + 1 := by rw [wu64]; omega
          rw [h1]
          simp only [q, e2, bne_self_eq_false, Bool.false_eq_true, if_false]
          rw [if_neg (by decide), if_pos (by decide), fit1 (by simp only [List.length_append, List.length_cons, List.length_nil]; omega)]
          simp only [Option.bind_some, lt]
          exact out _ _ (inv_open hI (by omega))
      · rw [if_neg c0]
        by_cases c1 : (((a0.getD n z_congresslaw17_Do).Do) == 1) = true
        · rw [if_pos c1]
          simp only [Option.bind_some, close_eq r _ hr, has_eq r _ hr]
          rcases close_two r ((a0.getD n z_congresslaw17_Do).Id) with ⟨h1, h2⟩ | ⟨i, h1, h2, h3, h4⟩
          · rw [h1, h2, if_neg (by decide), if_neg (by decide)]
            exact out r sent hI.up
          · rw [h4, h3, if_neg (by simp), if_pos (by simp)]
            exact out _ _ (inv_close hI h1)
        · rw [if_neg c1]
          by_cases c2 : (((a0.getD n z_congresslaw17_Do).Do) == 2) = true
          · rw [if_pos c2]
            simp only [Option.bind_some, next_eq r _ hr hw, has_eq r _ hr]
            rcases next_two r ((a0.getD n z_congresslaw17_Do).Id) with ⟨h1, h2⟩ | ⟨i, h1, h2, h3, h5, h4⟩
            · have h3 : (getF r.List ((a0.getD n z_congresslaw17_Do).Id)).isSome = false := by
                rcases h2 with h2 | ⟨i, q1, q2⟩
                · exact h2
                · have := (i6 i q1).2.2; omega
              rw [h1, h3, if_neg (by decide), if_neg (by decide)]
              exact out r sent hI.up
            · have a := i1 i h1
              have b := i6 i h1
              rw [h4, h3, if_neg (by simp), if_pos (by simp)]
              have hv := inv_next hI hn2 h1
              rw [h2] at a b hv
              have t1 : decide ((a0.getD n z_congresslaw17_Do).Id < 1) = false := by simp only [decide_eq_false_iff_not]; omega
              have t2 : IntKind.u64.wrap ((sent.length : Int)) = r.Last := by rw [wu64]; omega
              have t3 : decide ((a0.getD n z_congresslaw17_Do).Id > r.Last) = false := by simp only [decide_eq_false_iff_not]; omega
              have t4 : IntKind.i64.wrap (IntKind.i64.wrap (a0.getD n z_congresslaw17_Do).Id - 1) = (a0.getD n z_congresslaw17_Do).Id - 1 := by rw [w64 (n := (a0.getD n z_congresslaw17_Do).Id) (by omega) (by omega), w64 (by omega) (by omega)]
              have t5 : ib ((a0.getD n z_congresslaw17_Do).Id - 1) sent.length = some () := ib_t (by omega) (by omega)
              have t6 : IntKind.u64.wrap ((sent.getD ((a0.getD n z_congresslaw17_Do).Id - 1).toNat z_api_Session).Number + 1) = (r.List.getD i z_api_Session).Number + 1 := by rw [← b.1, wu64]; omega
              have t7 : ((a0.getD n z_congresslaw17_Do).Id - 1).toNat < sent.length := by omega
              rw [ibg_t (fun _ => ⟨by omega, by omega⟩)]
              simp only [Option.bind_some, lt, t1, t2, t3, t4, t5, t6, t7, Bool.or_self, Bool.false_eq_true, if_false, List.length_set, getD_set, and_self, if_true, bne_self_eq_false]
              exact out _ _ hv
          · rw [if_neg c2]
            exact out r sent hI.up
  · rintro s ⟨r, sent, rfl, hI⟩
    refine ⟨_, ?_, rfl⟩
    rw [if_neg]
    simp only [Bool.and_eq_true, decide_eq_true_eq]; omega
  · simp only [Fl.elim, fixed_eq, Option.bind_some]
end Go.Proofs.Ytbcjnggdielljaa
