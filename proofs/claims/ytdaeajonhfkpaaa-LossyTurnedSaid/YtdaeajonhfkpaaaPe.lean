/- Pure laws of chapter 14: what is put, taken and turned is as the document says; what does not hang on texts; what comes in order. Conditions: none. -/
import Derived.Test.YtdaeajonhfkpaaaPd
set_option linter.unusedVariables false
set_option linter.unusedSimpArgs false
namespace Go.Proofs.Ytdaeajonhfkpaaa
open Go.Eng
theorem wf_of {a0 : Lets} (w0 : (a0.length ≤ maxLen ∧ a0.length * 40 ≤ 140737488351232) ∧ ∀ j, j < a0.length → w_api_Letter (a0.getD j z_api_Letter)) : Wf a0 := ⟨w0.1, fun j hj => (w0.2 j hj).2.2.1⟩
theorem eraseIdx_len (l : Lets) (i : Nat) : (l.eraseIdx i).length ≤ l.length := by rw [List.length_eraseIdx]; split <;> omega
theorem take_len (l : Lets) (f t k : Int) : (takeF l f t k).1.length ≤ l.length := by
  unfold takeF; split
  · exact eraseIdx_len _ _
  · exact Nat.le_refl _
theorem take_room {l : Lets} (h : Room l) (f t k : Int) : Room (takeF l f t k).1 := by
  have := take_len l f t k
  unfold Room at h ⊢; omega
theorem turn_len (l : Lets) (f t k a m : Int) : (turnF l f t k a m).length = l.length := by unfold turnF; split <;> simp
theorem pure_lossyTells (a0 : (_root_.List api_Letter)) (a1 : (_root_.List api_Letter)) (a2 : congresslaw14_Pick) (w0 : (a0.length ≤ maxLen ∧ a0.length * 40 ≤ 140737488351232) ∧ ∀ j, j < a0.length → w_api_Letter (a0.getD j z_api_Letter)) (w1 : (a1.length ≤ maxLen ∧ a1.length * 40 ≤ 140737488351232) ∧ ∀ j, j < a1.length → w_api_Letter (a1.getD j z_api_Letter)) (w2 : w_congresslaw14_Pick a2) : congresslaw14_LossyTells a0 a1 a2 = some true := by
  have h := wf_of w0
  have h1 := wf_of w1
  obtain ⟨q1, q2, q3, q4, q5⟩ := w2
  have hp := put_room (x := a1) h.room
  unfold congresslaw14_LossyTells
  rw [take_eq _ _ _ _ h.room, rtake_eq _ _ _ _ h.room, find_eq _ _ _ _ h.room, rfind_eq _ _ _ _ h.room, turn_eq _ _ _ _ _ _ h q4 q5, rturn_eq _ _ _ _ _ _ h q4 q5]
  simp only [Option.bind_some]
  rw [same_refl _ (by rw [turn_len]; exact h.room.small), fixed_eq, same_refl _ (take_room h.room _ _ _).small, put_eq _ _ h.room h1.room, rput_eq _ _ h.room h1.room, many_eq _ _ _ h.room, rmany_eq _ _ _ h.room]
  simp only [Option.bind_some, whn, b_refl, beq_self_eq_true, Bool.and_true, Bool.true_and, if_true, lt, same_refl _ hp.small]
theorem pure_lossyPuts (a0 : (_root_.List api_Letter)) (a1 : (_root_.List api_Letter)) (a2 : (_root_.List api_Letter)) (w0 : (a0.length ≤ maxLen ∧ a0.length * 40 ≤ 140737488351232) ∧ ∀ j, j < a0.length → w_api_Letter (a0.getD j z_api_Letter)) (w1 : (a1.length ≤ maxLen ∧ a1.length * 40 ≤ 140737488351232) ∧ ∀ j, j < a1.length → w_api_Letter (a1.getD j z_api_Letter)) (w2 : (a2.length ≤ maxLen ∧ a2.length * 40 ≤ 140737488351232) ∧ ∀ j, j < a2.length → w_api_Letter (a2.getD j z_api_Letter)) : congresslaw14_LossyPuts a0 a1 a2 = some true := by
  have hb := bigMax
  have h0 := (wf_of w0).room
  have h1 := (wf_of w1).room
  have h2 := (wf_of w2).room
  unfold congresslaw14_LossyPuts
  rw [fixed_eq]
  simp only [Option.bind_some, lt]
  by_cases c : a0.length ≤ 300 ∧ a1.length ≤ 300 ∧ a2.length ≤ 300
  · rw [if_neg (by simp; omega)]
    simp only [List.nil_append]
    rw [fit_t (by omega) (by omega)]
    simp only [Option.bind_some]
    rw [fit_t (by simp; omega) (by simp; omega), put_eq _ _ h0 h1]
    simp only [Option.bind_some]
    have h12 : Room (a1 ++ a2) := by unfold Room; simp; omega
    rw [put_eq _ _ (put_room h0) h2, put_eq _ _ h0 h12]
    simp only [Option.bind_some]
    have hl := put_len a0 a1
    have hl2 := put_len a0 (a1 ++ a2)
    have e : putF (putF a0 a1) a2 = putF a0 (a1 ++ a2) := by
      have t1 : a1.take (4096 - a0.length) = a1 := List.take_of_length_le (by omega)
      have t2 : a2.take (4096 - (a0.length + a1.length)) = a2 := List.take_of_length_le (by omega)
      have t3 : (a1 ++ a2).take (4096 - a0.length) = a1 ++ a2 := List.take_of_length_le (by simp; omega)
      unfold putF
      rw [t1, t3, List.length_append, t2, List.append_assoc]
    rw [e, same_refl _ (put_room h0).small]
    simp only [Option.bind_some, Bool.true_and, hl2, List.length_append]
    rw [w64 (by omega) (by omega)]
    simp; omega
  · rw [if_pos (by simp; omega)]
end Go.Proofs.Ytdaeajonhfkpaaa
