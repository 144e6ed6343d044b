/- Pure laws of chapter 14: what does not hang on texts; what comes in order; what a turn leaves. Conditions: none. -/
import Derived.Test.YtdaeajonhfkpaaaPe
set_option linter.unusedVariables false
set_option linter.unusedSimpArgs false
namespace Go.Proofs.Ytdaeajonhfkpaaa
open Go.Eng
/-- A loop that counts, and what stands behind it. -/
theorem loop_cb {σ ω β : Type} {body : σ → Option (Stp σ ω)} {f : ω → Option β} {r : β} (I : Nat → σ → Prop) (Post : ω → Prop) (N : Nat) {s0 : σ} (h0 : I 0 s0)
    (step : ∀ n s, n < N → I n s → (∃ s', body s = some (.next s') ∧ I (n + 1) s') ∨ (∃ w, body s = some (.done w) ∧ Post w)) (last : ∀ s, I N s → ∃ w, body s = some (.done w) ∧ Post w) (fin : ∀ w, Post w → f w = some r) : (loop body s0).bind f = some r := by
  obtain ⟨w, hw, hp⟩ := loop_count I Post N h0 step last
  rw [hw]; exact fin w hp

/-- Two lists with the same links. -/
def Links (l m : Lets) : Prop := m.length = l.length ∧ ∀ j, (m.getD j z_api_Letter).From = (l.getD j z_api_Letter).From ∧ (m.getD j z_api_Letter).To = (l.getD j z_api_Letter).To
theorem Links.on {l m : Lets} (h : Links l m) (f t : Int) (j : Nat) : onB f t (m.getD j z_api_Letter) = onB f t (l.getD j z_api_Letter) := by
  unfold onB; rw [(h.2 j).1, (h.2 j).2]
theorem Links.pl {l m : Lets} (h : Links l m) (f t : Int) (n : Nat) : plF m f t n = plF l f t n := by
  unfold plF
  congr 1
  funext j; exact h.on f t j
theorem Links.find {l m : Lets} (h : Links l m) (f t k : Int) : findF m f t k = findF l f t k := by
  unfold findF; rw [h.1, h.pl]
theorem getD_erase (l : Lets) (i j : Nat) : (l.eraseIdx i).getD j z_api_Letter = if j < i then l.getD j z_api_Letter else l.getD (j + 1) z_api_Letter := by
  simp only [List.getD_eq_getElem?_getD, List.getElem?_eraseIdx]
  split <;> rfl
theorem Links.take {l m : Lets} (h : Links l m) (f t k : Int) : Links (takeF l f t k).1 (takeF m f t k).1 ∧ (takeF m f t k).2.1.From = (takeF l f t k).2.1.From ∧ (takeF m f t k).2.1.To = (takeF l f t k).2.1.To := by
  unfold takeF
  rw [h.find]
  split
  · refine ⟨⟨by simp only [List.length_eraseIdx, h.1], fun j => ?_⟩, (h.2 _).1, (h.2 _).2⟩
    simp only [getD_erase]
    split
    · exact h.2 j
    · exact h.2 (j + 1)
  · exact ⟨h, rfl, rfl⟩
theorem pure_lossyBlind (a0 : (_root_.List api_Letter)) (a1 : (_root_.List ByteArray)) (a2 : congresslaw14_Pick) (w0 : (a0.length ≤ maxLen ∧ a0.length * 40 ≤ 140737488351232) ∧ ∀ j, j < a0.length → w_api_Letter (a0.getD j z_api_Letter)) (w1 : (a1.length ≤ maxLen ∧ a1.length * 16 ≤ 140737488351232) ∧ ∀ j, j < a1.length → (a1.getD j ByteArray.empty).size ≤ 140737488351232) (w2 : w_congresslaw14_Pick a2) : congresslaw14_LossyBlind a0 a1 a2 = some true := by
  have h := (wf_of w0).room
  have hs := h.small
  unfold congresslaw14_LossyBlind
  simp only [List.nil_append]
  rw [fit_t h.1 (by have := h.2; omega)]
  simp only [Option.bind_some]
  refine loop_cb (fun n s => s.1 = (n : Int) ∧ Links a0 s.2) (fun w => ∃ c, w = .nx c ∧ Links a0 c) a0.length ⟨rfl, rfl, fun j => ⟨rfl, rfl⟩⟩ ?_ ?_ ?_
  · rintro n ⟨i, c⟩ hn ⟨h1, h2⟩
    simp only at h1 h2
    subst h1
    left
    have hl := h2.1
    have hn' : (n : Int) < (c.length : Int) := by omega
    have e1 : IntKind.i64.wrap ((n : Int) + 1) = ((n + 1 : Nat) : Int) := by rw [w64] <;> omega
    have keep : ∀ (c : Lets) (x : ByteArray), Links a0 c → Links a0 (c.set n { c.getD n z_api_Letter with Text := x }) := by
      intro c x hc
      refine ⟨by rw [List.length_set]; exact hc.1, fun j => ?_⟩
      rw [getD_set]
      split
      · rename_i q; obtain ⟨q, _⟩ := q; subst q; exact hc.2 n
      · exact hc.2 j
    rw [if_pos (decide_eq_true hn')]
    simp only [ib_n (show n < c.length by omega), Option.bind_some, Int.toNat_natCast, e1, jn, lt]
    by_cases hx : (n : Int) < (a1.length : Int)
    · rw [if_pos (decide_eq_true hx), ib_n (show n < a1.length by omega)]
      simp only [Option.bind_some, List.length_set, ib_n (show n < c.length by omega)]
      exact ⟨_, rfl, rfl, keep _ _ (keep _ _ h2)⟩
    · rw [if_neg (by rw [decide_eq_true_eq]; exact hx)]
      exact ⟨_, rfl, rfl, keep _ _ h2⟩
  · rintro ⟨i, c⟩ ⟨h1, h2⟩
    simp only at h1 h2
    subst h1
    have hl := h2.1
    exact ⟨.nx c, by rw [if_neg (show ¬ (decide (((a0.length : Nat) : Int) < (c.length : Int)) = true) by rw [decide_eq_true_eq]; omega)], c, rfl, h2⟩
  · rintro w ⟨c, rfl, hc⟩
    have hcr : Room c := by unfold Room; rw [hc.1]; exact h
    simp only [Fl.elim]
    rw [find_eq _ _ _ _ h, find_eq _ _ _ _ hcr, take_eq _ _ _ _ h, take_eq _ _ _ _ hcr, fixed_eq, hc.find]
    obtain ⟨t1, t2, t3⟩ := hc.take a2.From a2.To a2.Index
    have hsm := (take_room h a2.From a2.To a2.Index).small
    simp only [Option.bind_some, lt]
    rw [t1.1, t2, t3, if_neg (by simp)]
    rw [loop_find (ρ := Bool) (takeF a0 a2.From a2.To a2.Index).1.length (fun _ => false) (fun _ => false)]
    · have : (List.range (takeF a0 a2.From a2.To a2.Index).1.length).find? (fun _ => false) = none := by rw [List.find?_eq_none]; simp
      rw [this]; rfl
    · intro n hn
      have hn' : (n : Int) < ((takeF a0 a2.From a2.To a2.Index).1.length : Int) := by omega
      have e1 : IntKind.i64.wrap ((n : Int) + 1) = ((n + 1 : Nat) : Int) := by rw [w64] <;> omega
      rw [if_pos (decide_eq_true hn')]
      simp only [ib_n hn, t1.1, Option.bind_some, Int.toNat_natCast, e1, lt, (t1.2 n).1, (t1.2 n).2]
      rw [ibg_t (fun _ => by omega)]
      simp
    · simp

/-- The letters that are not the link's. -/
def offB (f t : Int) (x : api_Letter) : Bool := !onB f t x
theorem find0 (l : Lets) (f t : Int) : findF l f t 0 = match (plF l f t l.length).head? with | some i => ((i : Nat), true) | none => (0, false) := by
  unfold findF
  cases hp : plF l f t l.length with
  | nil => rfl
  | cons i r =>
    have : pick 0 (r.length + 1) = 0 := by
      unfold pick
      simp
    simp [this]
/-- What is taken first of a list: the first of the link's, if there is one. -/
theorem take_first (p r : Lets) (x : api_Letter) (f t : Int) (hp : ∀ y ∈ p, onB f t y = false) (hx : onB f t x = true) : takeF (p ++ x :: r) f t 0 = (p ++ r, x, true) := by
  have hpl : (plF (p ++ x :: r) f t (p ++ x :: r).length).head? = some p.length := by
    have hlen : (p ++ x :: r).length = p.length + 1 + r.length := by simp; omega
    obtain ⟨s, hs⟩ := pl_pre (p ++ x :: r) f t (p ++ x :: r).length (p.length + 1) (by omega)
    rw [hs, pl_s]
    have e0 : plF (p ++ x :: r) f t p.length = [] := by
      unfold plF
      rw [List.filter_eq_nil_iff]
      intro i hi
      rw [List.mem_range] at hi
      have : (p ++ x :: r).getD i z_api_Letter = p[i] := by simp [List.getD_eq_getElem?_getD, List.getElem?_append_left hi, hi]
      rw [this, hp _ (List.getElem_mem _)]; decide
    have e1 : (p ++ x :: r).getD p.length z_api_Letter = x := by simp [List.getD_eq_getElem?_getD]
    rw [e0, e1, if_pos hx]; rfl
  unfold takeF
  rw [find0, hpl]
  simp only [if_true, Int.toNat_natCast]
  have e1 : (p ++ x :: r).getD p.length z_api_Letter = x := by simp [List.getD_eq_getElem?_getD]
  rw [e1]
  congr 1
  rw [List.eraseIdx_append_of_length_le (Nat.le_refl _)]; simp
theorem take_none (p : Lets) (f t : Int) (hp : ∀ y ∈ p, onB f t y = false) : takeF p f t 0 = (p, z_api_Letter, false) := by
  have e0 : plF p f t p.length = [] := by
    unfold plF
    rw [List.filter_eq_nil_iff]
    intro i hi
    rw [List.mem_range] at hi
    have : p.getD i z_api_Letter = p[i] := by simp [List.getD_eq_getElem?_getD, hi]
    rw [this, hp _ (List.getElem_mem _)]; decide
  unfold takeF
  rw [find0, e0]; rfl
theorem offs (l : Lets) (f t : Int) : ∀ y ∈ l.filter (offB f t), onB f t y = false := by
  intro y hy
  have := (List.mem_filter.1 hy).2
  simpa [offB] using this
theorem pure_lossyOrder (a0 : (_root_.List api_Letter)) (a1 : Int) (a2 : Int) (w0 : (a0.length ≤ maxLen ∧ a0.length * 40 ≤ 140737488351232) ∧ ∀ j, j < a0.length → w_api_Letter (a0.getD j z_api_Letter)) (w1 : (Lit.int .i64 a1).wf = true) (w2 : (Lit.int .i64 a2).wf = true) : congresslaw14_LossyOrder a0 a1 a2 = some true := by
  have h := (wf_of w0).room
  have hs := h.small
  have hb := bigMax
  unfold congresslaw14_LossyOrder
  rw [fixed_eq]
  simp only [Option.bind_some, Bool.not_true, Bool.false_or]
  by_cases c : a0.length ≤ 200
  · rw [if_neg (by simp; omega)]
    simp only [List.nil_append]
    rw [fit_t h.1 (by have := h.2; omega)]
    simp only [Option.bind_some]
    have fl : ∀ n, ((a0.take n).filter (offB a1 a2)).length ≤ 200 := fun n => by
      have := List.length_filter_le (offB a1 a2) (a0.take n)
      have h2 := List.length_take_le' n a0
      omega
    refine loop_cb (fun n s => s = ((n : Int), (a0.take n).filter (offB a1 a2) ++ a0.drop n, (a0.take n).filter (offB a1 a2))) (fun w => w = .nx (a0.filter (offB a1 a2), a0.filter (offB a1 a2))) a0.length (by simp) ?_ ?_ ?_
    · rintro n s hn rfl
      left
      have hn' : (n : Int) < (a0.length : Int) := by omega
      have e1 : IntKind.i64.wrap ((n : Int) + 1) = ((n + 1 : Nat) : Int) := by rw [w64] <;> omega
      have hd : a0.drop n = a0.getD n z_api_Letter :: a0.drop (n + 1) := by
        rw [List.drop_eq_getElem_cons hn]; simp [List.getD_eq_getElem?_getD, hn]
      have hc : ((a0.getD n z_api_Letter).From != a1 || (a0.getD n z_api_Letter).To != a2) = !onB a1 a2 (a0.getD n z_api_Letter) := by simp only [onB, bne, Bool.not_and]
      have hlen := fl n
      rw [if_pos (decide_eq_true hn')]
      simp only [ib_n hn, Option.bind_some, Int.toNat_natCast, e1, jn, lt, hc]
      rw [ibg_t (fun _ => by omega)]
      simp only [Option.bind_some]
      by_cases hP : onB a1 a2 (a0.getD n z_api_Letter) = true
      · rw [if_neg (by rw [hP]; decide)]
        have hroom : Room ((a0.take n).filter (offB a1 a2) ++ a0.drop n) := by
          unfold Room; simp; omega
        rw [take_eq _ _ _ _ hroom, hd, take_first _ _ _ _ _ (offs (a0.take n) a1 a2) hP]
        simp only [Option.bind_some]
        rw [ibg_t (fun _ => by omega)]
        simp only [Option.bind_some, b_refl]
        refine ⟨_, rfl, ?_⟩
        rw [take_s (d := z_api_Letter) hn, List.filter_append, List.filter_cons_of_neg (by unfold offB; rw [hP]; decide)]
        simp
      · rw [Bool.not_eq_true] at hP
        rw [if_pos (by rw [hP]; rfl), fit_t (by simp; omega) (by simp; omega)]
        refine ⟨_, rfl, ?_⟩
        rw [take_s (d := z_api_Letter) hn, List.filter_append, List.filter_cons_of_pos (by unfold offB; rw [hP]; rfl), hd]
        simp
    · rintro s rfl
      exact ⟨_, by rw [if_neg (by simp)], by simp⟩
    · rintro w rfl
      have hroom : Room (a0.filter (offB a1 a2)) := by
        have := List.length_filter_le (offB a1 a2) a0
        unfold Room; omega
      simp only [Fl.elim]
      rw [take_eq _ _ _ _ hroom, take_none _ _ _ (offs a0 a1 a2), same_refl _ hroom.small]
      rfl
  · rw [if_pos (by simp; omega)]

theorem turnT_size (s : ByteArray) (a m : Int) : (turnT s a m).size = s.size := by
  unfold turnT
  split
  · rw [← bytes_len, bytes_str _ (xor_in' _ _ _ (bytes_in s) _), xor_len, bytes_len]
  · rfl
theorem turnT_get (s : ByteArray) (a m : Int) (j : Nat) (hj : j < s.size) (h : (bytesOf s).getD j 0 ≠ (bytesOf (turnT s a m)).getD j 0) : 0 ≤ a ∧ a < s.size ∧ a ≤ j ∧ (j : Int) ≤ a + 3 := by
  unfold turnT at h
  by_cases hin : 0 ≤ a ∧ a < s.size
  · rw [if_pos hin, bytes_str _ (xor_in' _ _ _ (bytes_in s) _), xor_get _ _ _ _ _ (by rw [bytes_len]; exact hj)] at h
    by_cases q : a.toNat ≤ j ∧ j < a.toNat + min 4 (s.size - a.toNat)
    · omega
    · rw [if_neg q] at h; exact absurd rfl h
  · rw [if_neg hin] at h; exact absurd rfl h
theorem turn_links (l : Lets) (f t k a m : Int) : Links l (turnF l f t k a m) := by
  refine ⟨turn_len l f t k a m, fun j => ?_⟩
  unfold turnF
  split
  · rw [getD_set]
    split
    · rename_i q; obtain ⟨q, _⟩ := q; subst q; exact ⟨rfl, rfl⟩
    · exact ⟨rfl, rfl⟩
  · exact ⟨rfl, rfl⟩
theorem turn_at (l : Lets) (f t k a m : Int) (j : Nat) (h : (turnF l f t k a m).getD j z_api_Letter ≠ l.getD j z_api_Letter) : (findF l f t k) = ((j : Int), true) ∧ j < l.length ∧ (l.getD j z_api_Letter).Turned = false ∧
    (turnF l f t k a m).getD j z_api_Letter = { l.getD j z_api_Letter with Text := turnT (l.getD j z_api_Letter).Text a m, Turned := true } := by
  by_cases hc : (findF l f t k).2 = true ∧ (l.getD (findF l f t k).1.toNat z_api_Letter).Turned = false
  · obtain ⟨i, h1, h2, _⟩ := find_in hc.1
    have hT := hc.2
    unfold turnF at h ⊢
    rw [if_pos hc] at h ⊢
    rw [h1, Int.toNat_natCast] at h ⊢
    rw [h1, Int.toNat_natCast] at hT
    rw [getD_set] at h ⊢
    by_cases hij : i = j
    · subst hij
      rw [if_pos ⟨rfl, h2⟩] at h ⊢
      refine ⟨Prod.ext h1 hc.1, h2, hT, ?_⟩
      generalize l.getD i z_api_Letter = X at h hT ⊢
      by_cases he : (turnT X.Text a m == X.Text) = true
      · exfalso; apply h
        rw [he, (bq_iff _ _).1 he]
        obtain ⟨x1, x2, x3, x4⟩ := X
        simp only at hT; subst hT; rfl
      · rw [Bool.not_eq_true] at he
        rw [he]; rfl
    · rw [if_neg (fun q => hij q.1)] at h; exact absurd rfl h
  · unfold turnF at h
    rw [if_neg hc] at h; exact absurd rfl h
theorem turn_wf {l : Lets} (h : Wf l) (f t k a m : Int) : Wf (turnF l f t k a m) := by
  refine ⟨by unfold Room; rw [turn_len]; exact h.room, fun j hj => ?_⟩
  rw [turn_len] at hj
  by_cases he : (turnF l f t k a m).getD j z_api_Letter = l.getD j z_api_Letter
  · rw [he]; exact h.el j hj
  · rw [(turn_at l f t k a m j he).2.2.2]
    show (turnT _ _ _).size ≤ _
    rw [turnT_size]; exact h.el j hj
theorem pure_lossyTurned (a0 : (_root_.List api_Letter)) (a1 : congresslaw14_Pick) (a2 : congresslaw14_Pick) (w0 : (a0.length ≤ maxLen ∧ a0.length * 40 ≤ 140737488351232) ∧ ∀ j, j < a0.length → w_api_Letter (a0.getD j z_api_Letter)) (w1 : w_congresslaw14_Pick a1) (w2 : w_congresslaw14_Pick a2) : congresslaw14_LossyTurned a0 a1 a2 = some true := by
  have h := wf_of w0
  have hs := h.room.small
  obtain ⟨q1, q2, q3, q4, q5⟩ := w1
  obtain ⟨r1, r2, r3, r4, r5⟩ := w2
  unfold congresslaw14_LossyTurned
  rw [turn_eq _ _ _ _ _ _ h q4 q5, find_eq _ _ _ _ h.room, fixed_eq]
  simp only [Option.bind_some]
  generalize hA : turnF a0 a1.From a1.To a1.Index a1.At a1.Mask = A
  have hAl : A.length = a0.length := by rw [← hA, turn_len]
  have hAw : Wf A := by rw [← hA]; exact turn_wf h _ _ _ _ _
  rw [if_neg (by rw [hAl]; simp)]
  rw [loop_find (ρ := Bool) a0.length (fun _ => false) (fun _ => false)]
  · have : (List.range a0.length).find? (fun _ => false) = none := by rw [List.find?_eq_none]; simp
    rw [this]; rfl
  · intro n hn
    have hn' : (n : Int) < (a0.length : Int) := by omega
    have e1 : IntKind.i64.wrap ((n : Int) + 1) = ((n + 1 : Nat) : Int) := by rw [w64] <;> omega
    rw [if_pos (decide_eq_true hn')]
    simp only [ib_n hn, ib_n (show n < A.length by omega), Option.bind_some, Int.toNat_natCast, e1, jn, lt]
    by_cases hb : b_api_Letter (a0.getD n z_api_Letter) (A.getD n z_api_Letter) = true
    · rw [if_pos hb]; simp
    · have hne : A.getD n z_api_Letter ≠ a0.getD n z_api_Letter := fun q => hb ((b_iff _ _).2 q.symm)
      rw [if_neg hb]
      have hat := turn_at a0 a1.From a1.To a1.Index a1.At a1.Mask n (by rw [hA]; exact hne)
      rw [hA] at hat
      obtain ⟨f1, _, f3, f4⟩ := hat
      have hx := h.el n hn
      rw [f1]
      simp only [f4]
      simp only [f3, turnT_size]
      rw [if_neg (by simp)]
      rw [loop_find (ρ := Bool) (a0.getD n z_api_Letter).Text.size (fun _ => false) (fun _ => false)]
      · have : (List.range (a0.getD n z_api_Letter).Text.size).find? (fun _ => false) = none := by rw [List.find?_eq_none]; simp
        rw [this]
        simp only [Option.bind_some, Fl.elim]
        rw [turn_eq _ _ _ _ _ _ hAw r4 r5]
        simp only [Option.bind_some]
        have hk : findF A a1.From a1.To a1.Index = ((n : Int), true) := by
          rw [← hA, (turn_links a0 a1.From a1.To a1.Index a1.At a1.Mask).find, f1]
        have hself : turnF A a1.From a1.To a1.Index a2.At a2.Mask = A := by
          unfold turnF
          rw [if_neg]
          rw [hk, Int.toNat_natCast, f4]; simp
        rw [hself, same_refl _ hAw.room.small]
        simp
      · intro k hk
        have hk' : (k : Int) < ((a0.getD n z_api_Letter).Text.size : Int) := by omega
        have e2 : IntKind.i64.wrap ((k : Int) + 1) = ((k + 1 : Nat) : Int) := by rw [w64] <;> omega
        rw [if_pos (decide_eq_true hk')]
        simp only [ib_n hk, Option.bind_some, Int.toNat_natCast, e2]
        by_cases hd : (bytesOf (a0.getD n z_api_Letter).Text).getD k 0 = (bytesOf (turnT (a0.getD n z_api_Letter).Text a1.At a1.Mask)).getD k 0
        · rw [hd]; simp
        · obtain ⟨g1, g2, g3, g4⟩ := turnT_get (a0.getD n z_api_Letter).Text a1.At a1.Mask k hk hd
          have e3 : IntKind.i64.wrap (a1.At + 3) = a1.At + 3 := by rw [w64] <;> omega
          rw [e3]
          have : (decide ((k : Int) < a1.At) || decide ((k : Int) > a1.At + 3)) = false := by simp; omega
          rw [this]; simp
      · simp
  · simp
end Go.Proofs.Ytdaeajonhfkpaaa
