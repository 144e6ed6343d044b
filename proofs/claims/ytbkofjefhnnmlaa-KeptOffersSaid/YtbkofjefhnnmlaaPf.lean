/- Pure law of chapter 10: what is taken of a packet. Conditions: none. -/
import Derived.Test.YtbkofjefhnnmlaaPd
set_option linter.unusedVariables false
set_option linter.unusedSimpArgs false
namespace Go.Proofs.Ytbkofjefhnnmlaa
open Go.Eng
def mkS (s : S3) : congressref10_State := { L := s.2.1, C := s.1, Taken := s.2.2 }
def Good (k : Nat) (s : S3) : Prop := Room k s.2.1 ∧ s.2.2.length ≤ k ∧ (∀ j, j < 8 → 0 ≤ s.1 j ∧ s.1 j ≤ 4294967295) ∧ W s.2.1
theorem bind_of {α β : Type} {x : Option α} {f : α → Option β} {a : α} {r : Option β} (h : x = some a) (h2 : f a = r) : x.bind f = r := by rw [h]; exact h2
theorem good_step {k : Nat} {m most : Nat → Int} {s : S3} {x : api_Kept} (h : Good k s) (hx : 0 ≤ x.Round ∧ x.Round ≤ 4294967295) : Good (k + 1) (stepF m most s x) := by
  obtain ⟨h1, h2, h3, h4⟩ := h
  have hf := fold_room m most [x] s k h1 h2
  simp only [List.foldl_cons, List.foldl_nil, List.length_cons, List.length_nil, Nat.zero_add] at hf
  refine ⟨hf.1, hf.2, ?_, ?_⟩
  · unfold stepF takeF
    split
    · exact h3
    · simp only
      split
      · intro j hj
        simp only [aupd]
        split
        · exact hx
        · exact h3 j hj
      · exact h3
  · unfold stepF takeF
    split
    · exact h4
    · simp only
      split
      · intro y hy
        simp only [List.mem_append, List.mem_filter, List.mem_singleton] at hy
        rcases hy with ⟨hy, _⟩ | rfl
        · exact h4 y hy
        · exact hx
      · exact h4
theorem roffer_eq {k : Nat} {m most : Nat → Int} (s : S3) (x : api_Kept) (hk : k ≤ 10) (h : Good k s) (hx : 0 ≤ x.Round ∧ x.Round ≤ 4294967295) (h0 : 0 ≤ x.From) : congressref10_offer (mkS s) m x most = some (mkS (stepF m most s x)) := by
  obtain ⟨h1, h2, h3, h4⟩ := h
  have hb := big8
  unfold congressref10_offer stepF
  have hc0 : decide (x.From < 0) = false := by simp only [decide_eq_false_iff_not]; omega
  by_cases h8 : x.From ≥ 8
  · have q1 : decide (x.From > 7) = true := by simp only [decide_eq_true_eq]; omega
    have q2 : decide (x.From ≥ 8) = true := by simp only [decide_eq_true_eq]; omega
    simp only [hc0, q1, q2, Bool.or_true, Bool.true_or, Bool.not_true, ibg, Bool.false_eq_true, false_implies, if_true, Option.bind_some, lt]
  · have q1 : decide (x.From > 7) = false := by simp only [decide_eq_false_iff_not]; omega
    have q2 : decide (x.From ≥ 8) = false := by simp only [decide_eq_false_iff_not]; omega
    have q3 : x.From.tmod 8 = x.From := Int.tmod_eq_of_lt h0 (by omega)
    rw [q3, ibg_t (fun _ => by omega)]
    simp only [hc0, q1, q2, Bool.or_false, Bool.false_or, Option.bind_some, lt]
    by_cases hd : decide (x.Round > most x.From.toNat) = true
    · rw [if_pos hd, if_pos hd]
    · rw [if_neg hd, if_neg hd]
      refine bind_of (rtake_eq (k := k) s.2.1 s.1 m x h1 hk h3 hx h4) ?_
      simp only [jn]
      by_cases h2' : (takeF s.2.1 s.1 m x).2.2 = true
      · have hlen : ((mkS s).Taken ++ [x]).length = s.2.2.length + 1 := by simp [mkS]
        rw [if_pos h2', if_pos h2', fit_t (by omega) (by omega)]; rfl
      · rw [if_neg h2', if_neg h2']
        have e : takeF s.2.1 s.1 m x = (s.2.1, s.1, false) := by
          unfold takeF at h2' ⊢
          by_cases hn : nextB s.1 m x = true
          · rw [if_pos hn] at h2'; exact absurd rfl h2'
          · rw [if_neg hn]
        rw [e]
theorem rOffer_eq (l : Tab) (c m : Nat → Int) (p : api_Packet) (most : Nat → Int) (h : Good 0 (c, l, [])) (h1 : 0 ≤ p.From ∧ p.From ≤ 4294967295) (h2 : 0 ≤ p.RelayOf ∧ p.RelayOf ≤ 4294967295) (h3 : 0 ≤ p.Round ∧ p.Round ≤ 4294967295) (h4 : 0 ≤ p.RelayRound ∧ p.RelayRound ≤ 4294967295) : congressref10_Offer l c m p most =
    some (((offF p).foldl (stepF m most) (c, l, [])).2.1, ((offF p).foldl (stepF m most) (c, l, [])).1, ((offF p).foldl (stepF m most) (c, l, [])).2.2) := by
  have q1 : IntKind.i64.wrap p.From = p.From := w64 (by omega) (by omega)
  have q2 : IntKind.i64.wrap p.RelayOf = p.RelayOf := w64 (by omega) (by omega)
  unfold congressref10_Offer offF
  simp only [jn]
  rw [q1, q2]
  by_cases hr : p.Round > 1
  · have hr' : decide (p.Round > 1) = true := by simpa using hr
    have q3 : IntKind.u32.wrap (p.Round - 1) = p.Round - 1 := by rw [w32]; omega
    rw [if_pos hr', if_pos hr, q3]
    have g1 := good_step (m := m) (most := most) (x := { From := p.From, Round := p.Round - 1, Frame := p.Older }) h (by simp only; omega)
    have g2 := good_step (m := m) (most := most) (x := { From := p.From, Round := p.Round, Frame := p.Newest }) g1 (by simp only; omega)
    refine bind_of (roffer_eq (c, l, []) { From := p.From, Round := p.Round - 1, Frame := p.Older } (Nat.zero_le _) h (by simp only; omega) h1.1) ?_
    refine bind_of (roffer_eq _ { From := p.From, Round := p.Round, Frame := p.Newest } (by omega) g1 (by simp only; omega) h1.1) ?_
    refine bind_of (roffer_eq _ { From := p.RelayOf, Round := p.RelayRound, Frame := p.Relay } (by omega) g2 (by simp only; omega) h2.1) ?_
    rfl
  · have hr' : ¬ decide (p.Round > 1) = true := by simpa using hr
    rw [if_neg hr', if_neg hr]
    have g1 := good_step (m := m) (most := most) (x := { From := p.From, Round := p.Round, Frame := p.Newest }) h (by simp only; omega)
    refine bind_of (roffer_eq (c, l, []) { From := p.From, Round := p.Round, Frame := p.Newest } (Nat.zero_le _) h (by simp only; omega) h1.1) ?_
    refine bind_of (roffer_eq _ { From := p.RelayOf, Round := p.RelayRound, Frame := p.Relay } (by omega) g1 (by simp only; omega) h2.1) ?_
    rfl
theorem pure_keptOffers (a0 : congresslaw10_Was) (a1 : api_Packet) (a2 : (Nat → Int)) (w0 : w_congresslaw10_Was a0) (w1 : w_api_Packet a1) (w2 : ∀ j, j < 8 → (Lit.int .u32 (a2 j)).wf = true) : congresslaw10_KeptOffers a0 a1 a2 = some true := by
  have hr : Room 0 a0.L := room_of w0.1.1.2
  have hF := wf_u32.1 w1.1
  have hR := wf_u32.1 w1.2.2.2.2.2.2.2.2.2.2.2.2.1
  have hRo := wf_u32.1 w1.2.2.2.2.2.2.2.2.2.1
  have hRr := wf_u32.1 w1.2.2.2.2.2.2.2.2.2.2.2.2.2.1
  have hW : W a0.L := fun y hy => wf_u32.1 (wf_at w0.1.2 y hy).2.1
  have hc : ∀ j, j < 8 → 0 ≤ a0.C j ∧ a0.C j ≤ 4294967295 := fun j hj => wf_u32.1 (w0.2.1 j hj)
  have hoff : ∀ x ∈ offF a1, 0 ≤ x.From := by
    intro x hx
    have q1 : IntKind.i64.wrap a1.From = a1.From := w64 (by omega) (by omega)
    have q2 : IntKind.i64.wrap a1.RelayOf = a1.RelayOf := w64 (by omega) (by omega)
    unfold offF at hx
    rw [q1, q2] at hx
    rcases List.mem_append.1 hx with hx | hx
    · split at hx
      · simp at hx; subst hx; simp only; omega
      · simp at hx
    · simp at hx
      rcases hx with rfl | rfl <;> simp only <;> omega
  have hg : Good 0 (a0.C, a0.L, []) := ⟨hr, Nat.le_refl _, hc, hW⟩
  have ho := off_len a1
  have hb := big8
  have r1 := fold_room a0.M a2 (offF a1) (a0.C, a0.L, []) 0 hr (by simp)
  unfold congresslaw10_KeptOffers
  rw [offer_eq _ _ _ _ _ hr hoff, rOffer_eq _ _ _ _ _ hg hF hR hRo hRr]
  simp only [Option.bind_some, fixed_eq, whn, if_true, same_eq _ (r1.1.len (by omega)), brefl8, Bool.and_self]
  rw [same_eq _ (by omega)]; rfl
end Go.Proofs.Ytbkofjefhnnmlaa
