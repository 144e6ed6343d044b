/- Pure laws of chapter 09: rises, order. Conditions: none. -/
import Derived.Test.YtgcnlfchpjbhkaaPe
set_option linter.unusedVariables false
set_option linter.unusedSimpArgs false
namespace Go.Proofs.Ytgcnlfchpjbhkaa
open Go.Eng
theorem find_first (f : Nat → Int) (P : Int → Bool) : ∀ n, match (listF f n).find? P with
    | some x => ∃ i : Nat, x = (i : Int) ∧ i < n ∧ f i ≠ 0 ∧ P (i : Int) = true ∧ ∀ k : Nat, k < i → f k ≠ 0 → P (k : Int) = false
    | none => ∀ k : Nat, k < n → f k ≠ 0 → P (k : Int) = false
  | 0 => by
    have : listF f 0 = [] := rfl
    rw [this]
    intro k hk; omega
  | n + 1 => by
    have ih := find_first f P n
    rw [listF_s]
    by_cases hn : f n ≠ 0
    · rw [if_pos hn, List.find?_append]
      cases hf : (listF f n).find? P with
      | some x =>
        rw [hf] at ih
        obtain ⟨i, h1, h2, h3, h4, h5⟩ := ih
        exact ⟨i, h1, by omega, h3, h4, h5⟩
      | none =>
        rw [hf] at ih
        simp only at ih
        by_cases hP : P (n : Int) = true
        · rw [List.find?_cons_of_pos hP]
          exact ⟨n, rfl, by omega, hn, hP, fun k hk hkn => ih k hk hkn⟩
        · rw [List.find?_cons_of_neg hP]
          intro k hk hkn
          by_cases hkn2 : k = n
          · subst hkn2; simpa using hP
          · exact ih k (by omega) hkn
    · rw [if_neg hn]
      cases hf : (listF f n).find? P with
      | some x =>
        rw [hf] at ih
        obtain ⟨i, h1, h2, h3, h4, h5⟩ := ih
        exact ⟨i, h1, by omega, h3, h4, h5⟩
      | none =>
        rw [hf] at ih
        intro k hk hkn
        by_cases hkn2 : k = n
        · subst hkn2; exact absurd hkn hn
        · exact ih k (by omega) hkn
/-- Where the one to speak stands. -/
theorem pos_is {p0 p1 : Nat → Int} (w0 : U32 p0) {j : Nat} (hj : j < 8) (hn : p1 j ≠ 0) : ∃ i : Nat, i < 8 ∧ p1 i ≠ 0 ∧ p0 i = (leastF p0 p1).1 ∧ (∀ k : Nat, k < i → p1 k ≠ 0 → p0 k ≠ (leastF p0 p1).1) ∧ posF p0 p1 = { Round := upF (leastF p0 p1).1, From := (i : Int), Slot := 0 } := by
  have h := find_first p1 (fun x => p0 x.toNat == (leastF p0 p1).1) 8
  unfold posF
  cases hf : (listF p1 8).find? (fun x => p0 x.toNat == (leastF p0 p1).1) with
  | some x =>
    rw [hf] at h
    obtain ⟨i, rfl, h2, h3, h4, h5⟩ := h
    exact ⟨i, h2, h3, by simpa using h4, fun k hk hkn => by simpa using h5 k hk hkn, rfl⟩
  | none =>
    rw [hf] at h
    obtain ⟨i, hi, hin, he⟩ := least_is (p1 := p1) w0 hj hn
    have := h i hi hin
    simp [he] at this
theorem pos_none {p0 p1 : Nat → Int} (h : ∀ j, j < 8 → p1 j = 0) : posF p0 p1 = { Round := 0, From := 0, Slot := 0 } := by
  have : listF p1 8 = [] := by
    apply List.eq_nil_iff_forall_not_mem.2
    intro x hx
    obtain ⟨j, _, hj, hn⟩ := listF_in.1 hx
    exact hn (h j hj)
  simp [posF, this]
theorem up_is {l : Int} (h0 : 0 ≤ l) (h1 : l ≤ 4294967295) : upF l = if l < 4294967295 then l + 1 else l := by
  unfold upF
  by_cases h : l < 4294967295
  · have e : IntKind.u32.wrap (l + 1) = l + 1 := by rw [w32]; omega
    rw [e, if_pos (by omega), if_pos h]
  · have e : l = 4294967295 := by omega
    subst e; decide
theorem bef_iff {a b : api_Place} : befF a b = true ↔ a.Round < b.Round ∨ (a.Round = b.Round ∧ (a.From < b.From ∨ (a.From = b.From ∧ a.Slot < b.Slot))) := by
  unfold befF; rw [decide_eq_true_eq]
theorem pure_roundRises (a0 : (Nat → Int)) (a1 : (Nat → Int)) (a2 : congresslaw09_More) (w0 : ∀ j, j < 8 → (Lit.int .u32 (a0 j)).wf = true) (w1 : ∀ j, j < 8 → (Lit.int .u32 (a1 j)).wf = true) (w2 : w_congresslaw09_More a2) : congresslaw09_RoundRises a0 a1 a2 = some true := by
  have hr := w2.2.1
  have mx : ∃ mx : Nat → Int, mx = fun j => if a0 j < a2.D j then a2.D j else a0 j := ⟨_, rfl⟩
  obtain ⟨mx, hmx⟩ := mx
  have up : ∃ up : Nat → Int, up = fun j => if j < 8 then mx j else a0 j := ⟨_, rfl⟩
  obtain ⟨up, hup⟩ := up
  have wup : U32 up := by
    intro j hj
    have h1 := wf_u32.1 (w0 j hj); have h2 := wf_u32.1 (w2.1 j hj)
    rw [hup, hmx]; simp only [hj, if_true]
    rw [wf_u32]; split <;> omega
  have hge : ∀ j, j < 8 → a0 j ≤ up j := by
    intro j hj; rw [hup, hmx]; simp only [hj, if_true]; split <;> omega
  unfold congresslaw09_RoundRises
  rw [loop_seq (s0 := (false, 0, a0)) (fun n => ((List.range n).any (fun j => mx j == 4294967295), (n : Int), fun j => if j < n then mx j else a0 j)) 8
    (w := .nx ((List.range 8).any (fun j => mx j == 4294967295), up)) (by simp) (fun n hn => by
    have hn' : (n : Int) < 8 := by omega
    have e1 : IntKind.i64.wrap ((n : Int) + 1) = ((n + 1 : Nat) : Int) := by rw [w64] <;> omega
    have ibt : ∀ g, ibg g (n : Int) 8 = some () := fun g => ibg_t (fun _ => by omega)
    have em : (if a0 n < a2.D n then a2.D n else a0 n) = mx n := by rw [hmx]
    have ea : aupd (fun j => if j < n then mx j else a0 j) n (mx n) = fun j => if j < n + 1 then mx j else a0 j := by
      funext j
      simp only [aupd]
      by_cases hj : j = n
      · subst hj; simp
      · have : j < n + 1 ↔ j < n := by omega
        simp [hj, this]
    simp only [hn', decide_true, if_true, ib_n hn, ibt, Option.bind_some, Int.toNat_natCast, e1, lt, em, ea, List.range_succ, List.any_append, List.any_cons, List.any_nil, Bool.or_false, show n < n + 1 by omega]) (by simp [hup])]
  simp only [Option.bind_some, Fl.elim, serv_eq _ _ _ _ hr]
  have mono : ∀ k : Nat, k < 4 → servF a0 a1 a2.P (k : Int) = true → servF up a1 a2.P (k : Int) = true := by
    intro k hk h
    have ha : askF a0 a1 a2.P = true := by
      simp only [servF, Bool.and_eq_true] at h; exact h.1
    obtain ⟨f0, f8, fm, fr, fl⟩ := askF_iff.1 ha
    have fm8 : a2.P.From.toNat < 8 := by omega
    have ha' : askF up a1 a2.P = true := askF_iff.2 ⟨f0, f8, fm, fr, by have := hge _ fm8; omega⟩
    have hl : (leastF a0 a1).1 ≤ (leastF up a1).1 := (least_le wup fm8 fm _).2 fun i hi hin => by
      have := least_mem (p1 := a1) w0 hi hin; have := hge i hi; omega
    have k4 : k = 0 ∨ k = 1 ∨ k = 2 ∨ k = 3 := by omega
    rcases k4 with rfl | rfl | rfl | rfl
    · show servF up a1 a2.P 0 = true
      rw [s0, ha']; rfl
    · have h : servF a0 a1 a2.P 1 = true := h
      show servF up a1 a2.P 1 = true
      rw [s1, Bool.and_eq_true, decide_eq_true_eq] at h ⊢
      exact ⟨ha', by omega⟩
    · have h : servF a0 a1 a2.P 2 = true := h
      show servF up a1 a2.P 2 = true
      rw [s2, Bool.and_eq_true, Bool.and_eq_true, decide_eq_true_eq, ahead_iff] at h ⊢
      exact ⟨ha', by omega, fun j hj hjn => by have := h.2.2 j hj hjn; have := hge j (by omega); omega⟩
    · have h : servF a0 a1 a2.P 3 = true := h
      show servF up a1 a2.P 3 = true
      rw [s3, Bool.and_eq_true, decide_eq_true_eq] at h ⊢
      exact ⟨ha', by omega⟩
  rw [loop_seq (s0 := 0) (fun n => (n : Int)) 4 (w := .nx ()) rfl (fun n hn => by
    have hn' : (n : Int) < 4 := by omega
    have e1 : IntKind.i64.wrap ((n : Int) + 1) = ((n + 1 : Nat) : Int) := by rw [w64] <;> omega
    simp only [hn', decide_true, if_true, Option.bind_some, e1]
    by_cases h : servF a0 a1 a2.P (n : Int) = true
    · simp only [h, mono n hn h, whn, if_true, Option.bind_some, Bool.not_true, Bool.and_false, Bool.false_eq_true, if_false]
    · simp only [Bool.not_eq_true] at h
      simp only [h, whn, Bool.false_eq_true, if_false, Option.bind_some, Bool.false_and]) rfl]
  simp only [Option.bind_some, Fl.elim, fixed_eq, pos_eq, before_eq, Bool.true_and]
  by_cases hA : (List.range 8).any (fun j => mx j == 4294967295) = true
  · simp only [hA, Bool.not_true, whn, Bool.false_eq_true, if_false, Option.bind_some, Bool.true_or]
  · have hA2 : ∀ j, j < 8 → up j ≠ 4294967295 := by
      intro j hj he
      apply hA
      rw [List.any_eq_true]
      refine ⟨j, List.mem_range.2 hj, ?_⟩
      rw [hup] at he; simp only [hj, if_true] at he
      simp [he]
    simp only [Bool.not_eq_true] at hA
    have hb : befF (posF up a1) (posF a0 a1) = false := by
      by_cases hex : ∃ j, j < 8 ∧ a1 j ≠ 0
      · obtain ⟨j, hj, hjn⟩ := hex
        obtain ⟨i, hi, hin, hi1, hi2, hi3⟩ := pos_is (p1 := a1) w0 hj hjn
        obtain ⟨k, hk, hkn, hk1, hk2, hk3⟩ := pos_is (p1 := a1) wup hj hjn
        have hl : (leastF a0 a1).1 ≤ (leastF up a1).1 := (least_le wup hj hjn _).2 fun i hi hin => by
          have := least_mem (p1 := a1) w0 hi hin; have := hge i hi; omega
        have h0 := least_ge0 (p1 := a1) w0 hj hjn
        have hk4 := hA2 k hk
        have hk5 := wf_u32.1 (wup k hk)
        rw [hi3, hk3, up_is (by omega) (by omega), up_is (by omega) (by omega), if_pos (by omega), if_pos (by omega)]
        rw [← Bool.not_eq_true, bef_iff]
        simp only
        intro hh
        have he : (leastF a0 a1).1 = (leastF up a1).1 := by omega
        have hki : k < i := by omega
        have h7 := least_mem (p1 := a1) w0 hk hkn
        have h8 := hge k hk
        exact hi2 k hki hkn (by omega)
      · have hz : ∀ j, j < 8 → a1 j = 0 := fun j hj => by
          by_cases h : a1 j = 0
          · exact h
          · exact absurd ⟨j, hj, h⟩ hex
        rw [pos_none hz, pos_none hz]; decide
    simp only [hA, Bool.not_false, whn, if_true, Option.bind_some, hb, Bool.false_or]
/-- To be served plainly is to stand before the one to speak. -/
theorem serv_bef {p0 p1 : Nat → Int} {p : api_Place} (w0 : U32 p0) (f0 : 0 ≤ p.From) (f8 : p.From < 8) (fm : p1 p.From.toNat ≠ 0) (r0 : p.Round ≠ 0) (rm : p.Round ≠ 4294967295) (wr : (Lit.int .u32 p.Round).wf = true) :
    servF p0 p1 p 2 = befF { p with Slot := 0 } (posF p0 p1) := by
  have hr := wf_u32.1 wr
  have fm8 : p.From.toNat < 8 := by omega
  obtain ⟨i, hi, hin, hi1, hi2, hi3⟩ := pos_is (p1 := p1) w0 fm8 fm
  have hw := wf_u32.1 (w0 i hi)
  have hle := least_mem (p1 := p1) w0 fm8 fm
  rw [Bool.eq_iff_iff, s2, Bool.and_eq_true, Bool.and_eq_true, decide_eq_true_eq, ahead_iff, askF_iff, hi3, bef_iff, up_is (by omega) (by omega)]
  simp only
  constructor
  · rintro ⟨⟨_, _, _, _, h1⟩, h2, h3⟩
    by_cases hm : (leastF p0 p1).1 < 4294967295
    · rw [if_pos hm]
      by_cases he : p.Round = (leastF p0 p1).1 + 1
      · right
        refine ⟨he, .inl ?_⟩
        by_cases hc : p.From < i
        · exact hc
        · exfalso
          by_cases hc2 : p.From = i
          · have : p.From.toNat = i := by omega
            rw [this] at h1; omega
          · have := h3 i (by omega) hin; omega
      · left; omega
    · rw [if_neg hm]; left; omega
  · intro h
    by_cases hm : (leastF p0 p1).1 < 4294967295
    · rw [if_pos hm] at h
      rcases h with h | ⟨h, h2⟩
      · refine ⟨⟨f0, f8, fm, r0, by omega⟩, by omega, fun j hj hjn => ?_⟩
        have := least_mem (p1 := p1) w0 (show j < 8 by omega) hjn
        omega
      · have hfi : p.From < i := by omega
        have far : ∀ j : Nat, j < i → p1 j ≠ 0 → p.Round ≤ p0 j := by
          intro j hj hjn
          have h5 := hi2 j hj hjn
          have h6 := least_mem (p1 := p1) w0 (show j < 8 by omega) hjn
          omega
        exact ⟨⟨f0, f8, fm, r0, far _ (by omega) fm⟩, by omega, fun j hj hjn => far j (by omega) hjn⟩
    · refine ⟨⟨f0, f8, fm, r0, by omega⟩, by omega, fun j hj hjn => ?_⟩
      have := least_mem (p1 := p1) w0 (show j < 8 by omega) hjn
      omega
theorem bef_trans {a b c : api_Place} (h1 : befF a b = true) (h2 : befF b c = true) : befF a c = true := by
  rw [bef_iff] at *; omega
theorem bef_tri (a b : api_Place) : befF a b = true ∨ befF b a = true ∨ a = b := by
  have e : a = b ↔ a.Round = b.Round ∧ a.From = b.From ∧ a.Slot = b.Slot := by cases a; cases b; simp
  rw [bef_iff, bef_iff, e]; omega
theorem pure_roundOrder (a0 : (Nat → Int)) (a1 : (Nat → Int)) (a2 : congresslaw09_Where) (w0 : ∀ j, j < 8 → (Lit.int .u32 (a0 j)).wf = true) (w1 : ∀ j, j < 8 → (Lit.int .u32 (a1 j)).wf = true) (w2 : w_congresslaw09_Where a2) : congresslaw09_RoundOrder a0 a1 a2 = some true := by
  have hr := w2.2.1
  unfold congresslaw09_RoundOrder
  rw [fixed_eq]
  simp only [Option.bind_some, lt]
  rw [ibg_t (fun h => by simp at h; omega)]
  simp only [Option.bind_some]
  by_cases hv : (((((((!true) || (decide (a2.P.From < 0))) || (decide (a2.P.From > 7))) || ((a2.M a2.P.From.toNat) == 0)) || (a2.P.Round == 0)) || (a2.P.Round == 4294967295)) || (decide (a2.P.Slot < 0))) = true
  · rw [if_pos hv]
  rw [if_neg hv]
  simp only [Bool.not_true, Bool.false_or, Bool.or_eq_true, decide_eq_true_eq, beq_iff_eq, not_or] at hv
  obtain ⟨⟨⟨⟨⟨h1, h2⟩, h3⟩, h4⟩, h5⟩, h6⟩ := hv
  have q0 := serv_bef (p0 := a0) (p1 := a2.M) (p := a2.P) w0 (by omega) (by omega) h3 h4 h5 hr
  have q1 := serv_bef (p0 := a1) (p1 := a2.M) (p := a2.P) w1 (by omega) (by omega) h3 h4 h5 hr
  simp only [pos_eq, serv_eq _ _ _ _ hr, before_eq, Option.bind_some, q0, q1, bne_self_eq_false, Bool.not_false, whn, if_true, Bool.or_self, Bool.false_eq_true, if_false, Option.some.injEq]
  rcases bef_tri (posF a0 a2.M) (posF a1 a2.M) with h | h | h
  · have i := imp_b (fun k => bef_trans k h : befF { a2.P with Slot := 0 } (posF a0 a2.M) = true → befF { a2.P with Slot := 0 } (posF a1 a2.M) = true)
    rw [h, i]; simp [whn]
  · have i := imp_b (fun k => bef_trans k h : befF { a2.P with Slot := 0 } (posF a1 a2.M) = true → befF { a2.P with Slot := 0 } (posF a0 a2.M) = true)
    have nh : befF (posF a0 a2.M) (posF a1 a2.M) = false := by
      rw [← Bool.not_eq_true]; intro k
      have := bef_iff.1 (bef_trans h k); omega
    rw [nh]; simp [whn, h, i]
  · have nh : ∀ p : api_Place, befF p p = false := fun p => by rw [← Bool.not_eq_true]; intro k; have := bef_iff.1 k; omega
    have hp : ∀ p : api_Place, b_api_Place p p = true := fun p => beqP.2 rfl
    rw [h]; simp [whn, nh, hp]
end Go.Proofs.Ytgcnlfchpjbhkaa
