/- Pure laws of chapter 12: two that gather see the same. Conditions: none. -/
import Derived.Test.YteajgbkgijaebaaPf
set_option linter.unusedVariables false
set_option linter.unusedSimpArgs false
namespace Go.Proofs.Yteajgbkgijaebaa
open Go.Eng
def cndF (p0 : api_Core) (x : Int) : Bool := ((((x != p0.Self) && (((p0.Peers x.toNat).Inc) == (p0.Wanted x.toNat))) && (b_api_Id ((p0.Peers x.toNat).Conf) p0.Conf)) && (b_api_Id ((p0.Peers x.toNat).Promise) p0.Promise))
def tgF (p0 : api_Core) (l : _root_.List Int) (f : Nat → Int) : Nat → Int := l.foldl (fun f x => if cndF p0 x = true then mxF (mxF (fun _ => 0) f 8) (p0.Peers x.toNat).Cut 8 else f) f
theorem tg_s (p0 : api_Core) (l : _root_.List Int) (f : Nat → Int) (x : Int) : tgF p0 (l ++ [x]) f = if cndF p0 x = true then mxF (mxF (fun _ => 0) (tgF p0 l f) 8) (p0.Peers x.toNat).Cut 8 else tgF p0 l f := by
  unfold tgF; rw [List.foldl_append]; rfl
theorem target_eq (p0 : api_Core) : gather_Target p0 = some (tgF p0 (listF p0.Wanted 8) p0.Cut) := by
  have hl := listF_len p0.Wanted 8
  unfold gather_Target
  rw [list_eq]
  simp only [Option.bind_some]
  rw [loop_seq (s0 := (0, p0.Cut)) (fun n => ((n : Int), tgF p0 ((listF p0.Wanted 8).take n) p0.Cut)) (listF p0.Wanted 8).length (w := .nx (tgF p0 (listF p0.Wanted 8) p0.Cut)) rfl (fun n hn => by
    have hn' : (n : Int) < ((listF p0.Wanted 8).length : Int) := by omega
    have e1 : IntKind.i64.wrap ((n : Int) + 1) = ((n + 1 : Nat) : Int) := by rw [w64] <;> omega
    obtain ⟨j, hj, hj8, _⟩ := listF_in.1 (getD_in (d := (0 : Int)) hn)
    have ibt : ∀ g, ibg g (j : Int) 8 = some () := fun g => ibg_t (fun _ => by omega)
    rw [take_s (d := 0) hn, tg_s]
    simp only [hn', decide_true, if_true, ib_n hn, hj, ib_n hj8, ibt, Option.bind_some, Int.toNat_natCast, e1, lt, jn, union_eq]
    by_cases hc : cndF p0 (j : Int) = true
    · have hc' := hc
      simp only [cndF, Int.toNat_natCast] at hc'
      rw [if_pos hc, if_pos hc']
    · have hc' := hc
      simp only [cndF, Int.toNat_natCast] at hc'
      rw [if_neg hc, if_neg hc']) (by simp)]
  simp only [Option.bind_some, Fl.elim]
theorem mx_le {f g : Nat → Int} (hf : Nat8 f) {j : Nat} (hj : j < 8) (r : Int) : mxF (mxF (fun _ => 0) f 8) g 8 j ≤ r ↔ f j ≤ r ∧ g j ≤ r := by
  have := hf j hj
  simp only [mxF, hj, true_and]
  constructor
  · intro h
    by_cases h1 : 0 < f j
    · rw [if_pos h1] at h
      by_cases h2 : f j < g j
      · rw [if_pos h2] at h; omega
      · rw [if_neg h2] at h; omega
    · rw [if_neg h1] at h
      by_cases h2 : 0 < g j
      · rw [if_pos h2] at h; omega
      · rw [if_neg h2] at h; omega
  · rintro ⟨h1, h2⟩
    split <;> split <;> omega
theorem tg_le (p0 : api_Core) {j : Nat} (hj : j < 8) (r : Int) : ∀ (l : _root_.List Int) (f : Nat → Int), Nat8 f → (tgF p0 l f j ≤ r ↔ f j ≤ r ∧ ∀ x ∈ l, cndF p0 x = true → (p0.Peers x.toNat).Cut j ≤ r)
  | [], f, hf => by simp [tgF]
  | a :: l, f, hf => by
    have e : tgF p0 (a :: l) f = tgF p0 l (if cndF p0 a = true then mxF (mxF (fun _ => 0) f 8) (p0.Peers a.toNat).Cut 8 else f) := rfl
    rw [e]
    by_cases hc : cndF p0 a = true
    · rw [if_pos hc, tg_le p0 hj r l _ (fun i hi => Int.le_trans (hf i hi) (mx_ge hf hi).1), mx_le hf hj]
      constructor
      · rintro ⟨⟨h1, h2⟩, h3⟩
        refine ⟨h1, fun x hx hcx => ?_⟩
        rcases List.mem_cons.1 hx with rfl | hx
        · exact h2
        · exact h3 x hx hcx
      · rintro ⟨h1, h2⟩
        exact ⟨⟨h1, h2 a (by simp) hc⟩, fun x hx hcx => h2 x (by simp [hx]) hcx⟩
    · rw [if_neg hc, tg_le p0 hj r l f hf]
      constructor
      · rintro ⟨h1, h3⟩
        refine ⟨h1, fun x hx hcx => ?_⟩
        rcases List.mem_cons.1 hx with rfl | hx
        · exact absurd hcx hc
        · exact h3 x hx hcx
      · rintro ⟨h1, h2⟩
        exact ⟨h1, fun x hx hcx => h2 x (by simp [hx]) hcx⟩
theorem pure_gatherSame (a0 : api_Core) (a1 : Int) (a2 : (Nat → Int)) (w0 : w_api_Core a0) (w1 : (Lit.int .i64 a1).wf = true) (w2 : ∀ j, j < 8 → (Lit.int .u32 (a2 j)).wf = true) : congresslaw12_GatherSame a0 a1 a2 = some true := by
  have nC : Nat8 a0.Cut := fun j hj => (wf_u32.1 (w0.2.2.2.2.2.2.2.2.2.2.1 j hj)).1
  have n2 : Nat8 a2 := fun j hj => (wf_u32.1 (w2 j hj)).1
  unfold congresslaw12_GatherSame
  simp only [fixed_eq, Option.bind_some, lt]
  rw [ibg_t (fun h => by simp at h; omega), ibg_t (fun h => by simp at h; omega)]
  simp only [Option.bind_some]
  by_cases hv : (((((((((!true) || (decide (a0.Self < 0))) || (decide (a0.Self > 7))) || (decide (a1 < 0))) || (decide (a1 > 7))) || (a1 == a0.Self)) || ((a0.Wanted a0.Self.toNat) == 0)) || ((a0.Wanted a1.toNat) == 0))) = true
  · rw [if_pos hv]
  rw [if_neg hv]
  simp only [Bool.not_true, Bool.false_or, Bool.or_eq_true, decide_eq_true_eq, beq_iff_eq, not_or] at hv
  obtain ⟨⟨⟨⟨⟨⟨h1, h2⟩, h3⟩, h4⟩, h5⟩, h6⟩, h7⟩ := hv
  rw [ib_t (by omega) (by omega), ib_t (by omega) (by omega)]
  simp only [Option.bind_some, target_eq]
  obtain ⟨A, hA⟩ : ∃ A : api_Core, A = { a0 with Peers := aupd a0.Peers a1.toNat { Inc := a0.Wanted a1.toNat, Conf := a0.Conf, Promise := a0.Promise, Cut := a2, Ready := false } } := ⟨_, rfl⟩
  obtain ⟨B, hB⟩ : ∃ B : api_Core, B = { { { a0 with Self := a1 } with Cut := a2 } with Peers := aupd a0.Peers a0.Self.toNat { Inc := a0.Wanted a0.Self.toNat, Conf := a0.Conf, Promise := a0.Promise, Cut := a0.Cut, Ready := false } } := ⟨_, rfl⟩
  have eA : tgF { a0 with Peers := aupd a0.Peers a1.toNat { Inc := a0.Wanted a1.toNat, Conf := a0.Conf, Promise := a0.Promise, Cut := a2, Ready := false } } (listF a0.Wanted 8) a0.Cut = tgF A (listF a0.Wanted 8) a0.Cut := by rw [hA]
  have eB : tgF { { { a0 with Self := a1 } with Cut := a2 } with Peers := aupd a0.Peers a0.Self.toNat { Inc := a0.Wanted a0.Self.toNat, Conf := a0.Conf, Promise := a0.Promise, Cut := a0.Cut, Ready := false } } (listF a0.Wanted 8) a2 = tgF B (listF a0.Wanted 8) a2 := by rw [hB]
  rw [eA, eB]
  have m1 : a1 ∈ listF a0.Wanted 8 := listF_in.2 ⟨a1.toNat, by omega, by omega, h7⟩
  have mS : a0.Self ∈ listF a0.Wanted 8 := listF_in.2 ⟨a0.Self.toNat, by omega, by omega, h6⟩
  have cA1 : cndF A a1 = true := by
    rw [hA]; simp only [cndF, aupd, if_true, beq_self_eq_true, breflId, Bool.and_true, bne_iff_ne]; exact h5
  have pA1 : (A.Peers a1.toNat).Cut = a2 := by rw [hA]; simp [aupd]
  have cBS : cndF B a0.Self = true := by
    rw [hB]; simp only [cndF, aupd, if_true, beq_self_eq_true, breflId, Bool.and_true, bne_iff_ne]; exact Ne.symm h5
  have pBS : (B.Peers a0.Self.toNat).Cut = a0.Cut := by rw [hB]; simp [aupd]
  have rest : ∀ x, x ∈ listF a0.Wanted 8 → x ≠ a1 → x ≠ a0.Self → cndF A x = cndF B x ∧ A.Peers x.toNat = B.Peers x.toNat := by
    intro x hx hx1 hxS
    obtain ⟨j, rfl, hj, _⟩ := listF_in.1 hx
    have n1 : ¬ j = a1.toNat := by omega
    have nS : ¬ j = a0.Self.toNat := by omega
    have b1 : ((j : Int) != a0.Self) = true := by simpa using hxS
    have b2 : ((j : Int) != a1) = true := by simpa using hx1
    rw [hA, hB]
    simp only [cndF, aupd, Int.toNat_natCast, if_neg n1, if_neg nS, b1, b2, and_self]
  have sA : cndF A a0.Self = false := by rw [hA]; simp [cndF]
  have sB : cndF B a1 = false := by rw [hB]; simp [cndF]
  have key : ∀ j, j < 8 → ∀ r, (tgF A (listF a0.Wanted 8) a0.Cut j ≤ r ↔ tgF B (listF a0.Wanted 8) a2 j ≤ r) := by
    intro j hj r
    rw [tg_le A hj r _ _ nC, tg_le B hj r _ _ n2]
    constructor
    · rintro ⟨k1, k2⟩
      refine ⟨by have := k2 a1 m1 cA1; rw [pA1] at this; exact this, fun x hx hc => ?_⟩
      by_cases hxS : x = a0.Self
      · subst hxS; rw [pBS]; exact k1
      by_cases hx1 : x = a1
      · subst hx1; rw [sB] at hc; cases hc
      obtain ⟨q1, q2⟩ := rest x hx hx1 hxS
      rw [← q2]; exact k2 x hx (q1.trans hc)
    · rintro ⟨k1, k2⟩
      refine ⟨by have := k2 a0.Self mS cBS; rw [pBS] at this; exact this, fun x hx hc => ?_⟩
      by_cases hx1 : x = a1
      · subst hx1; rw [pA1]; exact k1
      by_cases hxS : x = a0.Self
      · subst hxS; rw [sA] at hc; cases hc
      obtain ⟨q1, q2⟩ := rest x hx hx1 hxS
      rw [q2]; exact k2 x hx (q1.symm.trans hc)
  have same : b_a8_u32 (tgF A (listF a0.Wanted 8) a0.Cut) (tgF B (listF a0.Wanted 8) a2) = true := all8.2 fun j hj => by
    have q1 := (key j hj _).1 (Int.le_refl _)
    have q2 := (key j hj _).2 (Int.le_refl _)
    omega
  have ge : ∀ j, j < 8 → a0.Cut j ≤ tgF A (listF a0.Wanted 8) a0.Cut j ∧ a2 j ≤ tgF A (listF a0.Wanted 8) a0.Cut j := by
    intro j hj
    have q := (tg_le A hj _ _ _ nC).1 (Int.le_refl (tgF A (listF a0.Wanted 8) a0.Cut j))
    have := q.2 a1 m1 cA1
    rw [pA1] at this
    exact ⟨q.1, this⟩
  rw [loop_seq (s0 := 0) (fun n => (n : Int)) 8 (w := .nx ()) rfl (fun n hn => by
    have hn' : (n : Int) < 8 := by omega
    have e1 : IntKind.i64.wrap ((n : Int) + 1) = ((n + 1 : Nat) : Int) := by rw [w64] <;> omega
    have ibt : ∀ g, ibg g (n : Int) 8 = some () := fun g => ibg_t (fun _ => by omega)
    have g1 : decide (tgF A (listF a0.Wanted 8) a0.Cut n < a0.Cut n) = false := decide_eq_false (by have := (ge n hn).1; omega)
    have g2 : decide (tgF A (listF a0.Wanted 8) a0.Cut n < a2 n) = false := decide_eq_false (by have := (ge n hn).2; omega)
    simp only [hn', decide_true, if_true, ib_n hn, ibt, Option.bind_some, Int.toNat_natCast, e1, g1, g2, Bool.or_self, Bool.false_eq_true, if_false]) rfl]
  simp only [Option.bind_some, Fl.elim, same]
end Go.Proofs.Yteajgbkgijaebaa
