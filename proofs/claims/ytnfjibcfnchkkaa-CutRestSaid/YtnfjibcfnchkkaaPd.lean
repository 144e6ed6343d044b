/- Chapter 11: what is missing and what is left, as the document finds it, one place after the other. Conditions: none. -/
import Derived.Test.YtnfjibcfnchkkaaPc
set_option linter.unusedVariables false
set_option linter.unusedSimpArgs false
namespace Go.Proofs.Ytnfjibcfnchkkaa
open Go.Eng R9
def missFr (a : Nat → Int) (i : Int) : Int := a i.toNat + 1
theorem missing_eq {a b m : Nat → Int} (ha : U32 a) (hb : U32 b) : ∃ P, cut_Missing a b m = some P ∧ First P 100 (Sp m (missFr a) b) := by
  obtain ⟨P, h1, h2⟩ := places_eq (m := m) (last := b) (f := fun z0 => cut_Missing_1 z0 a) (fr := missFr a) (fun i hi => by
    obtain ⟨j, rfl, hj, _⟩ := listF_in.1 hi
    have hw := wf_u32.1 (ha j hj)
    have e1 : IntKind.u64.wrap (a j) = a j := by rw [wu64]; omega
    have e2 : IntKind.u64.wrap (a j + 1) = a j + 1 := by rw [wu64]; omega
    simp only [cut_Missing_1, ib_n hj, Option.bind_some, Int.toNat_natCast, e1, e2, missFr]
    exact ⟨trivial, by omega, by omega⟩) hb
  exact ⟨P, by unfold cut_Missing; rw [h1]; rfl, h2⟩
def restFr (g : api_Place) (i : Int) : Int := if (if befF (pl i g.Round) g = true then g.Round + 1 else g.Round) < 1 then 1 else (if befF (pl i g.Round) g = true then g.Round + 1 else g.Round)
theorem rest_eq {g : api_Place} {b m : Nat → Int} (hg : (Lit.int .u32 g.Round).wf = true) (hb : U32 b) : ∃ P, cut_Rest g b m = some P ∧ First P 100 (Sp m (restFr g) b) := by
  have hw := wf_u32.1 hg
  obtain ⟨P, h1, h2⟩ := places_eq (m := m) (last := b) (f := fun z0 => cut_Rest_1 z0 g) (fr := restFr g) (fun i hi => by
    have e1 : IntKind.u64.wrap g.Round = g.Round := by rw [wu64]; omega
    have e2 : IntKind.u64.wrap (g.Round + 1) = g.Round + 1 := by rw [wu64]; omega
    have ep : ({ Round := g.Round, From := i, Slot := 0 } : api_Place) = pl i g.Round := rfl
    simp only [cut_Rest_1, ep, before_eq, Option.bind_some, jn, e1, e2]
    refine ⟨?_, ?_, ?_⟩
    · unfold restFr; split <;> rfl
    · unfold restFr; split <;> omega
    · unfold restFr
      split
      · omega
      · split <;> omega) hb
  exact ⟨P, by unfold cut_Rest; rw [h1]; rfl, h2⟩
theorem pl_bef {i r : Int} {g : api_Place} : Bef (pl i r) g ↔ r < g.Round ∨ (r = g.Round ∧ (i < g.From ∨ (i = g.From ∧ 0 < g.Slot))) := by
  unfold Bef; rw [bef_iff]; rfl
theorem restFr_le {g : api_Place} {i r : Int} : restFr g i ≤ r ↔ 1 ≤ r ∧ ¬ Bef (pl i r) g := by
  have h0 : befF (pl i g.Round) g = true ↔ Bef (pl i g.Round) g := Iff.rfl
  rw [pl_bef] at h0 ⊢
  unfold restFr
  by_cases hb : befF (pl i g.Round) g = true
  · rw [if_pos hb]
    have := h0.1 hb
    split <;> omega
  · rw [if_neg hb]
    have : ¬ (g.Round < g.Round ∨ (g.Round = g.Round ∧ (i < g.From ∨ (i = g.From ∧ 0 < g.Slot)))) := fun q => hb (h0.2 q)
    split <;> omega
theorem pl_of {s : api_Place} (h : s.Slot = 0) : s = pl s.From s.Round := by
  cases s; simp only [pl, api_Place.mk.injEq] at *; exact ⟨trivial, trivial, h⟩
/-- What is behind a low line, and not above a high one. -/
def Base (low most m : Nat → Int) (s : api_Place) : Prop := Sp m (missFr low) most s
theorem rest_iff {g : api_Place} {b m : Nat → Int} {s : api_Place} : Sp m (restFr g) b s ↔ Base (fun _ => 0) b m s ∧ ¬ Bef s g := by
  unfold Base Sp missFr
  dsimp only
  constructor
  · rintro ⟨h1, h2, h3, h4, h5, h6⟩
    rw [restFr_le, ← pl_of h1] at h5
    exact ⟨⟨h1, h2, h3, h4, by omega, h6⟩, h5.2⟩
  · rintro ⟨⟨h1, h2, h3, h4, h5, h6⟩, h7⟩
    refine ⟨h1, h2, h3, h4, ?_, h6⟩
    rw [restFr_le, ← pl_of h1]
    exact ⟨by omega, h7⟩
def Qn (at_ : api_Place) (same : Bool) (low most m : Nat → Int) (s : api_Place) : Prop := Base low most m s ∧ ¬ Bef s at_ ∧ (s = at_ → same = true)
theorem next_eq {at_ : api_Place} {same : Bool} {low most m : Nat → Int} (hat : (Lit.int .u32 at_.Round).wf = true) (hlow : U32 low) (hmost : U32 most) (hm : U32 m) :
    ∃ p b, congressref11_Next at_ same low most m = some (p, b) ∧ (b = true → Qn at_ same low most m p ∧ ∀ s, Qn at_ same low most m s → s = p ∨ Bef p s) ∧ (b = false → ∀ s, ¬ Qn at_ same low most m s) := by
  have hR := wf_u32.1 hat
  have hl8 := listF_len m 8
  unfold congressref11_Next
  rw [rlist_eq hm]
  simp only [Option.bind_some]
  obtain ⟨w, hw, x, hx, h1, h2⟩ := loop_count (ω := Fl (api_Place × Bool) (Bool × api_Place)) (body := (fun (x3 : Bool × Int × api_Place) =>
    if (decide (x3.2.1 < ((listF m 8).length : Int))) then
      jn (fun x24 : Bool × api_Place =>
        some (.next (x24.1, (IntKind.i64.wrap (x3.2.1 + 1)), x24.2))) fun j5 =>
      (ib x3.2.1 (listF m 8).length).bind fun _ =>
      (ib ((listF m 8).getD x3.2.1.toNat 0) 8).bind fun _ =>
      lt ((decide ((IntKind.u64.wrap (at_.Round)) ≤ (IntKind.u64.wrap (low (((listF m 8).getD x3.2.1.toNat 0).toNat))))) : Bool) fun v8 =>
      jn (fun x11 : Int =>
        lt (({ Round := (IntKind.u32.wrap (x11)), From := (listF m 8).getD x3.2.1.toNat 0, Slot := 0 } : api_Place) : api_Place) fun v12 =>
        (loop (ω := Fl (api_Place × Bool) (Int × api_Place)) (fun (x13 : Int × api_Place) =>
          (ib ((listF m 8).getD x3.2.1.toNat 0) 8).bind fun _ =>
          (whn (decide (x13.1 ≤ (IntKind.u64.wrap (most (((listF m 8).getD x3.2.1.toNat 0).toNat))))) (congressref09_Before x13.2 at_) false).bind fun v16 =>
          lt (((decide (x13.1 ≤ (IntKind.u64.wrap (most (((listF m 8).getD x3.2.1.toNat 0).toNat))))) && (v16 || ((b_api_Place x13.2 at_) && (!same)))) : Bool) fun v18 =>
          if v18 then
            some (.next ((IntKind.u64.wrap (x13.1 + 1)), { x13.2 with Round := (IntKind.u32.wrap ((IntKind.u64.wrap (x13.1 + 1)))) }))
          else
            some (.done (.nx (x13.1, x13.2)))) (x11, v12)).bind fun wn14 => Fl.elim wn14 (fun y19 =>
          (ib ((listF m 8).getD x3.2.1.toNat 0) 8).bind fun _ =>
          (whn ((decide (y19.1 ≤ (IntKind.u64.wrap (most (((listF m 8).getD x3.2.1.toNat 0).toNat))))) && (!(!x3.1))) (congressref09_Before y19.2 x3.2.2) false).bind fun v21 =>
          lt (((decide (y19.1 ≤ (IntKind.u64.wrap (most (((listF m 8).getD x3.2.1.toNat 0).toNat))))) && ((!x3.1) || v21)) : Bool) fun v23 =>
          if v23 then
            j5 (true, y19.2)
          else
            j5 (x3.1, x3.2.2)) (fun r => some (.done (.rt r)))) fun j9 =>
      if v8 then
        (ib ((listF m 8).getD x3.2.1.toNat 0) 8).bind fun _ =>
        j9 ((IntKind.u64.wrap ((IntKind.u64.wrap (low (((listF m 8).getD x3.2.1.toNat 0).toNat))) + 1)))
      else
        j9 ((IntKind.u64.wrap (at_.Round)))
    else
      some (.done (.nx (x3.1, x3.2.2)))))
    (fun n s => s.2.1 = (n : Int) ∧ (s.1 = true → Qn at_ same low most m s.2.2 ∧ ∀ z, Qn at_ same low most m z → z.From ∈ (listF m 8).take n → z = s.2.2 ∨ Bef s.2.2 z) ∧ (s.1 = false → ∀ z, Qn at_ same low most m z → ¬ z.From ∈ (listF m 8).take n))
    (fun w => ∃ x : Bool × api_Place, w = .nx x ∧ (x.1 = true → Qn at_ same low most m x.2 ∧ ∀ z, Qn at_ same low most m z → z = x.2 ∨ Bef x.2 z) ∧ (x.1 = false → ∀ z, ¬ Qn at_ same low most m z)) (listF m 8).length (s0 := (false, (0 : Int), ({ Round := 0, From := 0, Slot := 0 } : api_Place)))
    ⟨rfl, fun h => (by cases h), fun _ z _ h => (by simp at h)⟩
    (fun n s hn hs => by
      obtain ⟨fd, k, best⟩ := s
      obtain ⟨hk, g1, g2⟩ := hs
      simp only at hk g1 g2
      subst hk
      left
      have hn' : (n : Int) < ((listF m 8).length : Int) := by omega
      have e1 : IntKind.i64.wrap ((n : Int) + 1) = ((n + 1 : Nat) : Int) := by rw [w64] <;> omega
      obtain ⟨j, hj, hj8, hjm⟩ := listF_in.1 (getD_in (d := (0 : Int)) hn)
      have wl := wf_u32.1 (hlow j hj8)
      have wm := wf_u32.1 (hmost j hj8)
      have e2 : IntKind.u64.wrap at_.Round = at_.Round := by rw [wu64]; omega
      have e3 : IntKind.u64.wrap (low j) = low j := by rw [wu64]; omega
      have e4 : IntKind.u64.wrap (most j) = most j := by rw [wu64]; omega
      have e5 : IntKind.u64.wrap (low j + 1) = low j + 1 := by rw [wu64]; omega
      have htk : (listF m 8).take (n + 1) = (listF m 8).take n ++ [(j : Int)] := by rw [take_s (d := (0 : Int)) hn, hj]
      obtain ⟨r0, hr0⟩ : ∃ r0, r0 = if at_.Round ≤ low j then low j + 1 else at_.Round := ⟨_, rfl⟩
      have r0b : at_.Round ≤ r0 ∧ low j + 1 ≤ r0 ∧ r0 ≤ 4294967296 ∧ (r0 = at_.Round ∨ r0 = low j + 1) := by rw [hr0]; split <;> omega
      -- the member's first
      have inner : ∃ r1, loop (ω := Fl (api_Place × Bool) (Int × api_Place)) (fun (x13 : Int × api_Place) =>
          (ib (j : Int) 8).bind fun _ =>
          (whn (decide (x13.1 ≤ most j)) (congressref09_Before x13.2 at_) false).bind fun v16 =>
          lt (((decide (x13.1 ≤ most j)) && (v16 || ((b_api_Place x13.2 at_) && (!same)))) : Bool) fun v18 =>
          if v18 then
            some (.next ((IntKind.u64.wrap (x13.1 + 1)), { x13.2 with Round := (IntKind.u32.wrap ((IntKind.u64.wrap (x13.1 + 1)))) }))
          else
            some (.done (.nx (x13.1, x13.2)))) (r0, { Round := IntKind.u32.wrap r0, From := (j : Int), Slot := 0 }) = some (.nx (r1, pl (j : Int) (IntKind.u32.wrap r1))) ∧
          (r1 ≤ most j → Qn at_ same low most m (pl (j : Int) r1) ∧ IntKind.u32.wrap r1 = r1) ∧ (∀ z, Qn at_ same low most m z → z.From = (j : Int) → r1 ≤ z.Round) := by
        have low0 : ∀ z, Qn at_ same low most m z → z.From = (j : Int) → r0 ≤ z.Round := by
          rintro z ⟨⟨z1, z2, z3, z4, z5, z6⟩, z7, z8⟩ hz
          rw [pl_of z1, pl_bef] at z7
          unfold missFr at z5
          rw [hz, Int.toNat_natCast] at z5
          rcases r0b.2.2.2 with q | q <;> omega
        have inS : ∀ r, r0 ≤ r → r ≤ most j → ¬ Bef (pl (j : Int) r) at_ → (pl (j : Int) r = at_ → same = true) → Qn at_ same low most m (pl (j : Int) r) := by
          intro r q1 q2 q3 q4
          refine ⟨⟨rfl, by simp only [pl]; omega, by simp only [pl]; omega, by simpa [pl] using hjm, by simp only [pl, missFr, Int.toNat_natCast]; omega, by simpa [pl] using q2⟩, q3, q4⟩
        by_cases hC : r0 ≤ most j ∧ (befF (pl (j : Int) r0) at_ = true ∨ (pl (j : Int) r0 = at_ ∧ same = false))
        · have ew : IntKind.u32.wrap r0 = r0 := by rw [w32]; omega
          have ew2 : IntKind.u64.wrap (r0 + 1) = r0 + 1 := by rw [wu64]; omega
          have hge : r0 + 1 ≤ most j → IntKind.u32.wrap (r0 + 1) = r0 + 1 := fun h => by rw [w32]; omega
          have hnb : ¬ Bef (pl (j : Int) (r0 + 1)) at_ := by rw [pl_bef]; omega
          have hne : pl (j : Int) (r0 + 1) ≠ at_ := fun h => by
            have : (pl (j : Int) (r0 + 1)).Round = at_.Round := by rw [h]
            simp only [pl] at this; omega
          refine ⟨r0 + 1, ?_, fun h => ⟨inS _ (by omega) h hnb (fun q => absurd q hne), hge h⟩, fun z hz hzf => ?_⟩
          · have ep : ({ Round := IntKind.u32.wrap r0, From := (j : Int), Slot := 0 } : api_Place) = pl (j : Int) r0 := by rw [ew]; rfl
            rw [ep]
            rw [loop_nx (s' := (r0 + 1, pl (j : Int) (IntKind.u32.wrap (r0 + 1)))) (by
              simp only [ib_n hj8, Option.bind_some, whn, decide_eq_true hC.1, if_true, rbefore_eq, lt, Bool.true_and]
              have : (befF (pl (j : Int) r0) at_ || (b_api_Place (pl (j : Int) r0) at_ && !same)) = true := by
                rcases hC.2 with q | ⟨q1, q2⟩
                · rw [q]; rfl
                · rw [beqP.2 q1, q2]; simp
              rw [if_pos this, ew2]; rfl)]
            rw [loop_dn (w := .nx (r0 + 1, pl (j : Int) (IntKind.u32.wrap (r0 + 1)))) (by
              simp only [ib_n hj8, Option.bind_some, whn, rbefore_eq, lt]
              by_cases hq : r0 + 1 ≤ most j
              · have f1 : befF (pl (j : Int) (r0 + 1)) at_ = false := by
                  cases h : befF (pl (j : Int) (r0 + 1)) at_ with
                  | false => rfl
                  | true => exact absurd h hnb
                have f2 : b_api_Place (pl (j : Int) (r0 + 1)) at_ = false := by
                  cases h : b_api_Place (pl (j : Int) (r0 + 1)) at_ with
                  | false => rfl
                  | true => exact absurd (beqP.1 h) hne
                rw [hge hq, if_pos (decide_eq_true hq)]
                simp only [Option.bind_some, f1, f2, Bool.false_and, Bool.or_self, Bool.and_false, Bool.false_eq_true, if_false]
              · have : decide (r0 + 1 ≤ most j) = false := decide_eq_false hq
                simp only [this, Bool.false_and, Bool.false_eq_true, if_false, Option.bind_some])]
          · have h0 := low0 z hz hzf
            by_cases hq : z.Round = r0
            · exfalso
              obtain ⟨⟨z1, _⟩, z7, z8⟩ := hz
              have ez : z = pl (j : Int) r0 := by rw [pl_of z1, hzf, hq]
              rcases hC.2 with q | ⟨q1, q2⟩
              · rw [ez] at z7; exact z7 q
              · have := z8 (by rw [ez]; exact q1)
                rw [q2] at this; cases this
            · omega
        · refine ⟨r0, ?_, fun h => ?_, fun z hz hzf => low0 z hz hzf⟩
          · rw [loop_dn (w := .nx (r0, pl (j : Int) (IntKind.u32.wrap r0))) (by
              have ep : ({ Round := IntKind.u32.wrap r0, From := (j : Int), Slot := 0 } : api_Place) = pl (j : Int) (IntKind.u32.wrap r0) := rfl
              simp only [ib_n hj8, Option.bind_some, whn, rbefore_eq, lt, ep]
              by_cases hq : r0 ≤ most j
              · have ew : IntKind.u32.wrap r0 = r0 := by rw [w32]; omega
                have : (befF (pl (j : Int) r0) at_ || (b_api_Place (pl (j : Int) r0) at_ && !same)) = false := by
                  rw [Bool.eq_false_iff]
                  intro h
                  rw [Bool.or_eq_true, Bool.and_eq_true, beqP, Bool.not_eq_true'] at h
                  exact hC ⟨hq, h⟩
                rw [ew, if_pos (decide_eq_true hq)]
                simp only [Option.bind_some, this, Bool.and_false, Bool.false_eq_true, if_false]
              · have : decide (r0 ≤ most j) = false := decide_eq_false hq
                simp only [this, Bool.false_and, Bool.false_eq_true, if_false, Option.bind_some])]
          · refine ⟨inS _ (Int.le_refl _) h (fun q => hC ⟨h, .inl q⟩) (fun q => ?_), by rw [w32]; omega⟩
            cases hs : same with
            | true => rfl
            | false => exact absurd ⟨h, .inr ⟨q, hs⟩⟩ hC
      obtain ⟨r1, i1, i2, i3⟩ := inner
      simp only [ib_n hj8, Option.bind_some, lt] at i1
      have step : ∀ X, X = some (Stp.next (if (decide (r1 ≤ most j) && ((!fd) || befF (pl (j : Int) (IntKind.u32.wrap r1)) best)) = true then (true, ((n + 1 : Nat) : Int), pl (j : Int) (IntKind.u32.wrap r1)) else (fd, ((n + 1 : Nat) : Int), best)) : Stp (Bool × Int × api_Place) (Fl (api_Place × Bool) (Bool × api_Place))) →
        (∃ s', X = some (.next s') ∧ (s'.2.1 = ((n + 1 : Nat) : Int) ∧ (s'.1 = true → Qn at_ same low most m s'.2.2 ∧ ∀ z, Qn at_ same low most m z → z.From ∈ (listF m 8).take (n + 1) → z = s'.2.2 ∨ Bef s'.2.2 z) ∧ (s'.1 = false → ∀ z, Qn at_ same low most m z → ¬ z.From ∈ (listF m 8).take (n + 1)))) := by
        intro X hX
        refine ⟨_, hX, ?_⟩
        by_cases hq : r1 ≤ most j
        · obtain ⟨q1, q2⟩ := i2 hq
          rw [q2]
          have hmin : ∀ z, Qn at_ same low most m z → z.From = (j : Int) → z = pl (j : Int) r1 ∨ Bef (pl (j : Int) r1) z := by
            intro z hz hzf
            have h5 := i3 z hz hzf
            have ez : z = pl (j : Int) z.Round := by have := pl_of hz.1.1; rw [hzf] at this; exact this
            by_cases h6 : z.Round = r1
            · left; rw [ez, h6]
            · right; rw [pl_bef]; left; omega
          rw [decide_eq_true hq]
          cases fd with
          | false =>
            rw [if_pos (by rfl)]; refine ⟨rfl, fun _ => ⟨q1, fun z hz hzf => ?_⟩, fun h => (by cases h)⟩
            rw [htk, List.mem_append] at hzf
            rcases hzf with h | h
            · exact absurd h (g2 rfl z hz)
            · exact hmin z hz (by simpa using h)
          | true =>
            obtain ⟨k1, k2⟩ := g1 rfl
            by_cases hb : befF (pl (j : Int) r1) best = true
            · rw [if_pos (by rw [hb]; rfl)]; refine ⟨rfl, fun _ => ⟨q1, fun z hz hzf => ?_⟩, fun h => (by cases h)⟩
              rw [htk, List.mem_append] at hzf
              rcases hzf with h | h
              · rcases k2 z hz h with q | q
                · right; rw [q]; exact hb
                · exact .inr (Bef.tr hb q)
              · exact hmin z hz (by simpa using h)
            · rw [if_neg (by simpa using hb)]; refine ⟨rfl, fun _ => ⟨k1, fun z hz hzf => ?_⟩, fun h => (by cases h)⟩
              rw [htk, List.mem_append] at hzf
              rcases hzf with h | h
              · exact k2 z hz h
              · have hbt : best = pl (j : Int) r1 ∨ Bef best (pl (j : Int) r1) := by
                  rcases bef_tri best (pl (j : Int) r1) with q | q | q
                  · exact .inr q
                  · exact absurd q hb
                  · exact .inl q
                rcases hmin z hz (by simpa using h) with q | q <;> rcases hbt with q' | q'
                · left; rw [q, q']
                · right; rw [q]; exact q'
                · right; rw [q']; exact q
                · exact .inr (Bef.tr q' q)
        · rw [decide_eq_false hq]
          have hno : ∀ z, Qn at_ same low most m z → z.From ≠ (j : Int) := by
            intro z hz hzf
            have h5 := i3 z hz hzf
            have h6 := hz.1.2.2.2.2.2
            rw [hzf, Int.toNat_natCast] at h6
            omega
          rw [if_neg (by simp)]; refine ⟨rfl, fun h => ⟨(g1 h).1, fun z hz hzf => ?_⟩, fun h z hz hzf => ?_⟩
          · rw [htk, List.mem_append] at hzf
            rcases hzf with h' | h'
            · exact (g1 h).2 z hz h'
            · exact absurd (by simpa using h') (hno z hz)
          · rw [htk, List.mem_append] at hzf
            rcases hzf with h' | h'
            · exact g2 h z hz h'
            · exact absurd (by simpa using h') (hno z hz)
      refine step _ ?_
      simp only [hn', decide_true, if_true, ib_n hn, Option.bind_some, Int.toNat_natCast, hj, ib_n hj8, e1, e2, e3, e4, lt, jn]
      by_cases hq : at_.Round ≤ low j
      · rw [if_pos (decide_eq_true hq), e5]
        rw [if_pos hq] at hr0
        rw [← hr0, i1]
        simp only [Option.bind_some, Fl.elim, whn, rbefore_eq, Bool.not_not]
        cases decide (r1 ≤ most j) <;> cases fd <;> simp only [Bool.true_and, Bool.false_and, Bool.not_true, Bool.not_false, if_true, if_false, Bool.false_eq_true, Option.bind_some, Bool.true_or, Bool.false_or]
        split <;> rfl
      · rw [if_neg (by simpa using hq)]
        rw [if_neg hq] at hr0
        rw [← hr0, i1]
        simp only [Option.bind_some, Fl.elim, whn, rbefore_eq, Bool.not_not]
        cases decide (r1 ≤ most j) <;> cases fd <;> simp only [Bool.true_and, Bool.false_and, Bool.not_true, Bool.not_false, if_true, if_false, Bool.false_eq_true, Option.bind_some, Bool.true_or, Bool.false_or]
        split <;> rfl)
    (fun s hs => by
      obtain ⟨fd, k, best⟩ := s
      obtain ⟨hk, g1, g2⟩ := hs
      simp only at hk g1 g2
      subst hk
      have all : ∀ z, Qn at_ same low most m z → z.From ∈ (listF m 8).take (listF m 8).length := by
        intro z hz
        rw [List.take_length]
        obtain ⟨z1, z2, z3, z4, _, _⟩ := hz.1
        exact listF_in.2 ⟨z.From.toNat, by omega, by omega, z4⟩
      refine ⟨.nx (fd, best), by simp only [Int.lt_irrefl, decide_false, Bool.false_eq_true, if_false], (fd, best), rfl, fun h => ⟨(g1 h).1, fun z hz => (g1 h).2 z hz (all z hz)⟩, fun h z hz => g2 h z hz (all z hz)⟩)
  refine ⟨x.2, x.1, ?_, h1, h2⟩
  rw [hw]
  subst hx
  rfl
end Go.Proofs.Ytnfjibcfnchkkaa
