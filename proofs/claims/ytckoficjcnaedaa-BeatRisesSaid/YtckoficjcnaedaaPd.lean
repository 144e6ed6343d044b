/- Pure laws of chapter 08, the second half: that what was heard waits, and that a beat rises. Conditions: none. -/
import Derived.Test.YtckoficjcnaedaaPc
set_option linter.unusedVariables false
namespace Go.Proofs.Ytckoficjcnaedaa
open Go.Eng

theorem reach_far {p0 : api_Beat} {p1 p2 q : Int} {j : Nat} (hj : (j : Int) ≠ p1) (h : hearOk p0 p1 p2) : reachF (hearF p0 p1 p2).1 (-1) 0 q j = reachF p0 (-1) 0 q j := by
  have e : hearF p0 p1 p2 = ({ p0 with Heard := aupd p0.Heard p1.toNat p0.Now, Inc := aupd p0.Inc p1.toNat p2 }, true) := by rw [hearF, if_pos h]
  have hne : ¬ j = p1.toNat := by have := h.1; omega
  rw [e]
  simp only [reachF, rF, rc, aupd, if_neg hne]
  rfl
def aged (p0 : api_Beat) (n : Nat) : api_Beat := { p0 with Now := p0.Now + n }
theorem tick_aged (p0 : api_Beat) (n : Nat) (h0 : 0 ≤ p0.Now) (h : p0.Now + n < 4294967295) : tickF (aged p0 n) = aged p0 (n + 1) := by
  have h' : (aged p0 n).Now < 4294967295 := h
  rw [tickF, if_pos h', w32]
  simp only [aged, api_Beat.mk.injEq, and_true]
  omega
theorem reach_aged {p0 : api_Beat} {p1 p2 q : Int} {n : Nat} (h : hearOk p0 p1 p2) (hN : 0 ≤ p0.Now) (hn : p0.Now + n < 4294967295) : reachF (aged (hearF p0 p1 p2).1 n) (-1) 0 q p1.toNat = if (n : Int) ≤ q then p2 else 0 := by
  have e : hearF p0 p1 p2 = ({ p0 with Heard := aupd p0.Heard p1.toNat p0.Now, Inc := aupd p0.Inc p1.toNat p2 }, true) := by rw [hearF, if_pos h]
  obtain ⟨h1, h2, h3, h4, h5⟩ := h
  rw [e]
  have hlt : p1.toNat < 8 := by omega
  simp only [reachF, rF, rc, aged, aupd, if_true, hlt, true_and]
  rw [if_neg (by omega)]
  have e1 : IntKind.u32.wrap (p0.Now + n - p0.Now) = n := by rw [w32]; omega
  rw [e1]
  by_cases hq : (n : Int) ≤ q
  · rw [if_pos (by simp [hq, h4]; omega), if_pos hq]
  · rw [if_neg (by simp [hq]), if_neg hq]
theorem pure_beatWaits (a0 : api_Beat) (a1 : congresslaw08_Heard) (a2 : Int) (w0 : w_api_Beat a0) (w1 : w_congresslaw08_Heard a1) (w2 : (Lit.int .u32 a2).wf = true) : congresslaw08_BeatWaits a0 a1 a2 = some true := by
  have hN := wf_u32.1 w0.1
  have h2 := wf_u32.1 w2
  unfold congresslaw08_BeatWaits
  simp only [hear_eq, fixed_eq, Option.bind_some, lt, reach_eq]
  by_cases hv : ((((!true) || (!(hearF a0 a1.From a1.Inc).2)) || (decide (a2 > 200))) || (decide (a0.Now > 4000000000))) = true
  · rw [if_pos hv]
  rw [if_neg hv]
  simp only [Bool.not_true, Bool.false_or, Bool.or_eq_true, Bool.not_eq_true', decide_eq_true_eq, not_or, Bool.not_eq_false] at hv
  obtain ⟨⟨hv1, hv2⟩, hv3⟩ := hv
  have hk : hearOk a0 a1.From a1.Inc := by
    by_cases h : hearOk a0 a1.From a1.Inc
    · exact h
    · rw [hearF, if_neg h] at hv1; cases hv1
  have hk' := hk
  obtain ⟨k1, k2, k3, k4, k5⟩ := hk'
  have hNow : (hearF a0 a1.From a1.Inc).1.Now = a0.Now := by rw [hearF, if_pos hk]
  rw [loop_seq (s0 := 0) (fun n => (n : Int)) 8 (w := .nx ()) rfl (fun n hn => by
    have hn' : (n : Int) < 8 := by omega
    have e1 : IntKind.i64.wrap ((n : Int) + 1) = ((n + 1 : Nat) : Int) := by rw [w64] <;> omega
    simp only [hn', decide_true, if_true, ibg_t (g := ((n : Int) != a1.From)) (i := (n : Int)) (n := 8) (fun _ => by omega), Option.bind_some, Int.toNat_natCast, e1]
    by_cases hf : (n : Int) = a1.From
    · simp [hf]
    · rw [reach_far hf hk]; simp) (by simp)]
  simp only [Option.bind_some, Fl.elim]
  rw [loop_seq (s0 := (0, (hearF a0 a1.From a1.Inc).1)) (fun n => ((n : Int), aged (hearF a0 a1.From a1.Inc).1 n)) (a2.toNat + 3) (w := .nx ()) (by simp [aged]) (fun n hn => by
    have hb : a0.Now + n < 4294967295 := by omega
    have e0 : decide ((n : Int) ≤ IntKind.u32.wrap (a2 + 2)) = true := by rw [w32]; simp; omega
    have e1 : IntKind.u32.wrap ((n : Int) + 1) = ((n + 1 : Nat) : Int) := by rw [w32]; omega
    have ht := tick_aged (hearF a0 a1.From a1.Inc).1 n (by rw [hNow]; exact hN.1) (by rw [hNow]; exact hb)
    simp only [e0, if_true, Option.bind_some, e1, tick_eq, ht, reach_aged hk hN.1 hb]
    rw [ibg_t (fun _ => by omega), ibg_t (fun _ => by omega)]
    simp only [Option.bind_some]
    by_cases hq : (n : Int) ≤ a2
    · rw [if_pos hq, if_neg (by simp; omega)]
    · rw [if_neg hq, if_neg (by simp; omega)]) (by
      have e0 : decide (((a2.toNat + 3 : Nat) : Int) ≤ IntKind.u32.wrap (a2 + 2)) = false := by rw [w32]; simp; omega
      simp only [e0]
      rfl)]
  simp only [Option.bind_some, Fl.elim]
structure Inv (b : api_Beat) : Prop where
  now0 : 0 ≤ b.Now
  now1 : b.Now ≤ 4294967295
  cell : ∀ j, j < 8 → b.Heard j ≤ b.Now ∧ (b.Heard j = 0 ↔ b.Inc j = 0)
structure Up (b c : api_Beat) : Prop where
  inv : Inv c
  now : b.Now ≤ c.Now
  cell : ∀ j, j < 8 → b.Inc j ≤ c.Inc j ∧ b.Heard j ≤ c.Heard j
theorem up_tick {b : api_Beat} (h : Inv b) : Up b (tickF b) := by
  have h0 := h.now0
  unfold tickF
  split
  · have e : IntKind.u32.wrap (b.Now + 1) = b.Now + 1 := by rw [w32]; omega
    rw [e]
    exact ⟨⟨by simp only; omega, by simp only; omega, fun j hj => ⟨by have := (h.cell j hj).1; simp only; omega, (h.cell j hj).2⟩⟩, by simp only; omega, fun j _ => ⟨Int.le_refl _, Int.le_refl _⟩⟩
  · exact ⟨h, Int.le_refl _, fun j _ => ⟨Int.le_refl _, Int.le_refl _⟩⟩
theorem up_hear {b : api_Beat} (h : Inv b) (p1 p2 : Int) : Up b (hearF b p1 p2).1 := by
  unfold hearF
  split
  · rename_i hk
    obtain ⟨k1, k2, k3, k4, k5⟩ := hk
    refine ⟨⟨h.now0, h.now1, fun j hj => ?_⟩, Int.le_refl _, fun j hj => ?_⟩
    · simp only [aupd]
      by_cases hjp : j = p1.toNat
      · simp [hjp, k3, k4]
      · simp only [if_neg hjp]; exact h.cell j hj
    · simp only [aupd]
      by_cases hjp : j = p1.toNat
      · subst hjp; simp only [if_true]; exact ⟨k5, (h.cell _ hj).1⟩
      · simp [if_neg hjp]
  · exact ⟨h, Int.le_refl _, fun j _ => ⟨Int.le_refl _, Int.le_refl _⟩⟩
theorem rises_inner {b c : api_Beat} (h : Up b c) {β : Type} (w : Fl Bool Unit → β) (body : Int → Option (Stp Int (Fl Bool Unit)))
    (hb : ∀ n : Nat, n < 8 → (c.Inc n < b.Inc n → False) → (c.Heard n < b.Heard n → False) → (c.Heard n > c.Now → False) → ((c.Heard n == 0) = (c.Inc n == 0)) → body (n : Int) = some (.next ((n + 1 : Nat) : Int))) (hl : body ((8 : Nat) : Int) = some (.done (.nx ()))) : loop body 0 = some (.nx ()) := by
  refine loop_seq (fun n => (n : Int)) 8 rfl (fun n hn => ?_) hl
  have h1 := h.cell n hn
  have h2 := h.inv.cell n hn
  refine hb n hn (by omega) (by omega) (by omega) ?_
  rw [Bool.eq_iff_iff]; simpa using h2.2
theorem pure_beatRises (a0 : (_root_.List congresslaw08_Heard)) (w0 : a0.length ≤ maxLen ∧ ∀ j, j < a0.length → w_congresslaw08_Heard (a0.getD j z_congresslaw08_Heard)) : congresslaw08_BeatRises a0 = some true := by
  unfold congresslaw08_BeatRises
  have hm : a0.length ≤ 9223372036854775807 := w0.1
  have main : ∀ (body : Int × api_Beat → Option (Stp (Int × api_Beat) (Fl Bool Unit))) (_ : ∀ n b, n < min a0.length 300 → Inv b → ∃ c, body ((n : Int), b) = some (.next (((n + 1 : Nat) : Int), c)) ∧ Inv c) (_ : ∀ b, body (((min a0.length 300 : Nat) : Int), b) = some (.done (.nx ()))),
      loop body (0, z_api_Beat) = some (.nx ()) := by
    intro body h1 h2
    obtain ⟨w, hw, hp⟩ := loop_count (body := body) (fun n s => s.1 = n ∧ Inv s.2) (fun w => w = .nx ()) (min a0.length 300) (s0 := (0, z_api_Beat)) ⟨rfl, ⟨by decide, by decide, fun j _ => ⟨by simp [z_api_Beat], by simp [z_api_Beat]⟩⟩⟩
      (fun n s hn hs => by
        obtain ⟨i, b⟩ := s
        obtain ⟨rfl, hb⟩ := hs
        obtain ⟨c, e, hc⟩ := h1 n b hn hb
        exact .inl ⟨_, e, rfl, hc⟩)
      (fun s hs => by
        obtain ⟨i, b⟩ := s
        obtain ⟨rfl, hb⟩ := hs
        exact ⟨_, h2 b, rfl⟩)
    rw [hw, hp]
  have e0 : ({ Now := 0, Heard := (fun _ => 0), Inc := (fun _ => 0) } : api_Beat) = z_api_Beat := rfl
  rw [e0, main _ (fun n b hn hb => ?_) (fun b => ?_)]
  · simp only [Option.bind_some, Fl.elim, fixed_eq]
  · have hn1 : (n : Int) < (a0.length : Int) := by omega
    have hn2 : (n : Int) < 300 := by omega
    have hn3 : n < a0.length := by omega
    have e1 : IntKind.i64.wrap ((n : Int) + 1) = ((n + 1 : Nat) : Int) := by rw [w64] <;> omega
    simp only [hn1, hn2, decide_true, Bool.and_self, if_true, tick_eq, hear_eq, Option.bind_some, ib_n hn3, jn, e1, Int.toNat_natCast]
    have inner : ∀ c, Up b c → ∃ d, (if (decide (c.Now < b.Now)) = true then (some (Stp.done (Fl.rt false)) : Option (Stp (Int × api_Beat) (Fl Bool Unit))) else
        (loop (ω := Fl (Bool) (Unit)) (fun (x12 : Int) =>
            if (decide (x12 < 8)) then
              (ib x12 8).bind fun _ =>
              (ib x12 8).bind fun _ =>
              (ibg (!(decide ((c.Inc x12.toNat) < (b.Inc x12.toNat)))) x12 8).bind fun _ =>
              (ibg (!(decide ((c.Inc x12.toNat) < (b.Inc x12.toNat)))) x12 8).bind fun _ =>
              (ibg (!((decide ((c.Inc x12.toNat) < (b.Inc x12.toNat))) || (decide ((c.Heard x12.toNat) < (b.Heard x12.toNat))))) x12 8).bind fun _ =>
              (ibg (!(((decide ((c.Inc x12.toNat) < (b.Inc x12.toNat))) || (decide ((c.Heard x12.toNat) < (b.Heard x12.toNat)))) || (decide ((c.Heard x12.toNat) > c.Now)))) x12 8).bind fun _ =>
              (ibg (!(((decide ((c.Inc x12.toNat) < (b.Inc x12.toNat))) || (decide ((c.Heard x12.toNat) < (b.Heard x12.toNat)))) || (decide ((c.Heard x12.toNat) > c.Now)))) x12 8).bind fun _ =>
              lt (((((decide ((c.Inc x12.toNat) < (b.Inc x12.toNat))) || (decide ((c.Heard x12.toNat) < (b.Heard x12.toNat)))) || (decide ((c.Heard x12.toNat) > c.Now))) || (((c.Heard x12.toNat) == 0) != ((c.Inc x12.toNat) == 0))) : Bool) fun v21 =>
              if v21 then
                some (.done (.rt false))
              else
                some (.next ((IntKind.i64.wrap (x12 + 1))))
            else
              some (.done (.nx ()))) (0)).bind fun wn13 => Fl.elim wn13 (fun y22 =>
            some (Stp.next (((n + 1 : Nat) : Int), c))) (fun r => some (.done (.rt r)))) = some (Stp.next (((n + 1 : Nat) : Int), d)) ∧ Inv d := by
      intro c hc
      refine ⟨c, ?_, hc.inv⟩
      rw [if_neg (by have := hc.now; simp; omega), rises_inner hc id _ (fun m hm8 k1 k2 k3 k4 => by
        have e2 : IntKind.i64.wrap ((m : Int) + 1) = ((m + 1 : Nat) : Int) := by rw [w64] <;> omega
        have g1 : decide (c.Inc m < b.Inc m) = false := by simpa using k1
        have g2 : decide (c.Heard m < b.Heard m) = false := by simpa using k2
        have g3 : decide (c.Heard m > c.Now) = false := by simpa using k3
        have hm8' : (m : Int) < 8 := by omega
        have ibt : ∀ g, ibg g (m : Int) 8 = some () := fun g => ibg_t (fun _ => by omega)
        simp only [hm8', decide_true, if_true, ib_n hm8, ibt, Option.bind_some, Int.toNat_natCast, lt, g1, g2, g3, k4, bne_self_eq_false, Bool.or_self, e2, Bool.false_eq_true, if_false]) (by simp)]
      rfl
    by_cases hf : (a0.getD n z_congresslaw08_Heard).From ≥ 0
    · simp only [hf, decide_true, if_true]
      have hs : ((!(hearF b (a0.getD n z_congresslaw08_Heard).From (a0.getD n z_congresslaw08_Heard).Inc).2) && (!(b_api_Beat (hearF b (a0.getD n z_congresslaw08_Heard).From (a0.getD n z_congresslaw08_Heard).Inc).1 b))) = false := by
        unfold hearF
        split <;> simp [brefl]
      simp only [hs, Bool.false_eq_true, if_false]
      exact inner _ (up_hear hb _ _)
    · simp only [hf, decide_false, Bool.false_eq_true, if_false]
      exact inner _ (up_tick hb)
  · have : ((decide (((min a0.length 300 : Nat) : Int) < (a0.length : Int))) && (decide (((min a0.length 300 : Nat) : Int) < 300))) = false := by simp; omega
    simp only [this, Bool.false_eq_true, if_false]
end Go.Proofs.Ytckoficjcnaedaa
