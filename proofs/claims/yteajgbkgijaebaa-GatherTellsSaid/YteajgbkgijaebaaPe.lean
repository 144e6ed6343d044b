/- Pure laws of chapter 12: what is gathered rises. Conditions: none. -/
import Derived.Test.YteajgbkgijaebaaPd
set_option linter.unusedVariables false
set_option linter.unusedSimpArgs false
namespace Go.Proofs.Yteajgbkgijaebaa
open Go.Eng
theorem cmp_self (p : api_Id) : cmpId p p = 0 := cmp_z.2 rfl
theorem rises_loop {v p : api_Peer} (h : ∀ j, j < 8 → p.Cut j ≤ v.Cut j) : (loop (ω := Fl (Bool) (Unit)) (fun (x13 : Int) =>
            if (decide (x13 < 8)) then
              (ib x13 8).bind fun _ =>
              (ib x13 8).bind fun _ =>
              if (decide ((v.Cut x13.toNat) < (p.Cut x13.toNat))) then
                some (.done (.rt false))
              else
                some (.next ((IntKind.i64.wrap (x13 + 1))))
            else
              some (.done (.nx ()))) (0)) = some (.nx ()) := by
  refine loop_seq (fun n => (n : Int)) 8 rfl (fun n hn => ?_) rfl
  have hn' : (n : Int) < 8 := by omega
  have e1 : IntKind.i64.wrap ((n : Int) + 1) = ((n + 1 : Nat) : Int) := by rw [w64] <;> omega
  have e2 : decide (v.Cut n < p.Cut n) = false := decide_eq_false (by have := h n hn; omega)
  simp only [hn', decide_true, if_true, ib_n hn, Option.bind_some, Int.toNat_natCast, e1, e2, Bool.false_eq_true, if_false]
theorem ready_or (a b : Bool) : ((a || b) || !a) = true := by cases a <;> cases b <;> rfl
theorem pure_gatherRises (a0 : api_Peer) (a1 : api_Packet) (w0 : w_api_Peer a0) (w1 : w_api_Packet a1) : congresslaw12_GatherRises a0 a1 = some true := by
  unfold congresslaw12_GatherRises
  simp only [upd_eq, fixed_eq, Option.bind_some, rcmp_eq, Bool.not_true, Bool.false_or]
  have same : ∀ v : api_Peer, v.Inc = a0.Inc → v.Promise = a0.Promise → v.Conf = a0.Conf → (∀ j, j < 8 → a0.Cut j ≤ v.Cut j) → (v.Ready || !a0.Ready) = true →
      (if (decide (v.Inc < a0.Inc)) = true then some false else if (decide (v.Inc > a0.Inc)) = true then some (v.Inc == a1.Inc) else
        if (cmpId v.Promise a0.Promise != 0) = true then some (cmpId v.Promise a0.Promise == 1) else
        if (cmpId v.Conf a0.Conf != 0) = true then some ((cmpId v.Conf a0.Conf == 1) && (v.Ready || (!a0.Ready))) else
        (loop (ω := Fl (Bool) (Unit)) (fun (x13 : Int) =>
            if (decide (x13 < 8)) then
              (ib x13 8).bind fun _ =>
              (ib x13 8).bind fun _ =>
              if (decide ((v.Cut x13.toNat) < (a0.Cut x13.toNat))) then
                some (.done (.rt false))
              else
                some (.next ((IntKind.i64.wrap (x13 + 1))))
            else
              some (.done (.nx ()))) (0)).bind fun wn14 => Fl.elim wn14 (fun y17 =>
            some (v.Ready || (!a0.Ready))) (fun r => some r)) = some true := by
    intro v h1 h2 h3 h4 h5
    rw [rises_loop h4, h1, h2, h3, cmp_self, cmp_self, h5]
    have e : decide (a0.Inc < a0.Inc) = false := decide_eq_false (by omega)
    have e' : decide (a0.Inc > a0.Inc) = false := decide_eq_false (by omega)
    rw [e]; rfl
  have hr0 : (a0.Ready || !a0.Ready) = true := by cases a0.Ready <;> rfl
  unfold updF
  by_cases c1 : a1.Inc < a0.Inc
  · simp only [if_pos c1]; exact same a0 rfl rfl rfl (fun j _ => Int.le_refl _) hr0
  simp only [if_neg c1]
  by_cases c2 : a1.Inc > a0.Inc ∨ cmpId a1.Promise a0.Promise > 0
  · simp only [if_pos c2]
    rw [if_neg (by simpa using c1)]
    by_cases c3 : a1.Inc > a0.Inc
    · rw [if_pos (by simpa using c3)]; simp
    · have := cmp_r a1.Promise a0.Promise
      have c4 : cmpId a1.Promise a0.Promise = 1 := by omega
      rw [if_neg (by simpa using c3), c4]; rfl
  simp only [if_neg c2]
  by_cases c3 : cmpId a1.Promise a0.Promise < 0
  · simp only [if_pos c3]; exact same a0 rfl rfl rfl (fun j _ => Int.le_refl _) hr0
  simp only [if_neg c3]
  by_cases c4 : cmpId a1.Conf a0.Conf = 1
  · simp only [if_pos c4]
    have e : decide (a0.Inc < a0.Inc) = false := decide_eq_false (by omega)
    have e' : decide (a0.Inc > a0.Inc) = false := decide_eq_false (by omega)
    rw [e, cmp_self, c4]
    simp [ready_or]
  simp only [if_neg c4]
  by_cases c5 : cmpId a1.Conf a0.Conf = 0
  · simp only [if_pos c5]
    refine same { a0 with Cut := mxF (mxF (fun _ => 0) a0.Cut 8) a1.Count 8, Ready := a0.Ready || a1.Ready } rfl rfl rfl (fun j hj => ?_) (ready_or _ _)
    have := wf_u32.1 (w0.2.2.2.1 j hj)
    simp only [mxF, hj, true_and]
    split <;> split <;> omega
  simp only [if_neg c5]
  exact same { a0 with Ready := a0.Ready || a1.Ready } rfl rfl rfl (fun j _ => Int.le_refl _) (ready_or _ _)
end Go.Proofs.Yteajgbkgijaebaa
