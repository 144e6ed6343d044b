/- Pure laws of chapter 12: a proposal is made once. Conditions: none. -/
import Derived.Test.YteajgbkgijaebaaPe
set_option linter.unusedVariables false
set_option linter.unusedSimpArgs false
namespace Go.Proofs.Yteajgbkgijaebaa
open Go.Eng
def adoptF (p0 : api_Id) (p1 p2 : Int) (p3 : api_Packet) : Bool := decide (cmpId p3.Promise p0 > 0) && hasF p3.Wanted p1 p2
theorem adopt_eq (p0 : api_Id) (p1 p2 : Int) (p3 : api_Packet) : gather_Adopt p0 p1 p2 p3 = some (adoptF p0 p1 p2 p3) := by
  unfold gather_Adopt adoptF
  simp only [cmp_eq, has_eq, Option.bind_some, whn]
  by_cases h : decide (cmpId p3.Promise p0 > 0) = true
  · rw [if_pos h]; rfl
  · rw [if_neg h]
    simp only [Bool.not_eq_true] at h
    simp only [h, Option.bind_some, Bool.false_and]
theorem pure_gatherOnce (a0 : api_Core) (a1 : api_Packet) (a2 : (Nat → Int)) (w0 : w_api_Core a0) (w1 : w_api_Packet a1) (w2 : ∀ j, j < 8 → (Lit.int .u32 (a2 j)).wf = true) : congresslaw12_GatherOnce a0 a1 a2 = some true := by
  have hE : 0 ≤ a0.Epoch ∧ a0.Epoch ≤ 4294967295 := wf_u32.1 w0.2.2.2.2.2.2.2.2.2.2.2.2.2
  unfold congresslaw12_GatherOnce
  simp only [fixed_eq, Option.bind_some, Bool.not_true, Bool.false_or, adopt_eq, rcmp_eq, prop_eq, lt]
  by_cases hs : ((decide (a0.Self < 0)) || (decide (a0.Self > 7))) = true
  · rw [if_pos hs]
  rw [if_neg hs]
  simp only [Bool.or_eq_true, decide_eq_true_eq, not_or] at hs
  have h7 : adoptF a1.Promise a0.Self a0.Own a1 = false := by simp [adoptF, cmp_self]
  simp only [h7, whn, Bool.not_false, Bool.and_true]
  have hc : adoptF a0.Promise a0.Self a0.Own a1 = true → cmpId a1.Promise a0.Promise = 1 := by
    intro h
    simp only [adoptF, Bool.and_eq_true, decide_eq_true_eq] at h
    have := cmp_r a1.Promise a0.Promise; omega
  have fin : (if (!(propF a0 a2).2) = true then some (b_api_Id (propF a0 a2).1 { Epoch := 0, Coord := 0, Inc := 0 }) else
      if (decide (a0.Epoch < a0.Promise.Epoch)) = true then some true else
        (loop (ω := Fl (Bool) (Unit)) (fun (x14 : Int) =>
            if (decide (x14 < 8)) then
              (ib x14 8).bind fun _ =>
              if (decide ((((a0.Peers x14.toNat).Promise).Epoch) > a0.Epoch)) then
                some (.done (.rt true))
              else
                some (.next ((IntKind.i64.wrap (x14 + 1))))
            else
              some (.done (.nx ()))) (0)).bind fun wn15 => Fl.elim wn15 (fun y17 =>
            some ((cmpId (propF a0 a2).1 a0.Promise == 1) && (!(propF { { { a0 with Epoch := (propF a0 a2).1.Epoch } with Promise := (propF a0 a2).1 } with Wanted := a2 } a2).2))) (fun r => some r)) = some true := by
    by_cases hp : ((((!(leastF a2).2) || ((leastF a2).1 != a0.Self)) || (a0.Epoch == 4294967295)) || standsF a0 a2) = true
    · have e : propF a0 a2 = ({ Epoch := 0, Coord := 0, Inc := 0 }, false) := by rw [propF, if_pos hp]
      rw [e]; simp [breflId]
    · have e : propF a0 a2 = ({ Epoch := (IntKind.u32.wrap (a0.Epoch + 1)), Coord := (IntKind.u32.wrap (a0.Self)), Inc := a0.Own }, true) := by rw [propF, if_neg hp]
      simp only [Bool.or_eq_true, beq_iff_eq, not_or] at hp
      have hEp : a0.Epoch ≠ 4294967295 := hp.1.2
      have e1 : IntKind.u32.wrap (a0.Epoch + 1) = a0.Epoch + 1 := by rw [w32]; omega
      have e2 : IntKind.u32.wrap a0.Self = a0.Self := by rw [w32]; omega
      rw [e, e1, e2]
      simp only [Bool.not_true, Bool.false_eq_true, if_false]
      by_cases hl : a0.Epoch < a0.Promise.Epoch
      · rw [if_pos (decide_eq_true hl)]
      rw [if_neg (by simpa using hl)]
      by_cases hex : ∀ j, j < 8 → ¬ ((a0.Peers j).Promise.Epoch > a0.Epoch)
      · rw [loop_seq (s0 := 0) (fun n => (n : Int)) 8 (w := .nx ()) rfl (fun n hn => by
          have hn' : (n : Int) < 8 := by omega
          have e1 : IntKind.i64.wrap ((n : Int) + 1) = ((n + 1 : Nat) : Int) := by rw [w64] <;> omega
          have e2 : decide ((a0.Peers n).Promise.Epoch > a0.Epoch) = false := decide_eq_false (hex n hn)
          simp only [hn', decide_true, if_true, ib_n hn, Option.bind_some, Int.toNat_natCast, e1, e2, Bool.false_eq_true, if_false]) rfl]
        simp only [Option.bind_some, Fl.elim]
        have g1 : cmpId { Epoch := a0.Epoch + 1, Coord := a0.Self, Inc := a0.Own } a0.Promise = 1 := by
          have h := (@cmp_gt { Epoch := a0.Epoch + 1, Coord := a0.Self, Inc := a0.Own } a0.Promise).2 (.inl (by simp only; omega))
          have := cmp_r { Epoch := a0.Epoch + 1, Coord := a0.Self, Inc := a0.Own } a0.Promise
          omega
        have g2 : standsF { { { a0 with Epoch := a0.Epoch + 1 } with Promise := ({ Epoch := a0.Epoch + 1, Coord := a0.Self, Inc := a0.Own } : api_Id) } with Wanted := a2 } a2 = true := by
          unfold standsF
          have e3 : IntKind.i64.wrap a0.Self = a0.Self := by rw [w64] <;> omega
          simp only [e3, bne_self_eq_false, brefl8, Bool.not_true, Bool.or_self, Bool.false_eq_true, if_false]
          rw [List.all_eq_true]
          intro x hx
          obtain ⟨j, rfl, hj, _⟩ := listF_in.1 hx
          have h9 := hex j hj
          have h8 : decide (cmpId (a0.Peers j).Promise { Epoch := a0.Epoch + 1, Coord := a0.Self, Inc := a0.Own } > 0) = false := by
            refine decide_eq_false ?_
            rw [cmp_gt]; simp only; omega
          simp only [Int.toNat_natCast, h8, Bool.and_false, Bool.not_false]
        have g3 : (propF { { { a0 with Epoch := a0.Epoch + 1 } with Promise := ({ Epoch := a0.Epoch + 1, Coord := a0.Self, Inc := a0.Own } : api_Id) } with Wanted := a2 } a2).2 = false := by
          unfold propF
          rw [g2, Bool.or_true, if_pos rfl]
        rw [g1, g3]; rfl
      · obtain ⟨w, hw, hp⟩ := loop_count (body := (fun (x14 : Int) =>
            if (decide (x14 < 8)) then
              (ib x14 8).bind fun _ =>
              if (decide ((((a0.Peers x14.toNat).Promise).Epoch) > a0.Epoch)) then
                some (Stp.done (Fl.rt true : Fl Bool Unit))
              else
                some (.next ((IntKind.i64.wrap (x14 + 1))))
            else
              some (.done (.nx ())))) (fun n s => s = (n : Int) ∧ ∀ j, j < n → ¬ ((a0.Peers j).Promise.Epoch > a0.Epoch)) (fun w => w = .rt true) 8 (s0 := 0) ⟨rfl, fun j hj => absurd hj (by omega)⟩
          (fun n s hn hs => by
            obtain ⟨rfl, hs⟩ := hs
            have hn' : (n : Int) < 8 := by omega
            have e1 : IntKind.i64.wrap ((n : Int) + 1) = ((n + 1 : Nat) : Int) := by rw [w64] <;> omega
            by_cases hP : (a0.Peers n).Promise.Epoch > a0.Epoch
            · right
              refine ⟨.rt true, ?_, rfl⟩
              simp only [hn', decide_true, if_true, ib_n hn, Option.bind_some, Int.toNat_natCast, decide_eq_true hP]
            · left
              refine ⟨((n + 1 : Nat) : Int), ?_, rfl, fun j hj => ?_⟩
              · simp only [hn', decide_true, if_true, ib_n hn, Option.bind_some, Int.toNat_natCast, e1, decide_eq_false hP, Bool.false_eq_true, if_false]
              · by_cases hjn : j = n
                · subst hjn; exact hP
                · exact hs j (by omega))
          (fun s hs => absurd hs.2 hex)
        rw [hw, hp]; rfl
  by_cases ha : adoptF a0.Promise a0.Self a0.Own a1 = true
  · simp only [ha, if_true, Option.bind_some, hc ha, Bool.not_false, Bool.and_self, bne_self_eq_false, Bool.or_self, Bool.and_false, Bool.false_eq_true, if_false]
    exact fin
  · simp only [Bool.not_eq_true] at ha
    simp only [ha, Bool.false_eq_true, if_false, Option.bind_some, Bool.false_and]
    exact fin
end Go.Proofs.Yteajgbkgijaebaa
