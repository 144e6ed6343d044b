/- What the functions of chapter 08 answer, in closed form. Conditions: none. -/
import Derived.Test.YtckoficjcnaedaaIn
import Derived.Test.YtckoficjcnaedaaEngR
set_option linter.unusedVariables false
namespace Go.Proofs.Ytckoficjcnaedaa
open Go.Eng
theorem all8 {x y : Nat → Int} : b_a8_u32 x y = true ↔ ∀ j, j < 8 → x j = y j := by
  simp [b_a8_u32, List.all_eq_true, List.mem_range]
def rc (p0 : api_Beat) (p3 : Int) (j : Nat) : Bool := ((p0.Heard j != 0) && decide (p0.Heard j ≤ p0.Now)) && decide (IntKind.u32.wrap (p0.Now - p0.Heard j) ≤ p3)
def rF (p0 : api_Beat) (p3 : Int) (n : Nat) : Nat → Int := fun j => if j < n ∧ rc p0 p3 j = true then p0.Inc j else 0
def reachF (p0 : api_Beat) (p1 p2 p3 : Int) : Nat → Int := fun j => if 0 ≤ p1 ∧ p1 = j ∧ j < 8 then p2 else rF p0 p3 8 j
theorem rF_t {p0 : api_Beat} {p3 : Int} {n : Nat} (h : rc p0 p3 n = true) : aupd (rF p0 p3 n) n (p0.Inc n) = rF p0 p3 (n + 1) := by
  funext j
  by_cases hj : j = n
  · subst hj; simp [aupd, rF, h]
  · have : j < n + 1 ↔ j < n := by omega
    simp [aupd, rF, hj, this]
theorem rF_f {p0 : api_Beat} {p3 : Int} {n : Nat} (h : rc p0 p3 n = false) : rF p0 p3 n = rF p0 p3 (n + 1) := by
  funext j
  by_cases hj : j = n
  · subst hj; simp [rF, h]
  · have : j < n + 1 ↔ j < n := by omega
    simp [rF, this]
theorem reach_eq (p0 : api_Beat) (p1 p2 p3 : Int) : beat_Reach p0 p1 p2 p3 = some (reachF p0 p1 p2 p3) := by
  unfold beat_Reach
  rw [loop_seq (s0 := (0, fun _ => 0)) (fun n => ((n : Int), rF p0 p3 n)) 8 (w := .nx (rF p0 p3 8)) (Prod.ext rfl (funext fun j => by simp [rF])) (fun n hn => by
    have hn' : (n : Int) < 8 := by omega
    have e1 : IntKind.i64.wrap ((n : Int) + 1) = ((n + 1 : Nat) : Int) := by rw [w64] <;> omega
    simp only [hn', decide_true, if_true, jn, ib_n hn, Option.bind_some, lt, Int.toNat_natCast, e1]
    by_cases hc : rc p0 p3 n = true
    · have hc' := hc
      simp only [rc] at hc'
      rw [if_pos hc', rF_t hc]
    · have hc' := hc
      simp only [rc] at hc'
      rw [if_neg hc', rF_f (by simpa using hc)]) (by simp)]
  simp only [Option.bind_some, Fl.elim, jn]
  by_cases h : 0 ≤ p1 ∧ p1 < 8
  · have hn : p1 = (p1.toNat : Int) := by omega
    rw [if_pos (by simp [h]), ib_t h.1 h.2]
    simp only [Option.bind_some, Option.some.injEq]
    funext j
    simp only [aupd, reachF]
    by_cases hj : j = p1.toNat
    · rw [if_pos hj, if_pos (by omega)]
    · rw [if_neg hj, if_neg (by omega)]
  · rw [if_neg (by simp; omega)]
    simp only [Option.some.injEq]
    funext j
    simp only [reachF]
    rw [if_neg (by omega)]

def hearOk (p0 : api_Beat) (p1 p2 : Int) : Prop := 0 ≤ p1 ∧ p1 < 8 ∧ p2 ≠ 0 ∧ p0.Now ≠ 0 ∧ p0.Inc p1.toNat ≤ p2
instance (p0 : api_Beat) (p1 p2 : Int) : Decidable (hearOk p0 p1 p2) := by unfold hearOk; exact inferInstance
def hearF (p0 : api_Beat) (p1 p2 : Int) : api_Beat × Bool :=
  if hearOk p0 p1 p2 then ({ p0 with Heard := aupd p0.Heard p1.toNat p0.Now, Inc := aupd p0.Inc p1.toNat p2 }, true) else (p0, false)
theorem hear_eq (p0 : api_Beat) (p1 p2 : Int) : beat_Hear p0 p1 p2 = some (hearF p0 p1 p2) := by
  unfold beat_Hear
  rw [ibg_t (by simp; omega)]
  simp only [Option.bind_some, lt]
  by_cases h : hearOk p0 p1 p2
  · have h' := h
    obtain ⟨h1, h2, h3, h4, h5⟩ := h'
    rw [if_neg (by simp; omega), ib_t h1 h2]
    simp [hearF, h]
  · rw [if_pos (by simp; unfold hearOk at h; omega)]
    simp [hearF, h]
theorem rhear_eq (p0 : api_Beat) (p1 p2 : Int) : congressref08_Hear p0 p1 p2 = some (hearF p0 p1 p2) := by
  unfold congressref08_Hear
  simp only [lt]
  by_cases h : hearOk p0 p1 p2
  · have h' := h
    obtain ⟨h1, h2, h3, h4, h5⟩ := h'
    rw [if_neg (by simp; omega), ib_t h1 h2]
    simp only [Option.bind_some]
    rw [if_neg (by simp; omega)]
    simp [hearF, h]
  · simp only [hearF, if_neg h]
    split
    · rfl
    · rename_i hc
      simp only [Bool.or_eq_true, decide_eq_true_eq, beq_iff_eq, not_or] at hc
      rw [ib_t (by omega) (by omega)]
      simp only [Option.bind_some]
      rw [if_pos (by simp; unfold hearOk at h; omega)]
def tickF (p0 : api_Beat) : api_Beat := if p0.Now < 4294967295 then { p0 with Now := IntKind.u32.wrap (p0.Now + 1) } else p0
theorem tick_eq (p0 : api_Beat) : beat_Tick p0 = some (tickF p0) := by
  unfold beat_Tick tickF
  simp only [jn, decide_eq_true_eq]
  split <;> rfl
theorem rtick_eq {p0 : api_Beat} (w : w_api_Beat p0) : congressref08_Tick p0 = some (tickF p0) := by
  have h := wf_u32.1 w.1
  unfold congressref08_Tick tickF
  simp only [jn, w32]
  by_cases h1 : p0.Now < 4294967295
  · rw [if_pos (by simp; omega), if_pos h1]
  · rw [if_neg (by simp; omega), if_neg h1]
theorem brefl8 (x : Nat → Int) : b_a8_u32 x x = true := all8.2 fun _ _ => rfl
theorem brefl (x : api_Beat) : b_api_Beat x x = true := by simp [b_api_Beat, brefl8]
theorem fixed_eq : congresslaw08_fixed = some true := by
  simp only [congresslaw08_fixed, hear_eq, tick_eq, reach_eq, Option.bind_some]
  decide +kernel
def rF2 (p0 : api_Beat) (p1 p2 p3 : Int) (n : Nat) : Nat → Int := fun j => if j < n then reachF p0 p1 p2 p3 j else 0
theorem rF2_s (p0 : api_Beat) (p1 p2 p3 v : Int) (n : Nat) (h : v = reachF p0 p1 p2 p3 n) : aupd (rF2 p0 p1 p2 p3 n) n v = rF2 p0 p1 p2 p3 (n + 1) := by
  funext j
  by_cases hj : j = n
  · subst hj; simp [aupd, rF2, h]
  · have : j < n + 1 ↔ j < n := by omega
    simp [aupd, rF2, hj, this]
theorem rF2_0 (p0 : api_Beat) (p1 p2 p3 : Int) (n : Nat) (h : reachF p0 p1 p2 p3 n = 0) : rF2 p0 p1 p2 p3 n = rF2 p0 p1 p2 p3 (n + 1) := by
  funext j
  by_cases hj : j = n
  · subst hj; simp [rF2, h]
  · have : j < n + 1 ↔ j < n := by omega
    simp [rF2, this]
theorem rreach_eq {p0 : api_Beat} {p1 p2 p3 : Int} (w : w_api_Beat p0) (w3 : (Lit.int .u32 p3).wf = true) : congressref08_Reach p0 p1 p2 p3 = some (reachF p0 p1 p2 p3) := by
  have hN := wf_u32.1 w.1
  have h3 := wf_u32.1 w3
  unfold congressref08_Reach
  rw [loop_seq (s0 := (0, aset (fun _ => 0) [])) (fun n => ((n : Int), rF2 p0 p1 p2 p3 n)) 8 (w := .nx (rF2 p0 p1 p2 p3 8)) (Prod.ext rfl (funext fun j => by simp [rF2, aset])) (fun n hn => by
    have hn' : (n : Int) < 8 := by omega
    have e1 : IntKind.i64.wrap ((n : Int) + 1) = ((n + 1 : Nat) : Int) := by rw [w64] <;> omega
    simp only [hn', decide_true, if_true, jn, ib_n hn, Option.bind_some, lt, Int.toNat_natCast, e1]
    have hH := wf_u32.1 (w.2.1 n hn)
    by_cases hp : (n : Int) = p1
    · rw [if_pos (by simpa using hp), rF2_s _ _ _ _ _ _ (by simp [reachF, ← hp, hn])]
    · rw [if_neg (by simpa using hp)]
      have hr : reachF p0 p1 p2 p3 n = if rc p0 p3 n = true then p0.Inc n else 0 := by
        simp only [reachF]
        rw [if_neg (by omega)]
        simp [rF, hn]
      by_cases hc : rc p0 p3 n = true
      · rw [if_pos (by
          simp only [rc, Bool.and_eq_true, bne_iff_ne, decide_eq_true_eq, w32] at hc
          simp only [Bool.and_eq_true, decide_eq_true_eq, wu64]
          omega), rF2_s _ _ _ _ _ _ (by rw [hr, if_pos hc])]
      · rw [if_neg (by
          simp only [rc, Bool.and_eq_true, bne_iff_ne, decide_eq_true_eq, w32] at hc
          simp only [Bool.and_eq_true, decide_eq_true_eq, wu64]
          omega), rF2_0 _ _ _ _ _ (by rw [hr, if_neg hc])]) (by simp)]
  simp only [Option.bind_some, Fl.elim, Option.some.injEq]
  funext j
  simp only [rF2]
  split
  · rfl
  · rename_i h
    simp only [reachF, rF]
    rw [if_neg (by omega), if_neg (by omega)]
theorem pure_beatTells (a0 : api_Beat) (a1 : congresslaw08_Heard) (a2 : Int) (w0 : w_api_Beat a0) (w1 : w_congresslaw08_Heard a1) (w2 : (Lit.int .u32 a2).wf = true) : congresslaw08_BeatTells a0 a1 a2 = some true := by
  simp only [congresslaw08_BeatTells, hear_eq, rhear_eq, fixed_eq, tick_eq, rtick_eq w0, reach_eq, rreach_eq w0 w2, Option.bind_some, whn, lt, brefl, brefl8, if_true, Bool.and_true, Bool.true_and, beq_self_eq_true]
theorem hear_same (p0 : api_Beat) (p1 p2 : Int) : hearF (hearF p0 p1 p2).1 p1 p2 = hearF p0 p1 p2 := by
  by_cases h : hearOk p0 p1 p2
  · have h2 : hearOk (hearF p0 p1 p2).1 p1 p2 := by
      simp only [hearF, if_pos h]
      obtain ⟨h1, h2, h3, h4, h5⟩ := h
      exact ⟨h1, h2, h3, h4, by simp [aupd]⟩
    rw [hearF, if_pos h2]
    simp only [hearF, if_pos h, Prod.mk.injEq, and_true, api_Beat.mk.injEq, true_and]
    constructor <;> funext j <;> simp only [aupd] <;> split <;> rfl
  · have h1 : hearF p0 p1 p2 = (p0, false) := by rw [hearF, if_neg h]
    rw [h1]; simp only; exact h1
theorem hearOk_far (p0 : api_Beat) (p1 p2 q1 q2 : Int) (h : p1 ≠ q1) : hearOk (hearF p0 p1 p2).1 q1 q2 ↔ hearOk p0 q1 q2 := by
  by_cases hp : hearOk p0 p1 p2
  · have e : hearF p0 p1 p2 = ({ p0 with Heard := aupd p0.Heard p1.toNat p0.Now, Inc := aupd p0.Inc p1.toNat p2 }, true) := by rw [hearF, if_pos hp]
    have := hp.1
    rw [e]; simp only [hearOk]
    constructor
    · rintro ⟨h1, h2, h3, h4, h5⟩
      refine ⟨h1, h2, h3, h4, ?_⟩
      simp only [aupd] at h5
      rwa [if_neg (by omega)] at h5
    · rintro ⟨h1, h2, h3, h4, h5⟩
      refine ⟨h1, h2, h3, h4, ?_⟩
      simp only [aupd]
      rwa [if_neg (by omega)]
  · simp [hearF, if_neg hp]
theorem hear_apart (p0 : api_Beat) (p1 p2 q1 q2 : Int) (h : p1 ≠ q1) : (hearF (hearF p0 p1 p2).1 q1 q2).1 = (hearF (hearF p0 q1 q2).1 p1 p2).1 ∧ (hearF p0 p1 p2).2 = (hearF (hearF p0 q1 q2).1 p1 p2).2 ∧ (hearF (hearF p0 p1 p2).1 q1 q2).2 = (hearF p0 q1 q2).2 := by
  have e1 := hearOk_far p0 p1 p2 q1 q2 h
  have e2 := hearOk_far p0 q1 q2 p1 p2 (Ne.symm h)
  by_cases hp : hearOk p0 p1 p2 <;> by_cases hq : hearOk p0 q1 q2
  · have k1 := e1.2 hq
    have k2 := e2.2 hp
    rw [hearF, if_pos k1, hearF.eq_def (hearF p0 q1 q2).1, if_pos k2]
    have hp1 := hp.1; have hq1 := hq.1
    simp only [hearF, if_pos hp, if_pos hq, and_self, and_true, api_Beat.mk.injEq, true_and]
    constructor <;> funext j <;> simp only [aupd] <;> (repeat' split) <;> first | rfl | omega
  · have k1 : ¬ hearOk (hearF p0 p1 p2).1 q1 q2 := fun q => hq (e1.1 q)
    have k2 := e2.2 hp
    rw [hearF, if_neg k1, hearF.eq_def (hearF p0 q1 q2).1, if_pos k2]
    simp [hearF, if_pos hp, if_neg hq]
  · have k1 := e1.2 hq
    have k2 : ¬ hearOk (hearF p0 q1 q2).1 p1 p2 := fun q => hp (e2.1 q)
    rw [hearF, if_pos k1, hearF.eq_def (hearF p0 q1 q2).1, if_neg k2]
    simp [hearF, if_neg hp, if_pos hq]
  · have k1 : ¬ hearOk (hearF p0 p1 p2).1 q1 q2 := fun q => hq (e1.1 q)
    have k2 : ¬ hearOk (hearF p0 q1 q2).1 p1 p2 := fun q => hp (e2.1 q)
    rw [hearF, if_neg k1, hearF.eq_def (hearF p0 q1 q2).1, if_neg k2]
    simp [hearF, if_neg hp, if_neg hq]
theorem pure_beatApart (a0 : api_Beat) (a1 : congresslaw08_Heard) (a2 : congresslaw08_Heard) (w0 : w_api_Beat a0) (w1 : w_congresslaw08_Heard a1) (w2 : w_congresslaw08_Heard a2) : congresslaw08_BeatApart a0 a1 a2 = some true := by
  simp only [congresslaw08_BeatApart, hear_eq, fixed_eq, Option.bind_some, lt, hear_same, brefl, bne_self_eq_false, Bool.not_true, Bool.or_self, Bool.false_eq_true, if_false, Option.some.injEq]
  by_cases h : a1.From = a2.From
  · simp [h]
  · obtain ⟨h1, h2, h3⟩ := hear_apart a0 a1.From a1.Inc a2.From a2.Inc h
    rw [h1, h2, h3]; simp [brefl]
end Go.Proofs.Ytckoficjcnaedaa
