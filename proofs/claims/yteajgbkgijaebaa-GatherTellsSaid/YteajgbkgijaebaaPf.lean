/- Pure laws of chapter 12: what was gathered once is not gathered twice. Conditions: none. -/
import Derived.Test.YteajgbkgijaebaaPe
set_option linter.unusedVariables false
set_option linter.unusedSimpArgs false
namespace Go.Proofs.Yteajgbkgijaebaa
open Go.Eng
/-- A peer's state that a packet can no longer turn. -/
def Cov (v : api_Peer) (k : api_Packet) : Prop :=
  k.Inc < v.Inc ∨ (k.Inc = v.Inc ∧ (cmpId k.Promise v.Promise < 0 ∨ (cmpId k.Promise v.Promise = 0 ∧ (k.Ready = true → v.Ready = true) ∧ (cmpId k.Conf v.Conf < 0 ∨ (cmpId k.Conf v.Conf = 0 ∧ ∀ j, j < 8 → k.Count j ≤ v.Cut j)))))
def Nat8 (f : Nat → Int) : Prop := ∀ j, j < 8 → 0 ≤ f j
theorem mx_ge {f g : Nat → Int} (hf : Nat8 f) {j : Nat} (hj : j < 8) : f j ≤ mxF (mxF (fun _ => 0) f 8) g 8 j ∧ g j ≤ mxF (mxF (fun _ => 0) f 8) g 8 j := by
  have := hf j hj
  simp only [mxF, hj, true_and]
  constructor <;> (split <;> split <;> omega)
theorem mx_same {f g : Nat → Int} (hf : Nat8 f) {j : Nat} (hj : j < 8) (h : g j ≤ f j) : mxF (mxF (fun _ => 0) f 8) g 8 j = f j := by
  have := hf j hj
  simp only [mxF, hj, true_and]
  split <;> split <;> omega
theorem cov_upd (p : api_Peer) (k : api_Packet) (hp : Nat8 p.Cut) : Cov (updF p k) k := by
  have r1 := cmp_r k.Promise p.Promise; have r2 := cmp_r k.Conf p.Conf
  unfold updF
  by_cases c1 : k.Inc < p.Inc
  · rw [if_pos c1]; exact .inl c1
  rw [if_neg c1]
  by_cases c2 : k.Inc > p.Inc ∨ cmpId k.Promise p.Promise > 0
  · rw [if_pos c2]; exact .inr ⟨rfl, .inr ⟨cmp_self _, fun h => h, .inr ⟨cmp_self _, fun j _ => Int.le_refl _⟩⟩⟩
  rw [if_neg c2]
  have hi : k.Inc = p.Inc := by omega
  by_cases c3 : cmpId k.Promise p.Promise < 0
  · rw [if_pos c3]; exact .inr ⟨hi, .inl c3⟩
  rw [if_neg c3]
  have hz : cmpId k.Promise p.Promise = 0 := by omega
  have hr : k.Ready = true → (p.Ready || k.Ready) = true := fun h => by rw [h]; cases p.Ready <;> rfl
  by_cases c4 : cmpId k.Conf p.Conf = 1
  · rw [if_pos c4]; exact .inr ⟨hi, .inr ⟨hz, hr, .inr ⟨cmp_self _, fun j _ => Int.le_refl _⟩⟩⟩
  rw [if_neg c4]
  by_cases c5 : cmpId k.Conf p.Conf = 0
  · rw [if_pos c5]; exact .inr ⟨hi, .inr ⟨hz, hr, .inr ⟨c5, fun j hj => (mx_ge hp hj).2⟩⟩⟩
  rw [if_neg c5]
  have hlt : cmpId k.Conf p.Conf < 0 := by omega
  exact .inr ⟨hi, .inr ⟨hz, hr, .inl hlt⟩⟩
theorem lt_trans' {p q r : api_Id} (h1 : cmpId p q < 0) (h2 : cmpId q r ≤ 0) : cmpId p r < 0 := by
  have h3 := le_trans' (p := p) (q := q) (r := r) (by omega) h2
  by_cases h : cmpId p r = 0
  · have e := cmp_z.1 h; subst e
    have := cmp_n p q; omega
  · omega
theorem cov_keep {v : api_Peer} {k : api_Packet} (m : api_Packet) (hv : Nat8 v.Cut) (h : Cov v k) : Cov (updF v m) k := by
  have r1 := cmp_r m.Promise v.Promise; have r2 := cmp_r m.Conf v.Conf
  have n1 := cmp_n m.Promise v.Promise; have n2 := cmp_n m.Conf v.Conf
  unfold updF
  by_cases c1 : m.Inc < v.Inc
  · rw [if_pos c1]; exact h
  rw [if_neg c1]
  by_cases c2 : m.Inc > v.Inc ∨ cmpId m.Promise v.Promise > 0
  · rw [if_pos c2]
    by_cases c2a : m.Inc > v.Inc
    · left; rcases h with h | ⟨h, _⟩ <;> simp only <;> omega
    · have hi : m.Inc = v.Inc := by omega
      rcases h with h | ⟨h, h2⟩
      · left; simp only; omega
      · right
        refine ⟨by simp only; omega, .inl ?_⟩
        have hvm : cmpId v.Promise m.Promise < 0 := by omega
        have hkv : cmpId k.Promise v.Promise ≤ 0 := by rcases h2 with h2 | ⟨h2, _⟩ <;> omega
        simp only
        by_cases hk0 : cmpId k.Promise v.Promise = 0
        · rw [cmp_z.1 hk0]; exact hvm
        · exact lt_trans' (q := v.Promise) (by omega) (by omega)
  rw [if_neg c2]
  by_cases c3 : cmpId m.Promise v.Promise < 0
  · rw [if_pos c3]; exact h
  rw [if_neg c3]
  have hro : v.Ready = true → (v.Ready || m.Ready) = true := fun q => by rw [q]; rfl
  by_cases c4 : cmpId m.Conf v.Conf = 1
  · rw [if_pos c4]
    rcases h with h | ⟨h, h2 | ⟨h2, h3, h4⟩⟩
    · exact .inl h
    · exact .inr ⟨h, .inl h2⟩
    · refine .inr ⟨h, .inr ⟨h2, fun q => hro (h3 q), .inl ?_⟩⟩
      have hvm : cmpId v.Conf m.Conf < 0 := by omega
      have hkv : cmpId k.Conf v.Conf ≤ 0 := by rcases h4 with h4 | ⟨h4, _⟩ <;> omega
      simp only
      by_cases hk0 : cmpId k.Conf v.Conf = 0
      · rw [cmp_z.1 hk0]; exact hvm
      · exact lt_trans' (q := v.Conf) (by omega) (by omega)
  rw [if_neg c4]
  by_cases c5 : cmpId m.Conf v.Conf = 0
  · rw [if_pos c5]
    rcases h with h | ⟨h, h2 | ⟨h2, h3, h4 | ⟨h4, h5⟩⟩⟩
    · exact .inl h
    · exact .inr ⟨h, .inl h2⟩
    · exact .inr ⟨h, .inr ⟨h2, fun q => hro (h3 q), .inl h4⟩⟩
    · exact .inr ⟨h, .inr ⟨h2, fun q => hro (h3 q), .inr ⟨h4, fun j hj => Int.le_trans (h5 j hj) (mx_ge hv hj).1⟩⟩⟩
  rw [if_neg c5]
  rcases h with h | ⟨h, h2 | ⟨h2, h3, h4⟩⟩
  · exact .inl h
  · exact .inr ⟨h, .inl h2⟩
  · exact .inr ⟨h, .inr ⟨h2, fun q => hro (h3 q), h4⟩⟩
theorem cov_same {v : api_Peer} {k : api_Packet} (hv : Nat8 v.Cut) (h : Cov v k) : b_api_Peer (updF v k) v = true := by
  have refl : ∀ x : api_Peer, b_api_Peer x x = true := fun x => by simp [b_api_Peer, breflId, brefl8]
  unfold updF
  rcases h with h | ⟨h, h2 | ⟨h2, h3, h4⟩⟩
  · rw [if_pos h]; exact refl v
  · rw [if_neg (by omega), if_neg (by omega), if_pos h2]; exact refl v
  · rw [if_neg (by omega), if_neg (by omega), if_neg (by omega)]
    have hr : (v.Ready || k.Ready) = v.Ready := by
      cases hk : k.Ready with
      | false => simp
      | true => rw [h3 hk]; rfl
    rcases h4 with h4 | ⟨h4, h5⟩
    · rw [if_neg (by omega), if_neg (by omega), hr]; exact refl v
    · rw [if_neg (by omega), if_pos h4, hr]
      have hc : b_a8_u32 (mxF (mxF (fun _ => 0) v.Cut 8) k.Count 8) v.Cut = true := all8.2 fun j hj => mx_same hv hj (h5 j hj)
      simp [b_api_Peer, breflId, hc]
theorem nat8_upd {p : api_Peer} {k : api_Packet} (hp : Nat8 p.Cut) (hk : Nat8 k.Count) : Nat8 (updF p k).Cut := by
  unfold updF
  repeat' split
  all_goals first | exact hp | exact hk | exact fun j hj => Int.le_trans (hp j hj) (mx_ge hp hj).1
theorem pure_gatherOrder (a0 : api_Peer) (a1 : api_Packet) (a2 : api_Packet) (w0 : w_api_Peer a0) (w1 : w_api_Packet a1) (w2 : w_api_Packet a2) : congresslaw12_GatherOrder a0 a1 a2 = some true := by
  have n0 : Nat8 a0.Cut := fun j hj => (wf_u32.1 (w0.2.2.2.1 j hj)).1
  have n1 : Nat8 a1.Count := fun j hj => (wf_u32.1 (w1.2.2.2.2.1 j hj)).1
  have n2 : Nat8 a2.Count := fun j hj => (wf_u32.1 (w2.2.2.2.2.1 j hj)).1
  have m1 := nat8_upd (p := a0) (k := a1) n0 n1
  have k1 := cov_upd a0 a1 n0
  unfold congresslaw12_GatherOrder
  simp only [upd_eq, fixed_eq, Option.bind_some, Bool.not_true, Bool.not_false, whn, if_true, cov_same m1 k1, Bool.or_self, Bool.false_eq_true, if_false, cov_same (nat8_upd m1 n2) (cov_keep a2 m1 k1)]
end Go.Proofs.Yteajgbkgijaebaa
