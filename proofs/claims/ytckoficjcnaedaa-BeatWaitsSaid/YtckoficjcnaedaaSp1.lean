/- Printed by gen.py. Conditions: none. -/
import Derived.Test.YtckoficjcnaedaaFact
import Derived.KernelRfl
set_option linter.unusedVariables false
set_option maxRecDepth 100000
namespace Go.Proofs.Ytckoficjcnaedaa
open Go.Eng
theorem beat_Hear_spec (p0 : api_Beat) (p1 : Int) (p2 : Int) (r : api_Beat × Bool) (H : beat_Hear p0 p1 p2 = some r) : FSpec Try.prog 7 [(e_api_Beat p0), (.int .i64 p1), (.int .u32 p2)] (resV [(e_api_Beat r.1), (.bool r.2)]) := by
  refine spec_of (fn := Try.f7) (args := [(e_api_Beat p0), (.int .i64 p1), (.int .u32 p2)]) Try.func7 rfl (Nat.le_of_ble_eq_true rfl) ?_
  rintro ⟨G, w0, W, S, Sp⟩ hG
  cases hG
  unfold beat_Hear at H
  refine aw_region (es := [_, _, _]) ⟨Step.plain rfl (does_box 25 (.tmp 0) 0 (e_api_Beat p0) trivial rfl), ⟨⟨rfl, trivial⟩, trivial, rfl⟩, rfl,
    Step.plain rfl (does_alloc 25 1 (e_api_Beat z_api_Beat) zr25), ⟨trivial, trivial, rfl⟩, rfl,
    Step.plain rfl (does_assign (.const (.bool false)) (.bool false) (fun _ => rfl)), ⟨trivial, trivial, rfl⟩, rfl, rfl⟩ ?_
  refine aw_cov (cov_prune (s1 := ⟨[(1, (.int .i64 p1)), (2, (.int .u32 p2)), (3, (.ptr 0 0 [])), (6, (.ptr 1 0 []))], [(0, some (.var (e_api_Beat p0))), (1, some (.var (e_api_Beat z_api_Beat)))], 2⟩) ⟨rfl, rfl, rfl, rfl, trivial⟩ ⟨rfl, rfl, trivial⟩ (Nat.le_refl _)) ?_
  refine aw_seq ?_
  obtain ⟨h1, H⟩ := ibg_of H
  refine aw_region (es := [_, _, _, _, _, _, _, _, _, _, _, _, _, _, _, _, _, _, _, _, _, _, _]) ⟨Step.plain rfl (does_move (.tmp 1) (.int .i64 p1) trivial), ⟨⟨rfl, trivial⟩, trivial, rfl⟩, rfl,
    Step.plain rfl (does_bin .lss 3 3 (.tmp 8) (.const (.int .i64 0)) .i64 p1 0 (.bool (decide (p1 < 0))) trivial (fun _ => rfl) (bin_lss _ _ _ _)), ⟨⟨rfl, trivial⟩, trivial, rfl⟩, rfl,
    Step.plain rfl (does_move (.tmp 9) (.bool (decide (p1 < 0))) trivial), ⟨⟨rfl, trivial⟩, trivial, rfl⟩, rfl,
    Step.guarded rfl rfl rfl rfl (fun hc => does_move (.tmp 1) (.int .i64 p1) trivial), ⟨⟨rfl, rfl, trivial⟩, trivial, rfl⟩, rfl,
    Step.guarded rfl rfl rfl rfl (fun hc => Does.strip (n' := [(11, (.opt (!(decide (p1 < 0))) (.int .i64 p1)))]) (n := [(11, (.int .i64 p1))]) ⟨(.opt _ _ hc), trivial⟩ (does_bin .geq 3 3 (.tmp 11) (.const (.int .i64 8)) .i64 p1 8 (.bool (decide (p1 ≥ 8))) trivial (fun _ => rfl) (bin_geq _ _ _ _))), ⟨⟨rfl, rfl, trivial⟩, trivial, rfl⟩, rfl,
    Step.plain rfl (does_or 10 12 (decide (p1 < 0)) (decide (p1 ≥ 8))), ⟨⟨rfl, rfl, trivial⟩, trivial, rfl⟩, rfl,
    Step.plain rfl (does_move (.tmp 13) (.bool ((decide (p1 < 0)) || (decide (p1 ≥ 8)))) trivial), ⟨⟨rfl, trivial⟩, trivial, rfl⟩, rfl,
    Step.guarded rfl rfl rfl rfl (fun hc => does_move (.tmp 2) (.int .u32 p2) trivial), ⟨⟨rfl, rfl, trivial⟩, trivial, rfl⟩, rfl,
    Step.guarded rfl rfl rfl rfl (fun hc => Does.strip (n' := [(15, (.opt (!((decide (p1 < 0)) || (decide (p1 ≥ 8)))) (.int .u32 p2)))]) (n := [(15, (.int .u32 p2))]) ⟨(.opt _ _ hc), trivial⟩ (does_bin .eql 22 22 (.tmp 15) (.const (.int .u32 0)) .u32 p2 0 (.bool (p2 == 0)) trivial (fun _ => rfl) (bin_eql _ _ _ _))), ⟨⟨rfl, rfl, trivial⟩, trivial, rfl⟩, rfl,
    Step.plain rfl (does_or 14 16 ((decide (p1 < 0)) || (decide (p1 ≥ 8))) (p2 == 0)), ⟨⟨rfl, rfl, trivial⟩, trivial, rfl⟩, rfl,
    Step.plain rfl (does_move (.tmp 17) (.bool (((decide (p1 < 0)) || (decide (p1 ≥ 8))) || (p2 == 0))) trivial), ⟨⟨rfl, trivial⟩, trivial, rfl⟩, rfl,
    Step.guarded rfl rfl rfl rfl (fun hc => does_fieldAddr 25 0 0 3 0 0 [] (.var (e_api_Beat p0)) fl25_0), ⟨⟨rfl, rfl, trivial⟩, ⟨rfl, trivial⟩, rfl⟩, rfl,
    Step.guarded rfl rfl rfl rfl (fun hc => Does.strip (n' := [(19, (.opt (!(((decide (p1 < 0)) || (decide (p1 ≥ 8))) || (p2 == 0))) (.ptr 0 (0 + 0) [0])))]) (n := [(19, (.ptr 0 (0 + 0) [0]))]) ⟨(.opt _ _ hc), trivial⟩ (does_load 22 19 0 (0 + 0) [0] (.var (e_api_Beat p0)) (.int .u32 p0.Now) ⟨rfl, Nat.le_of_ble_eq_true rfl, trivial⟩ rfl rfl ty22)), ⟨⟨rfl, rfl, trivial⟩, ⟨rfl, trivial⟩, rfl⟩, rfl,
    Step.guarded rfl rfl rfl rfl (fun hc => Does.strip (n' := [(20, (.opt (!(((decide (p1 < 0)) || (decide (p1 ≥ 8))) || (p2 == 0))) (.int .u32 p0.Now)))]) (n := [(20, (.int .u32 p0.Now))]) ⟨(.opt _ _ hc), trivial⟩ (does_bin .eql 22 22 (.tmp 20) (.const (.int .u32 0)) .u32 p0.Now 0 (.bool (p0.Now == 0)) trivial (fun _ => rfl) (bin_eql _ _ _ _))), ⟨⟨rfl, rfl, trivial⟩, trivial, rfl⟩, rfl,
    Step.plain rfl (does_or 18 21 (((decide (p1 < 0)) || (decide (p1 ≥ 8))) || (p2 == 0)) (p0.Now == 0)), ⟨⟨rfl, rfl, trivial⟩, trivial, rfl⟩, rfl,
    Step.plain rfl (does_move (.tmp 22) (.bool ((((decide (p1 < 0)) || (decide (p1 ≥ 8))) || (p2 == 0)) || (p0.Now == 0))) trivial), ⟨⟨rfl, trivial⟩, trivial, rfl⟩, rfl,
    Step.guarded rfl rfl rfl rfl (fun hc => does_move (.tmp 2) (.int .u32 p2) trivial), ⟨⟨rfl, rfl, trivial⟩, trivial, rfl⟩, rfl,
    Step.guarded rfl rfl rfl rfl (fun hc => does_move (.tmp 1) (.int .i64 p1) trivial), ⟨⟨rfl, rfl, trivial⟩, trivial, rfl⟩, rfl,
    Step.guarded rfl rfl rfl rfl (fun hc => does_fieldAddr 25 2 9 3 0 0 [] (.var (e_api_Beat p0)) fl25_2), ⟨⟨rfl, rfl, trivial⟩, ⟨rfl, trivial⟩, rfl⟩, rfl,
    Step.guarded rfl rfl rfl rfl (fun hc => Does.strip (n' := [(26, (.opt (!((((decide (p1 < 0)) || (decide (p1 ≥ 8))) || (p2 == 0)) || (p0.Now == 0))) (.ptr 0 (0 + 9) [2]))), (25, (.opt (!((((decide (p1 < 0)) || (decide (p1 ≥ 8))) || (p2 == 0)) || (p0.Now == 0))) (.int .i64 p1)))]) (n := [(26, (.ptr 0 (0 + 9) [2])), (25, (.int .i64 p1))]) ⟨(.opt _ _ hc), (.opt _ _ hc), trivial⟩ (does_indexAddr 23 8 1 26 0 (0 + 9) [2] (.var (e_api_Beat p0)) (.tmp 25) .i64 p1 el23 trivial (h1 hc).1 (h1 hc).2)), ⟨⟨rfl, rfl, rfl, trivial⟩, ⟨rfl, trivial⟩, rfl⟩, rfl,
    Step.guarded rfl rfl rfl rfl (fun hc => Does.strip (n' := [(27, (.opt (!((((decide (p1 < 0)) || (decide (p1 ≥ 8))) || (p2 == 0)) || (p0.Now == 0))) (.ptr 0 ((0 + 9) + p1.toNat * 1) [2, p1.toNat])))]) (n := [(27, (.ptr 0 ((0 + 9) + p1.toNat * 1) [2, p1.toNat]))]) ⟨(.opt _ _ hc), trivial⟩ (does_load 22 27 0 ((0 + 9) + p1.toNat * 1) [2, p1.toNat] (.var (e_api_Beat p0)) (.int .u32 (p0.Inc p1.toNat)) ⟨rfl, Nat.le_of_ble_eq_true rfl, ⟨rfl, (ixl (h1 hc)), trivial⟩⟩ rfl rfl ty22)), ⟨⟨rfl, rfl, trivial⟩, ⟨rfl, trivial⟩, rfl⟩, rfl,
    Step.guarded rfl rfl rfl rfl (fun hc => Does.strip (n' := [(24, (.opt (!((((decide (p1 < 0)) || (decide (p1 ≥ 8))) || (p2 == 0)) || (p0.Now == 0))) (.int .u32 p2))), (28, (.opt (!((((decide (p1 < 0)) || (decide (p1 ≥ 8))) || (p2 == 0)) || (p0.Now == 0))) (.int .u32 (p0.Inc p1.toNat))))]) (n := [(24, (.int .u32 p2)), (28, (.int .u32 (p0.Inc p1.toNat)))]) ⟨(.opt _ _ hc), (.opt _ _ hc), trivial⟩ (does_bin .lss 22 22 (.tmp 24) (.tmp 28) .u32 p2 (p0.Inc p1.toNat) (.bool (decide (p2 < (p0.Inc p1.toNat)))) trivial trivial (bin_lss _ _ _ _))), ⟨⟨rfl, rfl, rfl, trivial⟩, trivial, rfl⟩, rfl,
    Step.plain rfl (does_or 23 29 ((((decide (p1 < 0)) || (decide (p1 ≥ 8))) || (p2 == 0)) || (p0.Now == 0)) (decide (p2 < (p0.Inc p1.toNat)))), ⟨⟨rfl, rfl, trivial⟩, trivial, rfl⟩, rfl, rfl⟩ ?_
  obtain ⟨v2, hv2, H⟩ := lt_of H
  refine aw_cov (cov_prune (s1 := ⟨[(1, (.int .i64 p1)), (2, (.int .u32 p2)), (3, (.ptr 0 0 [])), (6, (.ptr 1 0 [])), (30, (.bool v2))], [(0, some (.var (e_api_Beat p0))), (1, some (.var (e_api_Beat z_api_Beat)))], 2⟩) ⟨rfl, rfl, rfl, rfl, (by subst hv2; rfl), trivial⟩ ⟨rfl, rfl, trivial⟩ (Nat.le_refl _)) ?_
  refine aw_cond rfl (fun hc => ?_) (fun hc => ?_)
  · replace H := ite_t hc H
    refine aw_region (es := [_, _, _]) ⟨Step.plain rfl (does_load 25 3 0 0 [] (.var (e_api_Beat p0)) (e_api_Beat p0) trivial rfl rfl ty25), ⟨⟨rfl, trivial⟩, ⟨rfl, trivial⟩, rfl⟩, rfl,
      Step.plain rfl (does_store 25 6 (.tmp 31) 1 0 [] (.var (e_api_Beat z_api_Beat)) (.var (e_api_Beat p0)) (e_api_Beat p0) true trivial rfl trivial rfl rfl rfl ty25), ⟨⟨rfl, rfl, trivial⟩, ⟨rfl, trivial⟩, rfl⟩, rfl,
      Step.plain rfl (does_assign (.const (.bool false)) (.bool false) (fun _ => rfl)), ⟨trivial, trivial, rfl⟩, rfl, rfl⟩ ?_
    refine aw_cov (cov_prune (s1 := ⟨[(6, (.ptr 1 0 [])), (7, (.bool false))], [(1, some (.var (e_api_Beat p0)))], 2⟩) ⟨rfl, rfl, trivial⟩ ⟨rfl, trivial⟩ (Nat.le_refl _)) ?_
    refine aw_ret ?_
    refine rt_then ?_
    exact fun a w hr => ⟨_, [(e_api_Beat p0), (.bool false)], hr, ⟨⟨1, _, rfl, rfl, .data _ (d_api_Beat p0), ty25⟩, ⟨_, rfl, .data _ trivial⟩, trivial⟩, by decide, by cases H; rfl⟩
  · replace H := ite_f hc H
    refine aw_skip ?_
    refine nx_seq ?_
    obtain ⟨h3, H⟩ := ib_of H
    obtain ⟨h4, H⟩ := ib_of H
    refine aw_region (es := [_, _, _, _, _, _, _, _, _, _, _]) ⟨Step.plain rfl (does_move (.tmp 1) (.int .i64 p1) trivial), ⟨⟨rfl, trivial⟩, trivial, rfl⟩, rfl,
      Step.plain rfl (does_move (.tmp 1) (.int .i64 p1) trivial), ⟨⟨rfl, trivial⟩, trivial, rfl⟩, rfl,
      Step.plain rfl (does_fieldAddr 25 0 0 3 0 0 [] (.var (e_api_Beat p0)) fl25_0), ⟨⟨rfl, trivial⟩, ⟨rfl, trivial⟩, rfl⟩, rfl,
      Step.plain rfl (does_load 22 34 0 (0 + 0) [0] (.var (e_api_Beat p0)) (.int .u32 p0.Now) ⟨rfl, Nat.le_of_ble_eq_true rfl, trivial⟩ rfl rfl ty22), ⟨⟨rfl, trivial⟩, ⟨rfl, trivial⟩, rfl⟩, rfl,
      Step.plain rfl (does_move (.tmp 2) (.int .u32 p2) trivial), ⟨⟨rfl, trivial⟩, trivial, rfl⟩, rfl,
      Step.plain rfl (does_fieldAddr 25 1 1 3 0 0 [] (.var (e_api_Beat p0)) fl25_1), ⟨⟨rfl, trivial⟩, ⟨rfl, trivial⟩, rfl⟩, rfl,
      Step.plain rfl (does_indexAddr 23 8 1 37 0 (0 + 1) [1] (.var (e_api_Beat p0)) (.tmp 32) .i64 p1 el23 trivial h3.1 h3.2), ⟨⟨rfl, rfl, trivial⟩, ⟨rfl, trivial⟩, rfl⟩, rfl,
      Step.plain rfl (does_store 22 38 (.tmp 35) 0 ((0 + 1) + p1.toNat * 1) [1, p1.toNat] (.var (e_api_Beat p0)) (.var (e_api_Beat ({ p0 with Heard := aupd p0.Heard p1.toNat p0.Now }))) (.int .u32 p0.Now) false trivial rfl ⟨rfl, Nat.le_of_ble_eq_true rfl, ⟨rfl, (ixl h3), trivial⟩⟩ rfl rfl (congrArg Box.var (set_cons (set_cons rfl (vupd_map (fun z => V.int .u32 z) _ _ _)) (st_api_Beat_1 _ _))) ty22), ⟨⟨rfl, rfl, trivial⟩, ⟨rfl, trivial⟩, rfl⟩, rfl,
      Step.plain rfl (does_fieldAddr 25 2 9 3 0 0 [] (.var (e_api_Beat ({ p0 with Heard := aupd p0.Heard p1.toNat p0.Now }))) fl25_2), ⟨⟨rfl, trivial⟩, ⟨rfl, trivial⟩, rfl⟩, rfl,
      Step.plain rfl (does_indexAddr 23 8 1 39 0 (0 + 9) [2] (.var (e_api_Beat ({ p0 with Heard := aupd p0.Heard p1.toNat p0.Now }))) (.tmp 33) .i64 p1 el23 trivial h4.1 h4.2), ⟨⟨rfl, rfl, trivial⟩, ⟨rfl, trivial⟩, rfl⟩, rfl,
      Step.plain rfl (does_store 22 40 (.tmp 36) 0 ((0 + 9) + p1.toNat * 1) [2, p1.toNat] (.var (e_api_Beat ({ p0 with Heard := aupd p0.Heard p1.toNat p0.Now }))) (.var (e_api_Beat ({ { p0 with Heard := aupd p0.Heard p1.toNat p0.Now } with Inc := aupd (({ p0 with Heard := aupd p0.Heard p1.toNat p0.Now }).Inc) p1.toNat p2 }))) (.int .u32 p2) false trivial rfl ⟨rfl, Nat.le_of_ble_eq_true rfl, ⟨rfl, (ixl h4), trivial⟩⟩ rfl rfl (congrArg Box.var (set_cons (set_cons rfl (vupd_map (fun z => V.int .u32 z) _ _ _)) (st_api_Beat_2 _ _))) ty22), ⟨⟨rfl, rfl, trivial⟩, ⟨rfl, trivial⟩, rfl⟩, rfl, rfl⟩ ?_
    obtain ⟨v5, hv5, H⟩ := lt_of H
    refine aw_cov (cov_prune (s1 := ⟨[(3, (.ptr 0 0 [])), (6, (.ptr 1 0 []))], [(0, some (.var (e_api_Beat v5))), (1, some (.var (e_api_Beat z_api_Beat)))], 2⟩) ⟨rfl, rfl, trivial⟩ ⟨(by subst hv5; rfl), rfl, trivial⟩ (Nat.le_refl _)) ?_
    refine aw_region (es := [_, _, _]) ⟨Step.plain rfl (does_load 25 3 0 0 [] (.var (e_api_Beat v5)) (e_api_Beat v5) trivial rfl rfl ty25), ⟨⟨rfl, trivial⟩, ⟨rfl, trivial⟩, rfl⟩, rfl,
      Step.plain rfl (does_store 25 6 (.tmp 41) 1 0 [] (.var (e_api_Beat z_api_Beat)) (.var (e_api_Beat v5)) (e_api_Beat v5) true trivial rfl trivial rfl rfl rfl ty25), ⟨⟨rfl, rfl, trivial⟩, ⟨rfl, trivial⟩, rfl⟩, rfl,
      Step.plain rfl (does_assign (.const (.bool true)) (.bool true) (fun _ => rfl)), ⟨trivial, trivial, rfl⟩, rfl, rfl⟩ ?_
    refine aw_cov (cov_prune (s1 := ⟨[(6, (.ptr 1 0 [])), (7, (.bool true))], [(1, some (.var (e_api_Beat v5)))], 2⟩) ⟨rfl, rfl, trivial⟩ ⟨rfl, trivial⟩ (Nat.le_refl _)) ?_
    refine aw_ret ?_
    exact fun a w hr => ⟨_, [(e_api_Beat v5), (.bool true)], hr, ⟨⟨1, _, rfl, rfl, .data _ (d_api_Beat v5), ty25⟩, ⟨_, rfl, .data _ trivial⟩, trivial⟩, by decide, by cases H; rfl⟩

theorem congressref08_Hear_spec (p0 : api_Beat) (p1 : Int) (p2 : Int) (r : api_Beat × Bool) (H : congressref08_Hear p0 p1 p2 = some r) : FSpec Try.prog 8 [(e_api_Beat p0), (.int .i64 p1), (.int .u32 p2)] (resV [(e_api_Beat r.1), (.bool r.2)]) := by
  refine spec_of (fn := Try.f8) (args := [(e_api_Beat p0), (.int .i64 p1), (.int .u32 p2)]) Try.func8 rfl (Nat.le_of_ble_eq_true rfl) ?_
  rintro ⟨G, w0, W, S, Sp⟩ hG
  cases hG
  unfold congressref08_Hear at H
  refine aw_region (es := [_, _, _]) ⟨Step.plain rfl (does_box 25 (.tmp 0) 0 (e_api_Beat p0) trivial rfl), ⟨⟨rfl, trivial⟩, trivial, rfl⟩, rfl,
    Step.plain rfl (does_alloc 25 1 (e_api_Beat z_api_Beat) zr25), ⟨trivial, trivial, rfl⟩, rfl,
    Step.plain rfl (does_assign (.const (.bool false)) (.bool false) (fun _ => rfl)), ⟨trivial, trivial, rfl⟩, rfl, rfl⟩ ?_
  refine aw_cov (cov_prune (s1 := ⟨[(1, (.int .i64 p1)), (2, (.int .u32 p2)), (3, (.ptr 0 0 [])), (6, (.ptr 1 0 []))], [(0, some (.var (e_api_Beat p0))), (1, some (.var (e_api_Beat z_api_Beat)))], 2⟩) ⟨rfl, rfl, rfl, rfl, trivial⟩ ⟨rfl, rfl, trivial⟩ (Nat.le_refl _)) ?_
  refine aw_seq ?_
  refine aw_region (es := [_, _, _, _, _, _, _, _, _, _, _, _, _, _, _]) ⟨Step.plain rfl (does_move (.tmp 1) (.int .i64 p1) trivial), ⟨⟨rfl, trivial⟩, trivial, rfl⟩, rfl,
    Step.plain rfl (does_bin .lss 3 3 (.tmp 8) (.const (.int .i64 0)) .i64 p1 0 (.bool (decide (p1 < 0))) trivial (fun _ => rfl) (bin_lss _ _ _ _)), ⟨⟨rfl, trivial⟩, trivial, rfl⟩, rfl,
    Step.plain rfl (does_move (.tmp 9) (.bool (decide (p1 < 0))) trivial), ⟨⟨rfl, trivial⟩, trivial, rfl⟩, rfl,
    Step.guarded rfl rfl rfl rfl (fun hc => does_move (.tmp 1) (.int .i64 p1) trivial), ⟨⟨rfl, rfl, trivial⟩, trivial, rfl⟩, rfl,
    Step.guarded rfl rfl rfl rfl (fun hc => Does.strip (n' := [(11, (.opt (!(decide (p1 < 0))) (.int .i64 p1)))]) (n := [(11, (.int .i64 p1))]) ⟨(.opt _ _ hc), trivial⟩ (does_bin .gtr 3 3 (.tmp 11) (.const (.int .i64 7)) .i64 p1 7 (.bool (decide (p1 > 7))) trivial (fun _ => rfl) (bin_gtr _ _ _ _))), ⟨⟨rfl, rfl, trivial⟩, trivial, rfl⟩, rfl,
    Step.plain rfl (does_or 10 12 (decide (p1 < 0)) (decide (p1 > 7))), ⟨⟨rfl, rfl, trivial⟩, trivial, rfl⟩, rfl,
    Step.plain rfl (does_move (.tmp 13) (.bool ((decide (p1 < 0)) || (decide (p1 > 7)))) trivial), ⟨⟨rfl, trivial⟩, trivial, rfl⟩, rfl,
    Step.guarded rfl rfl rfl rfl (fun hc => does_move (.tmp 2) (.int .u32 p2) trivial), ⟨⟨rfl, rfl, trivial⟩, trivial, rfl⟩, rfl,
    Step.guarded rfl rfl rfl rfl (fun hc => Does.strip (n' := [(15, (.opt (!((decide (p1 < 0)) || (decide (p1 > 7)))) (.int .u32 p2)))]) (n := [(15, (.int .u32 p2))]) ⟨(.opt _ _ hc), trivial⟩ (does_bin .eql 22 22 (.tmp 15) (.const (.int .u32 0)) .u32 p2 0 (.bool (p2 == 0)) trivial (fun _ => rfl) (bin_eql _ _ _ _))), ⟨⟨rfl, rfl, trivial⟩, trivial, rfl⟩, rfl,
    Step.plain rfl (does_or 14 16 ((decide (p1 < 0)) || (decide (p1 > 7))) (p2 == 0)), ⟨⟨rfl, rfl, trivial⟩, trivial, rfl⟩, rfl,
    Step.plain rfl (does_move (.tmp 17) (.bool (((decide (p1 < 0)) || (decide (p1 > 7))) || (p2 == 0))) trivial), ⟨⟨rfl, trivial⟩, trivial, rfl⟩, rfl,
    Step.guarded rfl rfl rfl rfl (fun hc => does_fieldAddr 25 0 0 3 0 0 [] (.var (e_api_Beat p0)) fl25_0), ⟨⟨rfl, rfl, trivial⟩, ⟨rfl, trivial⟩, rfl⟩, rfl,
    Step.guarded rfl rfl rfl rfl (fun hc => Does.strip (n' := [(19, (.opt (!(((decide (p1 < 0)) || (decide (p1 > 7))) || (p2 == 0))) (.ptr 0 (0 + 0) [0])))]) (n := [(19, (.ptr 0 (0 + 0) [0]))]) ⟨(.opt _ _ hc), trivial⟩ (does_load 22 19 0 (0 + 0) [0] (.var (e_api_Beat p0)) (.int .u32 p0.Now) ⟨rfl, Nat.le_of_ble_eq_true rfl, trivial⟩ rfl rfl ty22)), ⟨⟨rfl, rfl, trivial⟩, ⟨rfl, trivial⟩, rfl⟩, rfl,
    Step.guarded rfl rfl rfl rfl (fun hc => Does.strip (n' := [(20, (.opt (!(((decide (p1 < 0)) || (decide (p1 > 7))) || (p2 == 0))) (.int .u32 p0.Now)))]) (n := [(20, (.int .u32 p0.Now))]) ⟨(.opt _ _ hc), trivial⟩ (does_bin .eql 22 22 (.tmp 20) (.const (.int .u32 0)) .u32 p0.Now 0 (.bool (p0.Now == 0)) trivial (fun _ => rfl) (bin_eql _ _ _ _))), ⟨⟨rfl, rfl, trivial⟩, trivial, rfl⟩, rfl,
    Step.plain rfl (does_or 18 21 (((decide (p1 < 0)) || (decide (p1 > 7))) || (p2 == 0)) (p0.Now == 0)), ⟨⟨rfl, rfl, trivial⟩, trivial, rfl⟩, rfl, rfl⟩ ?_
  obtain ⟨v1, hv1, H⟩ := lt_of H
  refine aw_cov (cov_prune (s1 := ⟨[(1, (.int .i64 p1)), (2, (.int .u32 p2)), (3, (.ptr 0 0 [])), (6, (.ptr 1 0 [])), (22, (.bool v1))], [(0, some (.var (e_api_Beat p0))), (1, some (.var (e_api_Beat z_api_Beat)))], 2⟩) ⟨rfl, rfl, rfl, rfl, (by subst hv1; rfl), trivial⟩ ⟨rfl, rfl, trivial⟩ (Nat.le_refl _)) ?_
  refine aw_cond rfl (fun hc => ?_) (fun hc => ?_)
  · replace H := ite_t hc H
    refine aw_region (es := [_, _, _]) ⟨Step.plain rfl (does_load 25 3 0 0 [] (.var (e_api_Beat p0)) (e_api_Beat p0) trivial rfl rfl ty25), ⟨⟨rfl, trivial⟩, ⟨rfl, trivial⟩, rfl⟩, rfl,
      Step.plain rfl (does_store 25 6 (.tmp 23) 1 0 [] (.var (e_api_Beat z_api_Beat)) (.var (e_api_Beat p0)) (e_api_Beat p0) true trivial rfl trivial rfl rfl rfl ty25), ⟨⟨rfl, rfl, trivial⟩, ⟨rfl, trivial⟩, rfl⟩, rfl,
      Step.plain rfl (does_assign (.const (.bool false)) (.bool false) (fun _ => rfl)), ⟨trivial, trivial, rfl⟩, rfl, rfl⟩ ?_
    refine aw_cov (cov_prune (s1 := ⟨[(6, (.ptr 1 0 [])), (7, (.bool false))], [(1, some (.var (e_api_Beat p0)))], 2⟩) ⟨rfl, rfl, trivial⟩ ⟨rfl, trivial⟩ (Nat.le_refl _)) ?_
    refine aw_ret ?_
    refine rt_then ?_
    exact fun a w hr => ⟨_, [(e_api_Beat p0), (.bool false)], hr, ⟨⟨1, _, rfl, rfl, .data _ (d_api_Beat p0), ty25⟩, ⟨_, rfl, .data _ trivial⟩, trivial⟩, by decide, by cases H; rfl⟩
  · replace H := ite_f hc H
    refine aw_skip ?_
    refine nx_seq ?_
    refine aw_seq ?_
    obtain ⟨h2, H⟩ := ib_of H
    refine aw_region (es := [_, _, _, _, _, _]) ⟨Step.plain rfl (does_move (.tmp 2) (.int .u32 p2) trivial), ⟨⟨rfl, trivial⟩, trivial, rfl⟩, rfl,
      Step.plain rfl (does_move (.tmp 1) (.int .i64 p1) trivial), ⟨⟨rfl, trivial⟩, trivial, rfl⟩, rfl,
      Step.plain rfl (does_fieldAddr 25 2 9 3 0 0 [] (.var (e_api_Beat p0)) fl25_2), ⟨⟨rfl, trivial⟩, ⟨rfl, trivial⟩, rfl⟩, rfl,
      Step.plain rfl (does_indexAddr 23 8 1 26 0 (0 + 9) [2] (.var (e_api_Beat p0)) (.tmp 25) .i64 p1 el23 trivial h2.1 h2.2), ⟨⟨rfl, rfl, trivial⟩, ⟨rfl, trivial⟩, rfl⟩, rfl,
      Step.plain rfl (does_load 22 27 0 ((0 + 9) + p1.toNat * 1) [2, p1.toNat] (.var (e_api_Beat p0)) (.int .u32 (p0.Inc p1.toNat)) ⟨rfl, Nat.le_of_ble_eq_true rfl, ⟨rfl, (ixl h2), trivial⟩⟩ rfl rfl ty22), ⟨⟨rfl, trivial⟩, ⟨rfl, trivial⟩, rfl⟩, rfl,
      Step.plain rfl (does_bin .lss 22 22 (.tmp 24) (.tmp 28) .u32 p2 (p0.Inc p1.toNat) (.bool (decide (p2 < (p0.Inc p1.toNat)))) trivial trivial (bin_lss _ _ _ _)), ⟨⟨rfl, rfl, trivial⟩, trivial, rfl⟩, rfl, rfl⟩ ?_
    refine aw_cov (cov_prune (s1 := ⟨[(1, (.int .i64 p1)), (2, (.int .u32 p2)), (3, (.ptr 0 0 [])), (6, (.ptr 1 0 [])), (29, (.bool (decide (p2 < (p0.Inc p1.toNat)))))], [(0, some (.var (e_api_Beat p0))), (1, some (.var (e_api_Beat z_api_Beat)))], 2⟩) ⟨rfl, rfl, rfl, rfl, rfl, trivial⟩ ⟨rfl, rfl, trivial⟩ (Nat.le_refl _)) ?_
    refine aw_cond rfl (fun hc => ?_) (fun hc => ?_)
    · replace H := ite_t hc H
      refine aw_region (es := [_, _, _]) ⟨Step.plain rfl (does_load 25 3 0 0 [] (.var (e_api_Beat p0)) (e_api_Beat p0) trivial rfl rfl ty25), ⟨⟨rfl, trivial⟩, ⟨rfl, trivial⟩, rfl⟩, rfl,
        Step.plain rfl (does_store 25 6 (.tmp 30) 1 0 [] (.var (e_api_Beat z_api_Beat)) (.var (e_api_Beat p0)) (e_api_Beat p0) true trivial rfl trivial rfl rfl rfl ty25), ⟨⟨rfl, rfl, trivial⟩, ⟨rfl, trivial⟩, rfl⟩, rfl,
        Step.plain rfl (does_assign (.const (.bool false)) (.bool false) (fun _ => rfl)), ⟨trivial, trivial, rfl⟩, rfl, rfl⟩ ?_
      refine aw_cov (cov_prune (s1 := ⟨[(6, (.ptr 1 0 [])), (7, (.bool false))], [(1, some (.var (e_api_Beat p0)))], 2⟩) ⟨rfl, rfl, trivial⟩ ⟨rfl, trivial⟩ (Nat.le_refl _)) ?_
      refine aw_ret ?_
      refine rt_then ?_
      exact fun a w hr => ⟨_, [(e_api_Beat p0), (.bool false)], hr, ⟨⟨1, _, rfl, rfl, .data _ (d_api_Beat p0), ty25⟩, ⟨_, rfl, .data _ trivial⟩, trivial⟩, by decide, by cases H; rfl⟩
    · replace H := ite_f hc H
      refine aw_skip ?_
      refine nx_seq ?_
      obtain ⟨h3, H⟩ := ib_of H
      refine aw_region (es := [_, _, _, _, _, _]) ⟨Step.plain rfl (does_move (.tmp 1) (.int .i64 p1) trivial), ⟨⟨rfl, trivial⟩, trivial, rfl⟩, rfl,
        Step.plain rfl (does_fieldAddr 25 0 0 3 0 0 [] (.var (e_api_Beat p0)) fl25_0), ⟨⟨rfl, trivial⟩, ⟨rfl, trivial⟩, rfl⟩, rfl,
        Step.plain rfl (does_load 22 32 0 (0 + 0) [0] (.var (e_api_Beat p0)) (.int .u32 p0.Now) ⟨rfl, Nat.le_of_ble_eq_true rfl, trivial⟩ rfl rfl ty22), ⟨⟨rfl, trivial⟩, ⟨rfl, trivial⟩, rfl⟩, rfl,
        Step.plain rfl (does_fieldAddr 25 1 1 3 0 0 [] (.var (e_api_Beat p0)) fl25_1), ⟨⟨rfl, trivial⟩, ⟨rfl, trivial⟩, rfl⟩, rfl,
        Step.plain rfl (does_indexAddr 23 8 1 34 0 (0 + 1) [1] (.var (e_api_Beat p0)) (.tmp 31) .i64 p1 el23 trivial h3.1 h3.2), ⟨⟨rfl, rfl, trivial⟩, ⟨rfl, trivial⟩, rfl⟩, rfl,
        Step.plain rfl (does_store 22 35 (.tmp 33) 0 ((0 + 1) + p1.toNat * 1) [1, p1.toNat] (.var (e_api_Beat p0)) (.var (e_api_Beat ({ p0 with Heard := aupd p0.Heard p1.toNat p0.Now }))) (.int .u32 p0.Now) false trivial rfl ⟨rfl, Nat.le_of_ble_eq_true rfl, ⟨rfl, (ixl h3), trivial⟩⟩ rfl rfl (congrArg Box.var (set_cons (set_cons rfl (vupd_map (fun z => V.int .u32 z) _ _ _)) (st_api_Beat_1 _ _))) ty22), ⟨⟨rfl, rfl, trivial⟩, ⟨rfl, trivial⟩, rfl⟩, rfl, rfl⟩ ?_
      refine aw_cov (cov_prune (s1 := ⟨[(1, (.int .i64 p1)), (2, (.int .u32 p2)), (3, (.ptr 0 0 [])), (6, (.ptr 1 0 []))], [(0, some (.var (e_api_Beat ({ p0 with Heard := aupd p0.Heard p1.toNat p0.Now })))), (1, some (.var (e_api_Beat z_api_Beat)))], 2⟩) ⟨rfl, rfl, rfl, rfl, trivial⟩ ⟨rfl, rfl, trivial⟩ (Nat.le_refl _)) ?_
      obtain ⟨h4, H⟩ := ib_of H
      refine aw_region (es := [_, _, _, _, _]) ⟨Step.plain rfl (does_move (.tmp 1) (.int .i64 p1) trivial), ⟨⟨rfl, trivial⟩, trivial, rfl⟩, rfl,
        Step.plain rfl (does_move (.tmp 2) (.int .u32 p2) trivial), ⟨⟨rfl, trivial⟩, trivial, rfl⟩, rfl,
        Step.plain rfl (does_fieldAddr 25 2 9 3 0 0 [] (.var (e_api_Beat ({ p0 with Heard := aupd p0.Heard p1.toNat p0.Now }))) fl25_2), ⟨⟨rfl, trivial⟩, ⟨rfl, trivial⟩, rfl⟩, rfl,
        Step.plain rfl (does_indexAddr 23 8 1 38 0 (0 + 9) [2] (.var (e_api_Beat ({ p0 with Heard := aupd p0.Heard p1.toNat p0.Now }))) (.tmp 36) .i64 p1 el23 trivial h4.1 h4.2), ⟨⟨rfl, rfl, trivial⟩, ⟨rfl, trivial⟩, rfl⟩, rfl,
        Step.plain rfl (does_store 22 39 (.tmp 37) 0 ((0 + 9) + p1.toNat * 1) [2, p1.toNat] (.var (e_api_Beat ({ p0 with Heard := aupd p0.Heard p1.toNat p0.Now }))) (.var (e_api_Beat ({ { p0 with Heard := aupd p0.Heard p1.toNat p0.Now } with Inc := aupd (({ p0 with Heard := aupd p0.Heard p1.toNat p0.Now }).Inc) p1.toNat p2 }))) (.int .u32 p2) false trivial rfl ⟨rfl, Nat.le_of_ble_eq_true rfl, ⟨rfl, (ixl h4), trivial⟩⟩ rfl rfl (congrArg Box.var (set_cons (set_cons rfl (vupd_map (fun z => V.int .u32 z) _ _ _)) (st_api_Beat_2 _ _))) ty22), ⟨⟨rfl, rfl, trivial⟩, ⟨rfl, trivial⟩, rfl⟩, rfl, rfl⟩ ?_
      obtain ⟨v5, hv5, H⟩ := lt_of H
      refine aw_cov (cov_prune (s1 := ⟨[(3, (.ptr 0 0 [])), (6, (.ptr 1 0 []))], [(0, some (.var (e_api_Beat v5))), (1, some (.var (e_api_Beat z_api_Beat)))], 2⟩) ⟨rfl, rfl, trivial⟩ ⟨(by subst hv5; rfl), rfl, trivial⟩ (Nat.le_refl _)) ?_
      refine aw_region (es := [_, _, _]) ⟨Step.plain rfl (does_load 25 3 0 0 [] (.var (e_api_Beat v5)) (e_api_Beat v5) trivial rfl rfl ty25), ⟨⟨rfl, trivial⟩, ⟨rfl, trivial⟩, rfl⟩, rfl,
        Step.plain rfl (does_store 25 6 (.tmp 40) 1 0 [] (.var (e_api_Beat z_api_Beat)) (.var (e_api_Beat v5)) (e_api_Beat v5) true trivial rfl trivial rfl rfl rfl ty25), ⟨⟨rfl, rfl, trivial⟩, ⟨rfl, trivial⟩, rfl⟩, rfl,
        Step.plain rfl (does_assign (.const (.bool true)) (.bool true) (fun _ => rfl)), ⟨trivial, trivial, rfl⟩, rfl, rfl⟩ ?_
      refine aw_cov (cov_prune (s1 := ⟨[(6, (.ptr 1 0 [])), (7, (.bool true))], [(1, some (.var (e_api_Beat v5)))], 2⟩) ⟨rfl, rfl, trivial⟩ ⟨rfl, trivial⟩ (Nat.le_refl _)) ?_
      refine aw_ret ?_
      exact fun a w hr => ⟨_, [(e_api_Beat v5), (.bool true)], hr, ⟨⟨1, _, rfl, rfl, .data _ (d_api_Beat v5), ty25⟩, ⟨_, rfl, .data _ trivial⟩, trivial⟩, by decide, by cases H; rfl⟩

theorem beat_Tick_spec (p0 : api_Beat) (r : api_Beat) (H : beat_Tick p0 = some r) : FSpec Try.prog 10 [(e_api_Beat p0)] (e_api_Beat r) := by
  refine spec_of (fn := Try.f10) (args := [(e_api_Beat p0)]) Try.func10 rfl (Nat.le_of_ble_eq_true rfl) ?_
  rintro ⟨G, w0, W, S, Sp⟩ hG
  cases hG
  unfold beat_Tick at H
  refine aw_region (es := [_, _]) ⟨Step.plain rfl (does_box 25 (.tmp 0) 0 (e_api_Beat p0) trivial rfl), ⟨⟨rfl, trivial⟩, trivial, rfl⟩, rfl,
    Step.plain rfl (does_alloc 25 1 (e_api_Beat z_api_Beat) zr25), ⟨trivial, trivial, rfl⟩, rfl, rfl⟩ ?_
  refine aw_cov (cov_prune (s1 := ⟨[(1, (.ptr 0 0 [])), (2, (.ptr 1 0 []))], [(0, some (.var (e_api_Beat p0))), (1, some (.var (e_api_Beat z_api_Beat)))], 2⟩) ⟨rfl, rfl, trivial⟩ ⟨rfl, rfl, trivial⟩ (Nat.le_refl _)) ?_
  refine aw_seq ?_
  refine aw_region (es := [_, _, _]) ⟨Step.plain rfl (does_fieldAddr 25 0 0 1 0 0 [] (.var (e_api_Beat p0)) fl25_0), ⟨⟨rfl, trivial⟩, ⟨rfl, trivial⟩, rfl⟩, rfl,
    Step.plain rfl (does_load 22 3 0 (0 + 0) [0] (.var (e_api_Beat p0)) (.int .u32 p0.Now) ⟨rfl, Nat.le_of_ble_eq_true rfl, trivial⟩ rfl rfl ty22), ⟨⟨rfl, trivial⟩, ⟨rfl, trivial⟩, rfl⟩, rfl,
    Step.plain rfl (does_bin .lss 22 22 (.tmp 4) (.const (.int .u32 4294967295)) .u32 p0.Now 4294967295 (.bool (decide (p0.Now < 4294967295))) trivial (fun _ => rfl) (bin_lss _ _ _ _)), ⟨⟨rfl, trivial⟩, trivial, rfl⟩, rfl, rfl⟩ ?_
  refine aw_cov (cov_prune (s1 := ⟨[(1, (.ptr 0 0 [])), (2, (.ptr 1 0 [])), (5, (.bool (decide (p0.Now < 4294967295))))], [(0, some (.var (e_api_Beat p0))), (1, some (.var (e_api_Beat z_api_Beat)))], 2⟩) ⟨rfl, rfl, rfl, trivial⟩ ⟨rfl, rfl, trivial⟩ (Nat.le_refl _)) ?_
  refine aw_jn (fun x2 : api_Beat => (⟨[(1, (.ptr 0 0 [])), (2, (.ptr 1 0 []))], [(0, some (.var (e_api_Beat x2))), (1, some (.var (e_api_Beat z_api_Beat)))], 2⟩ : St)) H (fun x2 H => ?_) (fun j1 H => ?_)
  · refine nx_seq ?_
    refine aw_region (es := [_, _]) ⟨Step.plain rfl (does_load 25 1 0 0 [] (.var (e_api_Beat x2)) (e_api_Beat x2) trivial rfl rfl ty25), ⟨⟨rfl, trivial⟩, ⟨rfl, trivial⟩, rfl⟩, rfl,
      Step.plain rfl (does_store 25 2 (.tmp 10) 1 0 [] (.var (e_api_Beat z_api_Beat)) (.var (e_api_Beat x2)) (e_api_Beat x2) true trivial rfl trivial rfl rfl rfl ty25), ⟨⟨rfl, rfl, trivial⟩, ⟨rfl, trivial⟩, rfl⟩, rfl, rfl⟩ ?_
    refine aw_cov (cov_prune (s1 := ⟨[(2, (.ptr 1 0 []))], [(1, some (.var (e_api_Beat x2)))], 2⟩) ⟨rfl, trivial⟩ ⟨rfl, trivial⟩ (Nat.le_refl _)) ?_
    refine aw_ret ?_
    exact fun a w hr => ⟨_, [(e_api_Beat x2)], hr, ⟨⟨1, _, rfl, rfl, .data _ (d_api_Beat x2), ty25⟩, trivial⟩, by decide, by cases H; rfl⟩
  · refine aw_cond rfl (fun hc => ?_) (fun hc => ?_)
    · replace H := ite_t hc H
      refine aw_region1 (es := [_, _, _, _, _]) ⟨Step.plain rfl (does_fieldAddr 25 0 0 1 0 0 [] (.var (e_api_Beat p0)) fl25_0), ⟨⟨rfl, trivial⟩, ⟨rfl, trivial⟩, rfl⟩, rfl,
        Step.plain rfl (does_load 22 6 0 (0 + 0) [0] (.var (e_api_Beat p0)) (.int .u32 p0.Now) ⟨rfl, Nat.le_of_ble_eq_true rfl, trivial⟩ rfl rfl ty22), ⟨⟨rfl, trivial⟩, ⟨rfl, trivial⟩, rfl⟩, rfl,
        Step.plain rfl (does_bin .add 22 22 (.tmp 7) (.const (.int .u32 1)) .u32 p0.Now 1 (.int .u32 (IntKind.u32.wrap (p0.Now + 1))) trivial (fun _ => rfl) (bin_add _ _ _ _)), ⟨⟨rfl, trivial⟩, trivial, rfl⟩, rfl,
        Step.plain rfl (does_fieldAddr 25 0 0 1 0 0 [] (.var (e_api_Beat p0)) fl25_0), ⟨⟨rfl, trivial⟩, ⟨rfl, trivial⟩, rfl⟩, rfl,
        Step.plain rfl (does_store 22 9 (.tmp 8) 0 (0 + 0) [0] (.var (e_api_Beat p0)) (.var (e_api_Beat ({ p0 with Now := (IntKind.u32.wrap (p0.Now + 1)) }))) (.int .u32 (IntKind.u32.wrap (p0.Now + 1))) false trivial rfl ⟨rfl, Nat.le_of_ble_eq_true rfl, trivial⟩ rfl rfl (congrArg Box.var (set_cons rfl (st_api_Beat_0 _ _))) ty22), ⟨⟨rfl, rfl, trivial⟩, ⟨rfl, trivial⟩, rfl⟩, rfl, rfl⟩ ?_
      exact nx_join ({ p0 with Now := (IntKind.u32.wrap (p0.Now + 1)) }) H (cov_prune ⟨rfl, rfl, trivial⟩ ⟨rfl, rfl, trivial⟩ (Nat.le_of_ble_eq_true rfl))
    · replace H := ite_f hc H
      refine aw_skip ?_
      exact nx_join (p0) H (cov_prune ⟨rfl, rfl, trivial⟩ ⟨rfl, rfl, trivial⟩ (Nat.le_of_ble_eq_true rfl))

theorem beat_Reach_spec (p0 : api_Beat) (p1 : Int) (p2 : Int) (p3 : Int) (r : (Nat → Int)) (H : beat_Reach p0 p1 p2 p3 = some r) : FSpec Try.prog 12 [(e_api_Beat p0), (.int .i64 p1), (.int .u32 p2), (.int .u32 p3)] (e_a8_u32 r) := by
  refine spec_of (fn := Try.f12) (args := [(e_api_Beat p0), (.int .i64 p1), (.int .u32 p2), (.int .u32 p3)]) Try.func12 rfl (Nat.le_of_ble_eq_true rfl) ?_
  rintro ⟨G, w0, W, S, Sp⟩ hG
  cases hG
  unfold beat_Reach at H
  refine aw_region (es := [_, _]) ⟨Step.plain rfl (does_box 25 (.tmp 0) 0 (e_api_Beat p0) trivial rfl), ⟨⟨rfl, trivial⟩, trivial, rfl⟩, rfl,
    Step.plain rfl (does_alloc 32 1 (e_a8_u32 (fun _ => 0)) zr32), ⟨trivial, trivial, rfl⟩, rfl, rfl⟩ ?_
  refine aw_cov (cov_prune (s1 := ⟨[(1, (.int .i64 p1)), (2, (.int .u32 p2)), (3, (.int .u32 p3)), (4, (.ptr 0 0 [])), (8, (.ptr 1 0 []))], [(0, some (.var (e_api_Beat p0))), (1, some (.var (e_a8_u32 (fun _ => 0))))], 2⟩) ⟨rfl, rfl, rfl, rfl, rfl, trivial⟩ ⟨rfl, rfl, trivial⟩ (Nat.le_refl _)) ?_
  refine aw_region (es := [_]) ⟨Step.plain rfl (does_alloc 32 2 (e_a8_u32 (fun _ => 0)) zr32), ⟨trivial, trivial, rfl⟩, rfl, rfl⟩ ?_
  refine aw_cov (cov_prune (s1 := ⟨[(1, (.int .i64 p1)), (2, (.int .u32 p2)), (3, (.int .u32 p3)), (4, (.ptr 0 0 [])), (8, (.ptr 1 0 [])), (9, (.ptr 2 0 []))], [(0, some (.var (e_api_Beat p0))), (1, some (.var (e_a8_u32 (fun _ => 0)))), (2, some (.var (e_a8_u32 (fun _ => 0))))], 3⟩) ⟨rfl, rfl, rfl, rfl, rfl, rfl, trivial⟩ ⟨rfl, rfl, rfl, trivial⟩ (Nat.le_refl _)) ?_
  refine aw_seq ?_
  refine aw_region (es := [_, _, _]) ⟨Step.plain rfl (does_fieldAddr 25 1 1 4 0 0 [] (.var (e_api_Beat p0)) fl25_1), ⟨⟨rfl, trivial⟩, ⟨rfl, trivial⟩, rfl⟩, rfl,
    Step.plain rfl (does_load 23 12 0 (0 + 1) [1] (.var (e_api_Beat p0)) (e_a8_u32 p0.Heard) ⟨rfl, Nat.le_of_ble_eq_true rfl, trivial⟩ rfl rfl ty23), ⟨⟨rfl, trivial⟩, ⟨rfl, trivial⟩, rfl⟩, rfl,
    Step.plain rfl (does_move (.const (.int .i64 0)) (.int .i64 0) (fun _ => rfl)), ⟨trivial, trivial, rfl⟩, rfl, rfl⟩ ?_
  refine aw_cov (cov_prune (s1 := ⟨[(1, (.int .i64 p1)), (2, (.int .u32 p2)), (3, (.int .u32 p3)), (4, (.ptr 0 0 [])), (8, (.ptr 1 0 [])), (9, (.ptr 2 0 [])), (13, (e_a8_u32 p0.Heard)), (14, (.int .i64 0))], [(0, some (.var (e_api_Beat p0))), (1, some (.var (e_a8_u32 (fun _ => 0)))), (2, some (.var (e_a8_u32 (fun _ => 0))))], 3⟩) ⟨rfl, rfl, rfl, rfl, rfl, rfl, rfl, rfl, trivial⟩ ⟨rfl, rfl, rfl, trivial⟩ (Nat.le_refl _)) ?_
  obtain ⟨wn2, hwn2, Hrn2⟩ := bnd H
  refine aw_meet (fun y9 : (Nat → Int) => (⟨[(1, (.int .i64 p1)), (2, (.int .u32 p2)), (8, (.ptr 1 0 [])), (9, (.ptr 2 0 []))], [(1, some (.var (e_a8_u32 (fun _ => 0)))), (2, some (.var (e_a8_u32 y9)))], 3⟩ : St)) (fun y9 => Fl.nx y9 = wn2) (fun y9 hy => ?_) (aw_block (aw_runs (fun x1 : Int × (Nat → Int) => (⟨[(1, (.int .i64 p1)), (2, (.int .u32 p2)), (3, (.int .u32 p3)), (4, (.ptr 0 0 [])), (8, (.ptr 1 0 [])), (9, (.ptr 2 0 [])), (13, (e_a8_u32 p0.Heard)), (14, (.int .i64 x1.1))], [(0, some (.var (e_api_Beat p0))), (1, some (.var (e_a8_u32 (fun _ => 0)))), (2, some (.var (e_a8_u32 x1.2)))], 3⟩ : St)) hwn2 (cov_prune ⟨rfl, rfl, rfl, rfl, rfl, rfl, rfl, rfl, trivial⟩ ⟨rfl, rfl, rfl, trivial⟩ (Nat.le_of_ble_eq_true rfl)) (fun x1 st H hsn2 => ?_)))
  · have H := nx_of hy Hrn2
    refine nx_seq ?_
    refine aw_seq ?_
    refine aw_region (es := [_, _, _, _, _, _]) ⟨Step.plain rfl (does_move (.tmp 1) (.int .i64 p1) trivial), ⟨⟨rfl, trivial⟩, trivial, rfl⟩, rfl,
      Step.plain rfl (does_bin .geq 3 3 (.tmp 41) (.const (.int .i64 0)) .i64 p1 0 (.bool (decide (p1 ≥ 0))) trivial (fun _ => rfl) (bin_geq _ _ _ _)), ⟨⟨rfl, trivial⟩, trivial, rfl⟩, rfl,
      Step.plain rfl (does_move (.tmp 42) (.bool (decide (p1 ≥ 0))) trivial), ⟨⟨rfl, trivial⟩, trivial, rfl⟩, rfl,
      Step.guarded rfl rfl rfl rfl (fun hc => does_move (.tmp 1) (.int .i64 p1) trivial), ⟨⟨rfl, rfl, trivial⟩, trivial, rfl⟩, rfl,
      Step.guarded rfl rfl rfl rfl (fun hc => Does.strip (n' := [(44, (.opt (decide (p1 ≥ 0)) (.int .i64 p1)))]) (n := [(44, (.int .i64 p1))]) ⟨(.opt _ _ hc), trivial⟩ (does_bin .lss 3 3 (.tmp 44) (.const (.int .i64 8)) .i64 p1 8 (.bool (decide (p1 < 8))) trivial (fun _ => rfl) (bin_lss _ _ _ _))), ⟨⟨rfl, rfl, trivial⟩, trivial, rfl⟩, rfl,
      Step.plain rfl (does_and 43 45 (decide (p1 ≥ 0)) (decide (p1 < 8))), ⟨⟨rfl, rfl, trivial⟩, trivial, rfl⟩, rfl, rfl⟩ ?_
    refine aw_cov (cov_prune (s1 := ⟨[(1, (.int .i64 p1)), (2, (.int .u32 p2)), (8, (.ptr 1 0 [])), (9, (.ptr 2 0 [])), (46, (.bool ((decide (p1 ≥ 0)) && (decide (p1 < 8)))))], [(1, some (.var (e_a8_u32 (fun _ => 0)))), (2, some (.var (e_a8_u32 y9)))], 3⟩) ⟨rfl, rfl, rfl, rfl, rfl, trivial⟩ ⟨rfl, rfl, trivial⟩ (Nat.le_refl _)) ?_
    refine aw_jn (fun x12 : (Nat → Int) => (⟨[(8, (.ptr 1 0 [])), (9, (.ptr 2 0 []))], [(1, some (.var (e_a8_u32 (fun _ => 0)))), (2, some (.var (e_a8_u32 x12)))], 3⟩ : St)) H (fun x12 H => ?_) (fun j10 H => ?_)
    · refine nx_seq ?_
      refine aw_region (es := [_, _]) ⟨Step.plain rfl (does_load 32 9 2 0 [] (.var (e_a8_u32 x12)) (e_a8_u32 x12) trivial rfl rfl ty32), ⟨⟨rfl, trivial⟩, ⟨rfl, trivial⟩, rfl⟩, rfl,
        Step.plain rfl (does_store 32 8 (.tmp 50) 1 0 [] (.var (e_a8_u32 (fun _ => 0))) (.var (e_a8_u32 x12)) (e_a8_u32 x12) true trivial rfl trivial rfl rfl rfl ty32), ⟨⟨rfl, rfl, trivial⟩, ⟨rfl, trivial⟩, rfl⟩, rfl, rfl⟩ ?_
      refine aw_cov (cov_prune (s1 := ⟨[(8, (.ptr 1 0 []))], [(1, some (.var (e_a8_u32 x12)))], 3⟩) ⟨rfl, trivial⟩ ⟨rfl, trivial⟩ (Nat.le_refl _)) ?_
      refine aw_ret ?_
      exact fun a w hr => ⟨_, [(e_a8_u32 x12)], hr, ⟨⟨1, _, rfl, rfl, .data _ (d_a8_u32 x12), ty32⟩, trivial⟩, by decide, by cases H; rfl⟩
    · refine aw_cond rfl (fun hc => ?_) (fun hc => ?_)
      · replace H := ite_t hc H
        obtain ⟨h11, H⟩ := ib_of H
        refine aw_region1 (es := [_, _, _, _]) ⟨Step.plain rfl (does_move (.tmp 1) (.int .i64 p1) trivial), ⟨⟨rfl, trivial⟩, trivial, rfl⟩, rfl,
          Step.plain rfl (does_move (.tmp 2) (.int .u32 p2) trivial), ⟨⟨rfl, trivial⟩, trivial, rfl⟩, rfl,
          Step.plain rfl (does_indexAddr 32 8 1 9 2 0 [] (.var (e_a8_u32 y9)) (.tmp 47) .i64 p1 el32 trivial h11.1 h11.2), ⟨⟨rfl, rfl, trivial⟩, ⟨rfl, trivial⟩, rfl⟩, rfl,
          Step.plain rfl (does_store 22 49 (.tmp 48) 2 (0 + p1.toNat * 1) [p1.toNat] (.var (e_a8_u32 y9)) (.var (e_a8_u32 (aupd y9 p1.toNat p2))) (.int .u32 p2) false trivial rfl ⟨rfl, (ixl h11), trivial⟩ rfl rfl (congrArg Box.var (set_cons rfl (vupd_map (fun z => V.int .u32 z) _ _ _))) ty22), ⟨⟨rfl, rfl, trivial⟩, ⟨rfl, trivial⟩, rfl⟩, rfl, rfl⟩ ?_
        exact nx_join (aupd y9 p1.toNat p2) H (cov_prune ⟨rfl, rfl, trivial⟩ ⟨rfl, rfl, trivial⟩ (Nat.le_of_ble_eq_true rfl))
      · replace H := ite_f hc H
        refine aw_skip ?_
        exact nx_join (y9) H (cov_prune ⟨rfl, rfl, trivial⟩ ⟨rfl, rfl, trivial⟩ (Nat.le_of_ble_eq_true rfl))
  · refine aw_region (es := [_]) ⟨Step.plain rfl (does_bin .lss 3 3 (.tmp 14) (.const (.int .i64 8)) .i64 x1.1 8 (.bool (decide (x1.1 < 8))) trivial (fun _ => rfl) (bin_lss _ _ _ _)), ⟨⟨rfl, trivial⟩, trivial, rfl⟩, rfl, rfl⟩ ?_
    refine aw_cov (cov_prune (s1 := ⟨[(1, (.int .i64 p1)), (2, (.int .u32 p2)), (3, (.int .u32 p3)), (4, (.ptr 0 0 [])), (8, (.ptr 1 0 [])), (9, (.ptr 2 0 [])), (13, (e_a8_u32 p0.Heard)), (14, (.int .i64 x1.1)), (15, (.bool (decide (x1.1 < 8))))], [(0, some (.var (e_api_Beat p0))), (1, some (.var (e_a8_u32 (fun _ => 0)))), (2, some (.var (e_a8_u32 x1.2)))], 3⟩) ⟨rfl, rfl, rfl, rfl, rfl, rfl, rfl, rfl, rfl, trivial⟩ ⟨rfl, rfl, rfl, trivial⟩ (Nat.le_refl _)) ?_
    refine aw_seq ?_
    refine aw_cond rfl (fun hc => ?_) (fun hc => ?_)
    · replace H := ite_t hc H
      refine aw_skip ?_
      refine nx_seq ?_
      refine aw_seq ?_
      refine aw_jn (fun x8 : (Nat → Int) => (⟨[(1, (.int .i64 p1)), (2, (.int .u32 p2)), (3, (.int .u32 p3)), (4, (.ptr 0 0 [])), (8, (.ptr 1 0 [])), (9, (.ptr 2 0 [])), (13, (e_a8_u32 p0.Heard)), (14, (.int .i64 x1.1))], [(0, some (.var (e_api_Beat p0))), (1, some (.var (e_a8_u32 (fun _ => 0)))), (2, some (.var (e_a8_u32 x8)))], 3⟩ : St)) H (fun x8 H => ?_) (fun j3 H => ?_)
      · refine nx_seq ?_
        refine aw_region1 (es := [_, _]) ⟨Step.plain rfl (does_bin .add 3 3 (.tmp 14) (.const (.int .i64 1)) .i64 x1.1 1 (.int .i64 (IntKind.i64.wrap (x1.1 + 1))) trivial (fun _ => rfl) (bin_add _ _ _ _)), ⟨⟨rfl, trivial⟩, trivial, rfl⟩, rfl,
          Step.plain rfl (does_move (.tmp 40) (.int .i64 (IntKind.i64.wrap (x1.1 + 1))) trivial), ⟨⟨rfl, trivial⟩, trivial, rfl⟩, rfl, rfl⟩ ?_
        exact nx_loop ((IntKind.i64.wrap (x1.1 + 1)), x8) H (cov_prune ⟨rfl, rfl, rfl, rfl, rfl, rfl, rfl, rfl, trivial⟩ ⟨rfl, rfl, rfl, trivial⟩ (Nat.le_of_ble_eq_true rfl))
      · refine aw_block ?_
        obtain ⟨h4, H⟩ := ib_of H
        refine aw_region (es := [_, _, _, _]) ⟨Step.plain rfl (does_move (.tmp 14) (.int .i64 x1.1) trivial), ⟨⟨rfl, trivial⟩, trivial, rfl⟩, rfl,
          Step.plain rfl (does_index 23 8 22 1 13 false (fun j => (.int .u32 (p0.Heard j))) (.tmp 14) .i64 x1.1 ua23 ty22 rfl trivial h4.1 h4.2), ⟨⟨rfl, rfl, trivial⟩, trivial, rfl⟩, rfl,
          Step.plain rfl (does_assign (.tmp 16) (.int .i64 x1.1) trivial), ⟨⟨rfl, trivial⟩, trivial, rfl⟩, rfl,
          Step.plain rfl (does_assign (.tmp 17) (.int .u32 (p0.Heard x1.1.toNat)) trivial), ⟨⟨rfl, trivial⟩, trivial, rfl⟩, rfl, rfl⟩ ?_
        refine aw_cov (cov_prune (s1 := ⟨[(1, (.int .i64 p1)), (2, (.int .u32 p2)), (3, (.int .u32 p3)), (4, (.ptr 0 0 [])), (8, (.ptr 1 0 [])), (9, (.ptr 2 0 [])), (13, (e_a8_u32 p0.Heard)), (14, (.int .i64 x1.1)), (10, (.int .i64 x1.1)), (11, (.int .u32 (p0.Heard x1.1.toNat)))], [(0, some (.var (e_api_Beat p0))), (1, some (.var (e_a8_u32 (fun _ => 0)))), (2, some (.var (e_a8_u32 x1.2)))], 3⟩) ⟨rfl, rfl, rfl, rfl, rfl, rfl, rfl, rfl, rfl, rfl, trivial⟩ ⟨rfl, rfl, rfl, trivial⟩ (Nat.le_refl _)) ?_
        refine aw_region (es := [_, _, _, _, _, _, _, _, _, _, _, _, _, _, _, _]) ⟨Step.plain rfl (does_move (.tmp 11) (.int .u32 (p0.Heard x1.1.toNat)) trivial), ⟨⟨rfl, trivial⟩, trivial, rfl⟩, rfl,
          Step.plain rfl (does_bin .neq 22 22 (.tmp 18) (.const (.int .u32 0)) .u32 (p0.Heard x1.1.toNat) 0 (.bool ((p0.Heard x1.1.toNat) != 0)) trivial (fun _ => rfl) (bin_neq _ _ _ _)), ⟨⟨rfl, trivial⟩, trivial, rfl⟩, rfl,
          Step.plain rfl (does_move (.tmp 19) (.bool ((p0.Heard x1.1.toNat) != 0)) trivial), ⟨⟨rfl, trivial⟩, trivial, rfl⟩, rfl,
          Step.guarded rfl rfl rfl rfl (fun hc => does_move (.tmp 11) (.int .u32 (p0.Heard x1.1.toNat)) trivial), ⟨⟨rfl, rfl, trivial⟩, trivial, rfl⟩, rfl,
          Step.guarded rfl rfl rfl rfl (fun hc => does_fieldAddr 25 0 0 4 0 0 [] (.var (e_api_Beat p0)) fl25_0), ⟨⟨rfl, rfl, trivial⟩, ⟨rfl, trivial⟩, rfl⟩, rfl,
          Step.guarded rfl rfl rfl rfl (fun hc => Does.strip (n' := [(22, (.opt ((p0.Heard x1.1.toNat) != 0) (.ptr 0 (0 + 0) [0])))]) (n := [(22, (.ptr 0 (0 + 0) [0]))]) ⟨(.opt _ _ hc), trivial⟩ (does_load 22 22 0 (0 + 0) [0] (.var (e_api_Beat p0)) (.int .u32 p0.Now) ⟨rfl, Nat.le_of_ble_eq_true rfl, trivial⟩ rfl rfl ty22)), ⟨⟨rfl, rfl, trivial⟩, ⟨rfl, trivial⟩, rfl⟩, rfl,
          Step.guarded rfl rfl rfl rfl (fun hc => Does.strip (n' := [(21, (.opt ((p0.Heard x1.1.toNat) != 0) (.int .u32 (p0.Heard x1.1.toNat)))), (23, (.opt ((p0.Heard x1.1.toNat) != 0) (.int .u32 p0.Now)))]) (n := [(21, (.int .u32 (p0.Heard x1.1.toNat))), (23, (.int .u32 p0.Now))]) ⟨(.opt _ _ hc), (.opt _ _ hc), trivial⟩ (does_bin .leq 22 22 (.tmp 21) (.tmp 23) .u32 (p0.Heard x1.1.toNat) p0.Now (.bool (decide ((p0.Heard x1.1.toNat) ≤ p0.Now))) trivial trivial (bin_leq _ _ _ _))), ⟨⟨rfl, rfl, rfl, trivial⟩, trivial, rfl⟩, rfl,
          Step.plain rfl (does_and 20 24 ((p0.Heard x1.1.toNat) != 0) (decide ((p0.Heard x1.1.toNat) ≤ p0.Now))), ⟨⟨rfl, rfl, trivial⟩, trivial, rfl⟩, rfl,
          Step.plain rfl (does_move (.tmp 25) (.bool (((p0.Heard x1.1.toNat) != 0) && (decide ((p0.Heard x1.1.toNat) ≤ p0.Now)))) trivial), ⟨⟨rfl, trivial⟩, trivial, rfl⟩, rfl,
          Step.guarded rfl rfl rfl rfl (fun hc => does_fieldAddr 25 0 0 4 0 0 [] (.var (e_api_Beat p0)) fl25_0), ⟨⟨rfl, rfl, trivial⟩, ⟨rfl, trivial⟩, rfl⟩, rfl,
          Step.guarded rfl rfl rfl rfl (fun hc => Does.strip (n' := [(27, (.opt (((p0.Heard x1.1.toNat) != 0) && (decide ((p0.Heard x1.1.toNat) ≤ p0.Now))) (.ptr 0 (0 + 0) [0])))]) (n := [(27, (.ptr 0 (0 + 0) [0]))]) ⟨(.opt _ _ hc), trivial⟩ (does_load 22 27 0 (0 + 0) [0] (.var (e_api_Beat p0)) (.int .u32 p0.Now) ⟨rfl, Nat.le_of_ble_eq_true rfl, trivial⟩ rfl rfl ty22)), ⟨⟨rfl, rfl, trivial⟩, ⟨rfl, trivial⟩, rfl⟩, rfl,
          Step.guarded rfl rfl rfl rfl (fun hc => does_move (.tmp 11) (.int .u32 (p0.Heard x1.1.toNat)) trivial), ⟨⟨rfl, rfl, trivial⟩, trivial, rfl⟩, rfl,
          Step.guarded rfl rfl rfl rfl (fun hc => Does.strip (n' := [(28, (.opt (((p0.Heard x1.1.toNat) != 0) && (decide ((p0.Heard x1.1.toNat) ≤ p0.Now))) (.int .u32 p0.Now))), (29, (.opt (((p0.Heard x1.1.toNat) != 0) && (decide ((p0.Heard x1.1.toNat) ≤ p0.Now))) (.int .u32 (p0.Heard x1.1.toNat))))]) (n := [(28, (.int .u32 p0.Now)), (29, (.int .u32 (p0.Heard x1.1.toNat)))]) ⟨(.opt _ _ hc), (.opt _ _ hc), trivial⟩ (does_bin .sub 22 22 (.tmp 28) (.tmp 29) .u32 p0.Now (p0.Heard x1.1.toNat) (.int .u32 (IntKind.u32.wrap (p0.Now - (p0.Heard x1.1.toNat)))) trivial trivial (bin_sub _ _ _ _))), ⟨⟨rfl, rfl, rfl, trivial⟩, trivial, rfl⟩, rfl,
          Step.guarded rfl rfl rfl rfl (fun hc => does_move (.tmp 3) (.int .u32 p3) trivial), ⟨⟨rfl, rfl, trivial⟩, trivial, rfl⟩, rfl,
          Step.guarded rfl rfl rfl rfl (fun hc => Does.strip (n' := [(30, (.opt (((p0.Heard x1.1.toNat) != 0) && (decide ((p0.Heard x1.1.toNat) ≤ p0.Now))) (.int .u32 (IntKind.u32.wrap (p0.Now - (p0.Heard x1.1.toNat)))))), (31, (.opt (((p0.Heard x1.1.toNat) != 0) && (decide ((p0.Heard x1.1.toNat) ≤ p0.Now))) (.int .u32 p3)))]) (n := [(30, (.int .u32 (IntKind.u32.wrap (p0.Now - (p0.Heard x1.1.toNat))))), (31, (.int .u32 p3))]) ⟨(.opt _ _ hc), (.opt _ _ hc), trivial⟩ (does_bin .leq 22 22 (.tmp 30) (.tmp 31) .u32 (IntKind.u32.wrap (p0.Now - (p0.Heard x1.1.toNat))) p3 (.bool (decide ((IntKind.u32.wrap (p0.Now - (p0.Heard x1.1.toNat))) ≤ p3))) trivial trivial (bin_leq _ _ _ _))), ⟨⟨rfl, rfl, rfl, trivial⟩, trivial, rfl⟩, rfl,
          Step.plain rfl (does_and 26 32 (((p0.Heard x1.1.toNat) != 0) && (decide ((p0.Heard x1.1.toNat) ≤ p0.Now))) (decide ((IntKind.u32.wrap (p0.Now - (p0.Heard x1.1.toNat))) ≤ p3))), ⟨⟨rfl, rfl, trivial⟩, trivial, rfl⟩, rfl, rfl⟩ ?_
        obtain ⟨v5, hv5, H⟩ := lt_of H
        refine aw_cov (cov_prune (s1 := ⟨[(1, (.int .i64 p1)), (2, (.int .u32 p2)), (3, (.int .u32 p3)), (4, (.ptr 0 0 [])), (8, (.ptr 1 0 [])), (9, (.ptr 2 0 [])), (13, (e_a8_u32 p0.Heard)), (14, (.int .i64 x1.1)), (10, (.int .i64 x1.1)), (33, (.bool v5))], [(0, some (.var (e_api_Beat p0))), (1, some (.var (e_a8_u32 (fun _ => 0)))), (2, some (.var (e_a8_u32 x1.2)))], 3⟩) ⟨rfl, rfl, rfl, rfl, rfl, rfl, rfl, rfl, rfl, (by subst hv5; rfl), trivial⟩ ⟨rfl, rfl, rfl, trivial⟩ (Nat.le_refl _)) ?_
        refine aw_cond rfl (fun hc => ?_) (fun hc => ?_)
        · replace H := ite_t hc H
          obtain ⟨h6, H⟩ := ib_of H
          obtain ⟨h7, H⟩ := ib_of H
          refine aw_region1 (es := [_, _, _, _, _, _, _]) ⟨Step.plain rfl (does_move (.tmp 10) (.int .i64 x1.1) trivial), ⟨⟨rfl, trivial⟩, trivial, rfl⟩, rfl,
            Step.plain rfl (does_move (.tmp 10) (.int .i64 x1.1) trivial), ⟨⟨rfl, trivial⟩, trivial, rfl⟩, rfl,
            Step.plain rfl (does_fieldAddr 25 2 9 4 0 0 [] (.var (e_api_Beat p0)) fl25_2), ⟨⟨rfl, trivial⟩, ⟨rfl, trivial⟩, rfl⟩, rfl,
            Step.plain rfl (does_indexAddr 23 8 1 36 0 (0 + 9) [2] (.var (e_api_Beat p0)) (.tmp 35) .i64 x1.1 el23 trivial h6.1 h6.2), ⟨⟨rfl, rfl, trivial⟩, ⟨rfl, trivial⟩, rfl⟩, rfl,
            Step.plain rfl (does_load 22 37 0 ((0 + 9) + x1.1.toNat * 1) [2, x1.1.toNat] (.var (e_api_Beat p0)) (.int .u32 (p0.Inc x1.1.toNat)) ⟨rfl, Nat.le_of_ble_eq_true rfl, ⟨rfl, (ixl h6), trivial⟩⟩ rfl rfl ty22), ⟨⟨rfl, trivial⟩, ⟨rfl, trivial⟩, rfl⟩, rfl,
            Step.plain rfl (does_indexAddr 32 8 1 9 2 0 [] (.var (e_a8_u32 x1.2)) (.tmp 34) .i64 x1.1 el32 trivial h7.1 h7.2), ⟨⟨rfl, rfl, trivial⟩, ⟨rfl, trivial⟩, rfl⟩, rfl,
            Step.plain rfl (does_store 22 39 (.tmp 38) 2 (0 + x1.1.toNat * 1) [x1.1.toNat] (.var (e_a8_u32 x1.2)) (.var (e_a8_u32 (aupd x1.2 x1.1.toNat (p0.Inc x1.1.toNat)))) (.int .u32 (p0.Inc x1.1.toNat)) false trivial rfl ⟨rfl, (ixl h7), trivial⟩ rfl rfl (congrArg Box.var (set_cons rfl (vupd_map (fun z => V.int .u32 z) _ _ _))) ty22), ⟨⟨rfl, rfl, trivial⟩, ⟨rfl, trivial⟩, rfl⟩, rfl, rfl⟩ ?_
          refine nx_blk ?_
          exact nx_join (aupd x1.2 x1.1.toNat (p0.Inc x1.1.toNat)) H (cov_prune ⟨rfl, rfl, rfl, rfl, rfl, rfl, rfl, rfl, trivial⟩ ⟨rfl, rfl, rfl, trivial⟩ (Nat.le_of_ble_eq_true rfl))
        · replace H := ite_f hc H
          refine aw_skip ?_
          refine nx_blk ?_
          exact nx_join (x1.2) H (cov_prune ⟨rfl, rfl, rfl, rfl, rfl, rfl, rfl, rfl, trivial⟩ ⟨rfl, rfl, rfl, trivial⟩ (Nat.le_of_ble_eq_true rfl))
    · replace H := ite_f hc H
      refine aw_exit ?_
      refine ex_then ?_
      refine ex_then ?_
      refine ex_here ?_
      exact nx_ljoin (x1.2) H hsn2 (cov_prune ⟨rfl, rfl, rfl, rfl, trivial⟩ ⟨rfl, rfl, trivial⟩ (Nat.le_of_ble_eq_true rfl))

theorem congresslaw08_fixed_spec (r : Bool) (H : congresslaw08_fixed = some r) : FSpec Try.prog 9 [] (.bool r) := by
  refine spec_of (fn := Try.f9) (args := []) Try.func9 rfl (Nat.le_of_ble_eq_true rfl) ?_
  rintro ⟨G, w0, W, S, Sp⟩ hG
  cases hG
  unfold congresslaw08_fixed at H
  refine aw_region (es := [_]) ⟨Step.plain rfl (does_assign (.const (.bool false)) (.bool false) (fun _ => rfl)), ⟨trivial, trivial, rfl⟩, rfl, rfl⟩ ?_
  refine aw_cov (cov_prune (s1 := ⟨[], [], 0⟩) trivial trivial (Nat.le_refl _)) ?_
  obtain ⟨v1, h2, H⟩ := bnd H
  refine aw_region (es := [_, _, _, _, _, _, _, _]) ⟨Step.plain rfl (does_buildT 25 #[(0, (.const (.int .u32 5)))] [(0, (.const (.int .u32 5)))] [(0, (.int .u32 5))] (.st [1, 8, 8]) (c_api_Beat z_api_Beat) (c_api_Beat ({ Now := 5, Heard := (fun _ => 0), Inc := (fun _ => 0) } : api_Beat)) rfl bo25 ⟨⟨rfl, (fun _ => rfl)⟩, trivial⟩ ⟨⟨Nat.le_of_ble_eq_true rfl, rfl, rfl⟩, trivial⟩ (by funext j; match j with | 0 => rfl | 1 => rfl | 2 => rfl | _ + 3 => rfl)), ⟨trivial, trivial, rfl⟩, rfl,
    Step.plain rfl (does_call 7 0 (fun _ => .any) (.func 7) [(.tmp 8), (.const (.int .i64 3)), (.const (.int .u32 2))] [(e_api_Beat ({ Now := 5, Heard := (fun _ => 0), Inc := (fun _ => 0) } : api_Beat)), (.int .i64 3), (.int .u32 2)] [] true [(e_api_Beat ({ Now := 5, Heard := (fun _ => 0), Inc := (fun _ => 0) } : api_Beat)), (.int .i64 3), (.int .u32 2)] (resV [(e_api_Beat v1.1), (.bool v1.2)]) _ _ rfl fo7 rfl ⟨trivial, (fun _ => rfl), (fun _ => rfl), trivial⟩ ⟨.data _ (d_api_Beat ({ Now := 5, Heard := (fun _ => 0), Inc := (fun _ => 0) } : api_Beat)), .data _ trivial, .data _ trivial, trivial⟩ (beat_Hear_spec ({ Now := 5, Heard := (fun _ => 0), Inc := (fun _ => 0) } : api_Beat) 3 2 _ h2) (res_flat2 (f_api_Beat v1.1) trivial)), ⟨⟨rfl, trivial⟩, trivial, rfl⟩, rfl,
    Step.plain rfl (does_move (.tmp 9) (resV [(e_api_Beat v1.1), (.bool v1.2)]) trivial), ⟨⟨rfl, trivial⟩, trivial, rfl⟩, rfl,
    Step.plain rfl (does_extract 7 0 2 (fun j => [(e_api_Beat v1.1), (.bool v1.2)].getD j (.bool false)) (Nat.le_of_ble_eq_true rfl)), ⟨⟨rfl, trivial⟩, trivial, rfl⟩, rfl,
    Step.plain rfl (does_extract 7 1 2 (fun j => [(e_api_Beat v1.1), (.bool v1.2)].getD j (.bool false)) (Nat.le_of_ble_eq_true rfl)), ⟨⟨rfl, trivial⟩, trivial, rfl⟩, rfl,
    Step.plain rfl (does_alloc 25 0 (e_api_Beat z_api_Beat) zr25), ⟨trivial, trivial, rfl⟩, rfl,
    Step.plain rfl (does_store 25 1 (.tmp 10) 0 0 [] (.var (e_api_Beat z_api_Beat)) (.var (e_api_Beat v1.1)) (e_api_Beat v1.1) true trivial rfl trivial rfl rfl rfl ty25), ⟨⟨rfl, rfl, trivial⟩, ⟨rfl, trivial⟩, rfl⟩, rfl,
    Step.plain rfl (does_assign (.tmp 11) (.bool v1.2) trivial), ⟨⟨rfl, trivial⟩, trivial, rfl⟩, rfl, rfl⟩ ?_
  refine aw_cov (cov_prune (s1 := ⟨[(1, (.ptr 0 0 [])), (2, (.bool v1.2))], [(0, some (.var (e_api_Beat v1.1)))], 1⟩) ⟨rfl, rfl, trivial⟩ ⟨rfl, trivial⟩ (Nat.le_refl _)) ?_
  obtain ⟨v3, h4, H⟩ := bnd H
  refine aw_region (es := [_, _, _, _]) ⟨Step.plain rfl (does_load 25 1 0 0 [] (.var (e_api_Beat v1.1)) (e_api_Beat v1.1) trivial rfl rfl ty25), ⟨⟨rfl, trivial⟩, ⟨rfl, trivial⟩, rfl⟩, rfl,
    Step.plain rfl (does_call 10 0 (fun _ => .any) (.func 10) [(.tmp 12)] [(e_api_Beat v1.1)] [] true [(e_api_Beat v1.1)] (e_api_Beat v3) _ _ rfl fo10 rfl ⟨trivial, trivial⟩ ⟨.data _ (d_api_Beat v1.1), trivial⟩ (beat_Tick_spec v1.1 _ h4) (f_api_Beat v3)), ⟨⟨rfl, trivial⟩, trivial, rfl⟩, rfl,
    Step.plain rfl (does_alloc 25 1 (e_api_Beat z_api_Beat) zr25), ⟨trivial, trivial, rfl⟩, rfl,
    Step.plain rfl (does_store 25 3 (.tmp 13) 1 0 [] (.var (e_api_Beat z_api_Beat)) (.var (e_api_Beat v3)) (e_api_Beat v3) true trivial rfl trivial rfl rfl rfl ty25), ⟨⟨rfl, rfl, trivial⟩, ⟨rfl, trivial⟩, rfl⟩, rfl, rfl⟩ ?_
  refine aw_cov (cov_prune (s1 := ⟨[(1, (.ptr 0 0 [])), (2, (.bool v1.2)), (3, (.ptr 1 0 []))], [(0, some (.var (e_api_Beat v1.1))), (1, some (.var (e_api_Beat v3)))], 2⟩) ⟨rfl, rfl, rfl, trivial⟩ ⟨rfl, rfl, trivial⟩ (Nat.le_refl _)) ?_
  obtain ⟨v5, h6, H⟩ := bnd H
  refine aw_region (es := [_, _, _, _]) ⟨Step.plain rfl (does_load 25 3 1 0 [] (.var (e_api_Beat v3)) (e_api_Beat v3) trivial rfl rfl ty25), ⟨⟨rfl, trivial⟩, ⟨rfl, trivial⟩, rfl⟩, rfl,
    Step.plain rfl (does_call 10 0 (fun _ => .any) (.func 10) [(.tmp 14)] [(e_api_Beat v3)] [] true [(e_api_Beat v3)] (e_api_Beat v5) _ _ rfl fo10 rfl ⟨trivial, trivial⟩ ⟨.data _ (d_api_Beat v3), trivial⟩ (beat_Tick_spec v3 _ h6) (f_api_Beat v5)), ⟨⟨rfl, trivial⟩, trivial, rfl⟩, rfl,
    Step.plain rfl (does_alloc 25 2 (e_api_Beat z_api_Beat) zr25), ⟨trivial, trivial, rfl⟩, rfl,
    Step.plain rfl (does_store 25 4 (.tmp 15) 2 0 [] (.var (e_api_Beat z_api_Beat)) (.var (e_api_Beat v5)) (e_api_Beat v5) true trivial rfl trivial rfl rfl rfl ty25), ⟨⟨rfl, rfl, trivial⟩, ⟨rfl, trivial⟩, rfl⟩, rfl, rfl⟩ ?_
  refine aw_cov (cov_prune (s1 := ⟨[(1, (.ptr 0 0 [])), (2, (.bool v1.2)), (3, (.ptr 1 0 [])), (4, (.ptr 2 0 []))], [(0, some (.var (e_api_Beat v1.1))), (1, some (.var (e_api_Beat v3))), (2, some (.var (e_api_Beat v5)))], 3⟩) ⟨rfl, rfl, rfl, rfl, trivial⟩ ⟨rfl, rfl, rfl, trivial⟩ (Nat.le_refl _)) ?_
  obtain ⟨v7, h8, H⟩ := bnd H
  refine aw_region (es := [_, _, _, _, _, _, _, _]) ⟨Step.plain rfl (does_load 25 4 2 0 [] (.var (e_api_Beat v5)) (e_api_Beat v5) trivial rfl rfl ty25), ⟨⟨rfl, trivial⟩, ⟨rfl, trivial⟩, rfl⟩, rfl,
    Step.plain rfl (does_call 7 0 (fun _ => .any) (.func 7) [(.tmp 17), (.const (.int .i64 3)), (.const (.int .u32 1))] [(e_api_Beat v5), (.int .i64 3), (.int .u32 1)] [] true [(e_api_Beat v5), (.int .i64 3), (.int .u32 1)] (resV [(e_api_Beat v7.1), (.bool v7.2)]) _ _ rfl fo7 rfl ⟨trivial, (fun _ => rfl), (fun _ => rfl), trivial⟩ ⟨.data _ (d_api_Beat v5), .data _ trivial, .data _ trivial, trivial⟩ (beat_Hear_spec v5 3 1 _ h8) (res_flat2 (f_api_Beat v7.1) trivial)), ⟨⟨rfl, trivial⟩, trivial, rfl⟩, rfl,
    Step.plain rfl (does_move (.tmp 18) (resV [(e_api_Beat v7.1), (.bool v7.2)]) trivial), ⟨⟨rfl, trivial⟩, trivial, rfl⟩, rfl,
    Step.plain rfl (does_extract 16 0 2 (fun j => [(e_api_Beat v7.1), (.bool v7.2)].getD j (.bool false)) (Nat.le_of_ble_eq_true rfl)), ⟨⟨rfl, trivial⟩, trivial, rfl⟩, rfl,
    Step.plain rfl (does_extract 16 1 2 (fun j => [(e_api_Beat v7.1), (.bool v7.2)].getD j (.bool false)) (Nat.le_of_ble_eq_true rfl)), ⟨⟨rfl, trivial⟩, trivial, rfl⟩, rfl,
    Step.plain rfl (does_alloc 25 3 (e_api_Beat z_api_Beat) zr25), ⟨trivial, trivial, rfl⟩, rfl,
    Step.plain rfl (does_store 25 5 (.tmp 19) 3 0 [] (.var (e_api_Beat z_api_Beat)) (.var (e_api_Beat v7.1)) (e_api_Beat v7.1) true trivial rfl trivial rfl rfl rfl ty25), ⟨⟨rfl, rfl, trivial⟩, ⟨rfl, trivial⟩, rfl⟩, rfl,
    Step.plain rfl (does_assign (.tmp 20) (.bool v7.2) trivial), ⟨⟨rfl, trivial⟩, trivial, rfl⟩, rfl, rfl⟩ ?_
  refine aw_cov (cov_prune (s1 := ⟨[(1, (.ptr 0 0 [])), (2, (.bool v1.2)), (3, (.ptr 1 0 [])), (4, (.ptr 2 0 [])), (6, (.bool v7.2))], [(0, some (.var (e_api_Beat v1.1))), (1, some (.var (e_api_Beat v3))), (2, some (.var (e_api_Beat v5)))], 4⟩) ⟨rfl, rfl, rfl, rfl, rfl, trivial⟩ ⟨rfl, rfl, rfl, trivial⟩ (Nat.le_refl _)) ?_
  obtain ⟨v9, h10, H⟩ := whn_of H
  obtain ⟨v11, h12, H⟩ := whn_of H
  obtain ⟨v13, h14, H⟩ := whn_of H
  refine aw_region (es := [_, _, _, _, _, _, _, _, _, _, _, _, _, _, _, _, _, _, _, _, _, _, _, _]) ⟨Step.plain rfl (does_move (.tmp 2) (.bool v1.2) trivial), ⟨⟨rfl, trivial⟩, trivial, rfl⟩, rfl,
    Step.plain rfl (does_move (.tmp 21) (.bool v1.2) trivial), ⟨⟨rfl, trivial⟩, trivial, rfl⟩, rfl,
    Step.guarded rfl rfl rfl rfl (fun hc => does_load 25 1 0 0 [] (.var (e_api_Beat v1.1)) (e_api_Beat v1.1) trivial rfl rfl ty25), ⟨⟨rfl, rfl, trivial⟩, ⟨rfl, trivial⟩, rfl⟩, rfl,
    Step.guarded rfl rfl rfl rfl (fun hc => Does.strip (n' := [(23, (.opt v1.2 (e_api_Beat v1.1)))]) (n := [(23, (e_api_Beat v1.1))]) ⟨(.opt _ _ hc), trivial⟩ (does_call 12 0 (fun _ => .any) (.func 12) [(.tmp 23), (.const (.int .i64 0)), (.const (.int .u32 1)), (.const (.int .u32 1))] [(e_api_Beat v1.1), (.int .i64 0), (.int .u32 1), (.int .u32 1)] [] true [(e_api_Beat v1.1), (.int .i64 0), (.int .u32 1), (.int .u32 1)] (e_a8_u32 v9) _ _ rfl fo12 rfl ⟨trivial, (fun _ => rfl), (fun _ => rfl), (fun _ => rfl), trivial⟩ ⟨.data _ (d_api_Beat v1.1), .data _ trivial, .data _ trivial, .data _ trivial, trivial⟩ (beat_Reach_spec v1.1 0 1 1 _ (h10 hc)) (f_a8_u32 v9))), ⟨⟨rfl, rfl, trivial⟩, trivial, rfl⟩, rfl,
    Step.guarded rfl rfl rfl rfl (fun hc => does_buildT 32 #[(0, (.const (.int .u32 1))), (1, (.const (.int .u32 0))), (2, (.const (.int .u32 0))), (3, (.const (.int .u32 2)))] [(0, (.const (.int .u32 1))), (1, (.const (.int .u32 0))), (2, (.const (.int .u32 0))), (3, (.const (.int .u32 2)))] [(0, (.int .u32 1)), (1, (.int .u32 0)), (2, (.int .u32 0)), (3, (.int .u32 2))] (.ar 8 1) (fun j => (.int .u32 ((fun _ => 0) j))) (fun j => (.int .u32 ((aset (fun _ => 0) [(0, 1), (1, 0), (2, 0), (3, 2)]) j))) rfl bo32 ⟨⟨rfl, (fun _ => rfl)⟩, ⟨rfl, (fun _ => rfl)⟩, ⟨rfl, (fun _ => rfl)⟩, ⟨rfl, (fun _ => rfl)⟩, trivial⟩ ⟨⟨Nat.le_of_ble_eq_true rfl, rfl, rfl⟩, ⟨Nat.le_of_ble_eq_true rfl, rfl, rfl⟩, ⟨Nat.le_of_ble_eq_true rfl, rfl, rfl⟩, ⟨Nat.le_of_ble_eq_true rfl, rfl, rfl⟩, trivial⟩ (setAll_map (fun z => V.int .u32 z) [(0, 1), (1, 0), (2, 0), (3, 2)] _)), ⟨⟨rfl, trivial⟩, trivial, rfl⟩, rfl,
    Step.guarded rfl rfl rfl rfl (fun hc => Does.strip (n' := [(24, (.opt v1.2 (e_a8_u32 v9))), (25, (.opt v1.2 (e_a8_u32 (aset (fun _ => 0) [(0, 1), (1, 0), (2, 0), (3, 2)]))))]) (n := [(24, (e_a8_u32 v9)), (25, (e_a8_u32 (aset (fun _ => 0) [(0, 1), (1, 0), (2, 0), (3, 2)])))]) ⟨(.opt _ _ hc), (.opt _ _ hc), trivial⟩ (does_eqT false 32 32 (.tmp 24) (.tmp 25) (e_a8_u32 v9) (e_a8_u32 (aset (fun _ => 0) [(0, 1), (1, 0), (2, 0), (3, 2)])) (e_a8_u32 (fun _ => 0)) (b_a8_u32 v9 (aset (fun _ => 0) [(0, 1), (1, 0), (2, 0), (3, 2)])) rfl rfl trivial trivial eg32 sh32 (al_a8_u32 _ _) (al_a8_u32 _ _) (q_a8_u32 _ _))), ⟨⟨rfl, rfl, rfl, trivial⟩, trivial, rfl⟩, rfl,
    Step.plain rfl (does_and 22 26 v1.2 (b_a8_u32 v9 (aset (fun _ => 0) [(0, 1), (1, 0), (2, 0), (3, 2)]))), ⟨⟨rfl, rfl, trivial⟩, trivial, rfl⟩, rfl,
    Step.plain rfl (does_move (.tmp 27) (.bool (v1.2 && (b_a8_u32 v9 (aset (fun _ => 0) [(0, 1), (1, 0), (2, 0), (3, 2)])))) trivial), ⟨⟨rfl, trivial⟩, trivial, rfl⟩, rfl,
    Step.guarded rfl rfl rfl rfl (fun hc => does_load 25 3 1 0 [] (.var (e_api_Beat v3)) (e_api_Beat v3) trivial rfl rfl ty25), ⟨⟨rfl, rfl, trivial⟩, ⟨rfl, trivial⟩, rfl⟩, rfl,
    Step.guarded rfl rfl rfl rfl (fun hc => Does.strip (n' := [(29, (.opt (v1.2 && (b_a8_u32 v9 (aset (fun _ => 0) [(0, 1), (1, 0), (2, 0), (3, 2)]))) (e_api_Beat v3)))]) (n := [(29, (e_api_Beat v3))]) ⟨(.opt _ _ hc), trivial⟩ (does_call 12 0 (fun _ => .any) (.func 12) [(.tmp 29), (.const (.int .i64 0)), (.const (.int .u32 1)), (.const (.int .u32 1))] [(e_api_Beat v3), (.int .i64 0), (.int .u32 1), (.int .u32 1)] [] true [(e_api_Beat v3), (.int .i64 0), (.int .u32 1), (.int .u32 1)] (e_a8_u32 v11) _ _ rfl fo12 rfl ⟨trivial, (fun _ => rfl), (fun _ => rfl), (fun _ => rfl), trivial⟩ ⟨.data _ (d_api_Beat v3), .data _ trivial, .data _ trivial, .data _ trivial, trivial⟩ (beat_Reach_spec v3 0 1 1 _ (h12 hc)) (f_a8_u32 v11))), ⟨⟨rfl, rfl, trivial⟩, trivial, rfl⟩, rfl,
    Step.guarded rfl rfl rfl rfl (fun hc => does_buildT 32 #[(0, (.const (.int .u32 1))), (1, (.const (.int .u32 0))), (2, (.const (.int .u32 0))), (3, (.const (.int .u32 2)))] [(0, (.const (.int .u32 1))), (1, (.const (.int .u32 0))), (2, (.const (.int .u32 0))), (3, (.const (.int .u32 2)))] [(0, (.int .u32 1)), (1, (.int .u32 0)), (2, (.int .u32 0)), (3, (.int .u32 2))] (.ar 8 1) (fun j => (.int .u32 ((fun _ => 0) j))) (fun j => (.int .u32 ((aset (fun _ => 0) [(0, 1), (1, 0), (2, 0), (3, 2)]) j))) rfl bo32 ⟨⟨rfl, (fun _ => rfl)⟩, ⟨rfl, (fun _ => rfl)⟩, ⟨rfl, (fun _ => rfl)⟩, ⟨rfl, (fun _ => rfl)⟩, trivial⟩ ⟨⟨Nat.le_of_ble_eq_true rfl, rfl, rfl⟩, ⟨Nat.le_of_ble_eq_true rfl, rfl, rfl⟩, ⟨Nat.le_of_ble_eq_true rfl, rfl, rfl⟩, ⟨Nat.le_of_ble_eq_true rfl, rfl, rfl⟩, trivial⟩ (setAll_map (fun z => V.int .u32 z) [(0, 1), (1, 0), (2, 0), (3, 2)] _)), ⟨⟨rfl, trivial⟩, trivial, rfl⟩, rfl,
    Step.guarded rfl rfl rfl rfl (fun hc => Does.strip (n' := [(30, (.opt (v1.2 && (b_a8_u32 v9 (aset (fun _ => 0) [(0, 1), (1, 0), (2, 0), (3, 2)]))) (e_a8_u32 v11))), (31, (.opt (v1.2 && (b_a8_u32 v9 (aset (fun _ => 0) [(0, 1), (1, 0), (2, 0), (3, 2)]))) (e_a8_u32 (aset (fun _ => 0) [(0, 1), (1, 0), (2, 0), (3, 2)]))))]) (n := [(30, (e_a8_u32 v11)), (31, (e_a8_u32 (aset (fun _ => 0) [(0, 1), (1, 0), (2, 0), (3, 2)])))]) ⟨(.opt _ _ hc), (.opt _ _ hc), trivial⟩ (does_eqT false 32 32 (.tmp 30) (.tmp 31) (e_a8_u32 v11) (e_a8_u32 (aset (fun _ => 0) [(0, 1), (1, 0), (2, 0), (3, 2)])) (e_a8_u32 (fun _ => 0)) (b_a8_u32 v11 (aset (fun _ => 0) [(0, 1), (1, 0), (2, 0), (3, 2)])) rfl rfl trivial trivial eg32 sh32 (al_a8_u32 _ _) (al_a8_u32 _ _) (q_a8_u32 _ _))), ⟨⟨rfl, rfl, rfl, trivial⟩, trivial, rfl⟩, rfl,
    Step.plain rfl (does_and 28 32 (v1.2 && (b_a8_u32 v9 (aset (fun _ => 0) [(0, 1), (1, 0), (2, 0), (3, 2)]))) (b_a8_u32 v11 (aset (fun _ => 0) [(0, 1), (1, 0), (2, 0), (3, 2)]))), ⟨⟨rfl, rfl, trivial⟩, trivial, rfl⟩, rfl,
    Step.plain rfl (does_move (.tmp 33) (.bool ((v1.2 && (b_a8_u32 v9 (aset (fun _ => 0) [(0, 1), (1, 0), (2, 0), (3, 2)]))) && (b_a8_u32 v11 (aset (fun _ => 0) [(0, 1), (1, 0), (2, 0), (3, 2)])))) trivial), ⟨⟨rfl, trivial⟩, trivial, rfl⟩, rfl,
    Step.guarded rfl rfl rfl rfl (fun hc => does_load 25 4 2 0 [] (.var (e_api_Beat v5)) (e_api_Beat v5) trivial rfl rfl ty25), ⟨⟨rfl, rfl, trivial⟩, ⟨rfl, trivial⟩, rfl⟩, rfl,
    Step.guarded rfl rfl rfl rfl (fun hc => Does.strip (n' := [(35, (.opt ((v1.2 && (b_a8_u32 v9 (aset (fun _ => 0) [(0, 1), (1, 0), (2, 0), (3, 2)]))) && (b_a8_u32 v11 (aset (fun _ => 0) [(0, 1), (1, 0), (2, 0), (3, 2)]))) (e_api_Beat v5)))]) (n := [(35, (e_api_Beat v5))]) ⟨(.opt _ _ hc), trivial⟩ (does_call 12 0 (fun _ => .any) (.func 12) [(.tmp 35), (.const (.int .i64 0)), (.const (.int .u32 1)), (.const (.int .u32 1))] [(e_api_Beat v5), (.int .i64 0), (.int .u32 1), (.int .u32 1)] [] true [(e_api_Beat v5), (.int .i64 0), (.int .u32 1), (.int .u32 1)] (e_a8_u32 v13) _ _ rfl fo12 rfl ⟨trivial, (fun _ => rfl), (fun _ => rfl), (fun _ => rfl), trivial⟩ ⟨.data _ (d_api_Beat v5), .data _ trivial, .data _ trivial, .data _ trivial, trivial⟩ (beat_Reach_spec v5 0 1 1 _ (h14 hc)) (f_a8_u32 v13))), ⟨⟨rfl, rfl, trivial⟩, trivial, rfl⟩, rfl,
    Step.guarded rfl rfl rfl rfl (fun hc => does_buildT 32 #[(0, (.const (.int .u32 1)))] [(0, (.const (.int .u32 1)))] [(0, (.int .u32 1))] (.ar 8 1) (fun j => (.int .u32 ((fun _ => 0) j))) (fun j => (.int .u32 ((aset (fun _ => 0) [(0, 1)]) j))) rfl bo32 ⟨⟨rfl, (fun _ => rfl)⟩, trivial⟩ ⟨⟨Nat.le_of_ble_eq_true rfl, rfl, rfl⟩, trivial⟩ (setAll_map (fun z => V.int .u32 z) [(0, 1)] _)), ⟨⟨rfl, trivial⟩, trivial, rfl⟩, rfl,
    Step.guarded rfl rfl rfl rfl (fun hc => Does.strip (n' := [(36, (.opt ((v1.2 && (b_a8_u32 v9 (aset (fun _ => 0) [(0, 1), (1, 0), (2, 0), (3, 2)]))) && (b_a8_u32 v11 (aset (fun _ => 0) [(0, 1), (1, 0), (2, 0), (3, 2)]))) (e_a8_u32 v13))), (37, (.opt ((v1.2 && (b_a8_u32 v9 (aset (fun _ => 0) [(0, 1), (1, 0), (2, 0), (3, 2)]))) && (b_a8_u32 v11 (aset (fun _ => 0) [(0, 1), (1, 0), (2, 0), (3, 2)]))) (e_a8_u32 (aset (fun _ => 0) [(0, 1)]))))]) (n := [(36, (e_a8_u32 v13)), (37, (e_a8_u32 (aset (fun _ => 0) [(0, 1)])))]) ⟨(.opt _ _ hc), (.opt _ _ hc), trivial⟩ (does_eqT false 32 32 (.tmp 36) (.tmp 37) (e_a8_u32 v13) (e_a8_u32 (aset (fun _ => 0) [(0, 1)])) (e_a8_u32 (fun _ => 0)) (b_a8_u32 v13 (aset (fun _ => 0) [(0, 1)])) rfl rfl trivial trivial eg32 sh32 (al_a8_u32 _ _) (al_a8_u32 _ _) (q_a8_u32 _ _))), ⟨⟨rfl, rfl, rfl, trivial⟩, trivial, rfl⟩, rfl,
    Step.plain rfl (does_and 34 38 ((v1.2 && (b_a8_u32 v9 (aset (fun _ => 0) [(0, 1), (1, 0), (2, 0), (3, 2)]))) && (b_a8_u32 v11 (aset (fun _ => 0) [(0, 1), (1, 0), (2, 0), (3, 2)]))) (b_a8_u32 v13 (aset (fun _ => 0) [(0, 1)]))), ⟨⟨rfl, rfl, trivial⟩, trivial, rfl⟩, rfl,
    Step.plain rfl (does_move (.tmp 39) (.bool (((v1.2 && (b_a8_u32 v9 (aset (fun _ => 0) [(0, 1), (1, 0), (2, 0), (3, 2)]))) && (b_a8_u32 v11 (aset (fun _ => 0) [(0, 1), (1, 0), (2, 0), (3, 2)]))) && (b_a8_u32 v13 (aset (fun _ => 0) [(0, 1)])))) trivial), ⟨⟨rfl, trivial⟩, trivial, rfl⟩, rfl,
    Step.guarded rfl rfl rfl rfl (fun hc => does_move (.tmp 6) (.bool v7.2) trivial), ⟨⟨rfl, rfl, trivial⟩, trivial, rfl⟩, rfl,
    Step.guarded rfl rfl rfl rfl (fun hc => Does.strip (n' := [(41, (.opt (((v1.2 && (b_a8_u32 v9 (aset (fun _ => 0) [(0, 1), (1, 0), (2, 0), (3, 2)]))) && (b_a8_u32 v11 (aset (fun _ => 0) [(0, 1), (1, 0), (2, 0), (3, 2)]))) && (b_a8_u32 v13 (aset (fun _ => 0) [(0, 1)]))) (.bool v7.2)))]) (n := [(41, (.bool v7.2))]) ⟨(.opt _ _ hc), trivial⟩ (does_not 4 (.tmp 41) v7.2 trivial)), ⟨⟨rfl, rfl, trivial⟩, trivial, rfl⟩, rfl,
    Step.plain rfl (does_and 40 42 (((v1.2 && (b_a8_u32 v9 (aset (fun _ => 0) [(0, 1), (1, 0), (2, 0), (3, 2)]))) && (b_a8_u32 v11 (aset (fun _ => 0) [(0, 1), (1, 0), (2, 0), (3, 2)]))) && (b_a8_u32 v13 (aset (fun _ => 0) [(0, 1)]))) (!v7.2)), ⟨⟨rfl, rfl, trivial⟩, trivial, rfl⟩, rfl,
    Step.plain rfl (does_assign (.tmp 43) (.bool ((((v1.2 && (b_a8_u32 v9 (aset (fun _ => 0) [(0, 1), (1, 0), (2, 0), (3, 2)]))) && (b_a8_u32 v11 (aset (fun _ => 0) [(0, 1), (1, 0), (2, 0), (3, 2)]))) && (b_a8_u32 v13 (aset (fun _ => 0) [(0, 1)]))) && (!v7.2))) trivial), ⟨⟨rfl, trivial⟩, trivial, rfl⟩, rfl, rfl⟩ ?_
  obtain ⟨v15, hv15, H⟩ := lt_of H
  refine aw_cov (cov_prune (s1 := ⟨[(0, (.bool v15))], [], 4⟩) ⟨(by subst hv15; rfl), trivial⟩ trivial (Nat.le_refl _)) ?_
  refine aw_ret ?_
  exact fun a w hr => ⟨_, [(.bool v15)], hr, ⟨⟨_, rfl, .data _ trivial⟩, trivial⟩, by decide, by cases H; rfl⟩

theorem congressref08_Tick_spec (p0 : api_Beat) (r : api_Beat) (H : congressref08_Tick p0 = some r) : FSpec Try.prog 11 [(e_api_Beat p0)] (e_api_Beat r) := by
  refine spec_of (fn := Try.f11) (args := [(e_api_Beat p0)]) Try.func11 rfl (Nat.le_of_ble_eq_true rfl) ?_
  rintro ⟨G, w0, W, S, Sp⟩ hG
  cases hG
  unfold congressref08_Tick at H
  refine aw_region (es := [_, _]) ⟨Step.plain rfl (does_box 25 (.tmp 0) 0 (e_api_Beat p0) trivial rfl), ⟨⟨rfl, trivial⟩, trivial, rfl⟩, rfl,
    Step.plain rfl (does_alloc 25 1 (e_api_Beat z_api_Beat) zr25), ⟨trivial, trivial, rfl⟩, rfl, rfl⟩ ?_
  refine aw_cov (cov_prune (s1 := ⟨[(1, (.ptr 0 0 [])), (2, (.ptr 1 0 []))], [(0, some (.var (e_api_Beat p0))), (1, some (.var (e_api_Beat z_api_Beat)))], 2⟩) ⟨rfl, rfl, trivial⟩ ⟨rfl, rfl, trivial⟩ (Nat.le_refl _)) ?_
  refine aw_seq ?_
  refine aw_region (es := [_, _, _, _]) ⟨Step.plain rfl (does_fieldAddr 25 0 0 1 0 0 [] (.var (e_api_Beat p0)) fl25_0), ⟨⟨rfl, trivial⟩, ⟨rfl, trivial⟩, rfl⟩, rfl,
    Step.plain rfl (does_load 22 3 0 (0 + 0) [0] (.var (e_api_Beat p0)) (.int .u32 p0.Now) ⟨rfl, Nat.le_of_ble_eq_true rfl, trivial⟩ rfl rfl ty22), ⟨⟨rfl, trivial⟩, ⟨rfl, trivial⟩, rfl⟩, rfl,
    Step.plain rfl (does_bin .add 22 22 (.tmp 4) (.const (.int .u32 1)) .u32 p0.Now 1 (.int .u32 (IntKind.u32.wrap (p0.Now + 1))) trivial (fun _ => rfl) (bin_add _ _ _ _)), ⟨⟨rfl, trivial⟩, trivial, rfl⟩, rfl,
    Step.plain rfl (does_bin .neq 22 22 (.tmp 5) (.const (.int .u32 0)) .u32 (IntKind.u32.wrap (p0.Now + 1)) 0 (.bool ((IntKind.u32.wrap (p0.Now + 1)) != 0)) trivial (fun _ => rfl) (bin_neq _ _ _ _)), ⟨⟨rfl, trivial⟩, trivial, rfl⟩, rfl, rfl⟩ ?_
  refine aw_cov (cov_prune (s1 := ⟨[(1, (.ptr 0 0 [])), (2, (.ptr 1 0 [])), (6, (.bool ((IntKind.u32.wrap (p0.Now + 1)) != 0)))], [(0, some (.var (e_api_Beat p0))), (1, some (.var (e_api_Beat z_api_Beat)))], 2⟩) ⟨rfl, rfl, rfl, trivial⟩ ⟨rfl, rfl, trivial⟩ (Nat.le_refl _)) ?_
  refine aw_jn (fun x2 : api_Beat => (⟨[(1, (.ptr 0 0 [])), (2, (.ptr 1 0 []))], [(0, some (.var (e_api_Beat x2))), (1, some (.var (e_api_Beat z_api_Beat)))], 2⟩ : St)) H (fun x2 H => ?_) (fun j1 H => ?_)
  · refine nx_seq ?_
    refine aw_region (es := [_, _]) ⟨Step.plain rfl (does_load 25 1 0 0 [] (.var (e_api_Beat x2)) (e_api_Beat x2) trivial rfl rfl ty25), ⟨⟨rfl, trivial⟩, ⟨rfl, trivial⟩, rfl⟩, rfl,
      Step.plain rfl (does_store 25 2 (.tmp 11) 1 0 [] (.var (e_api_Beat z_api_Beat)) (.var (e_api_Beat x2)) (e_api_Beat x2) true trivial rfl trivial rfl rfl rfl ty25), ⟨⟨rfl, rfl, trivial⟩, ⟨rfl, trivial⟩, rfl⟩, rfl, rfl⟩ ?_
    refine aw_cov (cov_prune (s1 := ⟨[(2, (.ptr 1 0 []))], [(1, some (.var (e_api_Beat x2)))], 2⟩) ⟨rfl, trivial⟩ ⟨rfl, trivial⟩ (Nat.le_refl _)) ?_
    refine aw_ret ?_
    exact fun a w hr => ⟨_, [(e_api_Beat x2)], hr, ⟨⟨1, _, rfl, rfl, .data _ (d_api_Beat x2), ty25⟩, trivial⟩, by decide, by cases H; rfl⟩
  · refine aw_cond rfl (fun hc => ?_) (fun hc => ?_)
    · replace H := ite_t hc H
      refine aw_region1 (es := [_, _, _, _, _]) ⟨Step.plain rfl (does_fieldAddr 25 0 0 1 0 0 [] (.var (e_api_Beat p0)) fl25_0), ⟨⟨rfl, trivial⟩, ⟨rfl, trivial⟩, rfl⟩, rfl,
        Step.plain rfl (does_load 22 7 0 (0 + 0) [0] (.var (e_api_Beat p0)) (.int .u32 p0.Now) ⟨rfl, Nat.le_of_ble_eq_true rfl, trivial⟩ rfl rfl ty22), ⟨⟨rfl, trivial⟩, ⟨rfl, trivial⟩, rfl⟩, rfl,
        Step.plain rfl (does_bin .add 22 22 (.tmp 8) (.const (.int .u32 1)) .u32 p0.Now 1 (.int .u32 (IntKind.u32.wrap (p0.Now + 1))) trivial (fun _ => rfl) (bin_add _ _ _ _)), ⟨⟨rfl, trivial⟩, trivial, rfl⟩, rfl,
        Step.plain rfl (does_fieldAddr 25 0 0 1 0 0 [] (.var (e_api_Beat p0)) fl25_0), ⟨⟨rfl, trivial⟩, ⟨rfl, trivial⟩, rfl⟩, rfl,
        Step.plain rfl (does_store 22 10 (.tmp 9) 0 (0 + 0) [0] (.var (e_api_Beat p0)) (.var (e_api_Beat ({ p0 with Now := (IntKind.u32.wrap (p0.Now + 1)) }))) (.int .u32 (IntKind.u32.wrap (p0.Now + 1))) false trivial rfl ⟨rfl, Nat.le_of_ble_eq_true rfl, trivial⟩ rfl rfl (congrArg Box.var (set_cons rfl (st_api_Beat_0 _ _))) ty22), ⟨⟨rfl, rfl, trivial⟩, ⟨rfl, trivial⟩, rfl⟩, rfl, rfl⟩ ?_
      exact nx_join ({ p0 with Now := (IntKind.u32.wrap (p0.Now + 1)) }) H (cov_prune ⟨rfl, rfl, trivial⟩ ⟨rfl, rfl, trivial⟩ (Nat.le_of_ble_eq_true rfl))
    · replace H := ite_f hc H
      refine aw_skip ?_
      exact nx_join (p0) H (cov_prune ⟨rfl, rfl, trivial⟩ ⟨rfl, rfl, trivial⟩ (Nat.le_of_ble_eq_true rfl))

theorem congressref08_Reach_spec (p0 : api_Beat) (p1 : Int) (p2 : Int) (p3 : Int) (r : (Nat → Int)) (H : congressref08_Reach p0 p1 p2 p3 = some r) : FSpec Try.prog 13 [(e_api_Beat p0), (.int .i64 p1), (.int .u32 p2), (.int .u32 p3)] (e_a8_u32 r) := by
  refine spec_of (fn := Try.f13) (args := [(e_api_Beat p0), (.int .i64 p1), (.int .u32 p2), (.int .u32 p3)]) Try.func13 rfl (Nat.le_of_ble_eq_true rfl) ?_
  rintro ⟨G, w0, W, S, Sp⟩ hG
  cases hG
  unfold congressref08_Reach at H
  refine aw_region (es := [_, _]) ⟨Step.plain rfl (does_box 25 (.tmp 0) 0 (e_api_Beat p0) trivial rfl), ⟨⟨rfl, trivial⟩, trivial, rfl⟩, rfl,
    Step.plain rfl (does_alloc 32 1 (e_a8_u32 (fun _ => 0)) zr32), ⟨trivial, trivial, rfl⟩, rfl, rfl⟩ ?_
  refine aw_cov (cov_prune (s1 := ⟨[(1, (.int .i64 p1)), (2, (.int .u32 p2)), (3, (.int .u32 p3)), (4, (.ptr 0 0 [])), (8, (.ptr 1 0 []))], [(0, some (.var (e_api_Beat p0))), (1, some (.var (e_a8_u32 (fun _ => 0))))], 2⟩) ⟨rfl, rfl, rfl, rfl, rfl, trivial⟩ ⟨rfl, rfl, trivial⟩ (Nat.le_refl _)) ?_
  refine aw_region (es := [_, _, _]) ⟨Step.plain rfl (does_buildT 32 #[] [] [] (.ar 8 1) (fun j => (.int .u32 ((fun _ => 0) j))) (fun j => (.int .u32 ((aset (fun _ => 0) []) j))) rfl bo32 trivial trivial (setAll_map (fun z => V.int .u32 z) [] _)), ⟨trivial, trivial, rfl⟩, rfl,
    Step.plain rfl (does_alloc 32 2 (e_a8_u32 (fun _ => 0)) zr32), ⟨trivial, trivial, rfl⟩, rfl,
    Step.plain rfl (does_store 32 9 (.tmp 12) 2 0 [] (.var (e_a8_u32 (fun _ => 0))) (.var (e_a8_u32 (aset (fun _ => 0) []))) (e_a8_u32 (aset (fun _ => 0) [])) true trivial rfl trivial rfl rfl rfl ty32), ⟨⟨rfl, rfl, trivial⟩, ⟨rfl, trivial⟩, rfl⟩, rfl, rfl⟩ ?_
  refine aw_cov (cov_prune (s1 := ⟨[(1, (.int .i64 p1)), (2, (.int .u32 p2)), (3, (.int .u32 p3)), (4, (.ptr 0 0 [])), (8, (.ptr 1 0 [])), (9, (.ptr 2 0 []))], [(0, some (.var (e_api_Beat p0))), (1, some (.var (e_a8_u32 (fun _ => 0)))), (2, some (.var (e_a8_u32 (aset (fun _ => 0) []))))], 3⟩) ⟨rfl, rfl, rfl, rfl, rfl, rfl, trivial⟩ ⟨rfl, rfl, rfl, trivial⟩ (Nat.le_refl _)) ?_
  refine aw_seq ?_
  refine aw_region (es := [_]) ⟨Step.plain rfl (does_assign (.const (.int .i64 0)) (.int .i64 0) (fun _ => rfl)), ⟨trivial, trivial, rfl⟩, rfl, rfl⟩ ?_
  refine aw_cov (cov_prune (s1 := ⟨[(1, (.int .i64 p1)), (2, (.int .u32 p2)), (3, (.int .u32 p3)), (4, (.ptr 0 0 [])), (8, (.ptr 1 0 [])), (9, (.ptr 2 0 [])), (10, (.int .i64 0))], [(0, some (.var (e_api_Beat p0))), (1, some (.var (e_a8_u32 (fun _ => 0)))), (2, some (.var (e_a8_u32 (aset (fun _ => 0) []))))], 3⟩) ⟨rfl, rfl, rfl, rfl, rfl, rfl, rfl, trivial⟩ ⟨rfl, rfl, rfl, trivial⟩ (Nat.le_refl _)) ?_
  obtain ⟨wn2, hwn2, Hrn2⟩ := bnd H
  refine aw_meet (fun y10 : (Nat → Int) => (⟨[(8, (.ptr 1 0 [])), (9, (.ptr 2 0 []))], [(1, some (.var (e_a8_u32 (fun _ => 0)))), (2, some (.var (e_a8_u32 y10)))], 3⟩ : St)) (fun y10 => Fl.nx y10 = wn2) (fun y10 hy => ?_) (aw_block (aw_runs (fun x1 : Int × (Nat → Int) => (⟨[(1, (.int .i64 p1)), (2, (.int .u32 p2)), (3, (.int .u32 p3)), (4, (.ptr 0 0 [])), (8, (.ptr 1 0 [])), (9, (.ptr 2 0 [])), (10, (.int .i64 x1.1))], [(0, some (.var (e_api_Beat p0))), (1, some (.var (e_a8_u32 (fun _ => 0)))), (2, some (.var (e_a8_u32 x1.2)))], 3⟩ : St)) hwn2 (cov_prune ⟨rfl, rfl, rfl, rfl, rfl, rfl, rfl, trivial⟩ ⟨rfl, rfl, rfl, trivial⟩ (Nat.le_of_ble_eq_true rfl)) (fun x1 st H hsn2 => ?_)))
  · have H := nx_of hy Hrn2
    refine nx_seq ?_
    refine aw_region (es := [_, _]) ⟨Step.plain rfl (does_load 32 9 2 0 [] (.var (e_a8_u32 y10)) (e_a8_u32 y10) trivial rfl rfl ty32), ⟨⟨rfl, trivial⟩, ⟨rfl, trivial⟩, rfl⟩, rfl,
      Step.plain rfl (does_store 32 8 (.tmp 52) 1 0 [] (.var (e_a8_u32 (fun _ => 0))) (.var (e_a8_u32 y10)) (e_a8_u32 y10) true trivial rfl trivial rfl rfl rfl ty32), ⟨⟨rfl, rfl, trivial⟩, ⟨rfl, trivial⟩, rfl⟩, rfl, rfl⟩ ?_
    refine aw_cov (cov_prune (s1 := ⟨[(8, (.ptr 1 0 []))], [(1, some (.var (e_a8_u32 y10)))], 3⟩) ⟨rfl, trivial⟩ ⟨rfl, trivial⟩ (Nat.le_refl _)) ?_
    refine aw_ret ?_
    exact fun a w hr => ⟨_, [(e_a8_u32 y10)], hr, ⟨⟨1, _, rfl, rfl, .data _ (d_a8_u32 y10), ty32⟩, trivial⟩, by decide, by cases H; rfl⟩
  · refine aw_seq ?_
    refine aw_region (es := [_, _]) ⟨Step.plain rfl (does_move (.tmp 10) (.int .i64 x1.1) trivial), ⟨⟨rfl, trivial⟩, trivial, rfl⟩, rfl,
      Step.plain rfl (does_bin .lss 3 3 (.tmp 13) (.const (.int .i64 8)) .i64 x1.1 8 (.bool (decide (x1.1 < 8))) trivial (fun _ => rfl) (bin_lss _ _ _ _)), ⟨⟨rfl, trivial⟩, trivial, rfl⟩, rfl, rfl⟩ ?_
    refine aw_cov (cov_prune (s1 := ⟨[(1, (.int .i64 p1)), (2, (.int .u32 p2)), (3, (.int .u32 p3)), (4, (.ptr 0 0 [])), (8, (.ptr 1 0 [])), (9, (.ptr 2 0 [])), (10, (.int .i64 x1.1)), (14, (.bool (decide (x1.1 < 8))))], [(0, some (.var (e_api_Beat p0))), (1, some (.var (e_a8_u32 (fun _ => 0)))), (2, some (.var (e_a8_u32 x1.2)))], 3⟩) ⟨rfl, rfl, rfl, rfl, rfl, rfl, rfl, rfl, trivial⟩ ⟨rfl, rfl, rfl, trivial⟩ (Nat.le_refl _)) ?_
    refine aw_cond rfl (fun hc => ?_) (fun hc => ?_)
    · replace H := ite_t hc H
      refine aw_skip ?_
      refine nx_seq ?_
      refine aw_seq ?_
      refine aw_jn (fun x9 : (Nat → Int) => (⟨[(1, (.int .i64 p1)), (2, (.int .u32 p2)), (3, (.int .u32 p3)), (4, (.ptr 0 0 [])), (8, (.ptr 1 0 [])), (9, (.ptr 2 0 [])), (10, (.int .i64 x1.1))], [(0, some (.var (e_api_Beat p0))), (1, some (.var (e_a8_u32 (fun _ => 0)))), (2, some (.var (e_a8_u32 x9)))], 3⟩ : St)) H (fun x9 H => ?_) (fun j3 H => ?_)
      · refine nx_seq ?_
        refine aw_region1 (es := [_, _, _]) ⟨Step.plain rfl (does_move (.tmp 10) (.int .i64 x1.1) trivial), ⟨⟨rfl, trivial⟩, trivial, rfl⟩, rfl,
          Step.plain rfl (does_bin .add 3 3 (.tmp 15) (.const (.int .i64 1)) .i64 x1.1 1 (.int .i64 (IntKind.i64.wrap (x1.1 + 1))) trivial (fun _ => rfl) (bin_add _ _ _ _)), ⟨⟨rfl, trivial⟩, trivial, rfl⟩, rfl,
          Step.plain rfl (does_assign (.tmp 16) (.int .i64 (IntKind.i64.wrap (x1.1 + 1))) trivial), ⟨⟨rfl, trivial⟩, trivial, rfl⟩, rfl, rfl⟩ ?_
        exact nx_loop ((IntKind.i64.wrap (x1.1 + 1)), x9) H (cov_prune ⟨rfl, rfl, rfl, rfl, rfl, rfl, rfl, trivial⟩ ⟨rfl, rfl, rfl, trivial⟩ (Nat.le_of_ble_eq_true rfl))
      · refine aw_block ?_
        refine aw_seq ?_
        refine aw_region (es := [_, _, _]) ⟨Step.plain rfl (does_move (.tmp 10) (.int .i64 x1.1) trivial), ⟨⟨rfl, trivial⟩, trivial, rfl⟩, rfl,
          Step.plain rfl (does_move (.tmp 1) (.int .i64 p1) trivial), ⟨⟨rfl, trivial⟩, trivial, rfl⟩, rfl,
          Step.plain rfl (does_bin .eql 3 3 (.tmp 17) (.tmp 18) .i64 x1.1 p1 (.bool (x1.1 == p1)) trivial trivial (bin_eql _ _ _ _)), ⟨⟨rfl, rfl, trivial⟩, trivial, rfl⟩, rfl, rfl⟩ ?_
        refine aw_cov (cov_prune (s1 := ⟨[(1, (.int .i64 p1)), (2, (.int .u32 p2)), (3, (.int .u32 p3)), (4, (.ptr 0 0 [])), (8, (.ptr 1 0 [])), (9, (.ptr 2 0 [])), (10, (.int .i64 x1.1)), (19, (.bool (x1.1 == p1)))], [(0, some (.var (e_api_Beat p0))), (1, some (.var (e_a8_u32 (fun _ => 0)))), (2, some (.var (e_a8_u32 x1.2)))], 3⟩) ⟨rfl, rfl, rfl, rfl, rfl, rfl, rfl, rfl, trivial⟩ ⟨rfl, rfl, rfl, trivial⟩ (Nat.le_refl _)) ?_
        refine aw_cond rfl (fun hc => ?_) (fun hc => ?_)
        · replace H := ite_t hc H
          obtain ⟨h4, H⟩ := ib_of H
          refine aw_region (es := [_, _, _, _]) ⟨Step.plain rfl (does_move (.tmp 10) (.int .i64 x1.1) trivial), ⟨⟨rfl, trivial⟩, trivial, rfl⟩, rfl,
            Step.plain rfl (does_move (.tmp 2) (.int .u32 p2) trivial), ⟨⟨rfl, trivial⟩, trivial, rfl⟩, rfl,
            Step.plain rfl (does_indexAddr 32 8 1 9 2 0 [] (.var (e_a8_u32 x1.2)) (.tmp 20) .i64 x1.1 el32 trivial h4.1 h4.2), ⟨⟨rfl, rfl, trivial⟩, ⟨rfl, trivial⟩, rfl⟩, rfl,
            Step.plain rfl (does_store 22 22 (.tmp 21) 2 (0 + x1.1.toNat * 1) [x1.1.toNat] (.var (e_a8_u32 x1.2)) (.var (e_a8_u32 (aupd x1.2 x1.1.toNat p2))) (.int .u32 p2) false trivial rfl ⟨rfl, (ixl h4), trivial⟩ rfl rfl (congrArg Box.var (set_cons rfl (vupd_map (fun z => V.int .u32 z) _ _ _))) ty22), ⟨⟨rfl, rfl, trivial⟩, ⟨rfl, trivial⟩, rfl⟩, rfl, rfl⟩ ?_
          refine aw_cov (cov_prune (s1 := ⟨[(1, (.int .i64 p1)), (2, (.int .u32 p2)), (3, (.int .u32 p3)), (4, (.ptr 0 0 [])), (8, (.ptr 1 0 [])), (9, (.ptr 2 0 [])), (10, (.int .i64 x1.1))], [(0, some (.var (e_api_Beat p0))), (1, some (.var (e_a8_u32 (fun _ => 0)))), (2, some (.var (e_a8_u32 (aupd x1.2 x1.1.toNat p2))))], 3⟩) ⟨rfl, rfl, rfl, rfl, rfl, rfl, rfl, trivial⟩ ⟨rfl, rfl, rfl, trivial⟩ (Nat.le_refl _)) ?_
          refine aw_exit ?_
          refine ex_then ?_
          refine ex_here ?_
          exact nx_join (aupd x1.2 x1.1.toNat p2) H (cov_prune ⟨rfl, rfl, rfl, rfl, rfl, rfl, rfl, trivial⟩ ⟨rfl, rfl, rfl, trivial⟩ (Nat.le_of_ble_eq_true rfl))
        · replace H := ite_f hc H
          refine aw_skip ?_
          refine nx_seq ?_
          obtain ⟨h5, H⟩ := ib_of H
          refine aw_region (es := [_, _, _, _, _]) ⟨Step.plain rfl (does_move (.tmp 10) (.int .i64 x1.1) trivial), ⟨⟨rfl, trivial⟩, trivial, rfl⟩, rfl,
            Step.plain rfl (does_fieldAddr 25 1 1 4 0 0 [] (.var (e_api_Beat p0)) fl25_1), ⟨⟨rfl, trivial⟩, ⟨rfl, trivial⟩, rfl⟩, rfl,
            Step.plain rfl (does_indexAddr 23 8 1 24 0 (0 + 1) [1] (.var (e_api_Beat p0)) (.tmp 23) .i64 x1.1 el23 trivial h5.1 h5.2), ⟨⟨rfl, rfl, trivial⟩, ⟨rfl, trivial⟩, rfl⟩, rfl,
            Step.plain rfl (does_load 22 25 0 ((0 + 1) + x1.1.toNat * 1) [1, x1.1.toNat] (.var (e_api_Beat p0)) (.int .u32 (p0.Heard x1.1.toNat)) ⟨rfl, Nat.le_of_ble_eq_true rfl, ⟨rfl, (ixl h5), trivial⟩⟩ rfl rfl ty22), ⟨⟨rfl, trivial⟩, ⟨rfl, trivial⟩, rfl⟩, rfl,
            Step.plain rfl (does_assign (.tmp 26) (.int .u32 (p0.Heard x1.1.toNat)) trivial), ⟨⟨rfl, trivial⟩, trivial, rfl⟩, rfl, rfl⟩ ?_
          refine aw_cov (cov_prune (s1 := ⟨[(1, (.int .i64 p1)), (2, (.int .u32 p2)), (3, (.int .u32 p3)), (4, (.ptr 0 0 [])), (8, (.ptr 1 0 [])), (9, (.ptr 2 0 [])), (10, (.int .i64 x1.1)), (11, (.int .u32 (p0.Heard x1.1.toNat)))], [(0, some (.var (e_api_Beat p0))), (1, some (.var (e_a8_u32 (fun _ => 0)))), (2, some (.var (e_a8_u32 x1.2)))], 3⟩) ⟨rfl, rfl, rfl, rfl, rfl, rfl, rfl, rfl, trivial⟩ ⟨rfl, rfl, rfl, trivial⟩ (Nat.le_refl _)) ?_
          refine aw_region (es := [_, _, _, _, _, _, _, _, _, _, _, _, _, _, _, _, _, _, _]) ⟨Step.plain rfl (does_move (.tmp 11) (.int .u32 (p0.Heard x1.1.toNat)) trivial), ⟨⟨rfl, trivial⟩, trivial, rfl⟩, rfl,
            Step.plain rfl (does_bin .gtr 22 22 (.tmp 27) (.const (.int .u32 0)) .u32 (p0.Heard x1.1.toNat) 0 (.bool (decide ((p0.Heard x1.1.toNat) > 0))) trivial (fun _ => rfl) (bin_gtr _ _ _ _)), ⟨⟨rfl, trivial⟩, trivial, rfl⟩, rfl,
            Step.plain rfl (does_move (.tmp 28) (.bool (decide ((p0.Heard x1.1.toNat) > 0))) trivial), ⟨⟨rfl, trivial⟩, trivial, rfl⟩, rfl,
            Step.guarded rfl rfl rfl rfl (fun hc => does_move (.tmp 11) (.int .u32 (p0.Heard x1.1.toNat)) trivial), ⟨⟨rfl, rfl, trivial⟩, trivial, rfl⟩, rfl,
            Step.guarded rfl rfl rfl rfl (fun hc => does_fieldAddr 25 0 0 4 0 0 [] (.var (e_api_Beat p0)) fl25_0), ⟨⟨rfl, rfl, trivial⟩, ⟨rfl, trivial⟩, rfl⟩, rfl,
            Step.guarded rfl rfl rfl rfl (fun hc => Does.strip (n' := [(31, (.opt (decide ((p0.Heard x1.1.toNat) > 0)) (.ptr 0 (0 + 0) [0])))]) (n := [(31, (.ptr 0 (0 + 0) [0]))]) ⟨(.opt _ _ hc), trivial⟩ (does_load 22 31 0 (0 + 0) [0] (.var (e_api_Beat p0)) (.int .u32 p0.Now) ⟨rfl, Nat.le_of_ble_eq_true rfl, trivial⟩ rfl rfl ty22)), ⟨⟨rfl, rfl, trivial⟩, ⟨rfl, trivial⟩, rfl⟩, rfl,
            Step.guarded rfl rfl rfl rfl (fun hc => Does.strip (n' := [(30, (.opt (decide ((p0.Heard x1.1.toNat) > 0)) (.int .u32 (p0.Heard x1.1.toNat)))), (32, (.opt (decide ((p0.Heard x1.1.toNat) > 0)) (.int .u32 p0.Now)))]) (n := [(30, (.int .u32 (p0.Heard x1.1.toNat))), (32, (.int .u32 p0.Now))]) ⟨(.opt _ _ hc), (.opt _ _ hc), trivial⟩ (does_bin .leq 22 22 (.tmp 30) (.tmp 32) .u32 (p0.Heard x1.1.toNat) p0.Now (.bool (decide ((p0.Heard x1.1.toNat) ≤ p0.Now))) trivial trivial (bin_leq _ _ _ _))), ⟨⟨rfl, rfl, rfl, trivial⟩, trivial, rfl⟩, rfl,
            Step.plain rfl (does_and 29 33 (decide ((p0.Heard x1.1.toNat) > 0)) (decide ((p0.Heard x1.1.toNat) ≤ p0.Now))), ⟨⟨rfl, rfl, trivial⟩, trivial, rfl⟩, rfl,
            Step.plain rfl (does_move (.tmp 34) (.bool ((decide ((p0.Heard x1.1.toNat) > 0)) && (decide ((p0.Heard x1.1.toNat) ≤ p0.Now)))) trivial), ⟨⟨rfl, trivial⟩, trivial, rfl⟩, rfl,
            Step.guarded rfl rfl rfl rfl (fun hc => does_fieldAddr 25 0 0 4 0 0 [] (.var (e_api_Beat p0)) fl25_0), ⟨⟨rfl, rfl, trivial⟩, ⟨rfl, trivial⟩, rfl⟩, rfl,
            Step.guarded rfl rfl rfl rfl (fun hc => Does.strip (n' := [(36, (.opt ((decide ((p0.Heard x1.1.toNat) > 0)) && (decide ((p0.Heard x1.1.toNat) ≤ p0.Now))) (.ptr 0 (0 + 0) [0])))]) (n := [(36, (.ptr 0 (0 + 0) [0]))]) ⟨(.opt _ _ hc), trivial⟩ (does_load 22 36 0 (0 + 0) [0] (.var (e_api_Beat p0)) (.int .u32 p0.Now) ⟨rfl, Nat.le_of_ble_eq_true rfl, trivial⟩ rfl rfl ty22)), ⟨⟨rfl, rfl, trivial⟩, ⟨rfl, trivial⟩, rfl⟩, rfl,
            Step.guarded rfl rfl rfl rfl (fun hc => Does.strip (n' := [(37, (.opt ((decide ((p0.Heard x1.1.toNat) > 0)) && (decide ((p0.Heard x1.1.toNat) ≤ p0.Now))) (.int .u32 p0.Now)))]) (n := [(37, (.int .u32 p0.Now))]) ⟨(.opt _ _ hc), trivial⟩ (does_convInt 22 38 (.tmp 37) .u32 .u64 p0.Now trivial rfl rfl)), ⟨⟨rfl, rfl, trivial⟩, trivial, rfl⟩, rfl,
            Step.guarded rfl rfl rfl rfl (fun hc => does_move (.tmp 11) (.int .u32 (p0.Heard x1.1.toNat)) trivial), ⟨⟨rfl, rfl, trivial⟩, trivial, rfl⟩, rfl,
            Step.guarded rfl rfl rfl rfl (fun hc => Does.strip (n' := [(39, (.opt ((decide ((p0.Heard x1.1.toNat) > 0)) && (decide ((p0.Heard x1.1.toNat) ≤ p0.Now))) (.int .u32 (p0.Heard x1.1.toNat))))]) (n := [(39, (.int .u32 (p0.Heard x1.1.toNat)))]) ⟨(.opt _ _ hc), trivial⟩ (does_convInt 22 38 (.tmp 39) .u32 .u64 (p0.Heard x1.1.toNat) trivial rfl rfl)), ⟨⟨rfl, rfl, trivial⟩, trivial, rfl⟩, rfl,
            Step.guarded rfl rfl rfl rfl (fun hc => does_move (.tmp 3) (.int .u32 p3) trivial), ⟨⟨rfl, rfl, trivial⟩, trivial, rfl⟩, rfl,
            Step.guarded rfl rfl rfl rfl (fun hc => Does.strip (n' := [(41, (.opt ((decide ((p0.Heard x1.1.toNat) > 0)) && (decide ((p0.Heard x1.1.toNat) ≤ p0.Now))) (.int .u32 p3)))]) (n := [(41, (.int .u32 p3))]) ⟨(.opt _ _ hc), trivial⟩ (does_convInt 22 38 (.tmp 41) .u32 .u64 p3 trivial rfl rfl)), ⟨⟨rfl, rfl, trivial⟩, trivial, rfl⟩, rfl,
            Step.guarded rfl rfl rfl rfl (fun hc => Does.strip (n' := [(40, (.opt ((decide ((p0.Heard x1.1.toNat) > 0)) && (decide ((p0.Heard x1.1.toNat) ≤ p0.Now))) (.int .u64 (IntKind.u64.wrap (p0.Heard x1.1.toNat))))), (42, (.opt ((decide ((p0.Heard x1.1.toNat) > 0)) && (decide ((p0.Heard x1.1.toNat) ≤ p0.Now))) (.int .u64 (IntKind.u64.wrap (p3)))))]) (n := [(40, (.int .u64 (IntKind.u64.wrap (p0.Heard x1.1.toNat)))), (42, (.int .u64 (IntKind.u64.wrap (p3))))]) ⟨(.opt _ _ hc), (.opt _ _ hc), trivial⟩ (does_bin .add 38 38 (.tmp 40) (.tmp 42) .u64 (IntKind.u64.wrap (p0.Heard x1.1.toNat)) (IntKind.u64.wrap (p3)) (.int .u64 (IntKind.u64.wrap ((IntKind.u64.wrap (p0.Heard x1.1.toNat)) + (IntKind.u64.wrap (p3))))) trivial trivial (bin_add _ _ _ _))), ⟨⟨rfl, rfl, rfl, trivial⟩, trivial, rfl⟩, rfl,
            Step.guarded rfl rfl rfl rfl (fun hc => Does.strip (n' := [(38, (.opt ((decide ((p0.Heard x1.1.toNat) > 0)) && (decide ((p0.Heard x1.1.toNat) ≤ p0.Now))) (.int .u64 (IntKind.u64.wrap (p0.Now))))), (43, (.opt ((decide ((p0.Heard x1.1.toNat) > 0)) && (decide ((p0.Heard x1.1.toNat) ≤ p0.Now))) (.int .u64 (IntKind.u64.wrap ((IntKind.u64.wrap (p0.Heard x1.1.toNat)) + (IntKind.u64.wrap (p3)))))))]) (n := [(38, (.int .u64 (IntKind.u64.wrap (p0.Now)))), (43, (.int .u64 (IntKind.u64.wrap ((IntKind.u64.wrap (p0.Heard x1.1.toNat)) + (IntKind.u64.wrap (p3))))))]) ⟨(.opt _ _ hc), (.opt _ _ hc), trivial⟩ (does_bin .leq 38 38 (.tmp 38) (.tmp 43) .u64 (IntKind.u64.wrap (p0.Now)) (IntKind.u64.wrap ((IntKind.u64.wrap (p0.Heard x1.1.toNat)) + (IntKind.u64.wrap (p3)))) (.bool (decide ((IntKind.u64.wrap (p0.Now)) ≤ (IntKind.u64.wrap ((IntKind.u64.wrap (p0.Heard x1.1.toNat)) + (IntKind.u64.wrap (p3))))))) trivial trivial (bin_leq _ _ _ _))), ⟨⟨rfl, rfl, rfl, trivial⟩, trivial, rfl⟩, rfl,
            Step.plain rfl (does_and 35 44 ((decide ((p0.Heard x1.1.toNat) > 0)) && (decide ((p0.Heard x1.1.toNat) ≤ p0.Now))) (decide ((IntKind.u64.wrap (p0.Now)) ≤ (IntKind.u64.wrap ((IntKind.u64.wrap (p0.Heard x1.1.toNat)) + (IntKind.u64.wrap (p3))))))), ⟨⟨rfl, rfl, trivial⟩, trivial, rfl⟩, rfl, rfl⟩ ?_
          obtain ⟨v6, hv6, H⟩ := lt_of H
          refine aw_cov (cov_prune (s1 := ⟨[(1, (.int .i64 p1)), (2, (.int .u32 p2)), (3, (.int .u32 p3)), (4, (.ptr 0 0 [])), (8, (.ptr 1 0 [])), (9, (.ptr 2 0 [])), (10, (.int .i64 x1.1)), (45, (.bool v6))], [(0, some (.var (e_api_Beat p0))), (1, some (.var (e_a8_u32 (fun _ => 0)))), (2, some (.var (e_a8_u32 x1.2)))], 3⟩) ⟨rfl, rfl, rfl, rfl, rfl, rfl, rfl, (by subst hv6; rfl), trivial⟩ ⟨rfl, rfl, rfl, trivial⟩ (Nat.le_refl _)) ?_
          refine aw_cond rfl (fun hc => ?_) (fun hc => ?_)
          · replace H := ite_t hc H
            obtain ⟨h7, H⟩ := ib_of H
            obtain ⟨h8, H⟩ := ib_of H
            refine aw_region1 (es := [_, _, _, _, _, _, _]) ⟨Step.plain rfl (does_move (.tmp 10) (.int .i64 x1.1) trivial), ⟨⟨rfl, trivial⟩, trivial, rfl⟩, rfl,
              Step.plain rfl (does_move (.tmp 10) (.int .i64 x1.1) trivial), ⟨⟨rfl, trivial⟩, trivial, rfl⟩, rfl,
              Step.plain rfl (does_fieldAddr 25 2 9 4 0 0 [] (.var (e_api_Beat p0)) fl25_2), ⟨⟨rfl, trivial⟩, ⟨rfl, trivial⟩, rfl⟩, rfl,
              Step.plain rfl (does_indexAddr 23 8 1 48 0 (0 + 9) [2] (.var (e_api_Beat p0)) (.tmp 47) .i64 x1.1 el23 trivial h7.1 h7.2), ⟨⟨rfl, rfl, trivial⟩, ⟨rfl, trivial⟩, rfl⟩, rfl,
              Step.plain rfl (does_load 22 49 0 ((0 + 9) + x1.1.toNat * 1) [2, x1.1.toNat] (.var (e_api_Beat p0)) (.int .u32 (p0.Inc x1.1.toNat)) ⟨rfl, Nat.le_of_ble_eq_true rfl, ⟨rfl, (ixl h7), trivial⟩⟩ rfl rfl ty22), ⟨⟨rfl, trivial⟩, ⟨rfl, trivial⟩, rfl⟩, rfl,
              Step.plain rfl (does_indexAddr 32 8 1 9 2 0 [] (.var (e_a8_u32 x1.2)) (.tmp 46) .i64 x1.1 el32 trivial h8.1 h8.2), ⟨⟨rfl, rfl, trivial⟩, ⟨rfl, trivial⟩, rfl⟩, rfl,
              Step.plain rfl (does_store 22 51 (.tmp 50) 2 (0 + x1.1.toNat * 1) [x1.1.toNat] (.var (e_a8_u32 x1.2)) (.var (e_a8_u32 (aupd x1.2 x1.1.toNat (p0.Inc x1.1.toNat)))) (.int .u32 (p0.Inc x1.1.toNat)) false trivial rfl ⟨rfl, (ixl h8), trivial⟩ rfl rfl (congrArg Box.var (set_cons rfl (vupd_map (fun z => V.int .u32 z) _ _ _))) ty22), ⟨⟨rfl, rfl, trivial⟩, ⟨rfl, trivial⟩, rfl⟩, rfl, rfl⟩ ?_
            refine nx_blk ?_
            exact nx_join (aupd x1.2 x1.1.toNat (p0.Inc x1.1.toNat)) H (cov_prune ⟨rfl, rfl, rfl, rfl, rfl, rfl, rfl, trivial⟩ ⟨rfl, rfl, rfl, trivial⟩ (Nat.le_of_ble_eq_true rfl))
          · replace H := ite_f hc H
            refine aw_skip ?_
            refine nx_blk ?_
            exact nx_join (x1.2) H (cov_prune ⟨rfl, rfl, rfl, rfl, rfl, rfl, rfl, trivial⟩ ⟨rfl, rfl, rfl, trivial⟩ (Nat.le_of_ble_eq_true rfl))
    · replace H := ite_f hc H
      refine aw_exit ?_
      refine ex_then ?_
      refine ex_then ?_
      refine ex_here ?_
      exact nx_ljoin (x1.2) H hsn2 (cov_prune ⟨rfl, rfl, trivial⟩ ⟨rfl, rfl, trivial⟩ (Nat.le_of_ble_eq_true rfl))

theorem congresslaw08_BeatTells_spec (p0 : api_Beat) (p1 : congresslaw08_Heard) (p2 : Int) (r : Bool) (H : congresslaw08_BeatTells p0 p1 p2 = some r) : FSpec Try.prog 3 [(e_api_Beat p0), (e_congresslaw08_Heard p1), (.int .u32 p2)] (.bool r) := by
  refine spec_of (fn := Try.f3) (args := [(e_api_Beat p0), (e_congresslaw08_Heard p1), (.int .u32 p2)]) Try.func3 rfl (Nat.le_of_ble_eq_true rfl) ?_
  rintro ⟨G, w0, W, S, Sp⟩ hG
  cases hG
  unfold congresslaw08_BeatTells at H
  refine aw_region (es := [_, _, _]) ⟨Step.plain rfl (does_box 25 (.tmp 0) 0 (e_api_Beat p0) trivial rfl), ⟨⟨rfl, trivial⟩, trivial, rfl⟩, rfl,
    Step.plain rfl (does_box 27 (.tmp 1) 1 (e_congresslaw08_Heard p1) trivial rfl), ⟨⟨rfl, trivial⟩, trivial, rfl⟩, rfl,
    Step.plain rfl (does_assign (.const (.bool false)) (.bool false) (fun _ => rfl)), ⟨trivial, trivial, rfl⟩, rfl, rfl⟩ ?_
  refine aw_cov (cov_prune (s1 := ⟨[(2, (.int .u32 p2)), (3, (.ptr 0 0 [])), (4, (.ptr 1 0 []))], [(0, some (.var (e_api_Beat p0))), (1, some (.var (e_congresslaw08_Heard p1)))], 2⟩) ⟨rfl, rfl, rfl, trivial⟩ ⟨rfl, rfl, trivial⟩ (Nat.le_refl _)) ?_
  obtain ⟨v1, h2, H⟩ := bnd H
  refine aw_region (es := [_, _, _, _, _, _, _, _, _, _, _, _]) ⟨Step.plain rfl (does_load 25 3 0 0 [] (.var (e_api_Beat p0)) (e_api_Beat p0) trivial rfl rfl ty25), ⟨⟨rfl, trivial⟩, ⟨rfl, trivial⟩, rfl⟩, rfl,
    Step.plain rfl (does_fieldAddr 27 0 0 4 1 0 [] (.var (e_congresslaw08_Heard p1)) fl27_0), ⟨⟨rfl, trivial⟩, ⟨rfl, trivial⟩, rfl⟩, rfl,
    Step.plain rfl (does_load 3 13 1 (0 + 0) [0] (.var (e_congresslaw08_Heard p1)) (.int .i64 p1.From) ⟨rfl, Nat.le_of_ble_eq_true rfl, trivial⟩ rfl rfl ty3), ⟨⟨rfl, trivial⟩, ⟨rfl, trivial⟩, rfl⟩, rfl,
    Step.plain rfl (does_fieldAddr 27 1 1 4 1 0 [] (.var (e_congresslaw08_Heard p1)) fl27_1), ⟨⟨rfl, trivial⟩, ⟨rfl, trivial⟩, rfl⟩, rfl,
    Step.plain rfl (does_load 22 15 1 (0 + 1) [1] (.var (e_congresslaw08_Heard p1)) (.int .u32 p1.Inc) ⟨rfl, Nat.le_of_ble_eq_true rfl, trivial⟩ rfl rfl ty22), ⟨⟨rfl, trivial⟩, ⟨rfl, trivial⟩, rfl⟩, rfl,
    Step.plain rfl (does_call 7 0 (fun _ => .any) (.func 7) [(.tmp 12), (.tmp 14), (.tmp 16)] [(e_api_Beat p0), (.int .i64 p1.From), (.int .u32 p1.Inc)] [] true [(e_api_Beat p0), (.int .i64 p1.From), (.int .u32 p1.Inc)] (resV [(e_api_Beat v1.1), (.bool v1.2)]) _ _ rfl fo7 rfl ⟨trivial, trivial, trivial, trivial⟩ ⟨.data _ (d_api_Beat p0), .data _ trivial, .data _ trivial, trivial⟩ (beat_Hear_spec p0 p1.From p1.Inc _ h2) (res_flat2 (f_api_Beat v1.1) trivial)), ⟨⟨rfl, rfl, rfl, trivial⟩, trivial, rfl⟩, rfl,
    Step.plain rfl (does_move (.tmp 17) (resV [(e_api_Beat v1.1), (.bool v1.2)]) trivial), ⟨⟨rfl, trivial⟩, trivial, rfl⟩, rfl,
    Step.plain rfl (does_extract 11 0 2 (fun j => [(e_api_Beat v1.1), (.bool v1.2)].getD j (.bool false)) (Nat.le_of_ble_eq_true rfl)), ⟨⟨rfl, trivial⟩, trivial, rfl⟩, rfl,
    Step.plain rfl (does_extract 11 1 2 (fun j => [(e_api_Beat v1.1), (.bool v1.2)].getD j (.bool false)) (Nat.le_of_ble_eq_true rfl)), ⟨⟨rfl, trivial⟩, trivial, rfl⟩, rfl,
    Step.plain rfl (does_alloc 25 2 (e_api_Beat z_api_Beat) zr25), ⟨trivial, trivial, rfl⟩, rfl,
    Step.plain rfl (does_store 25 7 (.tmp 18) 2 0 [] (.var (e_api_Beat z_api_Beat)) (.var (e_api_Beat v1.1)) (e_api_Beat v1.1) true trivial rfl trivial rfl rfl rfl ty25), ⟨⟨rfl, rfl, trivial⟩, ⟨rfl, trivial⟩, rfl⟩, rfl,
    Step.plain rfl (does_assign (.tmp 19) (.bool v1.2) trivial), ⟨⟨rfl, trivial⟩, trivial, rfl⟩, rfl, rfl⟩ ?_
  refine aw_cov (cov_prune (s1 := ⟨[(2, (.int .u32 p2)), (3, (.ptr 0 0 [])), (4, (.ptr 1 0 [])), (7, (.ptr 2 0 [])), (8, (.bool v1.2))], [(0, some (.var (e_api_Beat p0))), (1, some (.var (e_congresslaw08_Heard p1))), (2, some (.var (e_api_Beat v1.1)))], 3⟩) ⟨rfl, rfl, rfl, rfl, rfl, trivial⟩ ⟨rfl, rfl, rfl, trivial⟩ (Nat.le_refl _)) ?_
  obtain ⟨v3, h4, H⟩ := bnd H
  refine aw_region (es := [_, _, _, _, _, _, _, _, _, _, _, _]) ⟨Step.plain rfl (does_load 25 3 0 0 [] (.var (e_api_Beat p0)) (e_api_Beat p0) trivial rfl rfl ty25), ⟨⟨rfl, trivial⟩, ⟨rfl, trivial⟩, rfl⟩, rfl,
    Step.plain rfl (does_fieldAddr 27 0 0 4 1 0 [] (.var (e_congresslaw08_Heard p1)) fl27_0), ⟨⟨rfl, trivial⟩, ⟨rfl, trivial⟩, rfl⟩, rfl,
    Step.plain rfl (does_load 3 22 1 (0 + 0) [0] (.var (e_congresslaw08_Heard p1)) (.int .i64 p1.From) ⟨rfl, Nat.le_of_ble_eq_true rfl, trivial⟩ rfl rfl ty3), ⟨⟨rfl, trivial⟩, ⟨rfl, trivial⟩, rfl⟩, rfl,
    Step.plain rfl (does_fieldAddr 27 1 1 4 1 0 [] (.var (e_congresslaw08_Heard p1)) fl27_1), ⟨⟨rfl, trivial⟩, ⟨rfl, trivial⟩, rfl⟩, rfl,
    Step.plain rfl (does_load 22 24 1 (0 + 1) [1] (.var (e_congresslaw08_Heard p1)) (.int .u32 p1.Inc) ⟨rfl, Nat.le_of_ble_eq_true rfl, trivial⟩ rfl rfl ty22), ⟨⟨rfl, trivial⟩, ⟨rfl, trivial⟩, rfl⟩, rfl,
    Step.plain rfl (does_call 8 0 (fun _ => .any) (.func 8) [(.tmp 21), (.tmp 23), (.tmp 25)] [(e_api_Beat p0), (.int .i64 p1.From), (.int .u32 p1.Inc)] [] true [(e_api_Beat p0), (.int .i64 p1.From), (.int .u32 p1.Inc)] (resV [(e_api_Beat v3.1), (.bool v3.2)]) _ _ rfl fo8 rfl ⟨trivial, trivial, trivial, trivial⟩ ⟨.data _ (d_api_Beat p0), .data _ trivial, .data _ trivial, trivial⟩ (congressref08_Hear_spec p0 p1.From p1.Inc _ h4) (res_flat2 (f_api_Beat v3.1) trivial)), ⟨⟨rfl, rfl, rfl, trivial⟩, trivial, rfl⟩, rfl,
    Step.plain rfl (does_move (.tmp 26) (resV [(e_api_Beat v3.1), (.bool v3.2)]) trivial), ⟨⟨rfl, trivial⟩, trivial, rfl⟩, rfl,
    Step.plain rfl (does_extract 20 0 2 (fun j => [(e_api_Beat v3.1), (.bool v3.2)].getD j (.bool false)) (Nat.le_of_ble_eq_true rfl)), ⟨⟨rfl, trivial⟩, trivial, rfl⟩, rfl,
    Step.plain rfl (does_extract 20 1 2 (fun j => [(e_api_Beat v3.1), (.bool v3.2)].getD j (.bool false)) (Nat.le_of_ble_eq_true rfl)), ⟨⟨rfl, trivial⟩, trivial, rfl⟩, rfl,
    Step.plain rfl (does_alloc 25 3 (e_api_Beat z_api_Beat) zr25), ⟨trivial, trivial, rfl⟩, rfl,
    Step.plain rfl (does_store 25 9 (.tmp 27) 3 0 [] (.var (e_api_Beat z_api_Beat)) (.var (e_api_Beat v3.1)) (e_api_Beat v3.1) true trivial rfl trivial rfl rfl rfl ty25), ⟨⟨rfl, rfl, trivial⟩, ⟨rfl, trivial⟩, rfl⟩, rfl,
    Step.plain rfl (does_assign (.tmp 28) (.bool v3.2) trivial), ⟨⟨rfl, trivial⟩, trivial, rfl⟩, rfl, rfl⟩ ?_
  refine aw_cov (cov_prune (s1 := ⟨[(2, (.int .u32 p2)), (3, (.ptr 0 0 [])), (4, (.ptr 1 0 [])), (7, (.ptr 2 0 [])), (8, (.bool v1.2)), (9, (.ptr 3 0 [])), (10, (.bool v3.2))], [(0, some (.var (e_api_Beat p0))), (1, some (.var (e_congresslaw08_Heard p1))), (2, some (.var (e_api_Beat v1.1))), (3, some (.var (e_api_Beat v3.1)))], 4⟩) ⟨rfl, rfl, rfl, rfl, rfl, rfl, rfl, trivial⟩ ⟨rfl, rfl, rfl, rfl, trivial⟩ (Nat.le_refl _)) ?_
  obtain ⟨v5, h6, H⟩ := bnd H
  obtain ⟨v7, h8, H⟩ := whn_of H
  obtain ⟨v9, h10, H⟩ := whn_of H
  obtain ⟨v11, h12, H⟩ := whn_of H
  obtain ⟨v13, h14, H⟩ := whn_of H
  refine aw_draw (es := [_, _, _, _, _, _, _, _, _, _, _, _, _, _, _, _, _, _, _, _, _, _, _, _, _, _, _, _, _, _, _, _, _, _, _, _]) (mixed) ⟨Step.plain rfl (does_call 9 0 (fun _ => .any) (.func 9) [] [] [] true [] (.bool v5) _ _ rfl fo9 rfl trivial trivial (congresslaw08_fixed_spec _ h6) trivial), ⟨trivial, trivial, rfl⟩, rfl,
    Step.plain rfl (does_move (.tmp 29) (.bool v5) trivial), ⟨⟨rfl, trivial⟩, trivial, rfl⟩, rfl,
    Step.guarded rfl rfl rfl rfl (fun hc => does_load 25 3 0 0 [] (.var (e_api_Beat p0)) (e_api_Beat p0) trivial rfl rfl ty25), ⟨⟨rfl, rfl, trivial⟩, ⟨rfl, trivial⟩, rfl⟩, rfl,
    Step.guarded rfl rfl rfl rfl (fun hc => Does.strip (n' := [(31, (.opt v5 (e_api_Beat p0)))]) (n := [(31, (e_api_Beat p0))]) ⟨(.opt _ _ hc), trivial⟩ (does_call 10 0 (fun _ => .any) (.func 10) [(.tmp 31)] [(e_api_Beat p0)] [] true [(e_api_Beat p0)] (e_api_Beat v7) _ _ rfl fo10 rfl ⟨trivial, trivial⟩ ⟨.data _ (d_api_Beat p0), trivial⟩ (beat_Tick_spec p0 _ (h8 hc)) (f_api_Beat v7))), ⟨⟨rfl, rfl, trivial⟩, trivial, rfl⟩, rfl,
    Step.guarded rfl rfl rfl rfl (fun hc => does_load 25 3 0 0 [] (.var (e_api_Beat p0)) (e_api_Beat p0) trivial rfl rfl ty25), ⟨⟨rfl, rfl, trivial⟩, ⟨rfl, trivial⟩, rfl⟩, rfl,
    Step.guarded rfl rfl rfl rfl (fun hc => Does.strip (n' := [(33, (.opt v5 (e_api_Beat p0)))]) (n := [(33, (e_api_Beat p0))]) ⟨(.opt _ _ hc), trivial⟩ (does_call 11 0 (fun _ => .any) (.func 11) [(.tmp 33)] [(e_api_Beat p0)] [] true [(e_api_Beat p0)] (e_api_Beat v9) _ _ rfl fo11 rfl ⟨trivial, trivial⟩ ⟨.data _ (d_api_Beat p0), trivial⟩ (congressref08_Tick_spec p0 _ (h10 hc)) (f_api_Beat v9))), ⟨⟨rfl, rfl, trivial⟩, trivial, rfl⟩, rfl,
    Step.guarded rfl rfl rfl rfl (fun hc => Does.strip (n' := [(32, (.opt v5 (e_api_Beat v7))), (34, (.opt v5 (e_api_Beat v9)))]) (n := [(32, (e_api_Beat v7)), (34, (e_api_Beat v9))]) ⟨(.opt _ _ hc), (.opt _ _ hc), trivial⟩ (does_eqT false 25 25 (.tmp 32) (.tmp 34) (e_api_Beat v7) (e_api_Beat v9) (e_api_Beat z_api_Beat) (b_api_Beat v7 v9) rfl rfl trivial trivial eg25 sh25 (al_api_Beat _ _) (al_api_Beat _ _) (q_api_Beat _ _))), ⟨⟨rfl, rfl, rfl, trivial⟩, trivial, rfl⟩, rfl,
    Step.plain rfl (does_and 30 35 v5 (b_api_Beat v7 v9)), ⟨⟨rfl, rfl, trivial⟩, trivial, rfl⟩, rfl,
    Step.plain rfl (does_move (.tmp 36) (.bool (v5 && (b_api_Beat v7 v9))) trivial), ⟨⟨rfl, trivial⟩, trivial, rfl⟩, rfl,
    Step.guarded rfl rfl rfl rfl (fun hc => does_load 25 7 2 0 [] (.var (e_api_Beat v1.1)) (e_api_Beat v1.1) trivial rfl rfl ty25), ⟨⟨rfl, rfl, trivial⟩, ⟨rfl, trivial⟩, rfl⟩, rfl,
    Step.guarded rfl rfl rfl rfl (fun hc => does_load 25 9 3 0 [] (.var (e_api_Beat v3.1)) (e_api_Beat v3.1) trivial rfl rfl ty25), ⟨⟨rfl, rfl, trivial⟩, ⟨rfl, trivial⟩, rfl⟩, rfl,
    Step.guarded rfl rfl rfl rfl (fun hc => Does.strip (n' := [(38, (.opt (v5 && (b_api_Beat v7 v9)) (e_api_Beat v1.1))), (39, (.opt (v5 && (b_api_Beat v7 v9)) (e_api_Beat v3.1)))]) (n := [(38, (e_api_Beat v1.1)), (39, (e_api_Beat v3.1))]) ⟨(.opt _ _ hc), (.opt _ _ hc), trivial⟩ (does_eqT false 25 25 (.tmp 38) (.tmp 39) (e_api_Beat v1.1) (e_api_Beat v3.1) (e_api_Beat z_api_Beat) (b_api_Beat v1.1 v3.1) rfl rfl trivial trivial eg25 sh25 (al_api_Beat _ _) (al_api_Beat _ _) (q_api_Beat _ _))), ⟨⟨rfl, rfl, rfl, trivial⟩, trivial, rfl⟩, rfl,
    Step.plain rfl (does_and 37 40 (v5 && (b_api_Beat v7 v9)) (b_api_Beat v1.1 v3.1)), ⟨⟨rfl, rfl, trivial⟩, trivial, rfl⟩, rfl,
    Step.plain rfl (does_move (.tmp 41) (.bool ((v5 && (b_api_Beat v7 v9)) && (b_api_Beat v1.1 v3.1))) trivial), ⟨⟨rfl, trivial⟩, trivial, rfl⟩, rfl,
    Step.guarded rfl rfl rfl rfl (fun hc => does_move (.tmp 8) (.bool v1.2) trivial), ⟨⟨rfl, rfl, trivial⟩, trivial, rfl⟩, rfl,
    Step.guarded rfl rfl rfl rfl (fun hc => does_move (.tmp 10) (.bool v3.2) trivial), ⟨⟨rfl, rfl, trivial⟩, trivial, rfl⟩, rfl,
    Step.guarded rfl rfl rfl rfl (fun hc => Does.strip (n' := [(43, (.opt ((v5 && (b_api_Beat v7 v9)) && (b_api_Beat v1.1 v3.1)) (.bool v1.2))), (44, (.opt ((v5 && (b_api_Beat v7 v9)) && (b_api_Beat v1.1 v3.1)) (.bool v3.2)))]) (n := [(43, (.bool v1.2)), (44, (.bool v3.2))]) ⟨(.opt _ _ hc), (.opt _ _ hc), trivial⟩ (does_eqBool false 4 4 (.tmp 43) (.tmp 44) v1.2 v3.2 trivial trivial rfl)), ⟨⟨rfl, rfl, rfl, trivial⟩, trivial, rfl⟩, rfl,
    Step.plain rfl (does_and 42 45 ((v5 && (b_api_Beat v7 v9)) && (b_api_Beat v1.1 v3.1)) (v1.2 == v3.2)), ⟨⟨rfl, rfl, trivial⟩, trivial, rfl⟩, rfl,
    Step.plain rfl (does_move (.tmp 46) (.bool (((v5 && (b_api_Beat v7 v9)) && (b_api_Beat v1.1 v3.1)) && (v1.2 == v3.2))) trivial), ⟨⟨rfl, trivial⟩, trivial, rfl⟩, rfl,
    Step.guarded rfl rfl rfl rfl (fun hc => does_load 25 3 0 0 [] (.var (e_api_Beat p0)) (e_api_Beat p0) trivial rfl rfl ty25), ⟨⟨rfl, rfl, trivial⟩, ⟨rfl, trivial⟩, rfl⟩, rfl,
    Step.guarded rfl rfl rfl rfl (fun hc => does_fieldAddr 27 0 0 4 1 0 [] (.var (e_congresslaw08_Heard p1)) fl27_0), ⟨⟨rfl, rfl, trivial⟩, ⟨rfl, trivial⟩, rfl⟩, rfl,
    Step.guarded rfl rfl rfl rfl (fun hc => Does.strip (n' := [(49, (.opt (((v5 && (b_api_Beat v7 v9)) && (b_api_Beat v1.1 v3.1)) && (v1.2 == v3.2)) (.ptr 1 (0 + 0) [0])))]) (n := [(49, (.ptr 1 (0 + 0) [0]))]) ⟨(.opt _ _ hc), trivial⟩ (does_load 3 49 1 (0 + 0) [0] (.var (e_congresslaw08_Heard p1)) (.int .i64 p1.From) ⟨rfl, Nat.le_of_ble_eq_true rfl, trivial⟩ rfl rfl ty3)), ⟨⟨rfl, rfl, trivial⟩, ⟨rfl, trivial⟩, rfl⟩, rfl,
    Step.guarded rfl rfl rfl rfl (fun hc => does_fieldAddr 27 1 1 4 1 0 [] (.var (e_congresslaw08_Heard p1)) fl27_1), ⟨⟨rfl, rfl, trivial⟩, ⟨rfl, trivial⟩, rfl⟩, rfl,
    Step.guarded rfl rfl rfl rfl (fun hc => Does.strip (n' := [(51, (.opt (((v5 && (b_api_Beat v7 v9)) && (b_api_Beat v1.1 v3.1)) && (v1.2 == v3.2)) (.ptr 1 (0 + 1) [1])))]) (n := [(51, (.ptr 1 (0 + 1) [1]))]) ⟨(.opt _ _ hc), trivial⟩ (does_load 22 51 1 (0 + 1) [1] (.var (e_congresslaw08_Heard p1)) (.int .u32 p1.Inc) ⟨rfl, Nat.le_of_ble_eq_true rfl, trivial⟩ rfl rfl ty22)), ⟨⟨rfl, rfl, trivial⟩, ⟨rfl, trivial⟩, rfl⟩, rfl,
    Step.guarded rfl rfl rfl rfl (fun hc => does_move (.tmp 2) (.int .u32 p2) trivial), ⟨⟨rfl, rfl, trivial⟩, trivial, rfl⟩, rfl,
    Step.guarded rfl rfl rfl rfl (fun hc => Does.strip (n' := [(48, (.opt (((v5 && (b_api_Beat v7 v9)) && (b_api_Beat v1.1 v3.1)) && (v1.2 == v3.2)) (e_api_Beat p0))), (50, (.opt (((v5 && (b_api_Beat v7 v9)) && (b_api_Beat v1.1 v3.1)) && (v1.2 == v3.2)) (.int .i64 p1.From))), (52, (.opt (((v5 && (b_api_Beat v7 v9)) && (b_api_Beat v1.1 v3.1)) && (v1.2 == v3.2)) (.int .u32 p1.Inc))), (53, (.opt (((v5 && (b_api_Beat v7 v9)) && (b_api_Beat v1.1 v3.1)) && (v1.2 == v3.2)) (.int .u32 p2)))]) (n := [(48, (e_api_Beat p0)), (50, (.int .i64 p1.From)), (52, (.int .u32 p1.Inc)), (53, (.int .u32 p2))]) ⟨(.opt _ _ hc), (.opt _ _ hc), (.opt _ _ hc), (.opt _ _ hc), trivial⟩ (does_call 12 0 (fun _ => .any) (.func 12) [(.tmp 48), (.tmp 50), (.tmp 52), (.tmp 53)] [(e_api_Beat p0), (.int .i64 p1.From), (.int .u32 p1.Inc), (.int .u32 p2)] [] true [(e_api_Beat p0), (.int .i64 p1.From), (.int .u32 p1.Inc), (.int .u32 p2)] (e_a8_u32 v11) _ _ rfl fo12 rfl ⟨trivial, trivial, trivial, trivial, trivial⟩ ⟨.data _ (d_api_Beat p0), .data _ trivial, .data _ trivial, .data _ trivial, trivial⟩ (beat_Reach_spec p0 p1.From p1.Inc p2 _ (h12 hc)) (f_a8_u32 v11))), ⟨⟨rfl, rfl, rfl, rfl, rfl, trivial⟩, trivial, rfl⟩, rfl,
    Step.guarded rfl rfl rfl rfl (fun hc => does_load 25 3 0 0 [] (.var (e_api_Beat p0)) (e_api_Beat p0) trivial rfl rfl ty25), ⟨⟨rfl, rfl, trivial⟩, ⟨rfl, trivial⟩, rfl⟩, rfl,
    Step.guarded rfl rfl rfl rfl (fun hc => does_fieldAddr 27 0 0 4 1 0 [] (.var (e_congresslaw08_Heard p1)) fl27_0), ⟨⟨rfl, rfl, trivial⟩, ⟨rfl, trivial⟩, rfl⟩, rfl,
    Step.guarded rfl rfl rfl rfl (fun hc => Does.strip (n' := [(56, (.opt (((v5 && (b_api_Beat v7 v9)) && (b_api_Beat v1.1 v3.1)) && (v1.2 == v3.2)) (.ptr 1 (0 + 0) [0])))]) (n := [(56, (.ptr 1 (0 + 0) [0]))]) ⟨(.opt _ _ hc), trivial⟩ (does_load 3 56 1 (0 + 0) [0] (.var (e_congresslaw08_Heard p1)) (.int .i64 p1.From) ⟨rfl, Nat.le_of_ble_eq_true rfl, trivial⟩ rfl rfl ty3)), ⟨⟨rfl, rfl, trivial⟩, ⟨rfl, trivial⟩, rfl⟩, rfl,
    Step.guarded rfl rfl rfl rfl (fun hc => does_fieldAddr 27 1 1 4 1 0 [] (.var (e_congresslaw08_Heard p1)) fl27_1), ⟨⟨rfl, rfl, trivial⟩, ⟨rfl, trivial⟩, rfl⟩, rfl,
    Step.guarded rfl rfl rfl rfl (fun hc => Does.strip (n' := [(58, (.opt (((v5 && (b_api_Beat v7 v9)) && (b_api_Beat v1.1 v3.1)) && (v1.2 == v3.2)) (.ptr 1 (0 + 1) [1])))]) (n := [(58, (.ptr 1 (0 + 1) [1]))]) ⟨(.opt _ _ hc), trivial⟩ (does_load 22 58 1 (0 + 1) [1] (.var (e_congresslaw08_Heard p1)) (.int .u32 p1.Inc) ⟨rfl, Nat.le_of_ble_eq_true rfl, trivial⟩ rfl rfl ty22)), ⟨⟨rfl, rfl, trivial⟩, ⟨rfl, trivial⟩, rfl⟩, rfl,
    Step.guarded rfl rfl rfl rfl (fun hc => does_move (.tmp 2) (.int .u32 p2) trivial), ⟨⟨rfl, rfl, trivial⟩, trivial, rfl⟩, rfl,
    Step.guarded rfl rfl rfl rfl (fun hc => Does.strip (n' := [(55, (.opt (((v5 && (b_api_Beat v7 v9)) && (b_api_Beat v1.1 v3.1)) && (v1.2 == v3.2)) (e_api_Beat p0))), (57, (.opt (((v5 && (b_api_Beat v7 v9)) && (b_api_Beat v1.1 v3.1)) && (v1.2 == v3.2)) (.int .i64 p1.From))), (59, (.opt (((v5 && (b_api_Beat v7 v9)) && (b_api_Beat v1.1 v3.1)) && (v1.2 == v3.2)) (.int .u32 p1.Inc))), (60, (.opt (((v5 && (b_api_Beat v7 v9)) && (b_api_Beat v1.1 v3.1)) && (v1.2 == v3.2)) (.int .u32 p2)))]) (n := [(55, (e_api_Beat p0)), (57, (.int .i64 p1.From)), (59, (.int .u32 p1.Inc)), (60, (.int .u32 p2))]) ⟨(.opt _ _ hc), (.opt _ _ hc), (.opt _ _ hc), (.opt _ _ hc), trivial⟩ (does_call 13 0 (fun _ => .any) (.func 13) [(.tmp 55), (.tmp 57), (.tmp 59), (.tmp 60)] [(e_api_Beat p0), (.int .i64 p1.From), (.int .u32 p1.Inc), (.int .u32 p2)] [] true [(e_api_Beat p0), (.int .i64 p1.From), (.int .u32 p1.Inc), (.int .u32 p2)] (e_a8_u32 v13) _ _ rfl fo13 rfl ⟨trivial, trivial, trivial, trivial, trivial⟩ ⟨.data _ (d_api_Beat p0), .data _ trivial, .data _ trivial, .data _ trivial, trivial⟩ (congressref08_Reach_spec p0 p1.From p1.Inc p2 _ (h14 hc)) (f_a8_u32 v13))), ⟨⟨rfl, rfl, rfl, rfl, rfl, trivial⟩, trivial, rfl⟩, rfl,
    Step.guarded rfl rfl rfl rfl (fun hc => Does.strip (n' := [(54, (.opt (((v5 && (b_api_Beat v7 v9)) && (b_api_Beat v1.1 v3.1)) && (v1.2 == v3.2)) (e_a8_u32 v11))), (61, (.opt (((v5 && (b_api_Beat v7 v9)) && (b_api_Beat v1.1 v3.1)) && (v1.2 == v3.2)) (e_a8_u32 v13)))]) (n := [(54, (e_a8_u32 v11)), (61, (e_a8_u32 v13))]) ⟨(.opt _ _ hc), (.opt _ _ hc), trivial⟩ (does_eqT false 32 32 (.tmp 54) (.tmp 61) (e_a8_u32 v11) (e_a8_u32 v13) (e_a8_u32 (fun _ => 0)) (b_a8_u32 v11 v13) rfl rfl trivial trivial eg32 sh32 (al_a8_u32 _ _) (al_a8_u32 _ _) (q_a8_u32 _ _))), ⟨⟨rfl, rfl, rfl, trivial⟩, trivial, rfl⟩, rfl,
    Step.plain rfl (does_and 47 62 (((v5 && (b_api_Beat v7 v9)) && (b_api_Beat v1.1 v3.1)) && (v1.2 == v3.2)) (b_a8_u32 v11 v13)), ⟨⟨rfl, rfl, trivial⟩, trivial, rfl⟩, rfl,
    Step.plain rfl (does_assign (.tmp 63) (.bool ((((v5 && (b_api_Beat v7 v9)) && (b_api_Beat v1.1 v3.1)) && (v1.2 == v3.2)) && (b_a8_u32 v11 v13))) trivial), ⟨⟨rfl, trivial⟩, trivial, rfl⟩, rfl, rfl⟩ rfl ?_
  obtain ⟨v15, hv15, H⟩ := lt_of H
  refine aw_cov (cov_prune (s1 := ⟨[(6, (.bool v15))], [], 4⟩) ⟨(by subst hv15; rfl), trivial⟩ trivial (Nat.le_refl _)) ?_
  refine aw_ret ?_
  exact fun a w hr => ⟨_, [(.bool v15)], hr, ⟨⟨_, rfl, .data _ trivial⟩, trivial⟩, by decide, by cases H; rfl⟩
end Go.Proofs.Ytckoficjcnaedaa
