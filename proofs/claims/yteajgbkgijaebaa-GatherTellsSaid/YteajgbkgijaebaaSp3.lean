/- Printed by gen.py. Conditions: none. -/
import Derived.Test.YteajgbkgijaebaaSp2
import Derived.KernelRfl
set_option linter.unusedVariables false
set_option maxRecDepth 100000
namespace Go.Proofs.Yteajgbkgijaebaa
open Go.Eng
set_option maxHeartbeats 1600000
theorem gather_Target_spec (p0 : api_Core) (r : (Nat → Int)) (H : gather_Target p0 = some r) : FSpec Try.prog 12 [(e_api_Core p0)] (e_a8_u32 r) := by
  refine spec_of (fn := Try.f12) (args := [(e_api_Core p0)]) Try.func12 rfl (Nat.le_of_ble_eq_true rfl) ?_
  rintro ⟨G, w0, W, S, Sp⟩ hG
  cases hG
  unfold gather_Target at H
  refine aw_region (es := [_, _]) ⟨Step.plain rfl (does_box 35 (.tmp 0) 0 (e_api_Core p0) trivial rfl), ⟨⟨rfl, trivial⟩, trivial, rfl⟩, rfl,
    Step.plain rfl (does_alloc 29 1 (e_a8_u32 (fun _ => 0)) zr29), ⟨trivial, trivial, rfl⟩, rfl, rfl⟩ ?_
  refine aw_cov (cov_prune (s1 := ⟨[(1, (.ptr 0 0 [])), (2, (.ptr 1 0 []))], [(0, some (.var (e_api_Core p0))), (1, some (.var (e_a8_u32 (fun _ => 0))))], 2⟩) ⟨rfl, rfl, trivial⟩ ⟨rfl, rfl, trivial⟩ (Nat.le_refl _)) ?_
  refine aw_region (es := [_, _, _, _]) ⟨Step.plain rfl (does_fieldAddr 35 10 51 1 0 0 [] (.var (e_api_Core p0)) fl35_10), ⟨⟨rfl, trivial⟩, ⟨rfl, trivial⟩, rfl⟩, rfl,
    Step.plain rfl (does_load 29 7 0 (0 + 51) [10] (.var (e_api_Core p0)) (e_a8_u32 p0.Cut) ⟨rfl, Nat.le_of_ble_eq_true rfl, trivial⟩ rfl rfl ty29), ⟨⟨rfl, trivial⟩, ⟨rfl, trivial⟩, rfl⟩, rfl,
    Step.plain rfl (does_alloc 29 2 (e_a8_u32 (fun _ => 0)) zr29), ⟨trivial, trivial, rfl⟩, rfl,
    Step.plain rfl (does_store 29 3 (.tmp 8) 2 0 [] (.var (e_a8_u32 (fun _ => 0))) (.var (e_a8_u32 p0.Cut)) (e_a8_u32 p0.Cut) true trivial rfl trivial rfl rfl rfl ty29), ⟨⟨rfl, rfl, trivial⟩, ⟨rfl, trivial⟩, rfl⟩, rfl, rfl⟩ ?_
  refine aw_cov (cov_prune (s1 := ⟨[(1, (.ptr 0 0 [])), (2, (.ptr 1 0 [])), (3, (.ptr 2 0 []))], [(0, some (.var (e_api_Core p0))), (1, some (.var (e_a8_u32 (fun _ => 0)))), (2, some (.var (e_a8_u32 p0.Cut)))], 3⟩) ⟨rfl, rfl, rfl, trivial⟩ ⟨rfl, rfl, rfl, trivial⟩ (Nat.le_refl _)) ?_
  refine aw_seq ?_
  obtain ⟨v1, h2, H⟩ := bnd H
  refine aw_region (es := [_, _, _, _, _]) ⟨Step.plain rfl (does_fieldAddr 35 9 43 1 0 0 [] (.var (e_api_Core p0)) fl35_9), ⟨⟨rfl, trivial⟩, ⟨rfl, trivial⟩, rfl⟩, rfl,
    Step.plain rfl (does_load 28 9 0 (0 + 43) [9] (.var (e_api_Core p0)) (e_a8_u32 p0.Wanted) ⟨rfl, Nat.le_of_ble_eq_true rfl, trivial⟩ rfl rfl ty28), ⟨⟨rfl, trivial⟩, ⟨rfl, trivial⟩, rfl⟩, rfl,
    Step.plain rfl (does_callO 28 0 (fun _ => .any) (.func 28) [(.tmp 10)] [(e_a8_u32 p0.Wanted)] [] [] true [(e_a8_u32 p0.Wanted)] _ (.own 3) _ 3 1 _ _ rfl fo28 rfl ⟨trivial, trivial⟩ ⟨.ro _ _ (.data _ (d_a8_u32 p0.Wanted)), trivial⟩ (ident_List_spec p0.Wanted _ h2) rfl (by simp) rfl trivial ⟨⟨Nat.le_of_ble_eq_true rfl, _, rfl, fun _ => trivial⟩, trivial⟩ (.own 0 (Nat.le_of_ble_eq_true rfl))), ⟨⟨rfl, trivial⟩, trivial, rfl⟩, rfl,
    Step.plain rfl (does_leno 63 1 v1.length 11 3 (fun j => (.int .i64 (v1.getD j 0))) el63), ⟨⟨rfl, trivial⟩, ⟨rfl, trivial⟩, rfl⟩, rfl,
    Step.plain rfl (does_move (.const (.int .i64 0)) (.int .i64 0) (fun _ => rfl)), ⟨trivial, trivial, rfl⟩, rfl, rfl⟩ ?_
  refine aw_cov (cov_prune (s1 := ⟨[(1, (.ptr 0 0 [])), (2, (.ptr 1 0 [])), (3, (.ptr 2 0 [])), (11, (.own 3)), (12, (.int .i64 (v1.length : Int))), (13, (.int .i64 0))], [(0, some (.var (e_api_Core p0))), (1, some (.var (e_a8_u32 (fun _ => 0)))), (2, some (.var (e_a8_u32 p0.Cut))), (3, some (.arr 1 v1.length fun j => (.int .i64 (v1.getD j 0))))], 4⟩) ⟨rfl, rfl, rfl, rfl, rfl, rfl, trivial⟩ ⟨rfl, rfl, rfl, rfl, trivial⟩ (Nat.le_refl _)) ?_
  obtain ⟨wn4, hwn4, Hrn4⟩ := bnd H
  refine aw_meet (fun y13 : (Nat → Int) => (⟨[(2, (.ptr 1 0 [])), (3, (.ptr 2 0 []))], [(1, some (.var (e_a8_u32 (fun _ => 0)))), (2, some (.var (e_a8_u32 y13)))], 4⟩ : St)) (fun y13 => Fl.nx y13 = wn4) (fun y13 hy => ?_) (aw_block (aw_runs (fun x3 : Int × (Nat → Int) => (⟨[(1, (.ptr 0 0 [])), (2, (.ptr 1 0 [])), (3, (.ptr 2 0 [])), (11, (.own 3)), (12, (.int .i64 (v1.length : Int))), (13, (.int .i64 x3.1))], [(0, some (.var (e_api_Core p0))), (1, some (.var (e_a8_u32 (fun _ => 0)))), (2, some (.var (e_a8_u32 x3.2))), (3, some (.arr 1 v1.length fun j => (.int .i64 (v1.getD j 0))))], 4⟩ : St)) hwn4 (cov_prune ⟨rfl, rfl, rfl, rfl, rfl, rfl, trivial⟩ ⟨rfl, rfl, rfl, rfl, trivial⟩ (Nat.le_of_ble_eq_true rfl)) (fun x3 st H hsn4 => ?_)))
  · have H := nx_of hy Hrn4
    refine nx_seq ?_
    refine aw_region (es := [_, _]) ⟨Step.plain rfl (does_load 29 3 2 0 [] (.var (e_a8_u32 y13)) (e_a8_u32 y13) trivial rfl rfl ty29), ⟨⟨rfl, trivial⟩, ⟨rfl, trivial⟩, rfl⟩, rfl,
      Step.plain rfl (does_store 29 2 (.tmp 54) 1 0 [] (.var (e_a8_u32 (fun _ => 0))) (.var (e_a8_u32 y13)) (e_a8_u32 y13) true trivial rfl trivial rfl rfl rfl ty29), ⟨⟨rfl, rfl, trivial⟩, ⟨rfl, trivial⟩, rfl⟩, rfl, rfl⟩ ?_
    refine aw_cov (cov_prune (s1 := ⟨[(2, (.ptr 1 0 []))], [(1, some (.var (e_a8_u32 y13)))], 4⟩) ⟨rfl, trivial⟩ ⟨rfl, trivial⟩ (Nat.le_refl _)) ?_
    refine aw_ret ?_
    exact fun a w hr => ⟨_, [(e_a8_u32 y13)], hr, ⟨⟨1, _, rfl, rfl, .data _ (d_a8_u32 y13), ty29⟩, trivial⟩, by decide, by cases H; rfl⟩
  · refine aw_region (es := [_]) ⟨Step.plain rfl (does_bin .lss 3 3 (.tmp 13) (.tmp 12) .i64 x3.1 (v1.length : Int) (.bool (decide (x3.1 < (v1.length : Int)))) trivial trivial (bin_lss _ _ _ _)), ⟨⟨rfl, rfl, trivial⟩, trivial, rfl⟩, rfl, rfl⟩ ?_
    refine aw_cov (cov_prune (s1 := ⟨[(1, (.ptr 0 0 [])), (2, (.ptr 1 0 [])), (3, (.ptr 2 0 [])), (11, (.own 3)), (12, (.int .i64 (v1.length : Int))), (13, (.int .i64 x3.1)), (14, (.bool (decide (x3.1 < (v1.length : Int)))))], [(0, some (.var (e_api_Core p0))), (1, some (.var (e_a8_u32 (fun _ => 0)))), (2, some (.var (e_a8_u32 x3.2))), (3, some (.arr 1 v1.length fun j => (.int .i64 (v1.getD j 0))))], 4⟩) ⟨rfl, rfl, rfl, rfl, rfl, rfl, rfl, trivial⟩ ⟨rfl, rfl, rfl, rfl, trivial⟩ (Nat.le_refl _)) ?_
    refine aw_seq ?_
    refine aw_cond rfl (fun hc => ?_) (fun hc => ?_)
    · replace H := ite_t hc H
      refine aw_skip ?_
      refine nx_seq ?_
      refine aw_seq ?_
      refine aw_jn (fun x12 : (Nat → Int) => (⟨[(1, (.ptr 0 0 [])), (2, (.ptr 1 0 [])), (3, (.ptr 2 0 [])), (11, (.own 3)), (12, (.int .i64 (v1.length : Int))), (13, (.int .i64 x3.1))], [(0, some (.var (e_api_Core p0))), (1, some (.var (e_a8_u32 (fun _ => 0)))), (2, some (.var (e_a8_u32 x12))), (3, some (.arr 1 v1.length fun j => (.int .i64 (v1.getD j 0))))], 5⟩ : St)) H (fun x12 H => ?_) (fun j5 H => ?_)
      · refine nx_seq ?_
        refine aw_region1 (es := [_, _]) ⟨Step.plain rfl (does_bin .add 3 3 (.tmp 13) (.const (.int .i64 1)) .i64 x3.1 1 (.int .i64 (IntKind.i64.wrap (x3.1 + 1))) trivial (fun _ => rfl) (bin_add _ _ _ _)), ⟨⟨rfl, trivial⟩, trivial, rfl⟩, rfl,
          Step.plain rfl (does_move (.tmp 53) (.int .i64 (IntKind.i64.wrap (x3.1 + 1))) trivial), ⟨⟨rfl, trivial⟩, trivial, rfl⟩, rfl, rfl⟩ ?_
        exact nx_loop ((IntKind.i64.wrap (x3.1 + 1)), x12) H (cov_of (fun i => match i with | 0 => 0 | 1 => 1 | 2 => 2 | 3 => 3 | k => k) ⟨⟨_, rfl, ⟨rfl, Nat.le_of_ble_eq_true rfl⟩⟩, ⟨_, rfl, ⟨rfl, Nat.le_of_ble_eq_true rfl⟩⟩, ⟨_, rfl, ⟨rfl, Nat.le_of_ble_eq_true rfl⟩⟩, ⟨_, rfl, ⟨rfl, Nat.le_of_ble_eq_true rfl⟩⟩, ⟨_, rfl, ⟨rfl, trivial⟩⟩, ⟨_, rfl, ⟨rfl, trivial⟩⟩, trivial⟩ ⟨⟨Nat.le_of_ble_eq_true rfl, _, _, rfl, rfl, .inl ⟨rfl, (d_api_Core _).plain⟩⟩, ⟨Nat.le_of_ble_eq_true rfl, _, _, rfl, rfl, .inl ⟨rfl, (d_a8_u32 _).plain⟩⟩, ⟨Nat.le_of_ble_eq_true rfl, _, _, rfl, rfl, .inl ⟨rfl, (d_a8_u32 _).plain⟩⟩, ⟨Nat.le_of_ble_eq_true rfl, _, _, rfl, rfl, ⟨rfl, rfl, fun _ => ⟨rfl, trivial⟩⟩⟩, trivial⟩ rfl)
      · refine aw_block ?_
        obtain ⟨h6, H⟩ := ib_of H
        refine aw_region (es := [_, _, _]) ⟨Step.plain rfl (does_indexAddro 63 1 v1.length 11 3 (fun j => (.int .i64 (v1.getD j 0))) (.tmp 13) .i64 x3.1 el63 trivial h6.1 h6.2), ⟨⟨rfl, rfl, trivial⟩, ⟨rfl, trivial⟩, rfl⟩, rfl,
          Step.plain rfl (does_load 3 15 3 (x3.1.toNat * 1) [x3.1.toNat] (.arr 1 v1.length fun j => (.int .i64 (v1.getD j 0))) (.int .i64 (v1.getD x3.1.toNat 0)) ⟨(ixl h6), trivial⟩ rfl rfl ty3), ⟨⟨rfl, trivial⟩, ⟨rfl, trivial⟩, rfl⟩, rfl,
          Step.plain rfl (does_assign (.tmp 16) (.int .i64 (v1.getD x3.1.toNat 0)) trivial), ⟨⟨rfl, trivial⟩, trivial, rfl⟩, rfl, rfl⟩ ?_
        refine aw_cov (cov_prune (s1 := ⟨[(1, (.ptr 0 0 [])), (2, (.ptr 1 0 [])), (3, (.ptr 2 0 [])), (11, (.own 3)), (12, (.int .i64 (v1.length : Int))), (13, (.int .i64 x3.1)), (5, (.int .i64 (v1.getD x3.1.toNat 0)))], [(0, some (.var (e_api_Core p0))), (1, some (.var (e_a8_u32 (fun _ => 0)))), (2, some (.var (e_a8_u32 x3.2))), (3, some (.arr 1 v1.length fun j => (.int .i64 (v1.getD j 0))))], 4⟩) ⟨rfl, rfl, rfl, rfl, rfl, rfl, rfl, trivial⟩ ⟨rfl, rfl, rfl, rfl, trivial⟩ (Nat.le_refl _)) ?_
        obtain ⟨h7, H⟩ := ib_of H
        refine aw_region (es := [_, _, _, _, _, _]) ⟨Step.plain rfl (does_move (.tmp 5) (.int .i64 (v1.getD x3.1.toNat 0)) trivial), ⟨⟨rfl, trivial⟩, trivial, rfl⟩, rfl,
          Step.plain rfl (does_fieldAddr 35 12 60 1 0 0 [] (.var (e_api_Core p0)) fl35_12), ⟨⟨rfl, trivial⟩, ⟨rfl, trivial⟩, rfl⟩, rfl,
          Step.plain rfl (does_indexAddr 33 8 16 18 0 (0 + 60) [12] (.var (e_api_Core p0)) (.tmp 17) .i64 (v1.getD x3.1.toNat 0) el33 trivial h7.1 h7.2), ⟨⟨rfl, rfl, trivial⟩, ⟨rfl, trivial⟩, rfl⟩, rfl,
          Step.plain rfl (does_load 32 19 0 ((0 + 60) + (v1.getD x3.1.toNat 0).toNat * 16) [12, (v1.getD x3.1.toNat 0).toNat] (.var (e_api_Core p0)) (e_api_Peer (p0.Peers ((v1.getD x3.1.toNat 0).toNat))) ⟨rfl, Nat.le_of_ble_eq_true rfl, ⟨rfl, (ixl h7), trivial⟩⟩ rfl rfl ty32), ⟨⟨rfl, trivial⟩, ⟨rfl, trivial⟩, rfl⟩, rfl,
          Step.plain rfl (does_alloc 32 4 (e_api_Peer z_api_Peer) zr32), ⟨trivial, trivial, rfl⟩, rfl,
          Step.plain rfl (does_store 32 6 (.tmp 20) 4 0 [] (.var (e_api_Peer z_api_Peer)) (.var (e_api_Peer (p0.Peers ((v1.getD x3.1.toNat 0).toNat)))) (e_api_Peer (p0.Peers ((v1.getD x3.1.toNat 0).toNat))) true trivial rfl trivial rfl rfl rfl ty32), ⟨⟨rfl, rfl, trivial⟩, ⟨rfl, trivial⟩, rfl⟩, rfl, rfl⟩ ?_
        refine aw_cov (cov_prune (s1 := ⟨[(1, (.ptr 0 0 [])), (2, (.ptr 1 0 [])), (3, (.ptr 2 0 [])), (11, (.own 3)), (12, (.int .i64 (v1.length : Int))), (13, (.int .i64 x3.1)), (5, (.int .i64 (v1.getD x3.1.toNat 0))), (6, (.ptr 4 0 []))], [(0, some (.var (e_api_Core p0))), (1, some (.var (e_a8_u32 (fun _ => 0)))), (2, some (.var (e_a8_u32 x3.2))), (3, some (.arr 1 v1.length fun j => (.int .i64 (v1.getD j 0)))), (4, some (.var (e_api_Peer (p0.Peers ((v1.getD x3.1.toNat 0).toNat)))))], 5⟩) ⟨rfl, rfl, rfl, rfl, rfl, rfl, rfl, rfl, trivial⟩ ⟨rfl, rfl, rfl, rfl, rfl, trivial⟩ (Nat.le_refl _)) ?_
        obtain ⟨h8, H⟩ := ibg_of H
        refine aw_draw (es := [_, _, _, _, _, _, _, _, _, _, _, _, _, _, _, _, _, _, _, _, _, _, _, _, _, _, _]) (mixed) ⟨Step.plain rfl (does_move (.tmp 5) (.int .i64 (v1.getD x3.1.toNat 0)) trivial), ⟨⟨rfl, trivial⟩, trivial, rfl⟩, rfl,
          Step.plain rfl (does_fieldAddr 35 0 0 1 0 0 [] (.var (e_api_Core p0)) fl35_0), ⟨⟨rfl, trivial⟩, ⟨rfl, trivial⟩, rfl⟩, rfl,
          Step.plain rfl (does_load 3 22 0 (0 + 0) [0] (.var (e_api_Core p0)) (.int .i64 p0.Self) ⟨rfl, Nat.le_of_ble_eq_true rfl, trivial⟩ rfl rfl ty3), ⟨⟨rfl, trivial⟩, ⟨rfl, trivial⟩, rfl⟩, rfl,
          Step.plain rfl (does_bin .neq 3 3 (.tmp 21) (.tmp 23) .i64 (v1.getD x3.1.toNat 0) p0.Self (.bool ((v1.getD x3.1.toNat 0) != p0.Self)) trivial trivial (bin_neq _ _ _ _)), ⟨⟨rfl, rfl, trivial⟩, trivial, rfl⟩, rfl,
          Step.plain rfl (does_move (.tmp 24) (.bool ((v1.getD x3.1.toNat 0) != p0.Self)) trivial), ⟨⟨rfl, trivial⟩, trivial, rfl⟩, rfl,
          Step.guarded rfl rfl rfl rfl (fun hc => does_fieldAddr 32 0 0 6 4 0 [] (.var (e_api_Peer (p0.Peers ((v1.getD x3.1.toNat 0).toNat)))) fl32_0), ⟨⟨rfl, rfl, trivial⟩, ⟨rfl, trivial⟩, rfl⟩, rfl,
          Step.guarded rfl rfl rfl rfl (fun hc => Does.strip (n' := [(26, (.opt ((v1.getD x3.1.toNat 0) != p0.Self) (.ptr 4 (0 + 0) [0])))]) (n := [(26, (.ptr 4 (0 + 0) [0]))]) ⟨(.opt _ _ hc), trivial⟩ (does_load 22 26 4 (0 + 0) [0] (.var (e_api_Peer (p0.Peers ((v1.getD x3.1.toNat 0).toNat)))) (.int .u32 ((p0.Peers ((v1.getD x3.1.toNat 0).toNat)).Inc)) ⟨rfl, Nat.le_of_ble_eq_true rfl, trivial⟩ rfl rfl ty22)), ⟨⟨rfl, rfl, trivial⟩, ⟨rfl, trivial⟩, rfl⟩, rfl,
          Step.guarded rfl rfl rfl rfl (fun hc => does_move (.tmp 5) (.int .i64 (v1.getD x3.1.toNat 0)) trivial), ⟨⟨rfl, rfl, trivial⟩, trivial, rfl⟩, rfl,
          Step.guarded rfl rfl rfl rfl (fun hc => does_fieldAddr 35 9 43 1 0 0 [] (.var (e_api_Core p0)) fl35_9), ⟨⟨rfl, rfl, trivial⟩, ⟨rfl, trivial⟩, rfl⟩, rfl,
          Step.guarded rfl rfl rfl rfl (fun hc => Does.strip (n' := [(29, (.opt ((v1.getD x3.1.toNat 0) != p0.Self) (.ptr 0 (0 + 43) [9]))), (28, (.opt ((v1.getD x3.1.toNat 0) != p0.Self) (.int .i64 (v1.getD x3.1.toNat 0))))]) (n := [(29, (.ptr 0 (0 + 43) [9])), (28, (.int .i64 (v1.getD x3.1.toNat 0)))]) ⟨(.opt _ _ hc), (.opt _ _ hc), trivial⟩ (does_indexAddr 28 8 1 29 0 (0 + 43) [9] (.var (e_api_Core p0)) (.tmp 28) .i64 (v1.getD x3.1.toNat 0) el28 trivial (h8 hc).1 (h8 hc).2)), ⟨⟨rfl, rfl, rfl, trivial⟩, ⟨rfl, trivial⟩, rfl⟩, rfl,
          Step.guarded rfl rfl rfl rfl (fun hc => Does.strip (n' := [(30, (.opt ((v1.getD x3.1.toNat 0) != p0.Self) (.ptr 0 ((0 + 43) + (v1.getD x3.1.toNat 0).toNat * 1) [9, (v1.getD x3.1.toNat 0).toNat])))]) (n := [(30, (.ptr 0 ((0 + 43) + (v1.getD x3.1.toNat 0).toNat * 1) [9, (v1.getD x3.1.toNat 0).toNat]))]) ⟨(.opt _ _ hc), trivial⟩ (does_load 22 30 0 ((0 + 43) + (v1.getD x3.1.toNat 0).toNat * 1) [9, (v1.getD x3.1.toNat 0).toNat] (.var (e_api_Core p0)) (.int .u32 (p0.Wanted ((v1.getD x3.1.toNat 0).toNat))) ⟨rfl, Nat.le_of_ble_eq_true rfl, ⟨rfl, (ixl (h8 hc)), trivial⟩⟩ rfl rfl ty22)), ⟨⟨rfl, rfl, trivial⟩, ⟨rfl, trivial⟩, rfl⟩, rfl,
          Step.guarded rfl rfl rfl rfl (fun hc => Does.strip (n' := [(27, (.opt ((v1.getD x3.1.toNat 0) != p0.Self) (.int .u32 ((p0.Peers ((v1.getD x3.1.toNat 0).toNat)).Inc)))), (31, (.opt ((v1.getD x3.1.toNat 0) != p0.Self) (.int .u32 (p0.Wanted ((v1.getD x3.1.toNat 0).toNat)))))]) (n := [(27, (.int .u32 ((p0.Peers ((v1.getD x3.1.toNat 0).toNat)).Inc))), (31, (.int .u32 (p0.Wanted ((v1.getD x3.1.toNat 0).toNat))))]) ⟨(.opt _ _ hc), (.opt _ _ hc), trivial⟩ (does_bin .eql 22 22 (.tmp 27) (.tmp 31) .u32 ((p0.Peers ((v1.getD x3.1.toNat 0).toNat)).Inc) (p0.Wanted ((v1.getD x3.1.toNat 0).toNat)) (.bool (((p0.Peers ((v1.getD x3.1.toNat 0).toNat)).Inc) == (p0.Wanted ((v1.getD x3.1.toNat 0).toNat)))) trivial trivial (bin_eql _ _ _ _))), ⟨⟨rfl, rfl, rfl, trivial⟩, trivial, rfl⟩, rfl,
          Step.plain rfl (does_and 25 32 ((v1.getD x3.1.toNat 0) != p0.Self) (((p0.Peers ((v1.getD x3.1.toNat 0).toNat)).Inc) == (p0.Wanted ((v1.getD x3.1.toNat 0).toNat)))), ⟨⟨rfl, rfl, trivial⟩, trivial, rfl⟩, rfl,
          Step.plain rfl (does_move (.tmp 33) (.bool (((v1.getD x3.1.toNat 0) != p0.Self) && (((p0.Peers ((v1.getD x3.1.toNat 0).toNat)).Inc) == (p0.Wanted ((v1.getD x3.1.toNat 0).toNat))))) trivial), ⟨⟨rfl, trivial⟩, trivial, rfl⟩, rfl,
          Step.guarded rfl rfl rfl rfl (fun hc => does_fieldAddr 32 1 1 6 4 0 [] (.var (e_api_Peer (p0.Peers ((v1.getD x3.1.toNat 0).toNat)))) fl32_1), ⟨⟨rfl, rfl, trivial⟩, ⟨rfl, trivial⟩, rfl⟩, rfl,
          Step.guarded rfl rfl rfl rfl (fun hc => Does.strip (n' := [(35, (.opt (((v1.getD x3.1.toNat 0) != p0.Self) && (((p0.Peers ((v1.getD x3.1.toNat 0).toNat)).Inc) == (p0.Wanted ((v1.getD x3.1.toNat 0).toNat)))) (.ptr 4 (0 + 1) [1])))]) (n := [(35, (.ptr 4 (0 + 1) [1]))]) ⟨(.opt _ _ hc), trivial⟩ (does_load 27 35 4 (0 + 1) [1] (.var (e_api_Peer (p0.Peers ((v1.getD x3.1.toNat 0).toNat)))) (e_api_Id ((p0.Peers ((v1.getD x3.1.toNat 0).toNat)).Conf)) ⟨rfl, Nat.le_of_ble_eq_true rfl, trivial⟩ rfl rfl ty27)), ⟨⟨rfl, rfl, trivial⟩, ⟨rfl, trivial⟩, rfl⟩, rfl,
          Step.guarded rfl rfl rfl rfl (fun hc => does_fieldAddr 35 4 20 1 0 0 [] (.var (e_api_Core p0)) fl35_4), ⟨⟨rfl, rfl, trivial⟩, ⟨rfl, trivial⟩, rfl⟩, rfl,
          Step.guarded rfl rfl rfl rfl (fun hc => Does.strip (n' := [(37, (.opt (((v1.getD x3.1.toNat 0) != p0.Self) && (((p0.Peers ((v1.getD x3.1.toNat 0).toNat)).Inc) == (p0.Wanted ((v1.getD x3.1.toNat 0).toNat)))) (.ptr 0 (0 + 20) [4])))]) (n := [(37, (.ptr 0 (0 + 20) [4]))]) ⟨(.opt _ _ hc), trivial⟩ (does_load 27 37 0 (0 + 20) [4] (.var (e_api_Core p0)) (e_api_Id p0.Conf) ⟨rfl, Nat.le_of_ble_eq_true rfl, trivial⟩ rfl rfl ty27)), ⟨⟨rfl, rfl, trivial⟩, ⟨rfl, trivial⟩, rfl⟩, rfl,
          Step.guarded rfl rfl rfl rfl (fun hc => Does.strip (n' := [(36, (.opt (((v1.getD x3.1.toNat 0) != p0.Self) && (((p0.Peers ((v1.getD x3.1.toNat 0).toNat)).Inc) == (p0.Wanted ((v1.getD x3.1.toNat 0).toNat)))) (e_api_Id ((p0.Peers ((v1.getD x3.1.toNat 0).toNat)).Conf)))), (38, (.opt (((v1.getD x3.1.toNat 0) != p0.Self) && (((p0.Peers ((v1.getD x3.1.toNat 0).toNat)).Inc) == (p0.Wanted ((v1.getD x3.1.toNat 0).toNat)))) (e_api_Id p0.Conf)))]) (n := [(36, (e_api_Id ((p0.Peers ((v1.getD x3.1.toNat 0).toNat)).Conf))), (38, (e_api_Id p0.Conf))]) ⟨(.opt _ _ hc), (.opt _ _ hc), trivial⟩ (does_eqT false 27 27 (.tmp 36) (.tmp 38) (e_api_Id ((p0.Peers ((v1.getD x3.1.toNat 0).toNat)).Conf)) (e_api_Id p0.Conf) (e_api_Id z_api_Id) (b_api_Id ((p0.Peers ((v1.getD x3.1.toNat 0).toNat)).Conf) p0.Conf) rfl rfl trivial trivial eg27 sh27 (al_api_Id _ _) (al_api_Id _ _) (q_api_Id _ _))), ⟨⟨rfl, rfl, rfl, trivial⟩, trivial, rfl⟩, rfl,
          Step.plain rfl (does_and 34 39 (((v1.getD x3.1.toNat 0) != p0.Self) && (((p0.Peers ((v1.getD x3.1.toNat 0).toNat)).Inc) == (p0.Wanted ((v1.getD x3.1.toNat 0).toNat)))) (b_api_Id ((p0.Peers ((v1.getD x3.1.toNat 0).toNat)).Conf) p0.Conf)), ⟨⟨rfl, rfl, trivial⟩, trivial, rfl⟩, rfl,
          Step.plain rfl (does_move (.tmp 40) (.bool ((((v1.getD x3.1.toNat 0) != p0.Self) && (((p0.Peers ((v1.getD x3.1.toNat 0).toNat)).Inc) == (p0.Wanted ((v1.getD x3.1.toNat 0).toNat)))) && (b_api_Id ((p0.Peers ((v1.getD x3.1.toNat 0).toNat)).Conf) p0.Conf))) trivial), ⟨⟨rfl, trivial⟩, trivial, rfl⟩, rfl,
          Step.guarded rfl rfl rfl rfl (fun hc => does_fieldAddr 32 2 4 6 4 0 [] (.var (e_api_Peer (p0.Peers ((v1.getD x3.1.toNat 0).toNat)))) fl32_2), ⟨⟨rfl, rfl, trivial⟩, ⟨rfl, trivial⟩, rfl⟩, rfl,
          Step.guarded rfl rfl rfl rfl (fun hc => Does.strip (n' := [(42, (.opt ((((v1.getD x3.1.toNat 0) != p0.Self) && (((p0.Peers ((v1.getD x3.1.toNat 0).toNat)).Inc) == (p0.Wanted ((v1.getD x3.1.toNat 0).toNat)))) && (b_api_Id ((p0.Peers ((v1.getD x3.1.toNat 0).toNat)).Conf) p0.Conf)) (.ptr 4 (0 + 4) [2])))]) (n := [(42, (.ptr 4 (0 + 4) [2]))]) ⟨(.opt _ _ hc), trivial⟩ (does_load 27 42 4 (0 + 4) [2] (.var (e_api_Peer (p0.Peers ((v1.getD x3.1.toNat 0).toNat)))) (e_api_Id ((p0.Peers ((v1.getD x3.1.toNat 0).toNat)).Promise)) ⟨rfl, Nat.le_of_ble_eq_true rfl, trivial⟩ rfl rfl ty27)), ⟨⟨rfl, rfl, trivial⟩, ⟨rfl, trivial⟩, rfl⟩, rfl,
          Step.guarded rfl rfl rfl rfl (fun hc => does_fieldAddr 35 8 40 1 0 0 [] (.var (e_api_Core p0)) fl35_8), ⟨⟨rfl, rfl, trivial⟩, ⟨rfl, trivial⟩, rfl⟩, rfl,
          Step.guarded rfl rfl rfl rfl (fun hc => Does.strip (n' := [(44, (.opt ((((v1.getD x3.1.toNat 0) != p0.Self) && (((p0.Peers ((v1.getD x3.1.toNat 0).toNat)).Inc) == (p0.Wanted ((v1.getD x3.1.toNat 0).toNat)))) && (b_api_Id ((p0.Peers ((v1.getD x3.1.toNat 0).toNat)).Conf) p0.Conf)) (.ptr 0 (0 + 40) [8])))]) (n := [(44, (.ptr 0 (0 + 40) [8]))]) ⟨(.opt _ _ hc), trivial⟩ (does_load 27 44 0 (0 + 40) [8] (.var (e_api_Core p0)) (e_api_Id p0.Promise) ⟨rfl, Nat.le_of_ble_eq_true rfl, trivial⟩ rfl rfl ty27)), ⟨⟨rfl, rfl, trivial⟩, ⟨rfl, trivial⟩, rfl⟩, rfl,
          Step.guarded rfl rfl rfl rfl (fun hc => Does.strip (n' := [(43, (.opt ((((v1.getD x3.1.toNat 0) != p0.Self) && (((p0.Peers ((v1.getD x3.1.toNat 0).toNat)).Inc) == (p0.Wanted ((v1.getD x3.1.toNat 0).toNat)))) && (b_api_Id ((p0.Peers ((v1.getD x3.1.toNat 0).toNat)).Conf) p0.Conf)) (e_api_Id ((p0.Peers ((v1.getD x3.1.toNat 0).toNat)).Promise)))), (45, (.opt ((((v1.getD x3.1.toNat 0) != p0.Self) && (((p0.Peers ((v1.getD x3.1.toNat 0).toNat)).Inc) == (p0.Wanted ((v1.getD x3.1.toNat 0).toNat)))) && (b_api_Id ((p0.Peers ((v1.getD x3.1.toNat 0).toNat)).Conf) p0.Conf)) (e_api_Id p0.Promise)))]) (n := [(43, (e_api_Id ((p0.Peers ((v1.getD x3.1.toNat 0).toNat)).Promise))), (45, (e_api_Id p0.Promise))]) ⟨(.opt _ _ hc), (.opt _ _ hc), trivial⟩ (does_eqT false 27 27 (.tmp 43) (.tmp 45) (e_api_Id ((p0.Peers ((v1.getD x3.1.toNat 0).toNat)).Promise)) (e_api_Id p0.Promise) (e_api_Id z_api_Id) (b_api_Id ((p0.Peers ((v1.getD x3.1.toNat 0).toNat)).Promise) p0.Promise) rfl rfl trivial trivial eg27 sh27 (al_api_Id _ _) (al_api_Id _ _) (q_api_Id _ _))), ⟨⟨rfl, rfl, rfl, trivial⟩, trivial, rfl⟩, rfl,
          Step.plain rfl (does_and 41 46 ((((v1.getD x3.1.toNat 0) != p0.Self) && (((p0.Peers ((v1.getD x3.1.toNat 0).toNat)).Inc) == (p0.Wanted ((v1.getD x3.1.toNat 0).toNat)))) && (b_api_Id ((p0.Peers ((v1.getD x3.1.toNat 0).toNat)).Conf) p0.Conf)) (b_api_Id ((p0.Peers ((v1.getD x3.1.toNat 0).toNat)).Promise) p0.Promise)), ⟨⟨rfl, rfl, trivial⟩, trivial, rfl⟩, rfl, rfl⟩ rfl ?_
        obtain ⟨v9, hv9, H⟩ := lt_of H
        refine aw_cov (cov_prune (s1 := ⟨[(1, (.ptr 0 0 [])), (2, (.ptr 1 0 [])), (3, (.ptr 2 0 [])), (11, (.own 3)), (12, (.int .i64 (v1.length : Int))), (13, (.int .i64 x3.1)), (6, (.ptr 4 0 [])), (47, (.bool v9))], [(0, some (.var (e_api_Core p0))), (1, some (.var (e_a8_u32 (fun _ => 0)))), (2, some (.var (e_a8_u32 x3.2))), (3, some (.arr 1 v1.length fun j => (.int .i64 (v1.getD j 0)))), (4, some (.var (e_api_Peer (p0.Peers ((v1.getD x3.1.toNat 0).toNat)))))], 5⟩) ⟨rfl, rfl, rfl, rfl, rfl, rfl, rfl, (by subst hv9; rfl), trivial⟩ ⟨rfl, rfl, rfl, rfl, rfl, trivial⟩ (Nat.le_refl _)) ?_
        refine aw_cond rfl (fun hc => ?_) (fun hc => ?_)
        · replace H := ite_t hc H
          obtain ⟨v10, h11, H⟩ := bnd H
          refine aw_region1 (es := [_, _, _, _, _, _]) ⟨Step.plain rfl (does_load 29 3 2 0 [] (.var (e_a8_u32 x3.2)) (e_a8_u32 x3.2) trivial rfl rfl ty29), ⟨⟨rfl, trivial⟩, ⟨rfl, trivial⟩, rfl⟩, rfl,
            Step.plain rfl (does_fieldAddr 32 3 7 6 4 0 [] (.var (e_api_Peer (p0.Peers ((v1.getD x3.1.toNat 0).toNat)))) fl32_3), ⟨⟨rfl, trivial⟩, ⟨rfl, trivial⟩, rfl⟩, rfl,
            Step.plain rfl (does_load 29 49 4 (0 + 7) [3] (.var (e_api_Peer (p0.Peers ((v1.getD x3.1.toNat 0).toNat)))) (e_a8_u32 ((p0.Peers ((v1.getD x3.1.toNat 0).toNat)).Cut)) ⟨rfl, Nat.le_of_ble_eq_true rfl, trivial⟩ rfl rfl ty29), ⟨⟨rfl, trivial⟩, ⟨rfl, trivial⟩, rfl⟩, rfl,
            Step.plain rfl (does_buildSl 67 2 8 (e_a8_u32 (fun _ => 0)) (fun j => (e_a8_u32 (([x3.2, (p0.Peers ((v1.getD x3.1.toNat 0).toNat)).Cut] : _root_.List (Nat → Int)).getD j (fun _ => 0)))) #[(0, (.tmp 48)), (1, (.tmp 50))] [(0, (.tmp 48)), (1, (.tmp 50))] [(0, (e_a8_u32 x3.2)), (1, (e_a8_u32 ((p0.Peers ((v1.getD x3.1.toNat 0).toNat)).Cut)))] rfl so67 (by decide) ⟨⟨rfl, trivial⟩, ⟨rfl, trivial⟩, trivial⟩ ⟨⟨Nat.le_of_ble_eq_true rfl, rfl, rfl⟩, ⟨Nat.le_of_ble_eq_true rfl, rfl, rfl⟩, trivial⟩ (fun j h => match j, h with | 0, _ => rfl | 1, _ => rfl | k + 2, h => absurd h (by omega))), ⟨⟨rfl, rfl, trivial⟩, trivial, rfl⟩, rfl,
            Step.plain rfl (does_call 29 0 (fun _ => .any) (.func 29) [(.tmp 51)] [(e_s_a8_u32 ([x3.2, (p0.Peers ((v1.getD x3.1.toNat 0).toNat)).Cut] : _root_.List (Nat → Int)))] [] true [(e_s_a8_u32 ([x3.2, (p0.Peers ((v1.getD x3.1.toNat 0).toNat)).Cut] : _root_.List (Nat → Int)))] (e_a8_u32 v10) _ _ rfl fo29 rfl ⟨trivial, trivial⟩ ⟨.data _ (d_s_a8_u32 ([x3.2, (p0.Peers ((v1.getD x3.1.toNat 0).toNat)).Cut] : _root_.List (Nat → Int))), trivial⟩ (cut_Union_spec ([x3.2, (p0.Peers ((v1.getD x3.1.toNat 0).toNat)).Cut] : _root_.List (Nat → Int)) _ h11) (f_a8_u32 v10)), ⟨⟨rfl, trivial⟩, trivial, rfl⟩, rfl,
            Step.plain rfl (does_store 29 3 (.tmp 52) 2 0 [] (.var (e_a8_u32 x3.2)) (.var (e_a8_u32 v10)) (e_a8_u32 v10) true trivial rfl trivial rfl rfl rfl ty29), ⟨⟨rfl, rfl, trivial⟩, ⟨rfl, trivial⟩, rfl⟩, rfl, rfl⟩ ?_
          refine nx_blk ?_
          exact nx_join (v10) H (cov_prune ⟨rfl, rfl, rfl, rfl, rfl, rfl, trivial⟩ ⟨rfl, rfl, rfl, rfl, trivial⟩ (Nat.le_of_ble_eq_true rfl))
        · replace H := ite_f hc H
          refine aw_skip ?_
          refine nx_blk ?_
          exact nx_join (x3.2) H (cov_prune ⟨rfl, rfl, rfl, rfl, rfl, rfl, trivial⟩ ⟨rfl, rfl, rfl, rfl, trivial⟩ (Nat.le_of_ble_eq_true rfl))
    · replace H := ite_f hc H
      refine aw_exit ?_
      refine ex_then ?_
      refine ex_then ?_
      refine ex_here ?_
      exact nx_ljoin (x3.2) H hsn4 (cov_prune ⟨rfl, rfl, trivial⟩ ⟨rfl, rfl, trivial⟩ (Nat.le_of_ble_eq_true rfl))

theorem congresslaw12_GatherSame_spec (p0 : api_Core) (p1 : Int) (p2 : (Nat → Int)) (r : Bool) (H : congresslaw12_GatherSame p0 p1 p2 = some r) : FSpec Try.prog 4 [(e_api_Core p0), (.int .i64 p1), (e_a8_u32 p2)] (.bool r) := by
  refine spec_of (fn := Try.f4) (args := [(e_api_Core p0), (.int .i64 p1), (e_a8_u32 p2)]) Try.func4 rfl (Nat.le_of_ble_eq_true rfl) ?_
  rintro ⟨G, w0, W, S, Sp⟩ hG
  cases hG
  unfold congresslaw12_GatherSame at H
  refine aw_region (es := [_, _, _]) ⟨Step.plain rfl (does_box 35 (.tmp 0) 0 (e_api_Core p0) trivial rfl), ⟨⟨rfl, trivial⟩, trivial, rfl⟩, rfl,
    Step.plain rfl (does_box 29 (.tmp 2) 1 (e_a8_u32 p2) trivial rfl), ⟨⟨rfl, trivial⟩, trivial, rfl⟩, rfl,
    Step.plain rfl (does_assign (.const (.bool false)) (.bool false) (fun _ => rfl)), ⟨trivial, trivial, rfl⟩, rfl, rfl⟩ ?_
  refine aw_cov (cov_prune (s1 := ⟨[(1, (.int .i64 p1)), (3, (.ptr 0 0 [])), (5, (.ptr 1 0 []))], [(0, some (.var (e_api_Core p0))), (1, some (.var (e_a8_u32 p2)))], 2⟩) ⟨rfl, rfl, rfl, trivial⟩ ⟨rfl, rfl, trivial⟩ (Nat.le_refl _)) ?_
  refine aw_seq ?_
  obtain ⟨v1, h2, H⟩ := bnd H
  obtain ⟨h3, H⟩ := ibg_of H
  obtain ⟨h4, H⟩ := ibg_of H
  refine aw_region (es := [_, _, _, _, _, _, _, _, _, _, _, _, _, _, _, _, _, _, _, _, _, _, _, _, _, _, _, _, _, _, _, _, _, _, _, _, _, _, _, _, _]) ⟨Step.plain rfl (does_call 8 0 (fun _ => .any) (.func 8) [] [] [] true [] (.bool v1) _ _ rfl fo8 rfl trivial trivial (congresslaw12_fixed_spec _ h2) trivial), ⟨trivial, trivial, rfl⟩, rfl,
    Step.plain rfl (does_not 4 (.tmp 14) v1 trivial), ⟨⟨rfl, trivial⟩, trivial, rfl⟩, rfl,
    Step.plain rfl (does_move (.tmp 15) (.bool (!v1)) trivial), ⟨⟨rfl, trivial⟩, trivial, rfl⟩, rfl,
    Step.guarded rfl rfl rfl rfl (fun hc => does_fieldAddr 35 0 0 3 0 0 [] (.var (e_api_Core p0)) fl35_0), ⟨⟨rfl, rfl, trivial⟩, ⟨rfl, trivial⟩, rfl⟩, rfl,
    Step.guarded rfl rfl rfl rfl (fun hc => Does.strip (n' := [(17, (.opt (!(!v1)) (.ptr 0 (0 + 0) [0])))]) (n := [(17, (.ptr 0 (0 + 0) [0]))]) ⟨(.opt _ _ hc), trivial⟩ (does_load 3 17 0 (0 + 0) [0] (.var (e_api_Core p0)) (.int .i64 p0.Self) ⟨rfl, Nat.le_of_ble_eq_true rfl, trivial⟩ rfl rfl ty3)), ⟨⟨rfl, rfl, trivial⟩, ⟨rfl, trivial⟩, rfl⟩, rfl,
    Step.guarded rfl rfl rfl rfl (fun hc => Does.strip (n' := [(18, (.opt (!(!v1)) (.int .i64 p0.Self)))]) (n := [(18, (.int .i64 p0.Self))]) ⟨(.opt _ _ hc), trivial⟩ (does_bin .lss 3 3 (.tmp 18) (.const (.int .i64 0)) .i64 p0.Self 0 (.bool (decide (p0.Self < 0))) trivial (fun _ => rfl) (bin_lss _ _ _ _))), ⟨⟨rfl, rfl, trivial⟩, trivial, rfl⟩, rfl,
    Step.plain rfl (does_or 16 19 (!v1) (decide (p0.Self < 0))), ⟨⟨rfl, rfl, trivial⟩, trivial, rfl⟩, rfl,
    Step.plain rfl (does_move (.tmp 20) (.bool ((!v1) || (decide (p0.Self < 0)))) trivial), ⟨⟨rfl, trivial⟩, trivial, rfl⟩, rfl,
    Step.guarded rfl rfl rfl rfl (fun hc => does_fieldAddr 35 0 0 3 0 0 [] (.var (e_api_Core p0)) fl35_0), ⟨⟨rfl, rfl, trivial⟩, ⟨rfl, trivial⟩, rfl⟩, rfl,
    Step.guarded rfl rfl rfl rfl (fun hc => Does.strip (n' := [(22, (.opt (!((!v1) || (decide (p0.Self < 0)))) (.ptr 0 (0 + 0) [0])))]) (n := [(22, (.ptr 0 (0 + 0) [0]))]) ⟨(.opt _ _ hc), trivial⟩ (does_load 3 22 0 (0 + 0) [0] (.var (e_api_Core p0)) (.int .i64 p0.Self) ⟨rfl, Nat.le_of_ble_eq_true rfl, trivial⟩ rfl rfl ty3)), ⟨⟨rfl, rfl, trivial⟩, ⟨rfl, trivial⟩, rfl⟩, rfl,
    Step.guarded rfl rfl rfl rfl (fun hc => Does.strip (n' := [(23, (.opt (!((!v1) || (decide (p0.Self < 0)))) (.int .i64 p0.Self)))]) (n := [(23, (.int .i64 p0.Self))]) ⟨(.opt _ _ hc), trivial⟩ (does_bin .gtr 3 3 (.tmp 23) (.const (.int .i64 7)) .i64 p0.Self 7 (.bool (decide (p0.Self > 7))) trivial (fun _ => rfl) (bin_gtr _ _ _ _))), ⟨⟨rfl, rfl, trivial⟩, trivial, rfl⟩, rfl,
    Step.plain rfl (does_or 21 24 ((!v1) || (decide (p0.Self < 0))) (decide (p0.Self > 7))), ⟨⟨rfl, rfl, trivial⟩, trivial, rfl⟩, rfl,
    Step.plain rfl (does_move (.tmp 25) (.bool (((!v1) || (decide (p0.Self < 0))) || (decide (p0.Self > 7)))) trivial), ⟨⟨rfl, trivial⟩, trivial, rfl⟩, rfl,
    Step.guarded rfl rfl rfl rfl (fun hc => does_move (.tmp 1) (.int .i64 p1) trivial), ⟨⟨rfl, rfl, trivial⟩, trivial, rfl⟩, rfl,
    Step.guarded rfl rfl rfl rfl (fun hc => Does.strip (n' := [(27, (.opt (!(((!v1) || (decide (p0.Self < 0))) || (decide (p0.Self > 7)))) (.int .i64 p1)))]) (n := [(27, (.int .i64 p1))]) ⟨(.opt _ _ hc), trivial⟩ (does_bin .lss 3 3 (.tmp 27) (.const (.int .i64 0)) .i64 p1 0 (.bool (decide (p1 < 0))) trivial (fun _ => rfl) (bin_lss _ _ _ _))), ⟨⟨rfl, rfl, trivial⟩, trivial, rfl⟩, rfl,
    Step.plain rfl (does_or 26 28 (((!v1) || (decide (p0.Self < 0))) || (decide (p0.Self > 7))) (decide (p1 < 0))), ⟨⟨rfl, rfl, trivial⟩, trivial, rfl⟩, rfl,
    Step.plain rfl (does_move (.tmp 29) (.bool ((((!v1) || (decide (p0.Self < 0))) || (decide (p0.Self > 7))) || (decide (p1 < 0)))) trivial), ⟨⟨rfl, trivial⟩, trivial, rfl⟩, rfl,
    Step.guarded rfl rfl rfl rfl (fun hc => does_move (.tmp 1) (.int .i64 p1) trivial), ⟨⟨rfl, rfl, trivial⟩, trivial, rfl⟩, rfl,
    Step.guarded rfl rfl rfl rfl (fun hc => Does.strip (n' := [(31, (.opt (!((((!v1) || (decide (p0.Self < 0))) || (decide (p0.Self > 7))) || (decide (p1 < 0)))) (.int .i64 p1)))]) (n := [(31, (.int .i64 p1))]) ⟨(.opt _ _ hc), trivial⟩ (does_bin .gtr 3 3 (.tmp 31) (.const (.int .i64 7)) .i64 p1 7 (.bool (decide (p1 > 7))) trivial (fun _ => rfl) (bin_gtr _ _ _ _))), ⟨⟨rfl, rfl, trivial⟩, trivial, rfl⟩, rfl,
    Step.plain rfl (does_or 30 32 ((((!v1) || (decide (p0.Self < 0))) || (decide (p0.Self > 7))) || (decide (p1 < 0))) (decide (p1 > 7))), ⟨⟨rfl, rfl, trivial⟩, trivial, rfl⟩, rfl,
    Step.plain rfl (does_move (.tmp 33) (.bool (((((!v1) || (decide (p0.Self < 0))) || (decide (p0.Self > 7))) || (decide (p1 < 0))) || (decide (p1 > 7)))) trivial), ⟨⟨rfl, trivial⟩, trivial, rfl⟩, rfl,
    Step.guarded rfl rfl rfl rfl (fun hc => does_move (.tmp 1) (.int .i64 p1) trivial), ⟨⟨rfl, rfl, trivial⟩, trivial, rfl⟩, rfl,
    Step.guarded rfl rfl rfl rfl (fun hc => does_fieldAddr 35 0 0 3 0 0 [] (.var (e_api_Core p0)) fl35_0), ⟨⟨rfl, rfl, trivial⟩, ⟨rfl, trivial⟩, rfl⟩, rfl,
    Step.guarded rfl rfl rfl rfl (fun hc => Does.strip (n' := [(36, (.opt (!(((((!v1) || (decide (p0.Self < 0))) || (decide (p0.Self > 7))) || (decide (p1 < 0))) || (decide (p1 > 7)))) (.ptr 0 (0 + 0) [0])))]) (n := [(36, (.ptr 0 (0 + 0) [0]))]) ⟨(.opt _ _ hc), trivial⟩ (does_load 3 36 0 (0 + 0) [0] (.var (e_api_Core p0)) (.int .i64 p0.Self) ⟨rfl, Nat.le_of_ble_eq_true rfl, trivial⟩ rfl rfl ty3)), ⟨⟨rfl, rfl, trivial⟩, ⟨rfl, trivial⟩, rfl⟩, rfl,
    Step.guarded rfl rfl rfl rfl (fun hc => Does.strip (n' := [(35, (.opt (!(((((!v1) || (decide (p0.Self < 0))) || (decide (p0.Self > 7))) || (decide (p1 < 0))) || (decide (p1 > 7)))) (.int .i64 p1))), (37, (.opt (!(((((!v1) || (decide (p0.Self < 0))) || (decide (p0.Self > 7))) || (decide (p1 < 0))) || (decide (p1 > 7)))) (.int .i64 p0.Self)))]) (n := [(35, (.int .i64 p1)), (37, (.int .i64 p0.Self))]) ⟨(.opt _ _ hc), (.opt _ _ hc), trivial⟩ (does_bin .eql 3 3 (.tmp 35) (.tmp 37) .i64 p1 p0.Self (.bool (p1 == p0.Self)) trivial trivial (bin_eql _ _ _ _))), ⟨⟨rfl, rfl, rfl, trivial⟩, trivial, rfl⟩, rfl,
    Step.plain rfl (does_or 34 38 (((((!v1) || (decide (p0.Self < 0))) || (decide (p0.Self > 7))) || (decide (p1 < 0))) || (decide (p1 > 7))) (p1 == p0.Self)), ⟨⟨rfl, rfl, trivial⟩, trivial, rfl⟩, rfl,
    Step.plain rfl (does_move (.tmp 39) (.bool ((((((!v1) || (decide (p0.Self < 0))) || (decide (p0.Self > 7))) || (decide (p1 < 0))) || (decide (p1 > 7))) || (p1 == p0.Self))) trivial), ⟨⟨rfl, trivial⟩, trivial, rfl⟩, rfl,
    Step.guarded rfl rfl rfl rfl (fun hc => does_fieldAddr 35 0 0 3 0 0 [] (.var (e_api_Core p0)) fl35_0), ⟨⟨rfl, rfl, trivial⟩, ⟨rfl, trivial⟩, rfl⟩, rfl,
    Step.guarded rfl rfl rfl rfl (fun hc => Does.strip (n' := [(41, (.opt (!((((((!v1) || (decide (p0.Self < 0))) || (decide (p0.Self > 7))) || (decide (p1 < 0))) || (decide (p1 > 7))) || (p1 == p0.Self))) (.ptr 0 (0 + 0) [0])))]) (n := [(41, (.ptr 0 (0 + 0) [0]))]) ⟨(.opt _ _ hc), trivial⟩ (does_load 3 41 0 (0 + 0) [0] (.var (e_api_Core p0)) (.int .i64 p0.Self) ⟨rfl, Nat.le_of_ble_eq_true rfl, trivial⟩ rfl rfl ty3)), ⟨⟨rfl, rfl, trivial⟩, ⟨rfl, trivial⟩, rfl⟩, rfl,
    Step.guarded rfl rfl rfl rfl (fun hc => does_fieldAddr 35 9 43 3 0 0 [] (.var (e_api_Core p0)) fl35_9), ⟨⟨rfl, rfl, trivial⟩, ⟨rfl, trivial⟩, rfl⟩, rfl,
    Step.guarded rfl rfl rfl rfl (fun hc => Does.strip (n' := [(43, (.opt (!((((((!v1) || (decide (p0.Self < 0))) || (decide (p0.Self > 7))) || (decide (p1 < 0))) || (decide (p1 > 7))) || (p1 == p0.Self))) (.ptr 0 (0 + 43) [9]))), (42, (.opt (!((((((!v1) || (decide (p0.Self < 0))) || (decide (p0.Self > 7))) || (decide (p1 < 0))) || (decide (p1 > 7))) || (p1 == p0.Self))) (.int .i64 p0.Self)))]) (n := [(43, (.ptr 0 (0 + 43) [9])), (42, (.int .i64 p0.Self))]) ⟨(.opt _ _ hc), (.opt _ _ hc), trivial⟩ (does_indexAddr 28 8 1 43 0 (0 + 43) [9] (.var (e_api_Core p0)) (.tmp 42) .i64 p0.Self el28 trivial (h3 hc).1 (h3 hc).2)), ⟨⟨rfl, rfl, rfl, trivial⟩, ⟨rfl, trivial⟩, rfl⟩, rfl,
    Step.guarded rfl rfl rfl rfl (fun hc => Does.strip (n' := [(44, (.opt (!((((((!v1) || (decide (p0.Self < 0))) || (decide (p0.Self > 7))) || (decide (p1 < 0))) || (decide (p1 > 7))) || (p1 == p0.Self))) (.ptr 0 ((0 + 43) + p0.Self.toNat * 1) [9, p0.Self.toNat])))]) (n := [(44, (.ptr 0 ((0 + 43) + p0.Self.toNat * 1) [9, p0.Self.toNat]))]) ⟨(.opt _ _ hc), trivial⟩ (does_load 22 44 0 ((0 + 43) + p0.Self.toNat * 1) [9, p0.Self.toNat] (.var (e_api_Core p0)) (.int .u32 (p0.Wanted p0.Self.toNat)) ⟨rfl, Nat.le_of_ble_eq_true rfl, ⟨rfl, (ixl (h3 hc)), trivial⟩⟩ rfl rfl ty22)), ⟨⟨rfl, rfl, trivial⟩, ⟨rfl, trivial⟩, rfl⟩, rfl,
    Step.guarded rfl rfl rfl rfl (fun hc => Does.strip (n' := [(45, (.opt (!((((((!v1) || (decide (p0.Self < 0))) || (decide (p0.Self > 7))) || (decide (p1 < 0))) || (decide (p1 > 7))) || (p1 == p0.Self))) (.int .u32 (p0.Wanted p0.Self.toNat))))]) (n := [(45, (.int .u32 (p0.Wanted p0.Self.toNat)))]) ⟨(.opt _ _ hc), trivial⟩ (does_bin .eql 22 22 (.tmp 45) (.const (.int .u32 0)) .u32 (p0.Wanted p0.Self.toNat) 0 (.bool ((p0.Wanted p0.Self.toNat) == 0)) trivial (fun _ => rfl) (bin_eql _ _ _ _))), ⟨⟨rfl, rfl, trivial⟩, trivial, rfl⟩, rfl,
    Step.plain rfl (does_or 40 46 ((((((!v1) || (decide (p0.Self < 0))) || (decide (p0.Self > 7))) || (decide (p1 < 0))) || (decide (p1 > 7))) || (p1 == p0.Self)) ((p0.Wanted p0.Self.toNat) == 0)), ⟨⟨rfl, rfl, trivial⟩, trivial, rfl⟩, rfl,
    Step.plain rfl (does_move (.tmp 47) (.bool (((((((!v1) || (decide (p0.Self < 0))) || (decide (p0.Self > 7))) || (decide (p1 < 0))) || (decide (p1 > 7))) || (p1 == p0.Self)) || ((p0.Wanted p0.Self.toNat) == 0))) trivial), ⟨⟨rfl, trivial⟩, trivial, rfl⟩, rfl,
    Step.guarded rfl rfl rfl rfl (fun hc => does_move (.tmp 1) (.int .i64 p1) trivial), ⟨⟨rfl, rfl, trivial⟩, trivial, rfl⟩, rfl,
    Step.guarded rfl rfl rfl rfl (fun hc => does_fieldAddr 35 9 43 3 0 0 [] (.var (e_api_Core p0)) fl35_9), ⟨⟨rfl, rfl, trivial⟩, ⟨rfl, trivial⟩, rfl⟩, rfl,
    Step.guarded rfl rfl rfl rfl (fun hc => Does.strip (n' := [(50, (.opt (!(((((((!v1) || (decide (p0.Self < 0))) || (decide (p0.Self > 7))) || (decide (p1 < 0))) || (decide (p1 > 7))) || (p1 == p0.Self)) || ((p0.Wanted p0.Self.toNat) == 0))) (.ptr 0 (0 + 43) [9]))), (49, (.opt (!(((((((!v1) || (decide (p0.Self < 0))) || (decide (p0.Self > 7))) || (decide (p1 < 0))) || (decide (p1 > 7))) || (p1 == p0.Self)) || ((p0.Wanted p0.Self.toNat) == 0))) (.int .i64 p1)))]) (n := [(50, (.ptr 0 (0 + 43) [9])), (49, (.int .i64 p1))]) ⟨(.opt _ _ hc), (.opt _ _ hc), trivial⟩ (does_indexAddr 28 8 1 50 0 (0 + 43) [9] (.var (e_api_Core p0)) (.tmp 49) .i64 p1 el28 trivial (h4 hc).1 (h4 hc).2)), ⟨⟨rfl, rfl, rfl, trivial⟩, ⟨rfl, trivial⟩, rfl⟩, rfl,
    Step.guarded rfl rfl rfl rfl (fun hc => Does.strip (n' := [(51, (.opt (!(((((((!v1) || (decide (p0.Self < 0))) || (decide (p0.Self > 7))) || (decide (p1 < 0))) || (decide (p1 > 7))) || (p1 == p0.Self)) || ((p0.Wanted p0.Self.toNat) == 0))) (.ptr 0 ((0 + 43) + p1.toNat * 1) [9, p1.toNat])))]) (n := [(51, (.ptr 0 ((0 + 43) + p1.toNat * 1) [9, p1.toNat]))]) ⟨(.opt _ _ hc), trivial⟩ (does_load 22 51 0 ((0 + 43) + p1.toNat * 1) [9, p1.toNat] (.var (e_api_Core p0)) (.int .u32 (p0.Wanted p1.toNat)) ⟨rfl, Nat.le_of_ble_eq_true rfl, ⟨rfl, (ixl (h4 hc)), trivial⟩⟩ rfl rfl ty22)), ⟨⟨rfl, rfl, trivial⟩, ⟨rfl, trivial⟩, rfl⟩, rfl,
    Step.guarded rfl rfl rfl rfl (fun hc => Does.strip (n' := [(52, (.opt (!(((((((!v1) || (decide (p0.Self < 0))) || (decide (p0.Self > 7))) || (decide (p1 < 0))) || (decide (p1 > 7))) || (p1 == p0.Self)) || ((p0.Wanted p0.Self.toNat) == 0))) (.int .u32 (p0.Wanted p1.toNat))))]) (n := [(52, (.int .u32 (p0.Wanted p1.toNat)))]) ⟨(.opt _ _ hc), trivial⟩ (does_bin .eql 22 22 (.tmp 52) (.const (.int .u32 0)) .u32 (p0.Wanted p1.toNat) 0 (.bool ((p0.Wanted p1.toNat) == 0)) trivial (fun _ => rfl) (bin_eql _ _ _ _))), ⟨⟨rfl, rfl, trivial⟩, trivial, rfl⟩, rfl,
    Step.plain rfl (does_or 48 53 (((((((!v1) || (decide (p0.Self < 0))) || (decide (p0.Self > 7))) || (decide (p1 < 0))) || (decide (p1 > 7))) || (p1 == p0.Self)) || ((p0.Wanted p0.Self.toNat) == 0)) ((p0.Wanted p1.toNat) == 0)), ⟨⟨rfl, rfl, trivial⟩, trivial, rfl⟩, rfl, rfl⟩ ?_
  obtain ⟨v5, hv5, H⟩ := lt_of H
  refine aw_cov (cov_prune (s1 := ⟨[(1, (.int .i64 p1)), (3, (.ptr 0 0 [])), (5, (.ptr 1 0 [])), (54, (.bool v5))], [(0, some (.var (e_api_Core p0))), (1, some (.var (e_a8_u32 p2)))], 2⟩) ⟨rfl, rfl, rfl, (by subst hv5; rfl), trivial⟩ ⟨rfl, rfl, trivial⟩ (Nat.le_refl _)) ?_
  refine aw_cond rfl (fun hc => ?_) (fun hc => ?_)
  · replace H := ite_t hc H
    obtain ⟨v6, h7, H⟩ := bnd H
    refine aw_region (es := [_, _]) ⟨Step.plain rfl (does_call 8 0 (fun _ => .any) (.func 8) [] [] [] true [] (.bool v6) _ _ rfl fo8 rfl trivial trivial (congresslaw12_fixed_spec _ h7) trivial), ⟨trivial, trivial, rfl⟩, rfl,
      Step.plain rfl (does_assign (.tmp 55) (.bool v6) trivial), ⟨⟨rfl, trivial⟩, trivial, rfl⟩, rfl, rfl⟩ ?_
    refine aw_cov (cov_prune (s1 := ⟨[(6, (.bool v6))], [], 2⟩) ⟨rfl, trivial⟩ trivial (Nat.le_refl _)) ?_
    refine aw_ret ?_
    refine rt_then ?_
    exact fun a w hr => ⟨_, [(.bool v6)], hr, ⟨⟨_, rfl, .data _ trivial⟩, trivial⟩, by decide, by cases H; rfl⟩
  · replace H := ite_f hc H
    refine aw_skip ?_
    refine nx_seq ?_
    obtain ⟨h8, H⟩ := ib_of H
    refine aw_draw (es := [_, _, _, _, _, _, _, _, _, _, _, _, _, _]) (mixed) ⟨Step.plain rfl (does_fieldAddr 35 0 0 3 0 0 [] (.var (e_api_Core p0)) fl35_0), ⟨⟨rfl, trivial⟩, ⟨rfl, trivial⟩, rfl⟩, rfl,
      Step.plain rfl (does_load 3 56 0 (0 + 0) [0] (.var (e_api_Core p0)) (.int .i64 p0.Self) ⟨rfl, Nat.le_of_ble_eq_true rfl, trivial⟩ rfl rfl ty3), ⟨⟨rfl, trivial⟩, ⟨rfl, trivial⟩, rfl⟩, rfl,
      Step.plain rfl (does_fieldAddr 35 9 43 3 0 0 [] (.var (e_api_Core p0)) fl35_9), ⟨⟨rfl, trivial⟩, ⟨rfl, trivial⟩, rfl⟩, rfl,
      Step.plain rfl (does_indexAddr 28 8 1 58 0 (0 + 43) [9] (.var (e_api_Core p0)) (.tmp 57) .i64 p0.Self el28 trivial h8.1 h8.2), ⟨⟨rfl, rfl, trivial⟩, ⟨rfl, trivial⟩, rfl⟩, rfl,
      Step.plain rfl (does_load 22 59 0 ((0 + 43) + p0.Self.toNat * 1) [9, p0.Self.toNat] (.var (e_api_Core p0)) (.int .u32 (p0.Wanted p0.Self.toNat)) ⟨rfl, Nat.le_of_ble_eq_true rfl, ⟨rfl, (ixl h8), trivial⟩⟩ rfl rfl ty22), ⟨⟨rfl, trivial⟩, ⟨rfl, trivial⟩, rfl⟩, rfl,
      Step.plain rfl (does_fieldAddr 35 4 20 3 0 0 [] (.var (e_api_Core p0)) fl35_4), ⟨⟨rfl, trivial⟩, ⟨rfl, trivial⟩, rfl⟩, rfl,
      Step.plain rfl (does_load 27 61 0 (0 + 20) [4] (.var (e_api_Core p0)) (e_api_Id p0.Conf) ⟨rfl, Nat.le_of_ble_eq_true rfl, trivial⟩ rfl rfl ty27), ⟨⟨rfl, trivial⟩, ⟨rfl, trivial⟩, rfl⟩, rfl,
      Step.plain rfl (does_fieldAddr 35 8 40 3 0 0 [] (.var (e_api_Core p0)) fl35_8), ⟨⟨rfl, trivial⟩, ⟨rfl, trivial⟩, rfl⟩, rfl,
      Step.plain rfl (does_load 27 63 0 (0 + 40) [8] (.var (e_api_Core p0)) (e_api_Id p0.Promise) ⟨rfl, Nat.le_of_ble_eq_true rfl, trivial⟩ rfl rfl ty27), ⟨⟨rfl, trivial⟩, ⟨rfl, trivial⟩, rfl⟩, rfl,
      Step.plain rfl (does_fieldAddr 35 10 51 3 0 0 [] (.var (e_api_Core p0)) fl35_10), ⟨⟨rfl, trivial⟩, ⟨rfl, trivial⟩, rfl⟩, rfl,
      Step.plain rfl (does_load 29 65 0 (0 + 51) [10] (.var (e_api_Core p0)) (e_a8_u32 p0.Cut) ⟨rfl, Nat.le_of_ble_eq_true rfl, trivial⟩ rfl rfl ty29), ⟨⟨rfl, trivial⟩, ⟨rfl, trivial⟩, rfl⟩, rfl,
      Step.plain rfl (does_buildT 32 #[(0, (.tmp 60)), (1, (.tmp 62)), (2, (.tmp 64)), (3, (.tmp 66))] [(0, (.tmp 60)), (1, (.tmp 62)), (2, (.tmp 64)), (3, (.tmp 66))] [(0, (.int .u32 (p0.Wanted p0.Self.toNat))), (1, (e_api_Id p0.Conf)), (2, (e_api_Id p0.Promise)), (3, (e_a8_u32 p0.Cut))] (.st [1, 3, 3, 8, 1]) (c_api_Peer z_api_Peer) (c_api_Peer ({ Inc := p0.Wanted p0.Self.toNat, Conf := p0.Conf, Promise := p0.Promise, Cut := p0.Cut, Ready := false } : api_Peer)) rfl bo32 ⟨⟨rfl, trivial⟩, ⟨rfl, trivial⟩, ⟨rfl, trivial⟩, ⟨rfl, trivial⟩, trivial⟩ ⟨⟨Nat.le_of_ble_eq_true rfl, rfl, rfl⟩, ⟨Nat.le_of_ble_eq_true rfl, rfl, rfl⟩, ⟨Nat.le_of_ble_eq_true rfl, rfl, rfl⟩, ⟨Nat.le_of_ble_eq_true rfl, rfl, rfl⟩, trivial⟩ (by funext j; match j with | 0 => rfl | 1 => rfl | 2 => rfl | 3 => rfl | 4 => rfl | _ + 5 => rfl)), ⟨⟨rfl, rfl, rfl, rfl, trivial⟩, trivial, rfl⟩, rfl,
      Step.plain rfl (does_alloc 32 2 (e_api_Peer z_api_Peer) zr32), ⟨trivial, trivial, rfl⟩, rfl,
      Step.plain rfl (does_store 32 7 (.tmp 67) 2 0 [] (.var (e_api_Peer z_api_Peer)) (.var (e_api_Peer ({ Inc := p0.Wanted p0.Self.toNat, Conf := p0.Conf, Promise := p0.Promise, Cut := p0.Cut, Ready := false } : api_Peer))) (e_api_Peer ({ Inc := p0.Wanted p0.Self.toNat, Conf := p0.Conf, Promise := p0.Promise, Cut := p0.Cut, Ready := false } : api_Peer)) true trivial rfl trivial rfl rfl rfl ty32), ⟨⟨rfl, rfl, trivial⟩, ⟨rfl, trivial⟩, rfl⟩, rfl, rfl⟩ rfl ?_
    obtain ⟨v9, hv9, H⟩ := lt_of H
    refine aw_cov (cov_prune (s1 := ⟨[(1, (.int .i64 p1)), (3, (.ptr 0 0 [])), (5, (.ptr 1 0 [])), (7, (.ptr 2 0 []))], [(0, some (.var (e_api_Core p0))), (1, some (.var (e_a8_u32 p2))), (2, some (.var (e_api_Peer v9)))], 3⟩) ⟨rfl, rfl, rfl, rfl, trivial⟩ ⟨rfl, rfl, (by subst hv9; rfl), trivial⟩ (Nat.le_refl _)) ?_
    obtain ⟨h10, H⟩ := ib_of H
    refine aw_draw (es := [_, _, _, _, _, _, _, _, _, _, _, _]) (mixed) ⟨Step.plain rfl (does_move (.tmp 1) (.int .i64 p1) trivial), ⟨⟨rfl, trivial⟩, trivial, rfl⟩, rfl,
      Step.plain rfl (does_fieldAddr 35 9 43 3 0 0 [] (.var (e_api_Core p0)) fl35_9), ⟨⟨rfl, trivial⟩, ⟨rfl, trivial⟩, rfl⟩, rfl,
      Step.plain rfl (does_indexAddr 28 8 1 69 0 (0 + 43) [9] (.var (e_api_Core p0)) (.tmp 68) .i64 p1 el28 trivial h10.1 h10.2), ⟨⟨rfl, rfl, trivial⟩, ⟨rfl, trivial⟩, rfl⟩, rfl,
      Step.plain rfl (does_load 22 70 0 ((0 + 43) + p1.toNat * 1) [9, p1.toNat] (.var (e_api_Core p0)) (.int .u32 (p0.Wanted p1.toNat)) ⟨rfl, Nat.le_of_ble_eq_true rfl, ⟨rfl, (ixl h10), trivial⟩⟩ rfl rfl ty22), ⟨⟨rfl, trivial⟩, ⟨rfl, trivial⟩, rfl⟩, rfl,
      Step.plain rfl (does_fieldAddr 35 4 20 3 0 0 [] (.var (e_api_Core p0)) fl35_4), ⟨⟨rfl, trivial⟩, ⟨rfl, trivial⟩, rfl⟩, rfl,
      Step.plain rfl (does_load 27 72 0 (0 + 20) [4] (.var (e_api_Core p0)) (e_api_Id p0.Conf) ⟨rfl, Nat.le_of_ble_eq_true rfl, trivial⟩ rfl rfl ty27), ⟨⟨rfl, trivial⟩, ⟨rfl, trivial⟩, rfl⟩, rfl,
      Step.plain rfl (does_fieldAddr 35 8 40 3 0 0 [] (.var (e_api_Core p0)) fl35_8), ⟨⟨rfl, trivial⟩, ⟨rfl, trivial⟩, rfl⟩, rfl,
      Step.plain rfl (does_load 27 74 0 (0 + 40) [8] (.var (e_api_Core p0)) (e_api_Id p0.Promise) ⟨rfl, Nat.le_of_ble_eq_true rfl, trivial⟩ rfl rfl ty27), ⟨⟨rfl, trivial⟩, ⟨rfl, trivial⟩, rfl⟩, rfl,
      Step.plain rfl (does_load 29 5 1 0 [] (.var (e_a8_u32 p2)) (e_a8_u32 p2) trivial rfl rfl ty29), ⟨⟨rfl, trivial⟩, ⟨rfl, trivial⟩, rfl⟩, rfl,
      Step.plain rfl (does_buildT 32 #[(0, (.tmp 71)), (1, (.tmp 73)), (2, (.tmp 75)), (3, (.tmp 76))] [(0, (.tmp 71)), (1, (.tmp 73)), (2, (.tmp 75)), (3, (.tmp 76))] [(0, (.int .u32 (p0.Wanted p1.toNat))), (1, (e_api_Id p0.Conf)), (2, (e_api_Id p0.Promise)), (3, (e_a8_u32 p2))] (.st [1, 3, 3, 8, 1]) (c_api_Peer z_api_Peer) (c_api_Peer ({ Inc := p0.Wanted p1.toNat, Conf := p0.Conf, Promise := p0.Promise, Cut := p2, Ready := false } : api_Peer)) rfl bo32 ⟨⟨rfl, trivial⟩, ⟨rfl, trivial⟩, ⟨rfl, trivial⟩, ⟨rfl, trivial⟩, trivial⟩ ⟨⟨Nat.le_of_ble_eq_true rfl, rfl, rfl⟩, ⟨Nat.le_of_ble_eq_true rfl, rfl, rfl⟩, ⟨Nat.le_of_ble_eq_true rfl, rfl, rfl⟩, ⟨Nat.le_of_ble_eq_true rfl, rfl, rfl⟩, trivial⟩ (by funext j; match j with | 0 => rfl | 1 => rfl | 2 => rfl | 3 => rfl | 4 => rfl | _ + 5 => rfl)), ⟨⟨rfl, rfl, rfl, rfl, trivial⟩, trivial, rfl⟩, rfl,
      Step.plain rfl (does_alloc 32 3 (e_api_Peer z_api_Peer) zr32), ⟨trivial, trivial, rfl⟩, rfl,
      Step.plain rfl (does_store 32 8 (.tmp 77) 3 0 [] (.var (e_api_Peer z_api_Peer)) (.var (e_api_Peer ({ Inc := p0.Wanted p1.toNat, Conf := p0.Conf, Promise := p0.Promise, Cut := p2, Ready := false } : api_Peer))) (e_api_Peer ({ Inc := p0.Wanted p1.toNat, Conf := p0.Conf, Promise := p0.Promise, Cut := p2, Ready := false } : api_Peer)) true trivial rfl trivial rfl rfl rfl ty32), ⟨⟨rfl, rfl, trivial⟩, ⟨rfl, trivial⟩, rfl⟩, rfl, rfl⟩ rfl ?_
    obtain ⟨v11, hv11, H⟩ := lt_of H
    refine aw_cov (cov_prune (s1 := ⟨[(1, (.int .i64 p1)), (3, (.ptr 0 0 [])), (5, (.ptr 1 0 [])), (7, (.ptr 2 0 [])), (8, (.ptr 3 0 []))], [(0, some (.var (e_api_Core p0))), (1, some (.var (e_a8_u32 p2))), (2, some (.var (e_api_Peer v9))), (3, some (.var (e_api_Peer v11)))], 4⟩) ⟨rfl, rfl, rfl, rfl, rfl, trivial⟩ ⟨rfl, rfl, rfl, (by subst hv11; rfl), trivial⟩ (Nat.le_refl _)) ?_
    refine aw_region (es := [_, _, _]) ⟨Step.plain rfl (does_load 35 3 0 0 [] (.var (e_api_Core p0)) (e_api_Core p0) trivial rfl rfl ty35), ⟨⟨rfl, trivial⟩, ⟨rfl, trivial⟩, rfl⟩, rfl,
      Step.plain rfl (does_alloc 35 4 (e_api_Core z_api_Core) zr35), ⟨trivial, trivial, rfl⟩, rfl,
      Step.plain rfl (does_store 35 9 (.tmp 78) 4 0 [] (.var (e_api_Core z_api_Core)) (.var (e_api_Core p0)) (e_api_Core p0) true trivial rfl trivial rfl rfl rfl ty35), ⟨⟨rfl, rfl, trivial⟩, ⟨rfl, trivial⟩, rfl⟩, rfl, rfl⟩ ?_
    refine aw_cov (cov_prune (s1 := ⟨[(1, (.int .i64 p1)), (3, (.ptr 0 0 [])), (5, (.ptr 1 0 [])), (7, (.ptr 2 0 [])), (8, (.ptr 3 0 [])), (9, (.ptr 4 0 []))], [(0, some (.var (e_api_Core p0))), (1, some (.var (e_a8_u32 p2))), (2, some (.var (e_api_Peer v9))), (3, some (.var (e_api_Peer v11))), (4, some (.var (e_api_Core p0)))], 5⟩) ⟨rfl, rfl, rfl, rfl, rfl, rfl, trivial⟩ ⟨rfl, rfl, rfl, rfl, rfl, trivial⟩ (Nat.le_refl _)) ?_
    obtain ⟨h12, H⟩ := ib_of H
    refine aw_region (es := [_, _, _, _, _]) ⟨Step.plain rfl (does_move (.tmp 1) (.int .i64 p1) trivial), ⟨⟨rfl, trivial⟩, trivial, rfl⟩, rfl,
      Step.plain rfl (does_load 32 8 3 0 [] (.var (e_api_Peer v11)) (e_api_Peer v11) trivial rfl rfl ty32), ⟨⟨rfl, trivial⟩, ⟨rfl, trivial⟩, rfl⟩, rfl,
      Step.plain rfl (does_fieldAddr 35 12 60 9 4 0 [] (.var (e_api_Core p0)) fl35_12), ⟨⟨rfl, trivial⟩, ⟨rfl, trivial⟩, rfl⟩, rfl,
      Step.plain rfl (does_indexAddr 33 8 16 81 4 (0 + 60) [12] (.var (e_api_Core p0)) (.tmp 79) .i64 p1 el33 trivial h12.1 h12.2), ⟨⟨rfl, rfl, trivial⟩, ⟨rfl, trivial⟩, rfl⟩, rfl,
      Step.plain rfl (does_store 32 82 (.tmp 80) 4 ((0 + 60) + p1.toNat * 16) [12, p1.toNat] (.var (e_api_Core p0)) (.var (e_api_Core ({ p0 with Peers := aupd p0.Peers p1.toNat v11 }))) (e_api_Peer v11) true trivial rfl ⟨rfl, Nat.le_of_ble_eq_true rfl, ⟨rfl, (ixl h12), trivial⟩⟩ rfl rfl (congrArg Box.var (set_cons (set_cons rfl (vupd_map e_api_Peer _ _ _)) (st_api_Core_12 _ _))) ty32), ⟨⟨rfl, rfl, trivial⟩, ⟨rfl, trivial⟩, rfl⟩, rfl, rfl⟩ ?_
    refine aw_cov (cov_prune (s1 := ⟨[(1, (.int .i64 p1)), (3, (.ptr 0 0 [])), (5, (.ptr 1 0 [])), (7, (.ptr 2 0 [])), (9, (.ptr 4 0 []))], [(0, some (.var (e_api_Core p0))), (1, some (.var (e_a8_u32 p2))), (2, some (.var (e_api_Peer v9))), (4, some (.var (e_api_Core ({ p0 with Peers := aupd p0.Peers p1.toNat v11 }))))], 5⟩) ⟨rfl, rfl, rfl, rfl, rfl, trivial⟩ ⟨rfl, rfl, rfl, rfl, trivial⟩ (Nat.le_refl _)) ?_
    refine aw_region (es := [_, _, _]) ⟨Step.plain rfl (does_load 35 3 0 0 [] (.var (e_api_Core p0)) (e_api_Core p0) trivial rfl rfl ty35), ⟨⟨rfl, trivial⟩, ⟨rfl, trivial⟩, rfl⟩, rfl,
      Step.plain rfl (does_alloc 35 5 (e_api_Core z_api_Core) zr35), ⟨trivial, trivial, rfl⟩, rfl,
      Step.plain rfl (does_store 35 10 (.tmp 83) 5 0 [] (.var (e_api_Core z_api_Core)) (.var (e_api_Core p0)) (e_api_Core p0) true trivial rfl trivial rfl rfl rfl ty35), ⟨⟨rfl, rfl, trivial⟩, ⟨rfl, trivial⟩, rfl⟩, rfl, rfl⟩ ?_
    refine aw_cov (cov_prune (s1 := ⟨[(1, (.int .i64 p1)), (3, (.ptr 0 0 [])), (5, (.ptr 1 0 [])), (7, (.ptr 2 0 [])), (9, (.ptr 4 0 [])), (10, (.ptr 5 0 []))], [(0, some (.var (e_api_Core p0))), (1, some (.var (e_a8_u32 p2))), (2, some (.var (e_api_Peer v9))), (4, some (.var (e_api_Core ({ p0 with Peers := aupd p0.Peers p1.toNat v11 })))), (5, some (.var (e_api_Core p0)))], 6⟩) ⟨rfl, rfl, rfl, rfl, rfl, rfl, trivial⟩ ⟨rfl, rfl, rfl, rfl, rfl, trivial⟩ (Nat.le_refl _)) ?_
    refine aw_region (es := [_, _, _]) ⟨Step.plain rfl (does_move (.tmp 1) (.int .i64 p1) trivial), ⟨⟨rfl, trivial⟩, trivial, rfl⟩, rfl,
      Step.plain rfl (does_fieldAddr 35 0 0 10 5 0 [] (.var (e_api_Core p0)) fl35_0), ⟨⟨rfl, trivial⟩, ⟨rfl, trivial⟩, rfl⟩, rfl,
      Step.plain rfl (does_store 3 85 (.tmp 84) 5 (0 + 0) [0] (.var (e_api_Core p0)) (.var (e_api_Core ({ p0 with Self := p1 }))) (.int .i64 p1) false trivial rfl ⟨rfl, Nat.le_of_ble_eq_true rfl, trivial⟩ rfl rfl (congrArg Box.var (set_cons rfl (st_api_Core_0 _ _))) ty3), ⟨⟨rfl, rfl, trivial⟩, ⟨rfl, trivial⟩, rfl⟩, rfl, rfl⟩ ?_
    refine aw_cov (cov_prune (s1 := ⟨[(3, (.ptr 0 0 [])), (5, (.ptr 1 0 [])), (7, (.ptr 2 0 [])), (9, (.ptr 4 0 [])), (10, (.ptr 5 0 []))], [(0, some (.var (e_api_Core p0))), (1, some (.var (e_a8_u32 p2))), (2, some (.var (e_api_Peer v9))), (4, some (.var (e_api_Core ({ p0 with Peers := aupd p0.Peers p1.toNat v11 })))), (5, some (.var (e_api_Core ({ p0 with Self := p1 }))))], 6⟩) ⟨rfl, rfl, rfl, rfl, rfl, trivial⟩ ⟨rfl, rfl, rfl, rfl, rfl, trivial⟩ (Nat.le_refl _)) ?_
    refine aw_region (es := [_, _, _]) ⟨Step.plain rfl (does_load 29 5 1 0 [] (.var (e_a8_u32 p2)) (e_a8_u32 p2) trivial rfl rfl ty29), ⟨⟨rfl, trivial⟩, ⟨rfl, trivial⟩, rfl⟩, rfl,
      Step.plain rfl (does_fieldAddr 35 10 51 10 5 0 [] (.var (e_api_Core ({ p0 with Self := p1 }))) fl35_10), ⟨⟨rfl, trivial⟩, ⟨rfl, trivial⟩, rfl⟩, rfl,
      Step.plain rfl (does_store 29 87 (.tmp 86) 5 (0 + 51) [10] (.var (e_api_Core ({ p0 with Self := p1 }))) (.var (e_api_Core ({ { p0 with Self := p1 } with Cut := p2 }))) (e_a8_u32 p2) true trivial rfl ⟨rfl, Nat.le_of_ble_eq_true rfl, trivial⟩ rfl rfl (congrArg Box.var (set_cons rfl (st_api_Core_10 _ _))) ty29), ⟨⟨rfl, rfl, trivial⟩, ⟨rfl, trivial⟩, rfl⟩, rfl, rfl⟩ ?_
    obtain ⟨v13, hv13, H⟩ := lt_of H
    refine aw_cov (cov_prune (s1 := ⟨[(3, (.ptr 0 0 [])), (5, (.ptr 1 0 [])), (7, (.ptr 2 0 [])), (9, (.ptr 4 0 [])), (10, (.ptr 5 0 []))], [(0, some (.var (e_api_Core p0))), (1, some (.var (e_a8_u32 p2))), (2, some (.var (e_api_Peer v9))), (4, some (.var (e_api_Core ({ p0 with Peers := aupd p0.Peers p1.toNat v11 })))), (5, some (.var (e_api_Core v13)))], 6⟩) ⟨rfl, rfl, rfl, rfl, rfl, trivial⟩ ⟨rfl, rfl, rfl, rfl, (by subst hv13; rfl), trivial⟩ (Nat.le_refl _)) ?_
    obtain ⟨h14, H⟩ := ib_of H
    refine aw_region (es := [_, _, _, _, _, _]) ⟨Step.plain rfl (does_fieldAddr 35 0 0 3 0 0 [] (.var (e_api_Core p0)) fl35_0), ⟨⟨rfl, trivial⟩, ⟨rfl, trivial⟩, rfl⟩, rfl,
      Step.plain rfl (does_load 3 88 0 (0 + 0) [0] (.var (e_api_Core p0)) (.int .i64 p0.Self) ⟨rfl, Nat.le_of_ble_eq_true rfl, trivial⟩ rfl rfl ty3), ⟨⟨rfl, trivial⟩, ⟨rfl, trivial⟩, rfl⟩, rfl,
      Step.plain rfl (does_load 32 7 2 0 [] (.var (e_api_Peer v9)) (e_api_Peer v9) trivial rfl rfl ty32), ⟨⟨rfl, trivial⟩, ⟨rfl, trivial⟩, rfl⟩, rfl,
      Step.plain rfl (does_fieldAddr 35 12 60 10 5 0 [] (.var (e_api_Core v13)) fl35_12), ⟨⟨rfl, trivial⟩, ⟨rfl, trivial⟩, rfl⟩, rfl,
      Step.plain rfl (does_indexAddr 33 8 16 91 5 (0 + 60) [12] (.var (e_api_Core v13)) (.tmp 89) .i64 p0.Self el33 trivial h14.1 h14.2), ⟨⟨rfl, rfl, trivial⟩, ⟨rfl, trivial⟩, rfl⟩, rfl,
      Step.plain rfl (does_store 32 92 (.tmp 90) 5 ((0 + 60) + p0.Self.toNat * 16) [12, p0.Self.toNat] (.var (e_api_Core v13)) (.var (e_api_Core ({ v13 with Peers := aupd v13.Peers p0.Self.toNat v9 }))) (e_api_Peer v9) true trivial rfl ⟨rfl, Nat.le_of_ble_eq_true rfl, ⟨rfl, (ixl h14), trivial⟩⟩ rfl rfl (congrArg Box.var (set_cons (set_cons rfl (vupd_map e_api_Peer _ _ _)) (st_api_Core_12 _ _))) ty32), ⟨⟨rfl, rfl, trivial⟩, ⟨rfl, trivial⟩, rfl⟩, rfl, rfl⟩ ?_
    refine aw_cov (cov_prune (s1 := ⟨[(3, (.ptr 0 0 [])), (5, (.ptr 1 0 [])), (9, (.ptr 4 0 [])), (10, (.ptr 5 0 []))], [(0, some (.var (e_api_Core p0))), (1, some (.var (e_a8_u32 p2))), (4, some (.var (e_api_Core ({ p0 with Peers := aupd p0.Peers p1.toNat v11 })))), (5, some (.var (e_api_Core ({ v13 with Peers := aupd v13.Peers p0.Self.toNat v9 }))))], 6⟩) ⟨rfl, rfl, rfl, rfl, trivial⟩ ⟨rfl, rfl, rfl, rfl, trivial⟩ (Nat.le_refl _)) ?_
    obtain ⟨v15, h16, H⟩ := bnd H
    obtain ⟨v17, h18, H⟩ := bnd H
    refine aw_draw (es := [_, _, _, _, _, _, _, _]) (mixed) ⟨Step.plain rfl (does_load 35 9 4 0 [] (.var (e_api_Core ({ p0 with Peers := aupd p0.Peers p1.toNat v11 }))) (e_api_Core ({ p0 with Peers := aupd p0.Peers p1.toNat v11 })) trivial rfl rfl ty35), ⟨⟨rfl, trivial⟩, ⟨rfl, trivial⟩, rfl⟩, rfl,
      Step.plain rfl (does_call 12 0 (fun _ => .any) (.func 12) [(.tmp 93)] [(e_api_Core ({ p0 with Peers := aupd p0.Peers p1.toNat v11 }))] [] true [(e_api_Core ({ p0 with Peers := aupd p0.Peers p1.toNat v11 }))] (e_a8_u32 v15) _ _ rfl fo12 rfl ⟨trivial, trivial⟩ ⟨.data _ (d_api_Core ({ p0 with Peers := aupd p0.Peers p1.toNat v11 })), trivial⟩ (gather_Target_spec ({ p0 with Peers := aupd p0.Peers p1.toNat v11 }) _ h16) (f_a8_u32 v15)), ⟨⟨rfl, trivial⟩, trivial, rfl⟩, rfl,
      Step.plain rfl (does_load 35 10 5 0 [] (.var (e_api_Core ({ v13 with Peers := aupd v13.Peers p0.Self.toNat v9 }))) (e_api_Core ({ v13 with Peers := aupd v13.Peers p0.Self.toNat v9 })) trivial rfl rfl ty35), ⟨⟨rfl, trivial⟩, ⟨rfl, trivial⟩, rfl⟩, rfl,
      Step.plain rfl (does_call 12 0 (fun _ => .any) (.func 12) [(.tmp 95)] [(e_api_Core ({ v13 with Peers := aupd v13.Peers p0.Self.toNat v9 }))] [] true [(e_api_Core ({ v13 with Peers := aupd v13.Peers p0.Self.toNat v9 }))] (e_a8_u32 v17) _ _ rfl fo12 rfl ⟨trivial, trivial⟩ ⟨.data _ (d_api_Core ({ v13 with Peers := aupd v13.Peers p0.Self.toNat v9 })), trivial⟩ (gather_Target_spec ({ v13 with Peers := aupd v13.Peers p0.Self.toNat v9 }) _ h18) (f_a8_u32 v17)), ⟨⟨rfl, trivial⟩, trivial, rfl⟩, rfl,
      Step.plain rfl (does_alloc 29 6 (e_a8_u32 (fun _ => 0)) zr29), ⟨trivial, trivial, rfl⟩, rfl,
      Step.plain rfl (does_alloc 29 7 (e_a8_u32 (fun _ => 0)) zr29), ⟨trivial, trivial, rfl⟩, rfl,
      Step.plain rfl (does_store 29 11 (.tmp 94) 6 0 [] (.var (e_a8_u32 (fun _ => 0))) (.var (e_a8_u32 v15)) (e_a8_u32 v15) true trivial rfl trivial rfl rfl rfl ty29), ⟨⟨rfl, rfl, trivial⟩, ⟨rfl, trivial⟩, rfl⟩, rfl,
      Step.plain rfl (does_store 29 12 (.tmp 96) 7 0 [] (.var (e_a8_u32 (fun _ => 0))) (.var (e_a8_u32 v17)) (e_a8_u32 v17) true trivial rfl trivial rfl rfl rfl ty29), ⟨⟨rfl, rfl, trivial⟩, ⟨rfl, trivial⟩, rfl⟩, rfl, rfl⟩ rfl ?_
    refine aw_cov (cov_prune (s1 := ⟨[(3, (.ptr 0 0 [])), (5, (.ptr 1 0 [])), (11, (.ptr 6 0 [])), (12, (.ptr 7 0 []))], [(0, some (.var (e_api_Core p0))), (1, some (.var (e_a8_u32 p2))), (6, some (.var (e_a8_u32 v15))), (7, some (.var (e_a8_u32 v17)))], 8⟩) ⟨rfl, rfl, rfl, rfl, trivial⟩ ⟨rfl, rfl, rfl, rfl, trivial⟩ (Nat.le_refl _)) ?_
    refine aw_seq ?_
    refine aw_region (es := [_]) ⟨Step.plain rfl (does_assign (.const (.int .i64 0)) (.int .i64 0) (fun _ => rfl)), ⟨trivial, trivial, rfl⟩, rfl, rfl⟩ ?_
    refine aw_cov (cov_prune (s1 := ⟨[(3, (.ptr 0 0 [])), (5, (.ptr 1 0 [])), (11, (.ptr 6 0 [])), (12, (.ptr 7 0 [])), (13, (.int .i64 0))], [(0, some (.var (e_api_Core p0))), (1, some (.var (e_a8_u32 p2))), (6, some (.var (e_a8_u32 v15))), (7, some (.var (e_a8_u32 v17)))], 8⟩) ⟨rfl, rfl, rfl, rfl, rfl, trivial⟩ ⟨rfl, rfl, rfl, rfl, trivial⟩ (Nat.le_refl _)) ?_
    obtain ⟨wn20, hwn20, Hrn20⟩ := bnd H
    refine aw_meet (fun y26 : Unit => (⟨[(11, (.ptr 6 0 [])), (12, (.ptr 7 0 []))], [(6, some (.var (e_a8_u32 v15))), (7, some (.var (e_a8_u32 v17)))], 8⟩ : St)) (fun y26 => Fl.nx y26 = wn20) (fun y26 hy => ?_) (aw_block (aw_runs (fun x19 : Int => (⟨[(3, (.ptr 0 0 [])), (5, (.ptr 1 0 [])), (11, (.ptr 6 0 [])), (12, (.ptr 7 0 [])), (13, (.int .i64 x19))], [(0, some (.var (e_api_Core p0))), (1, some (.var (e_a8_u32 p2))), (6, some (.var (e_a8_u32 v15))), (7, some (.var (e_a8_u32 v17)))], 8⟩ : St)) hwn20 (cov_prune ⟨rfl, rfl, rfl, rfl, rfl, trivial⟩ ⟨rfl, rfl, rfl, rfl, trivial⟩ (Nat.le_of_ble_eq_true rfl)) (fun x19 st H hsn20 => ?_)))
    · have H := nx_of hy Hrn20
      refine nx_seq ?_
      refine aw_region (es := [_, _, _, _]) ⟨Step.plain rfl (does_load 29 11 6 0 [] (.var (e_a8_u32 v15)) (e_a8_u32 v15) trivial rfl rfl ty29), ⟨⟨rfl, trivial⟩, ⟨rfl, trivial⟩, rfl⟩, rfl,
        Step.plain rfl (does_load 29 12 7 0 [] (.var (e_a8_u32 v17)) (e_a8_u32 v17) trivial rfl rfl ty29), ⟨⟨rfl, trivial⟩, ⟨rfl, trivial⟩, rfl⟩, rfl,
        Step.plain rfl (does_eqT false 29 29 (.tmp 118) (.tmp 119) (e_a8_u32 v15) (e_a8_u32 v17) (e_a8_u32 (fun _ => 0)) (b_a8_u32 v15 v17) rfl rfl trivial trivial eg29 sh29 (al_a8_u32 _ _) (al_a8_u32 _ _) (q_a8_u32 _ _)), ⟨⟨rfl, rfl, trivial⟩, trivial, rfl⟩, rfl,
        Step.plain rfl (does_assign (.tmp 120) (.bool (b_a8_u32 v15 v17)) trivial), ⟨⟨rfl, trivial⟩, trivial, rfl⟩, rfl, rfl⟩ ?_
      refine aw_cov (cov_prune (s1 := ⟨[(6, (.bool (b_a8_u32 v15 v17)))], [], 8⟩) ⟨rfl, trivial⟩ trivial (Nat.le_refl _)) ?_
      refine aw_ret ?_
      exact fun a w hr => ⟨_, [(.bool (b_a8_u32 v15 v17))], hr, ⟨⟨_, rfl, .data _ trivial⟩, trivial⟩, by decide, by cases H; rfl⟩
    · refine aw_seq ?_
      refine aw_region (es := [_, _]) ⟨Step.plain rfl (does_move (.tmp 13) (.int .i64 x19) trivial), ⟨⟨rfl, trivial⟩, trivial, rfl⟩, rfl,
        Step.plain rfl (does_bin .lss 3 3 (.tmp 97) (.const (.int .i64 8)) .i64 x19 8 (.bool (decide (x19 < 8))) trivial (fun _ => rfl) (bin_lss _ _ _ _)), ⟨⟨rfl, trivial⟩, trivial, rfl⟩, rfl, rfl⟩ ?_
      refine aw_cov (cov_prune (s1 := ⟨[(3, (.ptr 0 0 [])), (5, (.ptr 1 0 [])), (11, (.ptr 6 0 [])), (12, (.ptr 7 0 [])), (13, (.int .i64 x19)), (98, (.bool (decide (x19 < 8))))], [(0, some (.var (e_api_Core p0))), (1, some (.var (e_a8_u32 p2))), (6, some (.var (e_a8_u32 v15))), (7, some (.var (e_a8_u32 v17)))], 8⟩) ⟨rfl, rfl, rfl, rfl, rfl, rfl, trivial⟩ ⟨rfl, rfl, rfl, rfl, trivial⟩ (Nat.le_refl _)) ?_
      refine aw_cond rfl (fun hc => ?_) (fun hc => ?_)
      · replace H := ite_t hc H
        refine aw_skip ?_
        refine nx_seq ?_
        refine aw_seq ?_
        refine aw_block ?_
        obtain ⟨h21, H⟩ := ib_of H
        obtain ⟨h22, H⟩ := ib_of H
        obtain ⟨h23, H⟩ := ibg_of H
        obtain ⟨h24, H⟩ := ibg_of H
        refine aw_draw (es := [_, _, _, _, _, _, _, _, _, _, _, _, _, _, _, _, _]) (mixed) ⟨Step.plain rfl (does_move (.tmp 13) (.int .i64 x19) trivial), ⟨⟨rfl, trivial⟩, trivial, rfl⟩, rfl,
          Step.plain rfl (does_indexAddr 29 8 1 11 6 0 [] (.var (e_a8_u32 v15)) (.tmp 101) .i64 x19 el29 trivial h21.1 h21.2), ⟨⟨rfl, rfl, trivial⟩, ⟨rfl, trivial⟩, rfl⟩, rfl,
          Step.plain rfl (does_load 22 102 6 (0 + x19.toNat * 1) [x19.toNat] (.var (e_a8_u32 v15)) (.int .u32 (v15 x19.toNat)) ⟨rfl, (ixl h21), trivial⟩ rfl rfl ty22), ⟨⟨rfl, trivial⟩, ⟨rfl, trivial⟩, rfl⟩, rfl,
          Step.plain rfl (does_move (.tmp 13) (.int .i64 x19) trivial), ⟨⟨rfl, trivial⟩, trivial, rfl⟩, rfl,
          Step.plain rfl (does_fieldAddr 35 10 51 3 0 0 [] (.var (e_api_Core p0)) fl35_10), ⟨⟨rfl, trivial⟩, ⟨rfl, trivial⟩, rfl⟩, rfl,
          Step.plain rfl (does_indexAddr 29 8 1 105 0 (0 + 51) [10] (.var (e_api_Core p0)) (.tmp 104) .i64 x19 el29 trivial h22.1 h22.2), ⟨⟨rfl, rfl, trivial⟩, ⟨rfl, trivial⟩, rfl⟩, rfl,
          Step.plain rfl (does_load 22 106 0 ((0 + 51) + x19.toNat * 1) [10, x19.toNat] (.var (e_api_Core p0)) (.int .u32 (p0.Cut x19.toNat)) ⟨rfl, Nat.le_of_ble_eq_true rfl, ⟨rfl, (ixl h22), trivial⟩⟩ rfl rfl ty22), ⟨⟨rfl, trivial⟩, ⟨rfl, trivial⟩, rfl⟩, rfl,
          Step.plain rfl (does_bin .lss 22 22 (.tmp 103) (.tmp 107) .u32 (v15 x19.toNat) (p0.Cut x19.toNat) (.bool (decide ((v15 x19.toNat) < (p0.Cut x19.toNat)))) trivial trivial (bin_lss _ _ _ _)), ⟨⟨rfl, rfl, trivial⟩, trivial, rfl⟩, rfl,
          Step.plain rfl (does_move (.tmp 108) (.bool (decide ((v15 x19.toNat) < (p0.Cut x19.toNat)))) trivial), ⟨⟨rfl, trivial⟩, trivial, rfl⟩, rfl,
          Step.guarded rfl rfl rfl rfl (fun hc => does_move (.tmp 13) (.int .i64 x19) trivial), ⟨⟨rfl, rfl, trivial⟩, trivial, rfl⟩, rfl,
          Step.guarded rfl rfl rfl rfl (fun hc => Does.strip (n' := [(11, (.ptr 6 0 [])), (110, (.opt (!(decide ((v15 x19.toNat) < (p0.Cut x19.toNat)))) (.int .i64 x19)))]) (n := [(11, (.ptr 6 0 [])), (110, (.int .i64 x19))]) ⟨(.same _), (.opt _ _ hc), trivial⟩ (does_indexAddr 29 8 1 11 6 0 [] (.var (e_a8_u32 v15)) (.tmp 110) .i64 x19 el29 trivial (h23 hc).1 (h23 hc).2)), ⟨⟨rfl, rfl, rfl, trivial⟩, ⟨rfl, trivial⟩, rfl⟩, rfl,
          Step.guarded rfl rfl rfl rfl (fun hc => Does.strip (n' := [(111, (.opt (!(decide ((v15 x19.toNat) < (p0.Cut x19.toNat)))) (.ptr 6 (0 + x19.toNat * 1) [x19.toNat])))]) (n := [(111, (.ptr 6 (0 + x19.toNat * 1) [x19.toNat]))]) ⟨(.opt _ _ hc), trivial⟩ (does_load 22 111 6 (0 + x19.toNat * 1) [x19.toNat] (.var (e_a8_u32 v15)) (.int .u32 (v15 x19.toNat)) ⟨rfl, (ixl (h23 hc)), trivial⟩ rfl rfl ty22)), ⟨⟨rfl, rfl, trivial⟩, ⟨rfl, trivial⟩, rfl⟩, rfl,
          Step.guarded rfl rfl rfl rfl (fun hc => does_move (.tmp 13) (.int .i64 x19) trivial), ⟨⟨rfl, rfl, trivial⟩, trivial, rfl⟩, rfl,
          Step.guarded rfl rfl rfl rfl (fun hc => Does.strip (n' := [(5, (.ptr 1 0 [])), (113, (.opt (!(decide ((v15 x19.toNat) < (p0.Cut x19.toNat)))) (.int .i64 x19)))]) (n := [(5, (.ptr 1 0 [])), (113, (.int .i64 x19))]) ⟨(.same _), (.opt _ _ hc), trivial⟩ (does_indexAddr 29 8 1 5 1 0 [] (.var (e_a8_u32 p2)) (.tmp 113) .i64 x19 el29 trivial (h24 hc).1 (h24 hc).2)), ⟨⟨rfl, rfl, rfl, trivial⟩, ⟨rfl, trivial⟩, rfl⟩, rfl,
          Step.guarded rfl rfl rfl rfl (fun hc => Does.strip (n' := [(114, (.opt (!(decide ((v15 x19.toNat) < (p0.Cut x19.toNat)))) (.ptr 1 (0 + x19.toNat * 1) [x19.toNat])))]) (n := [(114, (.ptr 1 (0 + x19.toNat * 1) [x19.toNat]))]) ⟨(.opt _ _ hc), trivial⟩ (does_load 22 114 1 (0 + x19.toNat * 1) [x19.toNat] (.var (e_a8_u32 p2)) (.int .u32 (p2 x19.toNat)) ⟨rfl, (ixl (h24 hc)), trivial⟩ rfl rfl ty22)), ⟨⟨rfl, rfl, trivial⟩, ⟨rfl, trivial⟩, rfl⟩, rfl,
          Step.guarded rfl rfl rfl rfl (fun hc => Does.strip (n' := [(112, (.opt (!(decide ((v15 x19.toNat) < (p0.Cut x19.toNat)))) (.int .u32 (v15 x19.toNat)))), (115, (.opt (!(decide ((v15 x19.toNat) < (p0.Cut x19.toNat)))) (.int .u32 (p2 x19.toNat))))]) (n := [(112, (.int .u32 (v15 x19.toNat))), (115, (.int .u32 (p2 x19.toNat)))]) ⟨(.opt _ _ hc), (.opt _ _ hc), trivial⟩ (does_bin .lss 22 22 (.tmp 112) (.tmp 115) .u32 (v15 x19.toNat) (p2 x19.toNat) (.bool (decide ((v15 x19.toNat) < (p2 x19.toNat)))) trivial trivial (bin_lss _ _ _ _))), ⟨⟨rfl, rfl, rfl, trivial⟩, trivial, rfl⟩, rfl,
          Step.plain rfl (does_or 109 116 (decide ((v15 x19.toNat) < (p0.Cut x19.toNat))) (decide ((v15 x19.toNat) < (p2 x19.toNat)))), ⟨⟨rfl, rfl, trivial⟩, trivial, rfl⟩, rfl, rfl⟩ rfl ?_
        obtain ⟨v25, hv25, H⟩ := lt_of H
        refine aw_cov (cov_prune (s1 := ⟨[(3, (.ptr 0 0 [])), (5, (.ptr 1 0 [])), (11, (.ptr 6 0 [])), (12, (.ptr 7 0 [])), (13, (.int .i64 x19)), (117, (.bool v25))], [(0, some (.var (e_api_Core p0))), (1, some (.var (e_a8_u32 p2))), (6, some (.var (e_a8_u32 v15))), (7, some (.var (e_a8_u32 v17)))], 8⟩) ⟨rfl, rfl, rfl, rfl, rfl, (by subst hv25; rfl), trivial⟩ ⟨rfl, rfl, rfl, rfl, trivial⟩ (Nat.le_refl _)) ?_
        refine aw_cond rfl (fun hc => ?_) (fun hc => ?_)
        · replace H := ite_t hc H
          refine aw_region (es := [_]) ⟨Step.plain rfl (does_assign (.const (.bool false)) (.bool false) (fun _ => rfl)), ⟨trivial, trivial, rfl⟩, rfl, rfl⟩ ?_
          refine aw_cov (cov_prune (s1 := ⟨[(6, (.bool false))], [], 8⟩) ⟨rfl, trivial⟩ trivial (Nat.le_refl _)) ?_
          refine aw_ret ?_
          replace H := rt_of H hsn20 Hrn20
          refine rt_blk ?_
          refine rt_then ?_
          refine rt_then ?_
          refine rt_blk ?_
          refine rt_then ?_
          refine rt_then ?_
          exact fun a w hr => ⟨_, [(.bool false)], hr, ⟨⟨_, rfl, .data _ trivial⟩, trivial⟩, by decide, by cases H; rfl⟩
        · replace H := ite_f hc H
          refine aw_skip ?_
          refine nx_blk ?_
          refine nx_seq ?_
          refine aw_region1 (es := [_, _, _]) ⟨Step.plain rfl (does_move (.tmp 13) (.int .i64 x19) trivial), ⟨⟨rfl, trivial⟩, trivial, rfl⟩, rfl,
            Step.plain rfl (does_bin .add 3 3 (.tmp 99) (.const (.int .i64 1)) .i64 x19 1 (.int .i64 (IntKind.i64.wrap (x19 + 1))) trivial (fun _ => rfl) (bin_add _ _ _ _)), ⟨⟨rfl, trivial⟩, trivial, rfl⟩, rfl,
            Step.plain rfl (does_assign (.tmp 100) (.int .i64 (IntKind.i64.wrap (x19 + 1))) trivial), ⟨⟨rfl, trivial⟩, trivial, rfl⟩, rfl, rfl⟩ ?_
          exact nx_loop ((IntKind.i64.wrap (x19 + 1))) H (cov_prune ⟨rfl, rfl, rfl, rfl, rfl, trivial⟩ ⟨rfl, rfl, rfl, rfl, trivial⟩ (Nat.le_of_ble_eq_true rfl))
      · replace H := ite_f hc H
        refine aw_exit ?_
        refine ex_then ?_
        refine ex_then ?_
        refine ex_here ?_
        exact nx_ljoin () H hsn20 (cov_prune ⟨rfl, rfl, trivial⟩ ⟨rfl, rfl, trivial⟩ (Nat.le_of_ble_eq_true rfl))

theorem gather_Update_spec (p0 : api_Peer) (p1 : api_Packet) (r : api_Peer) (H : gather_Update p0 p1 = some r) : FSpec Try.prog 13 [(e_api_Peer p0), (e_api_Packet p1)] (e_api_Peer r) := by
  refine spec_of (fn := Try.f13) (args := [(e_api_Peer p0), (e_api_Packet p1)]) Try.func13 rfl (Nat.le_of_ble_eq_true rfl) ?_
  rintro ⟨G, w0, W, S, Sp⟩ hG
  cases hG
  unfold gather_Update at H
  refine aw_region (es := [_, _, _]) ⟨Step.plain rfl (does_box 32 (.tmp 0) 0 (e_api_Peer p0) trivial rfl), ⟨⟨rfl, trivial⟩, trivial, rfl⟩, rfl,
    Step.plain rfl (does_box 43 (.tmp 1) 1 (e_api_Packet p1) trivial rfl), ⟨⟨rfl, trivial⟩, trivial, rfl⟩, rfl,
    Step.plain rfl (does_alloc 32 2 (e_api_Peer z_api_Peer) zr32), ⟨trivial, trivial, rfl⟩, rfl, rfl⟩ ?_
  refine aw_cov (cov_prune (s1 := ⟨[(2, (.ptr 0 0 [])), (3, (.ptr 1 0 [])), (4, (.ptr 2 0 []))], [(0, some (.var (e_api_Peer p0))), (1, some (.var (e_api_Packet p1))), (2, some (.var (e_api_Peer z_api_Peer)))], 3⟩) ⟨rfl, rfl, rfl, trivial⟩ ⟨rfl, rfl, rfl, trivial⟩ (Nat.le_refl _)) ?_
  refine aw_region (es := [_, _, _, _, _, _, _, _, _, _, _, _, _]) ⟨Step.plain rfl (does_fieldAddr 43 1 1 3 1 0 [] (.var (e_api_Packet p1)) fl43_1), ⟨⟨rfl, trivial⟩, ⟨rfl, trivial⟩, rfl⟩, rfl,
    Step.plain rfl (does_load 22 7 1 (0 + 1) [1] (.var (e_api_Packet p1)) (.int .u32 p1.Inc) ⟨rfl, Nat.le_of_ble_eq_true rfl, trivial⟩ rfl rfl ty22), ⟨⟨rfl, trivial⟩, ⟨rfl, trivial⟩, rfl⟩, rfl,
    Step.plain rfl (does_fieldAddr 43 2 2 3 1 0 [] (.var (e_api_Packet p1)) fl43_2), ⟨⟨rfl, trivial⟩, ⟨rfl, trivial⟩, rfl⟩, rfl,
    Step.plain rfl (does_load 27 9 1 (0 + 2) [2] (.var (e_api_Packet p1)) (e_api_Id p1.Conf) ⟨rfl, Nat.le_of_ble_eq_true rfl, trivial⟩ rfl rfl ty27), ⟨⟨rfl, trivial⟩, ⟨rfl, trivial⟩, rfl⟩, rfl,
    Step.plain rfl (does_fieldAddr 43 5 21 3 1 0 [] (.var (e_api_Packet p1)) fl43_5), ⟨⟨rfl, trivial⟩, ⟨rfl, trivial⟩, rfl⟩, rfl,
    Step.plain rfl (does_load 27 11 1 (0 + 21) [5] (.var (e_api_Packet p1)) (e_api_Id p1.Promise) ⟨rfl, Nat.le_of_ble_eq_true rfl, trivial⟩ rfl rfl ty27), ⟨⟨rfl, trivial⟩, ⟨rfl, trivial⟩, rfl⟩, rfl,
    Step.plain rfl (does_fieldAddr 43 4 13 3 1 0 [] (.var (e_api_Packet p1)) fl43_4), ⟨⟨rfl, trivial⟩, ⟨rfl, trivial⟩, rfl⟩, rfl,
    Step.plain rfl (does_load 29 13 1 (0 + 13) [4] (.var (e_api_Packet p1)) (e_a8_u32 p1.Count) ⟨rfl, Nat.le_of_ble_eq_true rfl, trivial⟩ rfl rfl ty29), ⟨⟨rfl, trivial⟩, ⟨rfl, trivial⟩, rfl⟩, rfl,
    Step.plain rfl (does_fieldAddr 43 7 32 3 1 0 [] (.var (e_api_Packet p1)) fl43_7), ⟨⟨rfl, trivial⟩, ⟨rfl, trivial⟩, rfl⟩, rfl,
    Step.plain rfl (does_load 4 15 1 (0 + 32) [7] (.var (e_api_Packet p1)) (.bool p1.Ready) ⟨rfl, Nat.le_of_ble_eq_true rfl, trivial⟩ rfl rfl ty4), ⟨⟨rfl, trivial⟩, ⟨rfl, trivial⟩, rfl⟩, rfl,
    Step.plain rfl (does_buildT 32 #[(0, (.tmp 8)), (1, (.tmp 10)), (2, (.tmp 12)), (3, (.tmp 14)), (4, (.tmp 16))] [(0, (.tmp 8)), (1, (.tmp 10)), (2, (.tmp 12)), (3, (.tmp 14)), (4, (.tmp 16))] [(0, (.int .u32 p1.Inc)), (1, (e_api_Id p1.Conf)), (2, (e_api_Id p1.Promise)), (3, (e_a8_u32 p1.Count)), (4, (.bool p1.Ready))] (.st [1, 3, 3, 8, 1]) (c_api_Peer z_api_Peer) (c_api_Peer ({ Inc := p1.Inc, Conf := p1.Conf, Promise := p1.Promise, Cut := p1.Count, Ready := p1.Ready } : api_Peer)) rfl bo32 ⟨⟨rfl, trivial⟩, ⟨rfl, trivial⟩, ⟨rfl, trivial⟩, ⟨rfl, trivial⟩, ⟨rfl, trivial⟩, trivial⟩ ⟨⟨Nat.le_of_ble_eq_true rfl, rfl, rfl⟩, ⟨Nat.le_of_ble_eq_true rfl, rfl, rfl⟩, ⟨Nat.le_of_ble_eq_true rfl, rfl, rfl⟩, ⟨Nat.le_of_ble_eq_true rfl, rfl, rfl⟩, ⟨Nat.le_of_ble_eq_true rfl, rfl, rfl⟩, trivial⟩ (by funext j; match j with | 0 => rfl | 1 => rfl | 2 => rfl | 3 => rfl | 4 => rfl | _ + 5 => rfl)), ⟨⟨rfl, rfl, rfl, rfl, rfl, trivial⟩, trivial, rfl⟩, rfl,
    Step.plain rfl (does_alloc 32 3 (e_api_Peer z_api_Peer) zr32), ⟨trivial, trivial, rfl⟩, rfl,
    Step.plain rfl (does_store 32 5 (.tmp 17) 3 0 [] (.var (e_api_Peer z_api_Peer)) (.var (e_api_Peer ({ Inc := p1.Inc, Conf := p1.Conf, Promise := p1.Promise, Cut := p1.Count, Ready := p1.Ready } : api_Peer))) (e_api_Peer ({ Inc := p1.Inc, Conf := p1.Conf, Promise := p1.Promise, Cut := p1.Count, Ready := p1.Ready } : api_Peer)) true trivial rfl trivial rfl rfl rfl ty32), ⟨⟨rfl, rfl, trivial⟩, ⟨rfl, trivial⟩, rfl⟩, rfl, rfl⟩ ?_
  obtain ⟨v1, hv1, H⟩ := lt_of H
  refine aw_cov (cov_prune (s1 := ⟨[(2, (.ptr 0 0 [])), (3, (.ptr 1 0 [])), (4, (.ptr 2 0 [])), (5, (.ptr 3 0 []))], [(0, some (.var (e_api_Peer p0))), (1, some (.var (e_api_Packet p1))), (2, some (.var (e_api_Peer z_api_Peer))), (3, some (.var (e_api_Peer v1)))], 4⟩) ⟨rfl, rfl, rfl, rfl, trivial⟩ ⟨rfl, rfl, rfl, (by subst hv1; rfl), trivial⟩ (Nat.le_refl _)) ?_
  obtain ⟨v2, h3, H⟩ := bnd H
  refine aw_region (es := [_, _, _, _, _, _]) ⟨Step.plain rfl (does_fieldAddr 43 5 21 3 1 0 [] (.var (e_api_Packet p1)) fl43_5), ⟨⟨rfl, trivial⟩, ⟨rfl, trivial⟩, rfl⟩, rfl,
    Step.plain rfl (does_load 27 18 1 (0 + 21) [5] (.var (e_api_Packet p1)) (e_api_Id p1.Promise) ⟨rfl, Nat.le_of_ble_eq_true rfl, trivial⟩ rfl rfl ty27), ⟨⟨rfl, trivial⟩, ⟨rfl, trivial⟩, rfl⟩, rfl,
    Step.plain rfl (does_fieldAddr 32 2 4 2 0 0 [] (.var (e_api_Peer p0)) fl32_2), ⟨⟨rfl, trivial⟩, ⟨rfl, trivial⟩, rfl⟩, rfl,
    Step.plain rfl (does_load 27 20 0 (0 + 4) [2] (.var (e_api_Peer p0)) (e_api_Id p0.Promise) ⟨rfl, Nat.le_of_ble_eq_true rfl, trivial⟩ rfl rfl ty27), ⟨⟨rfl, trivial⟩, ⟨rfl, trivial⟩, rfl⟩, rfl,
    Step.plain rfl (does_call 23 0 (fun _ => .any) (.func 23) [(.tmp 19), (.tmp 21)] [(e_api_Id p1.Promise), (e_api_Id p0.Promise)] [] true [(e_api_Id p1.Promise), (e_api_Id p0.Promise)] (.int .i64 v2) _ _ rfl fo23 rfl ⟨trivial, trivial, trivial⟩ ⟨.data _ (d_api_Id p1.Promise), .data _ (d_api_Id p0.Promise), trivial⟩ (ident_Compare_spec p1.Promise p0.Promise _ h3) trivial), ⟨⟨rfl, rfl, trivial⟩, trivial, rfl⟩, rfl,
    Step.plain rfl (does_assign (.tmp 22) (.int .i64 v2) trivial), ⟨⟨rfl, trivial⟩, trivial, rfl⟩, rfl, rfl⟩ ?_
  refine aw_cov (cov_prune (s1 := ⟨[(2, (.ptr 0 0 [])), (3, (.ptr 1 0 [])), (4, (.ptr 2 0 [])), (5, (.ptr 3 0 [])), (6, (.int .i64 v2))], [(0, some (.var (e_api_Peer p0))), (1, some (.var (e_api_Packet p1))), (2, some (.var (e_api_Peer z_api_Peer))), (3, some (.var (e_api_Peer v1)))], 4⟩) ⟨rfl, rfl, rfl, rfl, rfl, trivial⟩ ⟨rfl, rfl, rfl, rfl, trivial⟩ (Nat.le_refl _)) ?_
  refine aw_seq ?_
  refine aw_block ?_
  refine aw_region (es := [_, _, _, _, _, _]) ⟨Step.plain rfl (does_fieldAddr 43 1 1 3 1 0 [] (.var (e_api_Packet p1)) fl43_1), ⟨⟨rfl, trivial⟩, ⟨rfl, trivial⟩, rfl⟩, rfl,
    Step.plain rfl (does_load 22 24 1 (0 + 1) [1] (.var (e_api_Packet p1)) (.int .u32 p1.Inc) ⟨rfl, Nat.le_of_ble_eq_true rfl, trivial⟩ rfl rfl ty22), ⟨⟨rfl, trivial⟩, ⟨rfl, trivial⟩, rfl⟩, rfl,
    Step.plain rfl (does_fieldAddr 32 0 0 2 0 0 [] (.var (e_api_Peer p0)) fl32_0), ⟨⟨rfl, trivial⟩, ⟨rfl, trivial⟩, rfl⟩, rfl,
    Step.plain rfl (does_load 22 26 0 (0 + 0) [0] (.var (e_api_Peer p0)) (.int .u32 p0.Inc) ⟨rfl, Nat.le_of_ble_eq_true rfl, trivial⟩ rfl rfl ty22), ⟨⟨rfl, trivial⟩, ⟨rfl, trivial⟩, rfl⟩, rfl,
    Step.plain rfl (does_bin .lss 22 22 (.tmp 25) (.tmp 27) .u32 p1.Inc p0.Inc (.bool (decide (p1.Inc < p0.Inc))) trivial trivial (bin_lss _ _ _ _)), ⟨⟨rfl, rfl, trivial⟩, trivial, rfl⟩, rfl,
    Step.plain rfl (does_assign (.tmp 28) (.bool (decide (p1.Inc < p0.Inc))) trivial), ⟨⟨rfl, trivial⟩, trivial, rfl⟩, rfl, rfl⟩ ?_
  refine aw_cov (cov_prune (s1 := ⟨[(2, (.ptr 0 0 [])), (3, (.ptr 1 0 [])), (4, (.ptr 2 0 [])), (5, (.ptr 3 0 [])), (6, (.int .i64 v2)), (23, (.bool (decide (p1.Inc < p0.Inc))))], [(0, some (.var (e_api_Peer p0))), (1, some (.var (e_api_Packet p1))), (2, some (.var (e_api_Peer z_api_Peer))), (3, some (.var (e_api_Peer v1)))], 4⟩) ⟨rfl, rfl, rfl, rfl, rfl, rfl, trivial⟩ ⟨rfl, rfl, rfl, rfl, trivial⟩ (Nat.le_refl _)) ?_
  refine aw_cond rfl (fun hc => ?_) (fun hc => ?_)
  · replace H := ite_t hc H
    refine aw_region (es := [_, _]) ⟨Step.plain rfl (does_load 32 2 0 0 [] (.var (e_api_Peer p0)) (e_api_Peer p0) trivial rfl rfl ty32), ⟨⟨rfl, trivial⟩, ⟨rfl, trivial⟩, rfl⟩, rfl,
      Step.plain rfl (does_store 32 4 (.tmp 29) 2 0 [] (.var (e_api_Peer z_api_Peer)) (.var (e_api_Peer p0)) (e_api_Peer p0) true trivial rfl trivial rfl rfl rfl ty32), ⟨⟨rfl, rfl, trivial⟩, ⟨rfl, trivial⟩, rfl⟩, rfl, rfl⟩ ?_
    refine aw_cov (cov_prune (s1 := ⟨[(4, (.ptr 2 0 []))], [(2, some (.var (e_api_Peer p0)))], 4⟩) ⟨rfl, trivial⟩ ⟨rfl, trivial⟩ (Nat.le_refl _)) ?_
    refine aw_ret ?_
    refine rt_blk ?_
    refine rt_then ?_
    exact fun a w hr => ⟨_, [(e_api_Peer p0)], hr, ⟨⟨2, _, rfl, rfl, .data _ (d_api_Peer p0), ty32⟩, trivial⟩, by decide, by cases H; rfl⟩
  · replace H := ite_f hc H
    refine aw_region (es := [_, _, _, _, _, _, _, _, _, _]) ⟨Step.plain rfl (does_fieldAddr 43 1 1 3 1 0 [] (.var (e_api_Packet p1)) fl43_1), ⟨⟨rfl, trivial⟩, ⟨rfl, trivial⟩, rfl⟩, rfl,
      Step.plain rfl (does_load 22 31 1 (0 + 1) [1] (.var (e_api_Packet p1)) (.int .u32 p1.Inc) ⟨rfl, Nat.le_of_ble_eq_true rfl, trivial⟩ rfl rfl ty22), ⟨⟨rfl, trivial⟩, ⟨rfl, trivial⟩, rfl⟩, rfl,
      Step.plain rfl (does_fieldAddr 32 0 0 2 0 0 [] (.var (e_api_Peer p0)) fl32_0), ⟨⟨rfl, trivial⟩, ⟨rfl, trivial⟩, rfl⟩, rfl,
      Step.plain rfl (does_load 22 33 0 (0 + 0) [0] (.var (e_api_Peer p0)) (.int .u32 p0.Inc) ⟨rfl, Nat.le_of_ble_eq_true rfl, trivial⟩ rfl rfl ty22), ⟨⟨rfl, trivial⟩, ⟨rfl, trivial⟩, rfl⟩, rfl,
      Step.plain rfl (does_bin .gtr 22 22 (.tmp 32) (.tmp 34) .u32 p1.Inc p0.Inc (.bool (decide (p1.Inc > p0.Inc))) trivial trivial (bin_gtr _ _ _ _)), ⟨⟨rfl, rfl, trivial⟩, trivial, rfl⟩, rfl,
      Step.plain rfl (does_move (.tmp 35) (.bool (decide (p1.Inc > p0.Inc))) trivial), ⟨⟨rfl, trivial⟩, trivial, rfl⟩, rfl,
      Step.guarded rfl rfl rfl rfl (fun hc => does_move (.tmp 6) (.int .i64 v2) trivial), ⟨⟨rfl, rfl, trivial⟩, trivial, rfl⟩, rfl,
      Step.guarded rfl rfl rfl rfl (fun hc => Does.strip (n' := [(37, (.opt (!(decide (p1.Inc > p0.Inc))) (.int .i64 v2)))]) (n := [(37, (.int .i64 v2))]) ⟨(.opt _ _ hc), trivial⟩ (does_bin .gtr 3 3 (.tmp 37) (.const (.int .i64 0)) .i64 v2 0 (.bool (decide (v2 > 0))) trivial (fun _ => rfl) (bin_gtr _ _ _ _))), ⟨⟨rfl, rfl, trivial⟩, trivial, rfl⟩, rfl,
      Step.plain rfl (does_or 36 38 (decide (p1.Inc > p0.Inc)) (decide (v2 > 0))), ⟨⟨rfl, rfl, trivial⟩, trivial, rfl⟩, rfl,
      Step.plain rfl (does_assign (.tmp 39) (.bool ((decide (p1.Inc > p0.Inc)) || (decide (v2 > 0)))) trivial), ⟨⟨rfl, trivial⟩, trivial, rfl⟩, rfl, rfl⟩ ?_
    refine aw_cov (cov_prune (s1 := ⟨[(2, (.ptr 0 0 [])), (3, (.ptr 1 0 [])), (4, (.ptr 2 0 [])), (5, (.ptr 3 0 [])), (6, (.int .i64 v2)), (30, (.bool ((decide (p1.Inc > p0.Inc)) || (decide (v2 > 0)))))], [(0, some (.var (e_api_Peer p0))), (1, some (.var (e_api_Packet p1))), (2, some (.var (e_api_Peer z_api_Peer))), (3, some (.var (e_api_Peer v1)))], 4⟩) ⟨rfl, rfl, rfl, rfl, rfl, rfl, trivial⟩ ⟨rfl, rfl, rfl, rfl, trivial⟩ (Nat.le_refl _)) ?_
    refine aw_cond rfl (fun hc => ?_) (fun hc => ?_)
    · replace H := ite_t hc H
      refine aw_region (es := [_, _]) ⟨Step.plain rfl (does_load 32 5 3 0 [] (.var (e_api_Peer v1)) (e_api_Peer v1) trivial rfl rfl ty32), ⟨⟨rfl, trivial⟩, ⟨rfl, trivial⟩, rfl⟩, rfl,
        Step.plain rfl (does_store 32 4 (.tmp 40) 2 0 [] (.var (e_api_Peer z_api_Peer)) (.var (e_api_Peer v1)) (e_api_Peer v1) true trivial rfl trivial rfl rfl rfl ty32), ⟨⟨rfl, rfl, trivial⟩, ⟨rfl, trivial⟩, rfl⟩, rfl, rfl⟩ ?_
      refine aw_cov (cov_prune (s1 := ⟨[(4, (.ptr 2 0 []))], [(2, some (.var (e_api_Peer v1)))], 4⟩) ⟨rfl, trivial⟩ ⟨rfl, trivial⟩ (Nat.le_refl _)) ?_
      refine aw_ret ?_
      refine rt_blk ?_
      refine rt_then ?_
      exact fun a w hr => ⟨_, [(e_api_Peer v1)], hr, ⟨⟨2, _, rfl, rfl, .data _ (d_api_Peer v1), ty32⟩, trivial⟩, by decide, by cases H; rfl⟩
    · replace H := ite_f hc H
      refine aw_region (es := [_, _, _]) ⟨Step.plain rfl (does_move (.tmp 6) (.int .i64 v2) trivial), ⟨⟨rfl, trivial⟩, trivial, rfl⟩, rfl,
        Step.plain rfl (does_bin .lss 3 3 (.tmp 42) (.const (.int .i64 0)) .i64 v2 0 (.bool (decide (v2 < 0))) trivial (fun _ => rfl) (bin_lss _ _ _ _)), ⟨⟨rfl, trivial⟩, trivial, rfl⟩, rfl,
        Step.plain rfl (does_assign (.tmp 43) (.bool (decide (v2 < 0))) trivial), ⟨⟨rfl, trivial⟩, trivial, rfl⟩, rfl, rfl⟩ ?_
      refine aw_cov (cov_prune (s1 := ⟨[(2, (.ptr 0 0 [])), (3, (.ptr 1 0 [])), (4, (.ptr 2 0 [])), (41, (.bool (decide (v2 < 0))))], [(0, some (.var (e_api_Peer p0))), (1, some (.var (e_api_Packet p1))), (2, some (.var (e_api_Peer z_api_Peer)))], 4⟩) ⟨rfl, rfl, rfl, rfl, trivial⟩ ⟨rfl, rfl, rfl, trivial⟩ (Nat.le_refl _)) ?_
      refine aw_cond rfl (fun hc => ?_) (fun hc => ?_)
      · replace H := ite_t hc H
        refine aw_region (es := [_, _]) ⟨Step.plain rfl (does_load 32 2 0 0 [] (.var (e_api_Peer p0)) (e_api_Peer p0) trivial rfl rfl ty32), ⟨⟨rfl, trivial⟩, ⟨rfl, trivial⟩, rfl⟩, rfl,
          Step.plain rfl (does_store 32 4 (.tmp 44) 2 0 [] (.var (e_api_Peer z_api_Peer)) (.var (e_api_Peer p0)) (e_api_Peer p0) true trivial rfl trivial rfl rfl rfl ty32), ⟨⟨rfl, rfl, trivial⟩, ⟨rfl, trivial⟩, rfl⟩, rfl, rfl⟩ ?_
        refine aw_cov (cov_prune (s1 := ⟨[(4, (.ptr 2 0 []))], [(2, some (.var (e_api_Peer p0)))], 4⟩) ⟨rfl, trivial⟩ ⟨rfl, trivial⟩ (Nat.le_refl _)) ?_
        refine aw_ret ?_
        refine rt_blk ?_
        refine rt_then ?_
        exact fun a w hr => ⟨_, [(e_api_Peer p0)], hr, ⟨⟨2, _, rfl, rfl, .data _ (d_api_Peer p0), ty32⟩, trivial⟩, by decide, by cases H; rfl⟩
      · replace H := ite_f hc H
        refine aw_skip ?_
        refine nx_blk ?_
        refine nx_seq ?_
        refine aw_seq ?_
        obtain ⟨v4, h5, H⟩ := bnd H
        refine aw_region (es := [_, _, _, _, _]) ⟨Step.plain rfl (does_fieldAddr 43 2 2 3 1 0 [] (.var (e_api_Packet p1)) fl43_2), ⟨⟨rfl, trivial⟩, ⟨rfl, trivial⟩, rfl⟩, rfl,
          Step.plain rfl (does_load 27 45 1 (0 + 2) [2] (.var (e_api_Packet p1)) (e_api_Id p1.Conf) ⟨rfl, Nat.le_of_ble_eq_true rfl, trivial⟩ rfl rfl ty27), ⟨⟨rfl, trivial⟩, ⟨rfl, trivial⟩, rfl⟩, rfl,
          Step.plain rfl (does_fieldAddr 32 1 1 2 0 0 [] (.var (e_api_Peer p0)) fl32_1), ⟨⟨rfl, trivial⟩, ⟨rfl, trivial⟩, rfl⟩, rfl,
          Step.plain rfl (does_load 27 47 0 (0 + 1) [1] (.var (e_api_Peer p0)) (e_api_Id p0.Conf) ⟨rfl, Nat.le_of_ble_eq_true rfl, trivial⟩ rfl rfl ty27), ⟨⟨rfl, trivial⟩, ⟨rfl, trivial⟩, rfl⟩, rfl,
          Step.plain rfl (does_call 23 0 (fun _ => .any) (.func 23) [(.tmp 46), (.tmp 48)] [(e_api_Id p1.Conf), (e_api_Id p0.Conf)] [] true [(e_api_Id p1.Conf), (e_api_Id p0.Conf)] (.int .i64 v4) _ _ rfl fo23 rfl ⟨trivial, trivial, trivial⟩ ⟨.data _ (d_api_Id p1.Conf), .data _ (d_api_Id p0.Conf), trivial⟩ (ident_Compare_spec p1.Conf p0.Conf _ h5) trivial), ⟨⟨rfl, rfl, trivial⟩, trivial, rfl⟩, rfl, rfl⟩ ?_
        refine aw_cov (cov_prune (s1 := ⟨[(2, (.ptr 0 0 [])), (3, (.ptr 1 0 [])), (4, (.ptr 2 0 [])), (49, (.int .i64 v4))], [(0, some (.var (e_api_Peer p0))), (1, some (.var (e_api_Packet p1))), (2, some (.var (e_api_Peer z_api_Peer)))], 4⟩) ⟨rfl, rfl, rfl, rfl, trivial⟩ ⟨rfl, rfl, rfl, trivial⟩ (Nat.le_refl _)) ?_
        refine aw_jn (fun x9 : api_Peer => (⟨[(2, (.ptr 0 0 [])), (3, (.ptr 1 0 [])), (4, (.ptr 2 0 []))], [(0, some (.var (e_api_Peer x9))), (1, some (.var (e_api_Packet p1))), (2, some (.var (e_api_Peer z_api_Peer)))], 4⟩ : St)) H (fun x9 H => ?_) (fun j6 H => ?_)
        · refine nx_seq ?_
          refine aw_region (es := [_, _, _, _, _, _, _, _]) ⟨Step.plain rfl (does_fieldAddr 32 4 15 2 0 0 [] (.var (e_api_Peer x9)) fl32_4), ⟨⟨rfl, trivial⟩, ⟨rfl, trivial⟩, rfl⟩, rfl,
            Step.plain rfl (does_load 4 67 0 (0 + 15) [4] (.var (e_api_Peer x9)) (.bool x9.Ready) ⟨rfl, Nat.le_of_ble_eq_true rfl, trivial⟩ rfl rfl ty4), ⟨⟨rfl, trivial⟩, ⟨rfl, trivial⟩, rfl⟩, rfl,
            Step.plain rfl (does_move (.tmp 68) (.bool x9.Ready) trivial), ⟨⟨rfl, trivial⟩, trivial, rfl⟩, rfl,
            Step.guarded rfl rfl rfl rfl (fun hc => does_fieldAddr 43 7 32 3 1 0 [] (.var (e_api_Packet p1)) fl43_7), ⟨⟨rfl, rfl, trivial⟩, ⟨rfl, trivial⟩, rfl⟩, rfl,
            Step.guarded rfl rfl rfl rfl (fun hc => Does.strip (n' := [(70, (.opt (!x9.Ready) (.ptr 1 (0 + 32) [7])))]) (n := [(70, (.ptr 1 (0 + 32) [7]))]) ⟨(.opt _ _ hc), trivial⟩ (does_load 4 70 1 (0 + 32) [7] (.var (e_api_Packet p1)) (.bool p1.Ready) ⟨rfl, Nat.le_of_ble_eq_true rfl, trivial⟩ rfl rfl ty4)), ⟨⟨rfl, rfl, trivial⟩, ⟨rfl, trivial⟩, rfl⟩, rfl,
            Step.plain rfl (does_or 69 71 x9.Ready p1.Ready), ⟨⟨rfl, rfl, trivial⟩, trivial, rfl⟩, rfl,
            Step.plain rfl (does_fieldAddr 32 4 15 2 0 0 [] (.var (e_api_Peer x9)) fl32_4), ⟨⟨rfl, trivial⟩, ⟨rfl, trivial⟩, rfl⟩, rfl,
            Step.plain rfl (does_store 4 73 (.tmp 72) 0 (0 + 15) [4] (.var (e_api_Peer x9)) (.var (e_api_Peer ({ x9 with Ready := (x9.Ready || p1.Ready) }))) (.bool (x9.Ready || p1.Ready)) false trivial rfl ⟨rfl, Nat.le_of_ble_eq_true rfl, trivial⟩ rfl rfl (congrArg Box.var (set_cons rfl (st_api_Peer_4 _ _))) ty4), ⟨⟨rfl, rfl, trivial⟩, ⟨rfl, trivial⟩, rfl⟩, rfl, rfl⟩ ?_
          refine aw_cov (cov_prune (s1 := ⟨[(2, (.ptr 0 0 [])), (4, (.ptr 2 0 []))], [(0, some (.var (e_api_Peer ({ x9 with Ready := (x9.Ready || p1.Ready) })))), (2, some (.var (e_api_Peer z_api_Peer)))], 4⟩) ⟨rfl, rfl, trivial⟩ ⟨rfl, rfl, trivial⟩ (Nat.le_refl _)) ?_
          refine aw_region (es := [_, _]) ⟨Step.plain rfl (does_load 32 2 0 0 [] (.var (e_api_Peer ({ x9 with Ready := (x9.Ready || p1.Ready) }))) (e_api_Peer ({ x9 with Ready := (x9.Ready || p1.Ready) })) trivial rfl rfl ty32), ⟨⟨rfl, trivial⟩, ⟨rfl, trivial⟩, rfl⟩, rfl,
            Step.plain rfl (does_store 32 4 (.tmp 74) 2 0 [] (.var (e_api_Peer z_api_Peer)) (.var (e_api_Peer ({ x9 with Ready := (x9.Ready || p1.Ready) }))) (e_api_Peer ({ x9 with Ready := (x9.Ready || p1.Ready) })) true trivial rfl trivial rfl rfl rfl ty32), ⟨⟨rfl, rfl, trivial⟩, ⟨rfl, trivial⟩, rfl⟩, rfl, rfl⟩ ?_
          refine aw_cov (cov_prune (s1 := ⟨[(4, (.ptr 2 0 []))], [(2, some (.var (e_api_Peer ({ x9 with Ready := (x9.Ready || p1.Ready) }))))], 4⟩) ⟨rfl, trivial⟩ ⟨rfl, trivial⟩ (Nat.le_refl _)) ?_
          refine aw_ret ?_
          exact fun a w hr => ⟨_, [(e_api_Peer ({ x9 with Ready := (x9.Ready || p1.Ready) }))], hr, ⟨⟨2, _, rfl, rfl, .data _ (d_api_Peer ({ x9 with Ready := (x9.Ready || p1.Ready) })), ty32⟩, trivial⟩, by decide, by cases H; rfl⟩
        · refine aw_block ?_
          refine aw_region (es := [_, _]) ⟨Step.plain rfl (does_bin .eql 3 3 (.tmp 49) (.const (.int .i64 1)) .i64 v4 1 (.bool (v4 == 1)) trivial (fun _ => rfl) (bin_eql _ _ _ _)), ⟨⟨rfl, trivial⟩, trivial, rfl⟩, rfl,
            Step.plain rfl (does_assign (.tmp 51) (.bool (v4 == 1)) trivial), ⟨⟨rfl, trivial⟩, trivial, rfl⟩, rfl, rfl⟩ ?_
          refine aw_cov (cov_prune (s1 := ⟨[(2, (.ptr 0 0 [])), (3, (.ptr 1 0 [])), (4, (.ptr 2 0 [])), (49, (.int .i64 v4)), (50, (.bool (v4 == 1)))], [(0, some (.var (e_api_Peer p0))), (1, some (.var (e_api_Packet p1))), (2, some (.var (e_api_Peer z_api_Peer)))], 4⟩) ⟨rfl, rfl, rfl, rfl, rfl, trivial⟩ ⟨rfl, rfl, rfl, trivial⟩ (Nat.le_refl _)) ?_
          refine aw_cond rfl (fun hc => ?_) (fun hc => ?_)
          · replace H := ite_t hc H
            refine aw_draw1 (es := [_, _, _, _, _, _, _, _]) (mixed) ⟨Step.plain rfl (does_fieldAddr 43 2 2 3 1 0 [] (.var (e_api_Packet p1)) fl43_2), ⟨⟨rfl, trivial⟩, ⟨rfl, trivial⟩, rfl⟩, rfl,
              Step.plain rfl (does_load 27 52 1 (0 + 2) [2] (.var (e_api_Packet p1)) (e_api_Id p1.Conf) ⟨rfl, Nat.le_of_ble_eq_true rfl, trivial⟩ rfl rfl ty27), ⟨⟨rfl, trivial⟩, ⟨rfl, trivial⟩, rfl⟩, rfl,
              Step.plain rfl (does_fieldAddr 43 4 13 3 1 0 [] (.var (e_api_Packet p1)) fl43_4), ⟨⟨rfl, trivial⟩, ⟨rfl, trivial⟩, rfl⟩, rfl,
              Step.plain rfl (does_load 29 54 1 (0 + 13) [4] (.var (e_api_Packet p1)) (e_a8_u32 p1.Count) ⟨rfl, Nat.le_of_ble_eq_true rfl, trivial⟩ rfl rfl ty29), ⟨⟨rfl, trivial⟩, ⟨rfl, trivial⟩, rfl⟩, rfl,
              Step.plain rfl (does_fieldAddr 32 1 1 2 0 0 [] (.var (e_api_Peer p0)) fl32_1), ⟨⟨rfl, trivial⟩, ⟨rfl, trivial⟩, rfl⟩, rfl,
              Step.plain rfl (does_store 27 56 (.tmp 53) 0 (0 + 1) [1] (.var (e_api_Peer p0)) (.var (e_api_Peer ({ p0 with Conf := p1.Conf }))) (e_api_Id p1.Conf) true trivial rfl ⟨rfl, Nat.le_of_ble_eq_true rfl, trivial⟩ rfl rfl (congrArg Box.var (set_cons rfl (st_api_Peer_1 _ _))) ty27), ⟨⟨rfl, rfl, trivial⟩, ⟨rfl, trivial⟩, rfl⟩, rfl,
              Step.plain rfl (does_fieldAddr 32 3 7 2 0 0 [] (.var (e_api_Peer ({ p0 with Conf := p1.Conf }))) fl32_3), ⟨⟨rfl, trivial⟩, ⟨rfl, trivial⟩, rfl⟩, rfl,
              Step.plain rfl (does_store 29 57 (.tmp 55) 0 (0 + 7) [3] (.var (e_api_Peer ({ p0 with Conf := p1.Conf }))) (.var (e_api_Peer ({ { p0 with Conf := p1.Conf } with Cut := p1.Count }))) (e_a8_u32 p1.Count) true trivial rfl ⟨rfl, Nat.le_of_ble_eq_true rfl, trivial⟩ rfl rfl (congrArg Box.var (set_cons rfl (st_api_Peer_3 _ _))) ty29), ⟨⟨rfl, rfl, trivial⟩, ⟨rfl, trivial⟩, rfl⟩, rfl, rfl⟩ rfl ?_
            refine nx_blk ?_
            exact nx_join ({ { p0 with Conf := p1.Conf } with Cut := p1.Count }) H (cov_prune ⟨rfl, rfl, rfl, trivial⟩ ⟨rfl, rfl, rfl, trivial⟩ (Nat.le_of_ble_eq_true rfl))
          · replace H := ite_f hc H
            refine aw_region (es := [_, _]) ⟨Step.plain rfl (does_bin .eql 3 3 (.tmp 49) (.const (.int .i64 0)) .i64 v4 0 (.bool (v4 == 0)) trivial (fun _ => rfl) (bin_eql _ _ _ _)), ⟨⟨rfl, trivial⟩, trivial, rfl⟩, rfl,
              Step.plain rfl (does_assign (.tmp 59) (.bool (v4 == 0)) trivial), ⟨⟨rfl, trivial⟩, trivial, rfl⟩, rfl, rfl⟩ ?_
            refine aw_cov (cov_prune (s1 := ⟨[(2, (.ptr 0 0 [])), (3, (.ptr 1 0 [])), (4, (.ptr 2 0 [])), (58, (.bool (v4 == 0)))], [(0, some (.var (e_api_Peer p0))), (1, some (.var (e_api_Packet p1))), (2, some (.var (e_api_Peer z_api_Peer)))], 4⟩) ⟨rfl, rfl, rfl, rfl, trivial⟩ ⟨rfl, rfl, rfl, trivial⟩ (Nat.le_refl _)) ?_
            refine aw_cond rfl (fun hc => ?_) (fun hc => ?_)
            · replace H := ite_t hc H
              obtain ⟨v7, h8, H⟩ := bnd H
              refine aw_region1 (es := [_, _, _, _, _, _, _, _]) ⟨Step.plain rfl (does_fieldAddr 32 3 7 2 0 0 [] (.var (e_api_Peer p0)) fl32_3), ⟨⟨rfl, trivial⟩, ⟨rfl, trivial⟩, rfl⟩, rfl,
                Step.plain rfl (does_load 29 60 0 (0 + 7) [3] (.var (e_api_Peer p0)) (e_a8_u32 p0.Cut) ⟨rfl, Nat.le_of_ble_eq_true rfl, trivial⟩ rfl rfl ty29), ⟨⟨rfl, trivial⟩, ⟨rfl, trivial⟩, rfl⟩, rfl,
                Step.plain rfl (does_fieldAddr 43 4 13 3 1 0 [] (.var (e_api_Packet p1)) fl43_4), ⟨⟨rfl, trivial⟩, ⟨rfl, trivial⟩, rfl⟩, rfl,
                Step.plain rfl (does_load 29 62 1 (0 + 13) [4] (.var (e_api_Packet p1)) (e_a8_u32 p1.Count) ⟨rfl, Nat.le_of_ble_eq_true rfl, trivial⟩ rfl rfl ty29), ⟨⟨rfl, trivial⟩, ⟨rfl, trivial⟩, rfl⟩, rfl,
                Step.plain rfl (does_buildSl 67 2 8 (e_a8_u32 (fun _ => 0)) (fun j => (e_a8_u32 (([p0.Cut, p1.Count] : _root_.List (Nat → Int)).getD j (fun _ => 0)))) #[(0, (.tmp 61)), (1, (.tmp 63))] [(0, (.tmp 61)), (1, (.tmp 63))] [(0, (e_a8_u32 p0.Cut)), (1, (e_a8_u32 p1.Count))] rfl so67 (by decide) ⟨⟨rfl, trivial⟩, ⟨rfl, trivial⟩, trivial⟩ ⟨⟨Nat.le_of_ble_eq_true rfl, rfl, rfl⟩, ⟨Nat.le_of_ble_eq_true rfl, rfl, rfl⟩, trivial⟩ (fun j h => match j, h with | 0, _ => rfl | 1, _ => rfl | k + 2, h => absurd h (by omega))), ⟨⟨rfl, rfl, trivial⟩, trivial, rfl⟩, rfl,
                Step.plain rfl (does_call 29 0 (fun _ => .any) (.func 29) [(.tmp 64)] [(e_s_a8_u32 ([p0.Cut, p1.Count] : _root_.List (Nat → Int)))] [] true [(e_s_a8_u32 ([p0.Cut, p1.Count] : _root_.List (Nat → Int)))] (e_a8_u32 v7) _ _ rfl fo29 rfl ⟨trivial, trivial⟩ ⟨.data _ (d_s_a8_u32 ([p0.Cut, p1.Count] : _root_.List (Nat → Int))), trivial⟩ (cut_Union_spec ([p0.Cut, p1.Count] : _root_.List (Nat → Int)) _ h8) (f_a8_u32 v7)), ⟨⟨rfl, trivial⟩, trivial, rfl⟩, rfl,
                Step.plain rfl (does_fieldAddr 32 3 7 2 0 0 [] (.var (e_api_Peer p0)) fl32_3), ⟨⟨rfl, trivial⟩, ⟨rfl, trivial⟩, rfl⟩, rfl,
                Step.plain rfl (does_store 29 66 (.tmp 65) 0 (0 + 7) [3] (.var (e_api_Peer p0)) (.var (e_api_Peer ({ p0 with Cut := v7 }))) (e_a8_u32 v7) true trivial rfl ⟨rfl, Nat.le_of_ble_eq_true rfl, trivial⟩ rfl rfl (congrArg Box.var (set_cons rfl (st_api_Peer_3 _ _))) ty29), ⟨⟨rfl, rfl, trivial⟩, ⟨rfl, trivial⟩, rfl⟩, rfl, rfl⟩ ?_
              refine nx_blk ?_
              exact nx_join ({ p0 with Cut := v7 }) H (cov_prune ⟨rfl, rfl, rfl, trivial⟩ ⟨rfl, rfl, rfl, trivial⟩ (Nat.le_of_ble_eq_true rfl))
            · replace H := ite_f hc H
              refine aw_skip ?_
              refine nx_blk ?_
              exact nx_join (p0) H (cov_prune ⟨rfl, rfl, rfl, trivial⟩ ⟨rfl, rfl, rfl, trivial⟩ (Nat.le_of_ble_eq_true rfl))

theorem congresslaw12_GatherOrder_spec (p0 : api_Peer) (p1 : api_Packet) (p2 : api_Packet) (r : Bool) (H : congresslaw12_GatherOrder p0 p1 p2 = some r) : FSpec Try.prog 5 [(e_api_Peer p0), (e_api_Packet p1), (e_api_Packet p2)] (.bool r) := by
  refine spec_of (fn := Try.f5) (args := [(e_api_Peer p0), (e_api_Packet p1), (e_api_Packet p2)]) Try.func5 rfl (Nat.le_of_ble_eq_true rfl) ?_
  rintro ⟨G, w0, W, S, Sp⟩ hG
  cases hG
  unfold congresslaw12_GatherOrder at H
  refine aw_region (es := [_, _, _, _]) ⟨Step.plain rfl (does_box 32 (.tmp 0) 0 (e_api_Peer p0) trivial rfl), ⟨⟨rfl, trivial⟩, trivial, rfl⟩, rfl,
    Step.plain rfl (does_box 43 (.tmp 1) 1 (e_api_Packet p1) trivial rfl), ⟨⟨rfl, trivial⟩, trivial, rfl⟩, rfl,
    Step.plain rfl (does_box 43 (.tmp 2) 2 (e_api_Packet p2) trivial rfl), ⟨⟨rfl, trivial⟩, trivial, rfl⟩, rfl,
    Step.plain rfl (does_assign (.const (.bool false)) (.bool false) (fun _ => rfl)), ⟨trivial, trivial, rfl⟩, rfl, rfl⟩ ?_
  refine aw_cov (cov_prune (s1 := ⟨[(3, (.ptr 0 0 [])), (4, (.ptr 1 0 [])), (5, (.ptr 2 0 []))], [(0, some (.var (e_api_Peer p0))), (1, some (.var (e_api_Packet p1))), (2, some (.var (e_api_Packet p2)))], 3⟩) ⟨rfl, rfl, rfl, trivial⟩ ⟨rfl, rfl, rfl, trivial⟩ (Nat.le_refl _)) ?_
  obtain ⟨v1, h2, H⟩ := bnd H
  refine aw_region (es := [_, _, _, _, _]) ⟨Step.plain rfl (does_load 32 3 0 0 [] (.var (e_api_Peer p0)) (e_api_Peer p0) trivial rfl rfl ty32), ⟨⟨rfl, trivial⟩, ⟨rfl, trivial⟩, rfl⟩, rfl,
    Step.plain rfl (does_load 43 4 1 0 [] (.var (e_api_Packet p1)) (e_api_Packet p1) trivial rfl rfl ty43), ⟨⟨rfl, trivial⟩, ⟨rfl, trivial⟩, rfl⟩, rfl,
    Step.plain rfl (does_call 13 0 (fun _ => .any) (.func 13) [(.tmp 8), (.tmp 9)] [(e_api_Peer p0), (e_api_Packet p1)] [] true [(e_api_Peer p0), (e_api_Packet p1)] (e_api_Peer v1) _ _ rfl fo13 rfl ⟨trivial, trivial, trivial⟩ ⟨.data _ (d_api_Peer p0), .data _ (d_api_Packet p1), trivial⟩ (gather_Update_spec p0 p1 _ h2) (f_api_Peer v1)), ⟨⟨rfl, rfl, trivial⟩, trivial, rfl⟩, rfl,
    Step.plain rfl (does_alloc 32 3 (e_api_Peer z_api_Peer) zr32), ⟨trivial, trivial, rfl⟩, rfl,
    Step.plain rfl (does_store 32 7 (.tmp 10) 3 0 [] (.var (e_api_Peer z_api_Peer)) (.var (e_api_Peer v1)) (e_api_Peer v1) true trivial rfl trivial rfl rfl rfl ty32), ⟨⟨rfl, rfl, trivial⟩, ⟨rfl, trivial⟩, rfl⟩, rfl, rfl⟩ ?_
  refine aw_cov (cov_prune (s1 := ⟨[(4, (.ptr 1 0 [])), (5, (.ptr 2 0 [])), (7, (.ptr 3 0 []))], [(1, some (.var (e_api_Packet p1))), (2, some (.var (e_api_Packet p2))), (3, some (.var (e_api_Peer v1)))], 4⟩) ⟨rfl, rfl, rfl, trivial⟩ ⟨rfl, rfl, rfl, trivial⟩ (Nat.le_refl _)) ?_
  refine aw_seq ?_
  obtain ⟨v3, h4, H⟩ := bnd H
  obtain ⟨v5, h6, H⟩ := whn_of H
  refine aw_draw (es := [_, _, _, _, _, _, _, _, _]) (mixed) ⟨Step.plain rfl (does_call 8 0 (fun _ => .any) (.func 8) [] [] [] true [] (.bool v3) _ _ rfl fo8 rfl trivial trivial (congresslaw12_fixed_spec _ h4) trivial), ⟨trivial, trivial, rfl⟩, rfl,
    Step.plain rfl (does_not 4 (.tmp 11) v3 trivial), ⟨⟨rfl, trivial⟩, trivial, rfl⟩, rfl,
    Step.plain rfl (does_move (.tmp 12) (.bool (!v3)) trivial), ⟨⟨rfl, trivial⟩, trivial, rfl⟩, rfl,
    Step.guarded rfl rfl rfl rfl (fun hc => does_load 32 7 3 0 [] (.var (e_api_Peer v1)) (e_api_Peer v1) trivial rfl rfl ty32), ⟨⟨rfl, rfl, trivial⟩, ⟨rfl, trivial⟩, rfl⟩, rfl,
    Step.guarded rfl rfl rfl rfl (fun hc => does_load 43 4 1 0 [] (.var (e_api_Packet p1)) (e_api_Packet p1) trivial rfl rfl ty43), ⟨⟨rfl, rfl, trivial⟩, ⟨rfl, trivial⟩, rfl⟩, rfl,
    Step.guarded rfl rfl rfl rfl (fun hc => Does.strip (n' := [(14, (.opt (!(!v3)) (e_api_Peer v1))), (15, (.opt (!(!v3)) (e_api_Packet p1)))]) (n := [(14, (e_api_Peer v1)), (15, (e_api_Packet p1))]) ⟨(.opt _ _ hc), (.opt _ _ hc), trivial⟩ (does_call 13 0 (fun _ => .any) (.func 13) [(.tmp 14), (.tmp 15)] [(e_api_Peer v1), (e_api_Packet p1)] [] true [(e_api_Peer v1), (e_api_Packet p1)] (e_api_Peer v5) _ _ rfl fo13 rfl ⟨trivial, trivial, trivial⟩ ⟨.data _ (d_api_Peer v1), .data _ (d_api_Packet p1), trivial⟩ (gather_Update_spec v1 p1 _ (h6 hc)) (f_api_Peer v5))), ⟨⟨rfl, rfl, rfl, trivial⟩, trivial, rfl⟩, rfl,
    Step.guarded rfl rfl rfl rfl (fun hc => does_load 32 7 3 0 [] (.var (e_api_Peer v1)) (e_api_Peer v1) trivial rfl rfl ty32), ⟨⟨rfl, rfl, trivial⟩, ⟨rfl, trivial⟩, rfl⟩, rfl,
    Step.guarded rfl rfl rfl rfl (fun hc => Does.strip (n' := [(16, (.opt (!(!v3)) (e_api_Peer v5))), (17, (.opt (!(!v3)) (e_api_Peer v1)))]) (n := [(16, (e_api_Peer v5)), (17, (e_api_Peer v1))]) ⟨(.opt _ _ hc), (.opt _ _ hc), trivial⟩ (does_eqT true 32 32 (.tmp 16) (.tmp 17) (e_api_Peer v5) (e_api_Peer v1) (e_api_Peer z_api_Peer) (b_api_Peer v5 v1) rfl rfl trivial trivial eg32 sh32 (al_api_Peer _ _) (al_api_Peer _ _) (q_api_Peer _ _))), ⟨⟨rfl, rfl, rfl, trivial⟩, trivial, rfl⟩, rfl,
    Step.plain rfl (does_or 13 18 (!v3) (!(b_api_Peer v5 v1))), ⟨⟨rfl, rfl, trivial⟩, trivial, rfl⟩, rfl, rfl⟩ rfl ?_
  refine aw_cov (cov_prune (s1 := ⟨[(4, (.ptr 1 0 [])), (5, (.ptr 2 0 [])), (7, (.ptr 3 0 [])), (19, (.bool ((!v3) || (!(b_api_Peer v5 v1)))))], [(1, some (.var (e_api_Packet p1))), (2, some (.var (e_api_Packet p2))), (3, some (.var (e_api_Peer v1)))], 4⟩) ⟨rfl, rfl, rfl, rfl, trivial⟩ ⟨rfl, rfl, rfl, trivial⟩ (Nat.le_refl _)) ?_
  refine aw_cond rfl (fun hc => ?_) (fun hc => ?_)
  · replace H := ite_t hc H
    refine aw_region (es := [_]) ⟨Step.plain rfl (does_assign (.const (.bool false)) (.bool false) (fun _ => rfl)), ⟨trivial, trivial, rfl⟩, rfl, rfl⟩ ?_
    refine aw_cov (cov_prune (s1 := ⟨[(6, (.bool false))], [], 4⟩) ⟨rfl, trivial⟩ trivial (Nat.le_refl _)) ?_
    refine aw_ret ?_
    refine rt_then ?_
    exact fun a w hr => ⟨_, [(.bool false)], hr, ⟨⟨_, rfl, .data _ trivial⟩, trivial⟩, by decide, by cases H; rfl⟩
  · replace H := ite_f hc H
    refine aw_skip ?_
    refine nx_seq ?_
    obtain ⟨v7, h8, H⟩ := bnd H
    obtain ⟨v9, h10, H⟩ := bnd H
    obtain ⟨v11, h12, H⟩ := bnd H
    refine aw_draw (es := [_, _, _, _, _, _, _, _, _, _]) (mixed) ⟨Step.plain rfl (does_load 32 7 3 0 [] (.var (e_api_Peer v1)) (e_api_Peer v1) trivial rfl rfl ty32), ⟨⟨rfl, trivial⟩, ⟨rfl, trivial⟩, rfl⟩, rfl,
      Step.plain rfl (does_load 43 5 2 0 [] (.var (e_api_Packet p2)) (e_api_Packet p2) trivial rfl rfl ty43), ⟨⟨rfl, trivial⟩, ⟨rfl, trivial⟩, rfl⟩, rfl,
      Step.plain rfl (does_call 13 0 (fun _ => .any) (.func 13) [(.tmp 20), (.tmp 21)] [(e_api_Peer v1), (e_api_Packet p2)] [] true [(e_api_Peer v1), (e_api_Packet p2)] (e_api_Peer v7) _ _ rfl fo13 rfl ⟨trivial, trivial, trivial⟩ ⟨.data _ (d_api_Peer v1), .data _ (d_api_Packet p2), trivial⟩ (gather_Update_spec v1 p2 _ h8) (f_api_Peer v7)), ⟨⟨rfl, rfl, trivial⟩, trivial, rfl⟩, rfl,
      Step.plain rfl (does_load 43 4 1 0 [] (.var (e_api_Packet p1)) (e_api_Packet p1) trivial rfl rfl ty43), ⟨⟨rfl, trivial⟩, ⟨rfl, trivial⟩, rfl⟩, rfl,
      Step.plain rfl (does_call 13 0 (fun _ => .any) (.func 13) [(.tmp 22), (.tmp 23)] [(e_api_Peer v7), (e_api_Packet p1)] [] true [(e_api_Peer v7), (e_api_Packet p1)] (e_api_Peer v9) _ _ rfl fo13 rfl ⟨trivial, trivial, trivial⟩ ⟨.data _ (d_api_Peer v7), .data _ (d_api_Packet p1), trivial⟩ (gather_Update_spec v7 p1 _ h10) (f_api_Peer v9)), ⟨⟨rfl, rfl, trivial⟩, trivial, rfl⟩, rfl,
      Step.plain rfl (does_load 32 7 3 0 [] (.var (e_api_Peer v1)) (e_api_Peer v1) trivial rfl rfl ty32), ⟨⟨rfl, trivial⟩, ⟨rfl, trivial⟩, rfl⟩, rfl,
      Step.plain rfl (does_load 43 5 2 0 [] (.var (e_api_Packet p2)) (e_api_Packet p2) trivial rfl rfl ty43), ⟨⟨rfl, trivial⟩, ⟨rfl, trivial⟩, rfl⟩, rfl,
      Step.plain rfl (does_call 13 0 (fun _ => .any) (.func 13) [(.tmp 25), (.tmp 26)] [(e_api_Peer v1), (e_api_Packet p2)] [] true [(e_api_Peer v1), (e_api_Packet p2)] (e_api_Peer v11) _ _ rfl fo13 rfl ⟨trivial, trivial, trivial⟩ ⟨.data _ (d_api_Peer v1), .data _ (d_api_Packet p2), trivial⟩ (gather_Update_spec v1 p2 _ h12) (f_api_Peer v11)), ⟨⟨rfl, rfl, trivial⟩, trivial, rfl⟩, rfl,
      Step.plain rfl (does_eqT false 32 32 (.tmp 24) (.tmp 27) (e_api_Peer v9) (e_api_Peer v11) (e_api_Peer z_api_Peer) (b_api_Peer v9 v11) rfl rfl trivial trivial eg32 sh32 (al_api_Peer _ _) (al_api_Peer _ _) (q_api_Peer _ _)), ⟨⟨rfl, rfl, trivial⟩, trivial, rfl⟩, rfl,
      Step.plain rfl (does_assign (.tmp 28) (.bool (b_api_Peer v9 v11)) trivial), ⟨⟨rfl, trivial⟩, trivial, rfl⟩, rfl, rfl⟩ rfl ?_
    refine aw_cov (cov_prune (s1 := ⟨[(6, (.bool (b_api_Peer v9 v11)))], [], 4⟩) ⟨rfl, trivial⟩ trivial (Nat.le_refl _)) ?_
    refine aw_ret ?_
    exact fun a w hr => ⟨_, [(.bool (b_api_Peer v9 v11))], hr, ⟨⟨_, rfl, .data _ trivial⟩, trivial⟩, by decide, by cases H; rfl⟩
end Go.Proofs.Yteajgbkgijaebaa
