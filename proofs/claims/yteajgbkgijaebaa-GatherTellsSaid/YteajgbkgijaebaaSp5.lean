/- Printed by gen.py. Conditions: none. -/
import Derived.Test.YteajgbkgijaebaaSp4
import Derived.KernelRfl
set_option linter.unusedVariables false
set_option maxRecDepth 100000
namespace Go.Proofs.Yteajgbkgijaebaa
open Go.Eng
set_option maxHeartbeats 1600000
theorem congressref12_others_spec (p0 : api_Core) (r : (_root_.List Int)) (H : congressref12_others p0 = some r) : FSpecO Try.prog 34 [(e_api_Core p0)] [] 0 (.own 0) [(0, some (.arr 1 r.length fun j => (.int .i64 (r.getD j 0))))] 1 := by
  refine specO_of (fn := Try.f34) (args := [(e_api_Core p0)]) Try.func34 rfl (Nat.le_of_ble_eq_true rfl) ?_
  rintro ⟨G, w0, W, S, Sp⟩ hG
  cases hG
  unfold congressref12_others at H
  refine aw_region (es := [_, _]) ⟨Step.plain rfl (does_box 35 (.tmp 0) 0 (e_api_Core p0) trivial rfl), ⟨⟨rfl, trivial⟩, trivial, rfl⟩, rfl,
    Step.plain rfl (does_nil false 1 1 (fun j => (.int .i64 (([] : _root_.List Int).getD j 0)))), ⟨trivial, trivial, rfl⟩, rfl, rfl⟩ ?_
  refine aw_cov (cov_prune (s1 := ⟨[(1, (.ptr 0 0 []))], [(0, some (.var (e_api_Core p0)))], 2⟩) ⟨rfl, trivial⟩ ⟨rfl, trivial⟩ (Nat.le_refl _)) ?_
  obtain ⟨v1, h2, H⟩ := bnd H
  refine aw_region (es := [_, _, _, _]) ⟨Step.plain rfl (does_fieldAddr 35 9 43 1 0 0 [] (.var (e_api_Core p0)) fl35_9), ⟨⟨rfl, trivial⟩, ⟨rfl, trivial⟩, rfl⟩, rfl,
    Step.plain rfl (does_load 28 6 0 (0 + 43) [9] (.var (e_api_Core p0)) (e_a8_u32 p0.Wanted) ⟨rfl, Nat.le_of_ble_eq_true rfl, trivial⟩ rfl rfl ty28), ⟨⟨rfl, trivial⟩, ⟨rfl, trivial⟩, rfl⟩, rfl,
    Step.plain rfl (does_callO 30 0 (fun _ => .any) (.func 30) [(.tmp 7)] [(e_a8_u32 p0.Wanted)] [] [] true [(e_a8_u32 p0.Wanted)] _ (.own 2) _ 2 1 _ _ rfl fo30 rfl ⟨trivial, trivial⟩ ⟨.ro _ _ (.data _ (d_a8_u32 p0.Wanted)), trivial⟩ (congressref07_List_spec p0.Wanted _ h2) rfl (by simp) rfl trivial ⟨⟨Nat.le_of_ble_eq_true rfl, _, rfl, fun _ => trivial⟩, trivial⟩ (.own 0 (Nat.le_of_ble_eq_true rfl))), ⟨⟨rfl, trivial⟩, trivial, rfl⟩, rfl,
    Step.plain rfl (does_assign (.tmp 8) (.own 2) trivial), ⟨⟨rfl, trivial⟩, trivial, rfl⟩, rfl, rfl⟩ ?_
  refine aw_cov (cov_prune (s1 := ⟨[(1, (.ptr 0 0 [])), (3, (.own 2))], [(0, some (.var (e_api_Core p0))), (2, some (.arr 1 v1.length fun j => (.int .i64 (v1.getD j 0))))], 3⟩) ⟨rfl, rfl, trivial⟩ ⟨rfl, rfl, trivial⟩ (Nat.le_refl _)) ?_
  refine aw_region (es := [_, _]) ⟨Step.plain rfl (does_buildOwn 63 0 1 3 (.int .i64 0) (fun j => (.int .i64 (([] : _root_.List Int).getD j 0))) #[] [] [] rfl so63 (by decide) trivial trivial (fun j h => match j, h with  | k + 0, h => absurd h (by omega))), ⟨trivial, trivial, rfl⟩, rfl,
    Step.plain rfl (does_assign (.tmp 9) (.own 3) trivial), ⟨⟨rfl, trivial⟩, trivial, rfl⟩, rfl, rfl⟩ ?_
  refine aw_cov (cov_prune (s1 := ⟨[(1, (.ptr 0 0 [])), (3, (.own 2)), (4, (.own 3))], [(0, some (.var (e_api_Core p0))), (2, some (.arr 1 v1.length fun j => (.int .i64 (v1.getD j 0)))), (3, some (.arr 1 ([] : _root_.List Int).length fun j => (.int .i64 (([] : _root_.List Int).getD j 0))))], 4⟩) ⟨rfl, rfl, rfl, trivial⟩ ⟨rfl, rfl, rfl, trivial⟩ (Nat.le_refl _)) ?_
  refine aw_seq ?_
  refine aw_region (es := [_]) ⟨Step.plain rfl (does_assign (.const (.int .i64 0)) (.int .i64 0) (fun _ => rfl)), ⟨trivial, trivial, rfl⟩, rfl, rfl⟩ ?_
  refine aw_cov (cov_prune (s1 := ⟨[(1, (.ptr 0 0 [])), (3, (.own 2)), (4, (.own 3)), (5, (.int .i64 0))], [(0, some (.var (e_api_Core p0))), (2, some (.arr 1 v1.length fun j => (.int .i64 (v1.getD j 0)))), (3, some (.arr 1 ([] : _root_.List Int).length fun j => (.int .i64 (([] : _root_.List Int).getD j 0))))], 4⟩) ⟨rfl, rfl, rfl, rfl, trivial⟩ ⟨rfl, rfl, rfl, trivial⟩ (Nat.le_refl _)) ?_
  obtain ⟨wn4, hwn4, Hrn4⟩ := bnd H
  refine aw_meet (fun y10 : _root_.List Int => (⟨[(4, (.own 3))], [(3, some (.arr 1 y10.length fun j => (.int .i64 (y10.getD j 0))))], 4⟩ : St)) (fun y10 => Fl.nx y10 = wn4) (fun y10 hy => ?_) (aw_block (aw_runs (fun x3 : Int × _root_.List Int => (⟨[(1, (.ptr 0 0 [])), (3, (.own 2)), (4, (.own 3)), (5, (.int .i64 x3.1))], [(0, some (.var (e_api_Core p0))), (2, some (.arr 1 v1.length fun j => (.int .i64 (v1.getD j 0)))), (3, some (.arr 1 x3.2.length fun j => (.int .i64 (x3.2.getD j 0))))], 4⟩ : St)) hwn4 (cov_prune ⟨rfl, rfl, rfl, rfl, trivial⟩ ⟨rfl, rfl, rfl, trivial⟩ (Nat.le_of_ble_eq_true rfl)) (fun x3 st H hsn4 => ?_)))
  · have H := nx_of hy Hrn4
    refine nx_seq ?_
    refine aw_region (es := [_, _]) ⟨Step.plain rfl (does_move (.tmp 4) (.own 3) trivial), ⟨⟨rfl, trivial⟩, trivial, rfl⟩, rfl,
      Step.plain rfl (does_assign (.tmp 30) (.own 3) trivial), ⟨⟨rfl, trivial⟩, trivial, rfl⟩, rfl, rfl⟩ ?_
    refine aw_cov (cov_prune (s1 := ⟨[(2, (.own 3))], [(3, some (.arr 1 y10.length fun j => (.int .i64 (y10.getD j 0))))], 4⟩) ⟨rfl, trivial⟩ ⟨rfl, trivial⟩ (Nat.le_refl _)) ?_
    refine aw_ret ?_
    exact fun a w hr => ⟨_, [(.own 0)], reach_of hr (cov_to (s1 := ⟨[(2, (.own 0))], [(0, some (.arr 1 y10.length fun j => (.int .i64 (y10.getD j 0))))], 1⟩) (fun i => match i with | 0 => 3 | k => k) [] ⟨⟨_, rfl, .own 0 _ _ (Nat.le_of_ble_eq_true rfl) rfl rfl (Box.like_refl _)⟩, trivial⟩ ⟨⟨Nat.le_of_ble_eq_true rfl, _, _, rfl, rfl, boxTo_arr (fun _ => trivial)⟩, trivial⟩ rfl rfl), ⟨rfl, trivial⟩, by decide, by cases H; rfl, by cases H; exact ⟨rfl, trivial⟩, Nat.le_of_ble_eq_true rfl⟩
  · refine aw_seq ?_
    refine aw_region (es := [_, _, _, _]) ⟨Step.plain rfl (does_move (.tmp 5) (.int .i64 x3.1) trivial), ⟨⟨rfl, trivial⟩, trivial, rfl⟩, rfl,
      Step.plain rfl (does_move (.tmp 3) (.own 2) trivial), ⟨⟨rfl, trivial⟩, trivial, rfl⟩, rfl,
      Step.plain rfl (does_leno 63 1 v1.length 11 2 (fun j => (.int .i64 (v1.getD j 0))) el63), ⟨⟨rfl, trivial⟩, ⟨rfl, trivial⟩, rfl⟩, rfl,
      Step.plain rfl (does_bin .lss 3 3 (.tmp 10) (.tmp 12) .i64 x3.1 (v1.length : Int) (.bool (decide (x3.1 < (v1.length : Int)))) trivial trivial (bin_lss _ _ _ _)), ⟨⟨rfl, rfl, trivial⟩, trivial, rfl⟩, rfl, rfl⟩ ?_
    refine aw_cov (cov_prune (s1 := ⟨[(1, (.ptr 0 0 [])), (3, (.own 2)), (4, (.own 3)), (5, (.int .i64 x3.1)), (13, (.bool (decide (x3.1 < (v1.length : Int)))))], [(0, some (.var (e_api_Core p0))), (2, some (.arr 1 v1.length fun j => (.int .i64 (v1.getD j 0)))), (3, some (.arr 1 x3.2.length fun j => (.int .i64 (x3.2.getD j 0))))], 4⟩) ⟨rfl, rfl, rfl, rfl, rfl, trivial⟩ ⟨rfl, rfl, rfl, trivial⟩ (Nat.le_refl _)) ?_
    refine aw_cond rfl (fun hc => ?_) (fun hc => ?_)
    · replace H := ite_t hc H
      refine aw_skip ?_
      refine nx_seq ?_
      refine aw_seq ?_
      refine aw_jn (fun x9 : _root_.List Int => (⟨[(1, (.ptr 0 0 [])), (3, (.own 2)), (4, (.own 3)), (5, (.int .i64 x3.1))], [(0, some (.var (e_api_Core p0))), (2, some (.arr 1 v1.length fun j => (.int .i64 (v1.getD j 0)))), (3, some (.arr 1 x9.length fun j => (.int .i64 (x9.getD j 0))))], 5⟩ : St)) H (fun x9 H => ?_) (fun j5 H => ?_)
      · refine nx_seq ?_
        refine aw_region1 (es := [_, _, _]) ⟨Step.plain rfl (does_move (.tmp 5) (.int .i64 x3.1) trivial), ⟨⟨rfl, trivial⟩, trivial, rfl⟩, rfl,
          Step.plain rfl (does_bin .add 3 3 (.tmp 14) (.const (.int .i64 1)) .i64 x3.1 1 (.int .i64 (IntKind.i64.wrap (x3.1 + 1))) trivial (fun _ => rfl) (bin_add _ _ _ _)), ⟨⟨rfl, trivial⟩, trivial, rfl⟩, rfl,
          Step.plain rfl (does_assign (.tmp 15) (.int .i64 (IntKind.i64.wrap (x3.1 + 1))) trivial), ⟨⟨rfl, trivial⟩, trivial, rfl⟩, rfl, rfl⟩ ?_
        exact nx_loop ((IntKind.i64.wrap (x3.1 + 1)), x9) H (cov_of (fun i => match i with | 0 => 0 | 2 => 2 | 3 => 3 | k => k) ⟨⟨_, rfl, ⟨rfl, Nat.le_of_ble_eq_true rfl⟩⟩, ⟨_, rfl, ⟨rfl, Nat.le_of_ble_eq_true rfl⟩⟩, ⟨_, rfl, ⟨rfl, Nat.le_of_ble_eq_true rfl⟩⟩, ⟨_, rfl, ⟨rfl, trivial⟩⟩, trivial⟩ ⟨⟨Nat.le_of_ble_eq_true rfl, _, _, rfl, rfl, .inl ⟨rfl, (d_api_Core _).plain⟩⟩, ⟨Nat.le_of_ble_eq_true rfl, _, _, rfl, rfl, ⟨rfl, rfl, fun _ => ⟨rfl, trivial⟩⟩⟩, ⟨Nat.le_of_ble_eq_true rfl, _, _, rfl, rfl, ⟨rfl, rfl, fun _ => ⟨rfl, trivial⟩⟩⟩, trivial⟩ rfl)
      · refine aw_block ?_
        obtain ⟨h6, H⟩ := ib_of H
        refine aw_draw (es := [_, _, _, _, _, _, _]) (mixed) ⟨Step.plain rfl (does_move (.tmp 3) (.own 2) trivial), ⟨⟨rfl, trivial⟩, trivial, rfl⟩, rfl,
          Step.plain rfl (does_move (.tmp 5) (.int .i64 x3.1) trivial), ⟨⟨rfl, trivial⟩, trivial, rfl⟩, rfl,
          Step.plain rfl (does_indexAddro 63 1 v1.length 16 2 (fun j => (.int .i64 (v1.getD j 0))) (.tmp 17) .i64 x3.1 el63 trivial h6.1 h6.2), ⟨⟨rfl, rfl, trivial⟩, ⟨rfl, trivial⟩, rfl⟩, rfl,
          Step.plain rfl (does_load 3 18 2 (x3.1.toNat * 1) [x3.1.toNat] (.arr 1 v1.length fun j => (.int .i64 (v1.getD j 0))) (.int .i64 (v1.getD x3.1.toNat 0)) ⟨(ixl h6), trivial⟩ rfl rfl ty3), ⟨⟨rfl, trivial⟩, ⟨rfl, trivial⟩, rfl⟩, rfl,
          Step.plain rfl (does_fieldAddr 35 0 0 1 0 0 [] (.var (e_api_Core p0)) fl35_0), ⟨⟨rfl, trivial⟩, ⟨rfl, trivial⟩, rfl⟩, rfl,
          Step.plain rfl (does_load 3 20 0 (0 + 0) [0] (.var (e_api_Core p0)) (.int .i64 p0.Self) ⟨rfl, Nat.le_of_ble_eq_true rfl, trivial⟩ rfl rfl ty3), ⟨⟨rfl, trivial⟩, ⟨rfl, trivial⟩, rfl⟩, rfl,
          Step.plain rfl (does_bin .neq 3 3 (.tmp 19) (.tmp 21) .i64 (v1.getD x3.1.toNat 0) p0.Self (.bool ((v1.getD x3.1.toNat 0) != p0.Self)) trivial trivial (bin_neq _ _ _ _)), ⟨⟨rfl, rfl, trivial⟩, trivial, rfl⟩, rfl, rfl⟩ rfl ?_
        refine aw_cov (cov_prune (s1 := ⟨[(1, (.ptr 0 0 [])), (3, (.own 2)), (4, (.own 3)), (5, (.int .i64 x3.1)), (22, (.bool ((v1.getD x3.1.toNat 0) != p0.Self)))], [(0, some (.var (e_api_Core p0))), (2, some (.arr 1 v1.length fun j => (.int .i64 (v1.getD j 0)))), (3, some (.arr 1 x3.2.length fun j => (.int .i64 (x3.2.getD j 0))))], 4⟩) ⟨rfl, rfl, rfl, rfl, rfl, trivial⟩ ⟨rfl, rfl, rfl, trivial⟩ (Nat.le_refl _)) ?_
        refine aw_cond rfl (fun hc => ?_) (fun hc => ?_)
        · replace H := ite_t hc H
          obtain ⟨h7, H⟩ := ib_of H
          obtain ⟨h8, H⟩ := fit_of H
          refine aw_region1 (es := [_, _, _, _, _, _, _, _]) ⟨Step.plain rfl (does_move (.tmp 4) (.own 3) trivial), ⟨⟨rfl, trivial⟩, trivial, rfl⟩, rfl,
            Step.plain rfl (does_move (.tmp 3) (.own 2) trivial), ⟨⟨rfl, trivial⟩, trivial, rfl⟩, rfl,
            Step.plain rfl (does_move (.tmp 5) (.int .i64 x3.1) trivial), ⟨⟨rfl, trivial⟩, trivial, rfl⟩, rfl,
            Step.plain rfl (does_indexAddro 63 1 v1.length 24 2 (fun j => (.int .i64 (v1.getD j 0))) (.tmp 25) .i64 x3.1 el63 trivial h7.1 h7.2), ⟨⟨rfl, rfl, trivial⟩, ⟨rfl, trivial⟩, rfl⟩, rfl,
            Step.plain rfl (does_load 3 26 2 (x3.1.toNat * 1) [x3.1.toNat] (.arr 1 v1.length fun j => (.int .i64 (v1.getD j 0))) (.int .i64 (v1.getD x3.1.toNat 0)) ⟨(ixl h7), trivial⟩ rfl rfl ty3), ⟨⟨rfl, trivial⟩, ⟨rfl, trivial⟩, rfl⟩, rfl,
            Step.plain rfl (does_buildSl 63 1 1 (.int .i64 0) (fun j => (.int .i64 (([v1.getD x3.1.toNat 0] : _root_.List Int).getD j 0))) #[(0, (.tmp 27))] [(0, (.tmp 27))] [(0, (.int .i64 (v1.getD x3.1.toNat 0)))] rfl so63 (by decide) ⟨⟨rfl, trivial⟩, trivial⟩ ⟨⟨Nat.le_of_ble_eq_true rfl, rfl, rfl⟩, trivial⟩ (fun j h => match j, h with | 0, _ => rfl | k + 1, h => absurd h (by omega))), ⟨⟨rfl, trivial⟩, trivial, rfl⟩, rfl,
            Step.plain rfl (does_appendL (fun z => V.int .i64 z) 0 x3.2 ([v1.getD x3.1.toNat 0] : _root_.List Int) 63 1 8 3 4 23 28 ap63 h8), ⟨⟨rfl, rfl, trivial⟩, ⟨rfl, trivial⟩, rfl⟩, rfl,
            Step.plain rfl (does_assign (.tmp 29) (.own 4) trivial), ⟨⟨rfl, trivial⟩, trivial, rfl⟩, rfl, rfl⟩ ?_
          refine nx_blk ?_
          exact nx_join ((x3.2 ++ ([v1.getD x3.1.toNat 0] : _root_.List Int))) H (cov_of (fun i => match i with | 0 => 0 | 2 => 2 | 3 => 4 | k => k) ⟨⟨_, rfl, ⟨rfl, Nat.le_of_ble_eq_true rfl⟩⟩, ⟨_, rfl, ⟨rfl, Nat.le_of_ble_eq_true rfl⟩⟩, ⟨_, rfl, ⟨rfl, Nat.le_of_ble_eq_true rfl⟩⟩, ⟨_, rfl, ⟨rfl, trivial⟩⟩, trivial⟩ ⟨⟨Nat.le_of_ble_eq_true rfl, _, _, rfl, rfl, .inl ⟨rfl, (d_api_Core _).plain⟩⟩, ⟨Nat.le_of_ble_eq_true rfl, _, _, rfl, rfl, ⟨rfl, rfl, fun _ => ⟨rfl, trivial⟩⟩⟩, ⟨Nat.le_of_ble_eq_true rfl, _, _, rfl, rfl, ⟨rfl, rfl, fun _ => ⟨rfl, trivial⟩⟩⟩, trivial⟩ rfl)
        · replace H := ite_f hc H
          refine aw_skip ?_
          refine nx_blk ?_
          exact nx_join (x3.2) H (cov_of (fun i => match i with | 0 => 0 | 2 => 2 | 3 => 3 | k => k) ⟨⟨_, rfl, ⟨rfl, Nat.le_of_ble_eq_true rfl⟩⟩, ⟨_, rfl, ⟨rfl, Nat.le_of_ble_eq_true rfl⟩⟩, ⟨_, rfl, ⟨rfl, Nat.le_of_ble_eq_true rfl⟩⟩, ⟨_, rfl, ⟨rfl, trivial⟩⟩, trivial⟩ ⟨⟨Nat.le_of_ble_eq_true rfl, _, _, rfl, rfl, .inl ⟨rfl, (d_api_Core _).plain⟩⟩, ⟨Nat.le_of_ble_eq_true rfl, _, _, rfl, rfl, ⟨rfl, rfl, fun _ => ⟨rfl, trivial⟩⟩⟩, ⟨Nat.le_of_ble_eq_true rfl, _, _, rfl, rfl, ⟨rfl, rfl, fun _ => ⟨rfl, trivial⟩⟩⟩, trivial⟩ rfl)
    · replace H := ite_f hc H
      refine aw_exit ?_
      refine ex_then ?_
      refine ex_then ?_
      refine ex_here ?_
      exact nx_ljoin (x3.2) H hsn4 (cov_prune ⟨rfl, trivial⟩ ⟨rfl, trivial⟩ (Nat.le_of_ble_eq_true rfl))

theorem congressref12_others_data (p0 : api_Core) (r : (_root_.List Int)) (H : congressref12_others p0 = some r) : FSpec Try.prog 34 [(e_api_Core p0)] (e_s_i64 r) :=
  FSpecO.toData (fz := [0]) (congressref12_others_spec p0 r H) (d_s_i64 r) (.frz 0 _ _ _ rfl (fun _ => trivial) (by decide))

theorem congressref12_All_spec (p0 : api_Core) (r : Bool) (H : congressref12_All p0 = some r) : FSpec Try.prog 18 [(e_api_Core p0)] (.bool r) := by
  refine spec_of (fn := Try.f18) (args := [(e_api_Core p0)]) Try.func18 rfl (Nat.le_of_ble_eq_true rfl) ?_
  rintro ⟨G, w0, W, S, Sp⟩ hG
  cases hG
  unfold congressref12_All at H
  refine aw_region (es := [_, _]) ⟨Step.plain rfl (does_box 35 (.tmp 0) 0 (e_api_Core p0) trivial rfl), ⟨⟨rfl, trivial⟩, trivial, rfl⟩, rfl,
    Step.plain rfl (does_assign (.const (.bool false)) (.bool false) (fun _ => rfl)), ⟨trivial, trivial, rfl⟩, rfl, rfl⟩ ?_
  refine aw_cov (cov_prune (s1 := ⟨[(1, (.ptr 0 0 []))], [(0, some (.var (e_api_Core p0)))], 1⟩) ⟨rfl, trivial⟩ ⟨rfl, trivial⟩ (Nat.le_refl _)) ?_
  obtain ⟨v1, h2, H⟩ := bnd H
  refine aw_region (es := [_, _, _]) ⟨Step.plain rfl (does_load 35 1 0 0 [] (.var (e_api_Core p0)) (e_api_Core p0) trivial rfl rfl ty35), ⟨⟨rfl, trivial⟩, ⟨rfl, trivial⟩, rfl⟩, rfl,
    Step.plain rfl (does_callO 34 0 (fun _ => .any) (.func 34) [(.tmp 6)] [(e_api_Core p0)] [] [] true [(e_api_Core p0)] _ (.own 1) _ 1 1 _ _ rfl fo34 rfl ⟨trivial, trivial⟩ ⟨.ro _ _ (.data _ (d_api_Core p0)), trivial⟩ (congressref12_others_spec p0 _ h2) rfl (by simp) rfl trivial ⟨⟨Nat.le_of_ble_eq_true rfl, _, rfl, fun _ => trivial⟩, trivial⟩ (.own 0 (Nat.le_of_ble_eq_true rfl))), ⟨⟨rfl, trivial⟩, trivial, rfl⟩, rfl,
    Step.plain rfl (does_assign (.tmp 7) (.own 1) trivial), ⟨⟨rfl, trivial⟩, trivial, rfl⟩, rfl, rfl⟩ ?_
  refine aw_cov (cov_prune (s1 := ⟨[(1, (.ptr 0 0 [])), (3, (.own 1))], [(0, some (.var (e_api_Core p0))), (1, some (.arr 1 v1.length fun j => (.int .i64 (v1.getD j 0))))], 2⟩) ⟨rfl, rfl, trivial⟩ ⟨rfl, rfl, trivial⟩ (Nat.le_refl _)) ?_
  refine aw_seq ?_
  refine aw_region (es := [_]) ⟨Step.plain rfl (does_assign (.const (.int .i64 0)) (.int .i64 0) (fun _ => rfl)), ⟨trivial, trivial, rfl⟩, rfl, rfl⟩ ?_
  refine aw_cov (cov_prune (s1 := ⟨[(1, (.ptr 0 0 [])), (3, (.own 1)), (4, (.int .i64 0))], [(0, some (.var (e_api_Core p0))), (1, some (.arr 1 v1.length fun j => (.int .i64 (v1.getD j 0))))], 2⟩) ⟨rfl, rfl, rfl, trivial⟩ ⟨rfl, rfl, trivial⟩ (Nat.le_refl _)) ?_
  obtain ⟨wn4, hwn4, Hrn4⟩ := bnd H
  refine aw_meet (fun y10 : Unit => (⟨[], [], 2⟩ : St)) (fun y10 => Fl.nx y10 = wn4) (fun y10 hy => ?_) (aw_block (aw_runs (fun x3 : Int => (⟨[(1, (.ptr 0 0 [])), (3, (.own 1)), (4, (.int .i64 x3))], [(0, some (.var (e_api_Core p0))), (1, some (.arr 1 v1.length fun j => (.int .i64 (v1.getD j 0))))], 2⟩ : St)) hwn4 (cov_prune ⟨rfl, rfl, rfl, trivial⟩ ⟨rfl, rfl, trivial⟩ (Nat.le_of_ble_eq_true rfl)) (fun x3 st H hsn4 => ?_)))
  · have H := nx_of hy Hrn4
    refine nx_seq ?_
    refine aw_region (es := [_]) ⟨Step.plain rfl (does_assign (.const (.bool true)) (.bool true) (fun _ => rfl)), ⟨trivial, trivial, rfl⟩, rfl, rfl⟩ ?_
    refine aw_cov (cov_prune (s1 := ⟨[(2, (.bool true))], [], 2⟩) ⟨rfl, trivial⟩ trivial (Nat.le_refl _)) ?_
    refine aw_ret ?_
    exact fun a w hr => ⟨_, [(.bool true)], hr, ⟨⟨_, rfl, .data _ trivial⟩, trivial⟩, by decide, by cases H; rfl⟩
  · refine aw_seq ?_
    refine aw_region (es := [_, _, _, _]) ⟨Step.plain rfl (does_move (.tmp 4) (.int .i64 x3) trivial), ⟨⟨rfl, trivial⟩, trivial, rfl⟩, rfl,
      Step.plain rfl (does_move (.tmp 3) (.own 1) trivial), ⟨⟨rfl, trivial⟩, trivial, rfl⟩, rfl,
      Step.plain rfl (does_leno 63 1 v1.length 9 1 (fun j => (.int .i64 (v1.getD j 0))) el63), ⟨⟨rfl, trivial⟩, ⟨rfl, trivial⟩, rfl⟩, rfl,
      Step.plain rfl (does_bin .lss 3 3 (.tmp 8) (.tmp 10) .i64 x3 (v1.length : Int) (.bool (decide (x3 < (v1.length : Int)))) trivial trivial (bin_lss _ _ _ _)), ⟨⟨rfl, rfl, trivial⟩, trivial, rfl⟩, rfl, rfl⟩ ?_
    refine aw_cov (cov_prune (s1 := ⟨[(1, (.ptr 0 0 [])), (3, (.own 1)), (4, (.int .i64 x3)), (11, (.bool (decide (x3 < (v1.length : Int)))))], [(0, some (.var (e_api_Core p0))), (1, some (.arr 1 v1.length fun j => (.int .i64 (v1.getD j 0))))], 2⟩) ⟨rfl, rfl, rfl, rfl, trivial⟩ ⟨rfl, rfl, trivial⟩ (Nat.le_refl _)) ?_
    refine aw_cond rfl (fun hc => ?_) (fun hc => ?_)
    · replace H := ite_t hc H
      refine aw_skip ?_
      refine nx_seq ?_
      refine aw_seq ?_
      refine aw_block ?_
      obtain ⟨h5, H⟩ := ib_of H
      obtain ⟨h6, H⟩ := ib_of H
      refine aw_region (es := [_, _, _, _, _, _, _, _, _]) ⟨Step.plain rfl (does_move (.tmp 3) (.own 1) trivial), ⟨⟨rfl, trivial⟩, trivial, rfl⟩, rfl,
        Step.plain rfl (does_move (.tmp 4) (.int .i64 x3) trivial), ⟨⟨rfl, trivial⟩, trivial, rfl⟩, rfl,
        Step.plain rfl (does_indexAddro 63 1 v1.length 14 1 (fun j => (.int .i64 (v1.getD j 0))) (.tmp 15) .i64 x3 el63 trivial h5.1 h5.2), ⟨⟨rfl, rfl, trivial⟩, ⟨rfl, trivial⟩, rfl⟩, rfl,
        Step.plain rfl (does_load 3 16 1 (x3.toNat * 1) [x3.toNat] (.arr 1 v1.length fun j => (.int .i64 (v1.getD j 0))) (.int .i64 (v1.getD x3.toNat 0)) ⟨(ixl h5), trivial⟩ rfl rfl ty3), ⟨⟨rfl, trivial⟩, ⟨rfl, trivial⟩, rfl⟩, rfl,
        Step.plain rfl (does_fieldAddr 35 12 60 1 0 0 [] (.var (e_api_Core p0)) fl35_12), ⟨⟨rfl, trivial⟩, ⟨rfl, trivial⟩, rfl⟩, rfl,
        Step.plain rfl (does_indexAddr 33 8 16 18 0 (0 + 60) [12] (.var (e_api_Core p0)) (.tmp 17) .i64 (v1.getD x3.toNat 0) el33 trivial h6.1 h6.2), ⟨⟨rfl, rfl, trivial⟩, ⟨rfl, trivial⟩, rfl⟩, rfl,
        Step.plain rfl (does_load 32 19 0 ((0 + 60) + (v1.getD x3.toNat 0).toNat * 16) [12, (v1.getD x3.toNat 0).toNat] (.var (e_api_Core p0)) (e_api_Peer (p0.Peers ((v1.getD x3.toNat 0).toNat))) ⟨rfl, Nat.le_of_ble_eq_true rfl, ⟨rfl, (ixl h6), trivial⟩⟩ rfl rfl ty32), ⟨⟨rfl, trivial⟩, ⟨rfl, trivial⟩, rfl⟩, rfl,
        Step.plain rfl (does_alloc 32 2 (e_api_Peer z_api_Peer) zr32), ⟨trivial, trivial, rfl⟩, rfl,
        Step.plain rfl (does_store 32 5 (.tmp 20) 2 0 [] (.var (e_api_Peer z_api_Peer)) (.var (e_api_Peer (p0.Peers ((v1.getD x3.toNat 0).toNat)))) (e_api_Peer (p0.Peers ((v1.getD x3.toNat 0).toNat))) true trivial rfl trivial rfl rfl rfl ty32), ⟨⟨rfl, rfl, trivial⟩, ⟨rfl, trivial⟩, rfl⟩, rfl, rfl⟩ ?_
      refine aw_cov (cov_prune (s1 := ⟨[(1, (.ptr 0 0 [])), (3, (.own 1)), (4, (.int .i64 x3)), (5, (.ptr 2 0 []))], [(0, some (.var (e_api_Core p0))), (1, some (.arr 1 v1.length fun j => (.int .i64 (v1.getD j 0)))), (2, some (.var (e_api_Peer (p0.Peers ((v1.getD x3.toNat 0).toNat)))))], 3⟩) ⟨rfl, rfl, rfl, rfl, trivial⟩ ⟨rfl, rfl, rfl, trivial⟩ (Nat.le_refl _)) ?_
      obtain ⟨h7, H⟩ := ib_of H
      obtain ⟨h8, H⟩ := ib_of H
      refine aw_draw (es := [_, _, _, _, _, _, _, _, _, _, _, _, _, _, _, _, _]) (mixed) ⟨Step.plain rfl (does_fieldAddr 32 0 0 5 2 0 [] (.var (e_api_Peer (p0.Peers ((v1.getD x3.toNat 0).toNat)))) fl32_0), ⟨⟨rfl, trivial⟩, ⟨rfl, trivial⟩, rfl⟩, rfl,
        Step.plain rfl (does_load 22 21 2 (0 + 0) [0] (.var (e_api_Peer (p0.Peers ((v1.getD x3.toNat 0).toNat)))) (.int .u32 ((p0.Peers ((v1.getD x3.toNat 0).toNat)).Inc)) ⟨rfl, Nat.le_of_ble_eq_true rfl, trivial⟩ rfl rfl ty22), ⟨⟨rfl, trivial⟩, ⟨rfl, trivial⟩, rfl⟩, rfl,
        Step.plain rfl (does_move (.tmp 3) (.own 1) trivial), ⟨⟨rfl, trivial⟩, trivial, rfl⟩, rfl,
        Step.plain rfl (does_move (.tmp 4) (.int .i64 x3) trivial), ⟨⟨rfl, trivial⟩, trivial, rfl⟩, rfl,
        Step.plain rfl (does_indexAddro 63 1 v1.length 23 1 (fun j => (.int .i64 (v1.getD j 0))) (.tmp 24) .i64 x3 el63 trivial h7.1 h7.2), ⟨⟨rfl, rfl, trivial⟩, ⟨rfl, trivial⟩, rfl⟩, rfl,
        Step.plain rfl (does_load 3 25 1 (x3.toNat * 1) [x3.toNat] (.arr 1 v1.length fun j => (.int .i64 (v1.getD j 0))) (.int .i64 (v1.getD x3.toNat 0)) ⟨(ixl h7), trivial⟩ rfl rfl ty3), ⟨⟨rfl, trivial⟩, ⟨rfl, trivial⟩, rfl⟩, rfl,
        Step.plain rfl (does_fieldAddr 35 9 43 1 0 0 [] (.var (e_api_Core p0)) fl35_9), ⟨⟨rfl, trivial⟩, ⟨rfl, trivial⟩, rfl⟩, rfl,
        Step.plain rfl (does_indexAddr 28 8 1 27 0 (0 + 43) [9] (.var (e_api_Core p0)) (.tmp 26) .i64 (v1.getD x3.toNat 0) el28 trivial h8.1 h8.2), ⟨⟨rfl, rfl, trivial⟩, ⟨rfl, trivial⟩, rfl⟩, rfl,
        Step.plain rfl (does_load 22 28 0 ((0 + 43) + (v1.getD x3.toNat 0).toNat * 1) [9, (v1.getD x3.toNat 0).toNat] (.var (e_api_Core p0)) (.int .u32 (p0.Wanted ((v1.getD x3.toNat 0).toNat))) ⟨rfl, Nat.le_of_ble_eq_true rfl, ⟨rfl, (ixl h8), trivial⟩⟩ rfl rfl ty22), ⟨⟨rfl, trivial⟩, ⟨rfl, trivial⟩, rfl⟩, rfl,
        Step.plain rfl (does_bin .neq 22 22 (.tmp 22) (.tmp 29) .u32 ((p0.Peers ((v1.getD x3.toNat 0).toNat)).Inc) (p0.Wanted ((v1.getD x3.toNat 0).toNat)) (.bool (((p0.Peers ((v1.getD x3.toNat 0).toNat)).Inc) != (p0.Wanted ((v1.getD x3.toNat 0).toNat)))) trivial trivial (bin_neq _ _ _ _)), ⟨⟨rfl, rfl, trivial⟩, trivial, rfl⟩, rfl,
        Step.plain rfl (does_move (.tmp 30) (.bool (((p0.Peers ((v1.getD x3.toNat 0).toNat)).Inc) != (p0.Wanted ((v1.getD x3.toNat 0).toNat)))) trivial), ⟨⟨rfl, trivial⟩, trivial, rfl⟩, rfl,
        Step.guarded rfl rfl rfl rfl (fun hc => does_fieldAddr 32 2 4 5 2 0 [] (.var (e_api_Peer (p0.Peers ((v1.getD x3.toNat 0).toNat)))) fl32_2), ⟨⟨rfl, rfl, trivial⟩, ⟨rfl, trivial⟩, rfl⟩, rfl,
        Step.guarded rfl rfl rfl rfl (fun hc => Does.strip (n' := [(32, (.opt (!(((p0.Peers ((v1.getD x3.toNat 0).toNat)).Inc) != (p0.Wanted ((v1.getD x3.toNat 0).toNat)))) (.ptr 2 (0 + 4) [2])))]) (n := [(32, (.ptr 2 (0 + 4) [2]))]) ⟨(.opt _ _ hc), trivial⟩ (does_load 27 32 2 (0 + 4) [2] (.var (e_api_Peer (p0.Peers ((v1.getD x3.toNat 0).toNat)))) (e_api_Id ((p0.Peers ((v1.getD x3.toNat 0).toNat)).Promise)) ⟨rfl, Nat.le_of_ble_eq_true rfl, trivial⟩ rfl rfl ty27)), ⟨⟨rfl, rfl, trivial⟩, ⟨rfl, trivial⟩, rfl⟩, rfl,
        Step.guarded rfl rfl rfl rfl (fun hc => does_fieldAddr 35 8 40 1 0 0 [] (.var (e_api_Core p0)) fl35_8), ⟨⟨rfl, rfl, trivial⟩, ⟨rfl, trivial⟩, rfl⟩, rfl,
        Step.guarded rfl rfl rfl rfl (fun hc => Does.strip (n' := [(34, (.opt (!(((p0.Peers ((v1.getD x3.toNat 0).toNat)).Inc) != (p0.Wanted ((v1.getD x3.toNat 0).toNat)))) (.ptr 0 (0 + 40) [8])))]) (n := [(34, (.ptr 0 (0 + 40) [8]))]) ⟨(.opt _ _ hc), trivial⟩ (does_load 27 34 0 (0 + 40) [8] (.var (e_api_Core p0)) (e_api_Id p0.Promise) ⟨rfl, Nat.le_of_ble_eq_true rfl, trivial⟩ rfl rfl ty27)), ⟨⟨rfl, rfl, trivial⟩, ⟨rfl, trivial⟩, rfl⟩, rfl,
        Step.guarded rfl rfl rfl rfl (fun hc => Does.strip (n' := [(33, (.opt (!(((p0.Peers ((v1.getD x3.toNat 0).toNat)).Inc) != (p0.Wanted ((v1.getD x3.toNat 0).toNat)))) (e_api_Id ((p0.Peers ((v1.getD x3.toNat 0).toNat)).Promise)))), (35, (.opt (!(((p0.Peers ((v1.getD x3.toNat 0).toNat)).Inc) != (p0.Wanted ((v1.getD x3.toNat 0).toNat)))) (e_api_Id p0.Promise)))]) (n := [(33, (e_api_Id ((p0.Peers ((v1.getD x3.toNat 0).toNat)).Promise))), (35, (e_api_Id p0.Promise))]) ⟨(.opt _ _ hc), (.opt _ _ hc), trivial⟩ (does_eqT true 27 27 (.tmp 33) (.tmp 35) (e_api_Id ((p0.Peers ((v1.getD x3.toNat 0).toNat)).Promise)) (e_api_Id p0.Promise) (e_api_Id z_api_Id) (b_api_Id ((p0.Peers ((v1.getD x3.toNat 0).toNat)).Promise) p0.Promise) rfl rfl trivial trivial eg27 sh27 (al_api_Id _ _) (al_api_Id _ _) (q_api_Id _ _))), ⟨⟨rfl, rfl, rfl, trivial⟩, trivial, rfl⟩, rfl,
        Step.plain rfl (does_or 31 36 (((p0.Peers ((v1.getD x3.toNat 0).toNat)).Inc) != (p0.Wanted ((v1.getD x3.toNat 0).toNat))) (!(b_api_Id ((p0.Peers ((v1.getD x3.toNat 0).toNat)).Promise) p0.Promise))), ⟨⟨rfl, rfl, trivial⟩, trivial, rfl⟩, rfl, rfl⟩ rfl ?_
      obtain ⟨v9, hv9, H⟩ := lt_of H
      refine aw_cov (cov_prune (s1 := ⟨[(1, (.ptr 0 0 [])), (3, (.own 1)), (4, (.int .i64 x3)), (37, (.bool v9))], [(0, some (.var (e_api_Core p0))), (1, some (.arr 1 v1.length fun j => (.int .i64 (v1.getD j 0))))], 3⟩) ⟨rfl, rfl, rfl, (by subst hv9; rfl), trivial⟩ ⟨rfl, rfl, trivial⟩ (Nat.le_refl _)) ?_
      refine aw_cond rfl (fun hc => ?_) (fun hc => ?_)
      · replace H := ite_t hc H
        refine aw_region (es := [_]) ⟨Step.plain rfl (does_assign (.const (.bool false)) (.bool false) (fun _ => rfl)), ⟨trivial, trivial, rfl⟩, rfl, rfl⟩ ?_
        refine aw_cov (cov_prune (s1 := ⟨[(2, (.bool false))], [], 3⟩) ⟨rfl, trivial⟩ trivial (Nat.le_refl _)) ?_
        refine aw_ret ?_
        replace H := rt_of H hsn4 Hrn4
        refine rt_blk ?_
        refine rt_then ?_
        refine rt_then ?_
        refine rt_blk ?_
        refine rt_then ?_
        refine rt_then ?_
        exact fun a w hr => ⟨_, [(.bool false)], hr, ⟨⟨_, rfl, .data _ trivial⟩, trivial⟩, by decide, by cases H; rfl⟩
      · replace H := ite_f hc H
        refine aw_skip ?_
        refine nx_blk ?_
        refine nx_seq ?_
        refine aw_region1 (es := [_, _, _]) ⟨Step.plain rfl (does_move (.tmp 4) (.int .i64 x3) trivial), ⟨⟨rfl, trivial⟩, trivial, rfl⟩, rfl,
          Step.plain rfl (does_bin .add 3 3 (.tmp 12) (.const (.int .i64 1)) .i64 x3 1 (.int .i64 (IntKind.i64.wrap (x3 + 1))) trivial (fun _ => rfl) (bin_add _ _ _ _)), ⟨⟨rfl, trivial⟩, trivial, rfl⟩, rfl,
          Step.plain rfl (does_assign (.tmp 13) (.int .i64 (IntKind.i64.wrap (x3 + 1))) trivial), ⟨⟨rfl, trivial⟩, trivial, rfl⟩, rfl, rfl⟩ ?_
        exact nx_loop ((IntKind.i64.wrap (x3 + 1))) H (cov_of (fun i => match i with | 0 => 0 | 1 => 1 | k => k) ⟨⟨_, rfl, ⟨rfl, Nat.le_of_ble_eq_true rfl⟩⟩, ⟨_, rfl, ⟨rfl, Nat.le_of_ble_eq_true rfl⟩⟩, ⟨_, rfl, ⟨rfl, trivial⟩⟩, trivial⟩ ⟨⟨Nat.le_of_ble_eq_true rfl, _, _, rfl, rfl, .inl ⟨rfl, (d_api_Core _).plain⟩⟩, ⟨Nat.le_of_ble_eq_true rfl, _, _, rfl, rfl, ⟨rfl, rfl, fun _ => ⟨rfl, trivial⟩⟩⟩, trivial⟩ rfl)
    · replace H := ite_f hc H
      refine aw_exit ?_
      refine ex_then ?_
      refine ex_then ?_
      refine ex_here ?_
      exact nx_ljoin () H hsn4 (cov_prune trivial trivial (Nat.le_of_ble_eq_true rfl))

theorem congressref12_Target_spec (p0 : api_Core) (r : (Nat → Int)) (H : congressref12_Target p0 = some r) : FSpec Try.prog 19 [(e_api_Core p0)] (e_a8_u32 r) := by
  refine spec_of (fn := Try.f19) (args := [(e_api_Core p0)]) Try.func19 rfl (Nat.le_of_ble_eq_true rfl) ?_
  rintro ⟨G, w0, W, S, Sp⟩ hG
  cases hG
  unfold congressref12_Target at H
  refine aw_region (es := [_, _]) ⟨Step.plain rfl (does_box 35 (.tmp 0) 0 (e_api_Core p0) trivial rfl), ⟨⟨rfl, trivial⟩, trivial, rfl⟩, rfl,
    Step.plain rfl (does_alloc 29 1 (e_a8_u32 (fun _ => 0)) zr29), ⟨trivial, trivial, rfl⟩, rfl, rfl⟩ ?_
  refine aw_cov (cov_prune (s1 := ⟨[(1, (.ptr 0 0 [])), (2, (.ptr 1 0 []))], [(0, some (.var (e_api_Core p0))), (1, some (.var (e_a8_u32 (fun _ => 0))))], 2⟩) ⟨rfl, rfl, trivial⟩ ⟨rfl, rfl, trivial⟩ (Nat.le_refl _)) ?_
  obtain ⟨v1, h2, H⟩ := bnd H
  refine aw_region (es := [_, _, _]) ⟨Step.plain rfl (does_load 35 1 0 0 [] (.var (e_api_Core p0)) (e_api_Core p0) trivial rfl rfl ty35), ⟨⟨rfl, trivial⟩, ⟨rfl, trivial⟩, rfl⟩, rfl,
    Step.plain rfl (does_callO 34 0 (fun _ => .any) (.func 34) [(.tmp 7)] [(e_api_Core p0)] [] [] true [(e_api_Core p0)] _ (.own 2) _ 2 1 _ _ rfl fo34 rfl ⟨trivial, trivial⟩ ⟨.ro _ _ (.data _ (d_api_Core p0)), trivial⟩ (congressref12_others_spec p0 _ h2) rfl (by simp) rfl trivial ⟨⟨Nat.le_of_ble_eq_true rfl, _, rfl, fun _ => trivial⟩, trivial⟩ (.own 0 (Nat.le_of_ble_eq_true rfl))), ⟨⟨rfl, trivial⟩, trivial, rfl⟩, rfl,
    Step.plain rfl (does_assign (.tmp 8) (.own 2) trivial), ⟨⟨rfl, trivial⟩, trivial, rfl⟩, rfl, rfl⟩ ?_
  refine aw_cov (cov_prune (s1 := ⟨[(1, (.ptr 0 0 [])), (2, (.ptr 1 0 [])), (3, (.own 2))], [(0, some (.var (e_api_Core p0))), (1, some (.var (e_a8_u32 (fun _ => 0)))), (2, some (.arr 1 v1.length fun j => (.int .i64 (v1.getD j 0))))], 3⟩) ⟨rfl, rfl, rfl, trivial⟩ ⟨rfl, rfl, rfl, trivial⟩ (Nat.le_refl _)) ?_
  refine aw_region (es := [_, _, _, _]) ⟨Step.plain rfl (does_fieldAddr 35 10 51 1 0 0 [] (.var (e_api_Core p0)) fl35_10), ⟨⟨rfl, trivial⟩, ⟨rfl, trivial⟩, rfl⟩, rfl,
    Step.plain rfl (does_load 29 9 0 (0 + 51) [10] (.var (e_api_Core p0)) (e_a8_u32 p0.Cut) ⟨rfl, Nat.le_of_ble_eq_true rfl, trivial⟩ rfl rfl ty29), ⟨⟨rfl, trivial⟩, ⟨rfl, trivial⟩, rfl⟩, rfl,
    Step.plain rfl (does_buildOwn 67 1 8 3 (e_a8_u32 (fun _ => 0)) (fun j => (e_a8_u32 (([p0.Cut] : _root_.List (Nat → Int)).getD j (fun _ => 0)))) #[(0, (.tmp 10))] [(0, (.tmp 10))] [(0, (e_a8_u32 p0.Cut))] rfl so67 (by decide) ⟨⟨rfl, trivial⟩, trivial⟩ ⟨⟨Nat.le_of_ble_eq_true rfl, rfl, rfl⟩, trivial⟩ (fun j h => match j, h with | 0, _ => rfl | k + 1, h => absurd h (by omega))), ⟨⟨rfl, trivial⟩, trivial, rfl⟩, rfl,
    Step.plain rfl (does_assign (.tmp 11) (.own 3) trivial), ⟨⟨rfl, trivial⟩, trivial, rfl⟩, rfl, rfl⟩ ?_
  refine aw_cov (cov_prune (s1 := ⟨[(1, (.ptr 0 0 [])), (2, (.ptr 1 0 [])), (3, (.own 2)), (4, (.own 3))], [(0, some (.var (e_api_Core p0))), (1, some (.var (e_a8_u32 (fun _ => 0)))), (2, some (.arr 1 v1.length fun j => (.int .i64 (v1.getD j 0)))), (3, some (.arr 8 ([p0.Cut] : _root_.List (Nat → Int)).length fun j => (e_a8_u32 (([p0.Cut] : _root_.List (Nat → Int)).getD j (fun _ => 0)))))], 4⟩) ⟨rfl, rfl, rfl, rfl, trivial⟩ ⟨rfl, rfl, rfl, rfl, trivial⟩ (Nat.le_refl _)) ?_
  refine aw_seq ?_
  refine aw_region (es := [_]) ⟨Step.plain rfl (does_assign (.const (.int .i64 0)) (.int .i64 0) (fun _ => rfl)), ⟨trivial, trivial, rfl⟩, rfl, rfl⟩ ?_
  refine aw_cov (cov_prune (s1 := ⟨[(1, (.ptr 0 0 [])), (2, (.ptr 1 0 [])), (3, (.own 2)), (4, (.own 3)), (5, (.int .i64 0))], [(0, some (.var (e_api_Core p0))), (1, some (.var (e_a8_u32 (fun _ => 0)))), (2, some (.arr 1 v1.length fun j => (.int .i64 (v1.getD j 0)))), (3, some (.arr 8 ([p0.Cut] : _root_.List (Nat → Int)).length fun j => (e_a8_u32 (([p0.Cut] : _root_.List (Nat → Int)).getD j (fun _ => 0)))))], 4⟩) ⟨rfl, rfl, rfl, rfl, rfl, trivial⟩ ⟨rfl, rfl, rfl, rfl, trivial⟩ (Nat.le_refl _)) ?_
  obtain ⟨wn4, hwn4, Hrn4⟩ := bnd H
  refine aw_meet (fun y13 : _root_.List (Nat → Int) => (⟨[(2, (.ptr 1 0 [])), (4, (.own 3))], [(1, some (.var (e_a8_u32 (fun _ => 0)))), (3, some (.arr 8 y13.length fun j => (e_a8_u32 (y13.getD j (fun _ => 0)))))], 4⟩ : St)) (fun y13 => Fl.nx y13 = wn4) (fun y13 hy => ?_) (aw_block (aw_runs (fun x3 : Int × _root_.List (Nat → Int) => (⟨[(1, (.ptr 0 0 [])), (2, (.ptr 1 0 [])), (3, (.own 2)), (4, (.own 3)), (5, (.int .i64 x3.1))], [(0, some (.var (e_api_Core p0))), (1, some (.var (e_a8_u32 (fun _ => 0)))), (2, some (.arr 1 v1.length fun j => (.int .i64 (v1.getD j 0)))), (3, some (.arr 8 x3.2.length fun j => (e_a8_u32 (x3.2.getD j (fun _ => 0)))))], 4⟩ : St)) hwn4 (cov_prune ⟨rfl, rfl, rfl, rfl, rfl, trivial⟩ ⟨rfl, rfl, rfl, rfl, trivial⟩ (Nat.le_of_ble_eq_true rfl)) (fun x3 st H hsn4 => ?_)))
  · have H := nx_of hy Hrn4
    refine nx_seq ?_
    obtain ⟨v14, h15, H⟩ := bnd H
    refine aw_region (es := [_, _, _]) ⟨Step.plain rfl (does_move (.tmp 4) (.own 3) trivial), ⟨⟨rfl, trivial⟩, trivial, rfl⟩, rfl,
      Step.plain rfl (does_call 31 0 (fun _ => .any) (.func 31) [(.tmp 54)] [(.own 3)] [(3, (.arr 8 y13.length fun j => (e_a8_u32 (y13.getD j (fun _ => 0)))))] true [(e_s_a8_u32 y13)] (e_a8_u32 v14) _ _ rfl fo31 rfl ⟨trivial, trivial⟩ ⟨.own 3 _ _ _ (.head _) rfl (fun _ => (d_a8_u32 _)), trivial⟩ (congressref11_Union_spec y13 _ h15) (f_a8_u32 v14)), ⟨⟨rfl, trivial⟩, ⟨rfl, trivial⟩, rfl⟩, rfl,
      Step.plain rfl (does_store 29 2 (.tmp 55) 1 0 [] (.var (e_a8_u32 (fun _ => 0))) (.var (e_a8_u32 v14)) (e_a8_u32 v14) true trivial rfl trivial rfl rfl rfl ty29), ⟨⟨rfl, rfl, trivial⟩, ⟨rfl, trivial⟩, rfl⟩, rfl, rfl⟩ ?_
    refine aw_cov (cov_prune (s1 := ⟨[(2, (.ptr 1 0 []))], [(1, some (.var (e_a8_u32 v14)))], 4⟩) ⟨rfl, trivial⟩ ⟨rfl, trivial⟩ (Nat.le_refl _)) ?_
    refine aw_ret ?_
    exact fun a w hr => ⟨_, [(e_a8_u32 v14)], hr, ⟨⟨1, _, rfl, rfl, .data _ (d_a8_u32 v14), ty29⟩, trivial⟩, by decide, by cases H; rfl⟩
  · refine aw_seq ?_
    refine aw_region (es := [_, _, _, _]) ⟨Step.plain rfl (does_move (.tmp 5) (.int .i64 x3.1) trivial), ⟨⟨rfl, trivial⟩, trivial, rfl⟩, rfl,
      Step.plain rfl (does_move (.tmp 3) (.own 2) trivial), ⟨⟨rfl, trivial⟩, trivial, rfl⟩, rfl,
      Step.plain rfl (does_leno 63 1 v1.length 13 2 (fun j => (.int .i64 (v1.getD j 0))) el63), ⟨⟨rfl, trivial⟩, ⟨rfl, trivial⟩, rfl⟩, rfl,
      Step.plain rfl (does_bin .lss 3 3 (.tmp 12) (.tmp 14) .i64 x3.1 (v1.length : Int) (.bool (decide (x3.1 < (v1.length : Int)))) trivial trivial (bin_lss _ _ _ _)), ⟨⟨rfl, rfl, trivial⟩, trivial, rfl⟩, rfl, rfl⟩ ?_
    refine aw_cov (cov_prune (s1 := ⟨[(1, (.ptr 0 0 [])), (2, (.ptr 1 0 [])), (3, (.own 2)), (4, (.own 3)), (5, (.int .i64 x3.1)), (15, (.bool (decide (x3.1 < (v1.length : Int)))))], [(0, some (.var (e_api_Core p0))), (1, some (.var (e_a8_u32 (fun _ => 0)))), (2, some (.arr 1 v1.length fun j => (.int .i64 (v1.getD j 0)))), (3, some (.arr 8 x3.2.length fun j => (e_a8_u32 (x3.2.getD j (fun _ => 0)))))], 4⟩) ⟨rfl, rfl, rfl, rfl, rfl, rfl, trivial⟩ ⟨rfl, rfl, rfl, rfl, trivial⟩ (Nat.le_refl _)) ?_
    refine aw_cond rfl (fun hc => ?_) (fun hc => ?_)
    · replace H := ite_t hc H
      refine aw_skip ?_
      refine nx_seq ?_
      refine aw_seq ?_
      refine aw_jn (fun x12 : _root_.List (Nat → Int) => (⟨[(1, (.ptr 0 0 [])), (2, (.ptr 1 0 [])), (3, (.own 2)), (4, (.own 3)), (5, (.int .i64 x3.1))], [(0, some (.var (e_api_Core p0))), (1, some (.var (e_a8_u32 (fun _ => 0)))), (2, some (.arr 1 v1.length fun j => (.int .i64 (v1.getD j 0)))), (3, some (.arr 8 x12.length fun j => (e_a8_u32 (x12.getD j (fun _ => 0)))))], 6⟩ : St)) H (fun x12 H => ?_) (fun j5 H => ?_)
      · refine nx_seq ?_
        refine aw_region1 (es := [_, _, _]) ⟨Step.plain rfl (does_move (.tmp 5) (.int .i64 x3.1) trivial), ⟨⟨rfl, trivial⟩, trivial, rfl⟩, rfl,
          Step.plain rfl (does_bin .add 3 3 (.tmp 16) (.const (.int .i64 1)) .i64 x3.1 1 (.int .i64 (IntKind.i64.wrap (x3.1 + 1))) trivial (fun _ => rfl) (bin_add _ _ _ _)), ⟨⟨rfl, trivial⟩, trivial, rfl⟩, rfl,
          Step.plain rfl (does_assign (.tmp 17) (.int .i64 (IntKind.i64.wrap (x3.1 + 1))) trivial), ⟨⟨rfl, trivial⟩, trivial, rfl⟩, rfl, rfl⟩ ?_
        exact nx_loop ((IntKind.i64.wrap (x3.1 + 1)), x12) H (cov_of (fun i => match i with | 0 => 0 | 1 => 1 | 2 => 2 | 3 => 3 | k => k) ⟨⟨_, rfl, ⟨rfl, Nat.le_of_ble_eq_true rfl⟩⟩, ⟨_, rfl, ⟨rfl, Nat.le_of_ble_eq_true rfl⟩⟩, ⟨_, rfl, ⟨rfl, Nat.le_of_ble_eq_true rfl⟩⟩, ⟨_, rfl, ⟨rfl, Nat.le_of_ble_eq_true rfl⟩⟩, ⟨_, rfl, ⟨rfl, trivial⟩⟩, trivial⟩ ⟨⟨Nat.le_of_ble_eq_true rfl, _, _, rfl, rfl, .inl ⟨rfl, (d_api_Core _).plain⟩⟩, ⟨Nat.le_of_ble_eq_true rfl, _, _, rfl, rfl, .inl ⟨rfl, (d_a8_u32 _).plain⟩⟩, ⟨Nat.le_of_ble_eq_true rfl, _, _, rfl, rfl, ⟨rfl, rfl, fun _ => ⟨rfl, trivial⟩⟩⟩, ⟨Nat.le_of_ble_eq_true rfl, _, _, rfl, rfl, ⟨rfl, rfl, fun _ => .inl ⟨rfl, (d_a8_u32 _).plain⟩⟩⟩, trivial⟩ rfl)
      · refine aw_block ?_
        obtain ⟨h6, H⟩ := ib_of H
        obtain ⟨h7, H⟩ := ib_of H
        refine aw_region (es := [_, _, _, _, _, _, _, _, _]) ⟨Step.plain rfl (does_move (.tmp 3) (.own 2) trivial), ⟨⟨rfl, trivial⟩, trivial, rfl⟩, rfl,
          Step.plain rfl (does_move (.tmp 5) (.int .i64 x3.1) trivial), ⟨⟨rfl, trivial⟩, trivial, rfl⟩, rfl,
          Step.plain rfl (does_indexAddro 63 1 v1.length 18 2 (fun j => (.int .i64 (v1.getD j 0))) (.tmp 19) .i64 x3.1 el63 trivial h6.1 h6.2), ⟨⟨rfl, rfl, trivial⟩, ⟨rfl, trivial⟩, rfl⟩, rfl,
          Step.plain rfl (does_load 3 20 2 (x3.1.toNat * 1) [x3.1.toNat] (.arr 1 v1.length fun j => (.int .i64 (v1.getD j 0))) (.int .i64 (v1.getD x3.1.toNat 0)) ⟨(ixl h6), trivial⟩ rfl rfl ty3), ⟨⟨rfl, trivial⟩, ⟨rfl, trivial⟩, rfl⟩, rfl,
          Step.plain rfl (does_fieldAddr 35 12 60 1 0 0 [] (.var (e_api_Core p0)) fl35_12), ⟨⟨rfl, trivial⟩, ⟨rfl, trivial⟩, rfl⟩, rfl,
          Step.plain rfl (does_indexAddr 33 8 16 22 0 (0 + 60) [12] (.var (e_api_Core p0)) (.tmp 21) .i64 (v1.getD x3.1.toNat 0) el33 trivial h7.1 h7.2), ⟨⟨rfl, rfl, trivial⟩, ⟨rfl, trivial⟩, rfl⟩, rfl,
          Step.plain rfl (does_load 32 23 0 ((0 + 60) + (v1.getD x3.1.toNat 0).toNat * 16) [12, (v1.getD x3.1.toNat 0).toNat] (.var (e_api_Core p0)) (e_api_Peer (p0.Peers ((v1.getD x3.1.toNat 0).toNat))) ⟨rfl, Nat.le_of_ble_eq_true rfl, ⟨rfl, (ixl h7), trivial⟩⟩ rfl rfl ty32), ⟨⟨rfl, trivial⟩, ⟨rfl, trivial⟩, rfl⟩, rfl,
          Step.plain rfl (does_alloc 32 4 (e_api_Peer z_api_Peer) zr32), ⟨trivial, trivial, rfl⟩, rfl,
          Step.plain rfl (does_store 32 6 (.tmp 24) 4 0 [] (.var (e_api_Peer z_api_Peer)) (.var (e_api_Peer (p0.Peers ((v1.getD x3.1.toNat 0).toNat)))) (e_api_Peer (p0.Peers ((v1.getD x3.1.toNat 0).toNat))) true trivial rfl trivial rfl rfl rfl ty32), ⟨⟨rfl, rfl, trivial⟩, ⟨rfl, trivial⟩, rfl⟩, rfl, rfl⟩ ?_
        refine aw_cov (cov_prune (s1 := ⟨[(1, (.ptr 0 0 [])), (2, (.ptr 1 0 [])), (3, (.own 2)), (4, (.own 3)), (5, (.int .i64 x3.1)), (6, (.ptr 4 0 []))], [(0, some (.var (e_api_Core p0))), (1, some (.var (e_a8_u32 (fun _ => 0)))), (2, some (.arr 1 v1.length fun j => (.int .i64 (v1.getD j 0)))), (3, some (.arr 8 x3.2.length fun j => (e_a8_u32 (x3.2.getD j (fun _ => 0))))), (4, some (.var (e_api_Peer (p0.Peers ((v1.getD x3.1.toNat 0).toNat)))))], 5⟩) ⟨rfl, rfl, rfl, rfl, rfl, rfl, trivial⟩ ⟨rfl, rfl, rfl, rfl, rfl, trivial⟩ (Nat.le_refl _)) ?_
        obtain ⟨h8, H⟩ := ib_of H
        obtain ⟨h9, H⟩ := ib_of H
        refine aw_draw (es := [_, _, _, _, _, _, _, _, _, _, _, _, _, _, _, _, _, _, _, _, _, _, _, _]) (mixed) ⟨Step.plain rfl (does_fieldAddr 32 0 0 6 4 0 [] (.var (e_api_Peer (p0.Peers ((v1.getD x3.1.toNat 0).toNat)))) fl32_0), ⟨⟨rfl, trivial⟩, ⟨rfl, trivial⟩, rfl⟩, rfl,
          Step.plain rfl (does_load 22 25 4 (0 + 0) [0] (.var (e_api_Peer (p0.Peers ((v1.getD x3.1.toNat 0).toNat)))) (.int .u32 ((p0.Peers ((v1.getD x3.1.toNat 0).toNat)).Inc)) ⟨rfl, Nat.le_of_ble_eq_true rfl, trivial⟩ rfl rfl ty22), ⟨⟨rfl, trivial⟩, ⟨rfl, trivial⟩, rfl⟩, rfl,
          Step.plain rfl (does_move (.tmp 3) (.own 2) trivial), ⟨⟨rfl, trivial⟩, trivial, rfl⟩, rfl,
          Step.plain rfl (does_move (.tmp 5) (.int .i64 x3.1) trivial), ⟨⟨rfl, trivial⟩, trivial, rfl⟩, rfl,
          Step.plain rfl (does_indexAddro 63 1 v1.length 27 2 (fun j => (.int .i64 (v1.getD j 0))) (.tmp 28) .i64 x3.1 el63 trivial h8.1 h8.2), ⟨⟨rfl, rfl, trivial⟩, ⟨rfl, trivial⟩, rfl⟩, rfl,
          Step.plain rfl (does_load 3 29 2 (x3.1.toNat * 1) [x3.1.toNat] (.arr 1 v1.length fun j => (.int .i64 (v1.getD j 0))) (.int .i64 (v1.getD x3.1.toNat 0)) ⟨(ixl h8), trivial⟩ rfl rfl ty3), ⟨⟨rfl, trivial⟩, ⟨rfl, trivial⟩, rfl⟩, rfl,
          Step.plain rfl (does_fieldAddr 35 9 43 1 0 0 [] (.var (e_api_Core p0)) fl35_9), ⟨⟨rfl, trivial⟩, ⟨rfl, trivial⟩, rfl⟩, rfl,
          Step.plain rfl (does_indexAddr 28 8 1 31 0 (0 + 43) [9] (.var (e_api_Core p0)) (.tmp 30) .i64 (v1.getD x3.1.toNat 0) el28 trivial h9.1 h9.2), ⟨⟨rfl, rfl, trivial⟩, ⟨rfl, trivial⟩, rfl⟩, rfl,
          Step.plain rfl (does_load 22 32 0 ((0 + 43) + (v1.getD x3.1.toNat 0).toNat * 1) [9, (v1.getD x3.1.toNat 0).toNat] (.var (e_api_Core p0)) (.int .u32 (p0.Wanted ((v1.getD x3.1.toNat 0).toNat))) ⟨rfl, Nat.le_of_ble_eq_true rfl, ⟨rfl, (ixl h9), trivial⟩⟩ rfl rfl ty22), ⟨⟨rfl, trivial⟩, ⟨rfl, trivial⟩, rfl⟩, rfl,
          Step.plain rfl (does_bin .eql 22 22 (.tmp 26) (.tmp 33) .u32 ((p0.Peers ((v1.getD x3.1.toNat 0).toNat)).Inc) (p0.Wanted ((v1.getD x3.1.toNat 0).toNat)) (.bool (((p0.Peers ((v1.getD x3.1.toNat 0).toNat)).Inc) == (p0.Wanted ((v1.getD x3.1.toNat 0).toNat)))) trivial trivial (bin_eql _ _ _ _)), ⟨⟨rfl, rfl, trivial⟩, trivial, rfl⟩, rfl,
          Step.plain rfl (does_move (.tmp 34) (.bool (((p0.Peers ((v1.getD x3.1.toNat 0).toNat)).Inc) == (p0.Wanted ((v1.getD x3.1.toNat 0).toNat)))) trivial), ⟨⟨rfl, trivial⟩, trivial, rfl⟩, rfl,
          Step.guarded rfl rfl rfl rfl (fun hc => does_fieldAddr 32 2 4 6 4 0 [] (.var (e_api_Peer (p0.Peers ((v1.getD x3.1.toNat 0).toNat)))) fl32_2), ⟨⟨rfl, rfl, trivial⟩, ⟨rfl, trivial⟩, rfl⟩, rfl,
          Step.guarded rfl rfl rfl rfl (fun hc => Does.strip (n' := [(36, (.opt (((p0.Peers ((v1.getD x3.1.toNat 0).toNat)).Inc) == (p0.Wanted ((v1.getD x3.1.toNat 0).toNat))) (.ptr 4 (0 + 4) [2])))]) (n := [(36, (.ptr 4 (0 + 4) [2]))]) ⟨(.opt _ _ hc), trivial⟩ (does_load 27 36 4 (0 + 4) [2] (.var (e_api_Peer (p0.Peers ((v1.getD x3.1.toNat 0).toNat)))) (e_api_Id ((p0.Peers ((v1.getD x3.1.toNat 0).toNat)).Promise)) ⟨rfl, Nat.le_of_ble_eq_true rfl, trivial⟩ rfl rfl ty27)), ⟨⟨rfl, rfl, trivial⟩, ⟨rfl, trivial⟩, rfl⟩, rfl,
          Step.guarded rfl rfl rfl rfl (fun hc => does_fieldAddr 35 8 40 1 0 0 [] (.var (e_api_Core p0)) fl35_8), ⟨⟨rfl, rfl, trivial⟩, ⟨rfl, trivial⟩, rfl⟩, rfl,
          Step.guarded rfl rfl rfl rfl (fun hc => Does.strip (n' := [(38, (.opt (((p0.Peers ((v1.getD x3.1.toNat 0).toNat)).Inc) == (p0.Wanted ((v1.getD x3.1.toNat 0).toNat))) (.ptr 0 (0 + 40) [8])))]) (n := [(38, (.ptr 0 (0 + 40) [8]))]) ⟨(.opt _ _ hc), trivial⟩ (does_load 27 38 0 (0 + 40) [8] (.var (e_api_Core p0)) (e_api_Id p0.Promise) ⟨rfl, Nat.le_of_ble_eq_true rfl, trivial⟩ rfl rfl ty27)), ⟨⟨rfl, rfl, trivial⟩, ⟨rfl, trivial⟩, rfl⟩, rfl,
          Step.guarded rfl rfl rfl rfl (fun hc => Does.strip (n' := [(37, (.opt (((p0.Peers ((v1.getD x3.1.toNat 0).toNat)).Inc) == (p0.Wanted ((v1.getD x3.1.toNat 0).toNat))) (e_api_Id ((p0.Peers ((v1.getD x3.1.toNat 0).toNat)).Promise)))), (39, (.opt (((p0.Peers ((v1.getD x3.1.toNat 0).toNat)).Inc) == (p0.Wanted ((v1.getD x3.1.toNat 0).toNat))) (e_api_Id p0.Promise)))]) (n := [(37, (e_api_Id ((p0.Peers ((v1.getD x3.1.toNat 0).toNat)).Promise))), (39, (e_api_Id p0.Promise))]) ⟨(.opt _ _ hc), (.opt _ _ hc), trivial⟩ (does_eqT false 27 27 (.tmp 37) (.tmp 39) (e_api_Id ((p0.Peers ((v1.getD x3.1.toNat 0).toNat)).Promise)) (e_api_Id p0.Promise) (e_api_Id z_api_Id) (b_api_Id ((p0.Peers ((v1.getD x3.1.toNat 0).toNat)).Promise) p0.Promise) rfl rfl trivial trivial eg27 sh27 (al_api_Id _ _) (al_api_Id _ _) (q_api_Id _ _))), ⟨⟨rfl, rfl, rfl, trivial⟩, trivial, rfl⟩, rfl,
          Step.plain rfl (does_and 35 40 (((p0.Peers ((v1.getD x3.1.toNat 0).toNat)).Inc) == (p0.Wanted ((v1.getD x3.1.toNat 0).toNat))) (b_api_Id ((p0.Peers ((v1.getD x3.1.toNat 0).toNat)).Promise) p0.Promise)), ⟨⟨rfl, rfl, trivial⟩, trivial, rfl⟩, rfl,
          Step.plain rfl (does_move (.tmp 41) (.bool ((((p0.Peers ((v1.getD x3.1.toNat 0).toNat)).Inc) == (p0.Wanted ((v1.getD x3.1.toNat 0).toNat))) && (b_api_Id ((p0.Peers ((v1.getD x3.1.toNat 0).toNat)).Promise) p0.Promise))) trivial), ⟨⟨rfl, trivial⟩, trivial, rfl⟩, rfl,
          Step.guarded rfl rfl rfl rfl (fun hc => does_fieldAddr 32 1 1 6 4 0 [] (.var (e_api_Peer (p0.Peers ((v1.getD x3.1.toNat 0).toNat)))) fl32_1), ⟨⟨rfl, rfl, trivial⟩, ⟨rfl, trivial⟩, rfl⟩, rfl,
          Step.guarded rfl rfl rfl rfl (fun hc => Does.strip (n' := [(43, (.opt ((((p0.Peers ((v1.getD x3.1.toNat 0).toNat)).Inc) == (p0.Wanted ((v1.getD x3.1.toNat 0).toNat))) && (b_api_Id ((p0.Peers ((v1.getD x3.1.toNat 0).toNat)).Promise) p0.Promise)) (.ptr 4 (0 + 1) [1])))]) (n := [(43, (.ptr 4 (0 + 1) [1]))]) ⟨(.opt _ _ hc), trivial⟩ (does_load 27 43 4 (0 + 1) [1] (.var (e_api_Peer (p0.Peers ((v1.getD x3.1.toNat 0).toNat)))) (e_api_Id ((p0.Peers ((v1.getD x3.1.toNat 0).toNat)).Conf)) ⟨rfl, Nat.le_of_ble_eq_true rfl, trivial⟩ rfl rfl ty27)), ⟨⟨rfl, rfl, trivial⟩, ⟨rfl, trivial⟩, rfl⟩, rfl,
          Step.guarded rfl rfl rfl rfl (fun hc => does_fieldAddr 35 4 20 1 0 0 [] (.var (e_api_Core p0)) fl35_4), ⟨⟨rfl, rfl, trivial⟩, ⟨rfl, trivial⟩, rfl⟩, rfl,
          Step.guarded rfl rfl rfl rfl (fun hc => Does.strip (n' := [(45, (.opt ((((p0.Peers ((v1.getD x3.1.toNat 0).toNat)).Inc) == (p0.Wanted ((v1.getD x3.1.toNat 0).toNat))) && (b_api_Id ((p0.Peers ((v1.getD x3.1.toNat 0).toNat)).Promise) p0.Promise)) (.ptr 0 (0 + 20) [4])))]) (n := [(45, (.ptr 0 (0 + 20) [4]))]) ⟨(.opt _ _ hc), trivial⟩ (does_load 27 45 0 (0 + 20) [4] (.var (e_api_Core p0)) (e_api_Id p0.Conf) ⟨rfl, Nat.le_of_ble_eq_true rfl, trivial⟩ rfl rfl ty27)), ⟨⟨rfl, rfl, trivial⟩, ⟨rfl, trivial⟩, rfl⟩, rfl,
          Step.guarded rfl rfl rfl rfl (fun hc => Does.strip (n' := [(44, (.opt ((((p0.Peers ((v1.getD x3.1.toNat 0).toNat)).Inc) == (p0.Wanted ((v1.getD x3.1.toNat 0).toNat))) && (b_api_Id ((p0.Peers ((v1.getD x3.1.toNat 0).toNat)).Promise) p0.Promise)) (e_api_Id ((p0.Peers ((v1.getD x3.1.toNat 0).toNat)).Conf)))), (46, (.opt ((((p0.Peers ((v1.getD x3.1.toNat 0).toNat)).Inc) == (p0.Wanted ((v1.getD x3.1.toNat 0).toNat))) && (b_api_Id ((p0.Peers ((v1.getD x3.1.toNat 0).toNat)).Promise) p0.Promise)) (e_api_Id p0.Conf)))]) (n := [(44, (e_api_Id ((p0.Peers ((v1.getD x3.1.toNat 0).toNat)).Conf))), (46, (e_api_Id p0.Conf))]) ⟨(.opt _ _ hc), (.opt _ _ hc), trivial⟩ (does_eqT false 27 27 (.tmp 44) (.tmp 46) (e_api_Id ((p0.Peers ((v1.getD x3.1.toNat 0).toNat)).Conf)) (e_api_Id p0.Conf) (e_api_Id z_api_Id) (b_api_Id ((p0.Peers ((v1.getD x3.1.toNat 0).toNat)).Conf) p0.Conf) rfl rfl trivial trivial eg27 sh27 (al_api_Id _ _) (al_api_Id _ _) (q_api_Id _ _))), ⟨⟨rfl, rfl, rfl, trivial⟩, trivial, rfl⟩, rfl,
          Step.plain rfl (does_and 42 47 ((((p0.Peers ((v1.getD x3.1.toNat 0).toNat)).Inc) == (p0.Wanted ((v1.getD x3.1.toNat 0).toNat))) && (b_api_Id ((p0.Peers ((v1.getD x3.1.toNat 0).toNat)).Promise) p0.Promise)) (b_api_Id ((p0.Peers ((v1.getD x3.1.toNat 0).toNat)).Conf) p0.Conf)), ⟨⟨rfl, rfl, trivial⟩, trivial, rfl⟩, rfl, rfl⟩ rfl ?_
        obtain ⟨v10, hv10, H⟩ := lt_of H
        refine aw_cov (cov_prune (s1 := ⟨[(1, (.ptr 0 0 [])), (2, (.ptr 1 0 [])), (3, (.own 2)), (4, (.own 3)), (5, (.int .i64 x3.1)), (6, (.ptr 4 0 [])), (48, (.bool v10))], [(0, some (.var (e_api_Core p0))), (1, some (.var (e_a8_u32 (fun _ => 0)))), (2, some (.arr 1 v1.length fun j => (.int .i64 (v1.getD j 0)))), (3, some (.arr 8 x3.2.length fun j => (e_a8_u32 (x3.2.getD j (fun _ => 0))))), (4, some (.var (e_api_Peer (p0.Peers ((v1.getD x3.1.toNat 0).toNat)))))], 5⟩) ⟨rfl, rfl, rfl, rfl, rfl, rfl, (by subst hv10; rfl), trivial⟩ ⟨rfl, rfl, rfl, rfl, rfl, trivial⟩ (Nat.le_refl _)) ?_
        refine aw_cond rfl (fun hc => ?_) (fun hc => ?_)
        · replace H := ite_t hc H
          obtain ⟨h11, H⟩ := fit_of H
          refine aw_region1 (es := [_, _, _, _, _, _]) ⟨Step.plain rfl (does_move (.tmp 4) (.own 3) trivial), ⟨⟨rfl, trivial⟩, trivial, rfl⟩, rfl,
            Step.plain rfl (does_fieldAddr 32 3 7 6 4 0 [] (.var (e_api_Peer (p0.Peers ((v1.getD x3.1.toNat 0).toNat)))) fl32_3), ⟨⟨rfl, trivial⟩, ⟨rfl, trivial⟩, rfl⟩, rfl,
            Step.plain rfl (does_load 29 50 4 (0 + 7) [3] (.var (e_api_Peer (p0.Peers ((v1.getD x3.1.toNat 0).toNat)))) (e_a8_u32 ((p0.Peers ((v1.getD x3.1.toNat 0).toNat)).Cut)) ⟨rfl, Nat.le_of_ble_eq_true rfl, trivial⟩ rfl rfl ty29), ⟨⟨rfl, trivial⟩, ⟨rfl, trivial⟩, rfl⟩, rfl,
            Step.plain rfl (does_buildSl 67 1 8 (e_a8_u32 (fun _ => 0)) (fun j => (e_a8_u32 (([(p0.Peers ((v1.getD x3.1.toNat 0).toNat)).Cut] : _root_.List (Nat → Int)).getD j (fun _ => 0)))) #[(0, (.tmp 51))] [(0, (.tmp 51))] [(0, (e_a8_u32 ((p0.Peers ((v1.getD x3.1.toNat 0).toNat)).Cut)))] rfl so67 (by decide) ⟨⟨rfl, trivial⟩, trivial⟩ ⟨⟨Nat.le_of_ble_eq_true rfl, rfl, rfl⟩, trivial⟩ (fun j h => match j, h with | 0, _ => rfl | k + 1, h => absurd h (by omega))), ⟨⟨rfl, trivial⟩, trivial, rfl⟩, rfl,
            Step.plain rfl (does_appendL e_a8_u32 (fun _ => 0) x3.2 ([(p0.Peers ((v1.getD x3.1.toNat 0).toNat)).Cut] : _root_.List (Nat → Int)) 67 8 32 3 5 49 52 ap67 h11), ⟨⟨rfl, rfl, trivial⟩, ⟨rfl, trivial⟩, rfl⟩, rfl,
            Step.plain rfl (does_assign (.tmp 53) (.own 5) trivial), ⟨⟨rfl, trivial⟩, trivial, rfl⟩, rfl, rfl⟩ ?_
          refine nx_blk ?_
          exact nx_join ((x3.2 ++ ([(p0.Peers ((v1.getD x3.1.toNat 0).toNat)).Cut] : _root_.List (Nat → Int)))) H (cov_of (fun i => match i with | 0 => 0 | 1 => 1 | 2 => 2 | 3 => 5 | k => k) ⟨⟨_, rfl, ⟨rfl, Nat.le_of_ble_eq_true rfl⟩⟩, ⟨_, rfl, ⟨rfl, Nat.le_of_ble_eq_true rfl⟩⟩, ⟨_, rfl, ⟨rfl, Nat.le_of_ble_eq_true rfl⟩⟩, ⟨_, rfl, ⟨rfl, Nat.le_of_ble_eq_true rfl⟩⟩, ⟨_, rfl, ⟨rfl, trivial⟩⟩, trivial⟩ ⟨⟨Nat.le_of_ble_eq_true rfl, _, _, rfl, rfl, .inl ⟨rfl, (d_api_Core _).plain⟩⟩, ⟨Nat.le_of_ble_eq_true rfl, _, _, rfl, rfl, .inl ⟨rfl, (d_a8_u32 _).plain⟩⟩, ⟨Nat.le_of_ble_eq_true rfl, _, _, rfl, rfl, ⟨rfl, rfl, fun _ => ⟨rfl, trivial⟩⟩⟩, ⟨Nat.le_of_ble_eq_true rfl, _, _, rfl, rfl, ⟨rfl, rfl, fun _ => .inl ⟨rfl, (d_a8_u32 _).plain⟩⟩⟩, trivial⟩ rfl)
        · replace H := ite_f hc H
          refine aw_skip ?_
          refine nx_blk ?_
          exact nx_join (x3.2) H (cov_of (fun i => match i with | 0 => 0 | 1 => 1 | 2 => 2 | 3 => 3 | k => k) ⟨⟨_, rfl, ⟨rfl, Nat.le_of_ble_eq_true rfl⟩⟩, ⟨_, rfl, ⟨rfl, Nat.le_of_ble_eq_true rfl⟩⟩, ⟨_, rfl, ⟨rfl, Nat.le_of_ble_eq_true rfl⟩⟩, ⟨_, rfl, ⟨rfl, Nat.le_of_ble_eq_true rfl⟩⟩, ⟨_, rfl, ⟨rfl, trivial⟩⟩, trivial⟩ ⟨⟨Nat.le_of_ble_eq_true rfl, _, _, rfl, rfl, .inl ⟨rfl, (d_api_Core _).plain⟩⟩, ⟨Nat.le_of_ble_eq_true rfl, _, _, rfl, rfl, .inl ⟨rfl, (d_a8_u32 _).plain⟩⟩, ⟨Nat.le_of_ble_eq_true rfl, _, _, rfl, rfl, ⟨rfl, rfl, fun _ => ⟨rfl, trivial⟩⟩⟩, ⟨Nat.le_of_ble_eq_true rfl, _, _, rfl, rfl, ⟨rfl, rfl, fun _ => .inl ⟨rfl, (d_a8_u32 _).plain⟩⟩⟩, trivial⟩ rfl)
    · replace H := ite_f hc H
      refine aw_exit ?_
      refine ex_then ?_
      refine ex_then ?_
      refine ex_here ?_
      exact nx_ljoin (x3.2) H hsn4 (cov_prune ⟨rfl, rfl, trivial⟩ ⟨rfl, rfl, trivial⟩ (Nat.le_of_ble_eq_true rfl))

theorem congressref12_Done_spec (p0 : api_Core) (r : Bool) (H : congressref12_Done p0 = some r) : FSpec Try.prog 21 [(e_api_Core p0)] (.bool r) := by
  refine spec_of (fn := Try.f21) (args := [(e_api_Core p0)]) Try.func21 rfl (Nat.le_of_ble_eq_true rfl) ?_
  rintro ⟨G, w0, W, S, Sp⟩ hG
  cases hG
  unfold congressref12_Done at H
  refine aw_region (es := [_, _]) ⟨Step.plain rfl (does_box 35 (.tmp 0) 0 (e_api_Core p0) trivial rfl), ⟨⟨rfl, trivial⟩, trivial, rfl⟩, rfl,
    Step.plain rfl (does_assign (.const (.bool false)) (.bool false) (fun _ => rfl)), ⟨trivial, trivial, rfl⟩, rfl, rfl⟩ ?_
  refine aw_cov (cov_prune (s1 := ⟨[(1, (.ptr 0 0 []))], [(0, some (.var (e_api_Core p0)))], 1⟩) ⟨rfl, trivial⟩ ⟨rfl, trivial⟩ (Nat.le_refl _)) ?_
  obtain ⟨v1, h2, H⟩ := bnd H
  refine aw_region (es := [_, _, _]) ⟨Step.plain rfl (does_load 35 1 0 0 [] (.var (e_api_Core p0)) (e_api_Core p0) trivial rfl rfl ty35), ⟨⟨rfl, trivial⟩, ⟨rfl, trivial⟩, rfl⟩, rfl,
    Step.plain rfl (does_callO 34 0 (fun _ => .any) (.func 34) [(.tmp 6)] [(e_api_Core p0)] [] [] true [(e_api_Core p0)] _ (.own 1) _ 1 1 _ _ rfl fo34 rfl ⟨trivial, trivial⟩ ⟨.ro _ _ (.data _ (d_api_Core p0)), trivial⟩ (congressref12_others_spec p0 _ h2) rfl (by simp) rfl trivial ⟨⟨Nat.le_of_ble_eq_true rfl, _, rfl, fun _ => trivial⟩, trivial⟩ (.own 0 (Nat.le_of_ble_eq_true rfl))), ⟨⟨rfl, trivial⟩, trivial, rfl⟩, rfl,
    Step.plain rfl (does_assign (.tmp 7) (.own 1) trivial), ⟨⟨rfl, trivial⟩, trivial, rfl⟩, rfl, rfl⟩ ?_
  refine aw_cov (cov_prune (s1 := ⟨[(1, (.ptr 0 0 [])), (3, (.own 1))], [(0, some (.var (e_api_Core p0))), (1, some (.arr 1 v1.length fun j => (.int .i64 (v1.getD j 0))))], 2⟩) ⟨rfl, rfl, trivial⟩ ⟨rfl, rfl, trivial⟩ (Nat.le_refl _)) ?_
  refine aw_seq ?_
  refine aw_region (es := [_]) ⟨Step.plain rfl (does_assign (.const (.int .i64 0)) (.int .i64 0) (fun _ => rfl)), ⟨trivial, trivial, rfl⟩, rfl, rfl⟩ ?_
  refine aw_cov (cov_prune (s1 := ⟨[(1, (.ptr 0 0 [])), (3, (.own 1)), (4, (.int .i64 0))], [(0, some (.var (e_api_Core p0))), (1, some (.arr 1 v1.length fun j => (.int .i64 (v1.getD j 0))))], 2⟩) ⟨rfl, rfl, rfl, trivial⟩ ⟨rfl, rfl, trivial⟩ (Nat.le_refl _)) ?_
  obtain ⟨wn4, hwn4, Hrn4⟩ := bnd H
  refine aw_meet (fun y11 : Unit => (⟨[], [], 2⟩ : St)) (fun y11 => Fl.nx y11 = wn4) (fun y11 hy => ?_) (aw_block (aw_runs (fun x3 : Int => (⟨[(1, (.ptr 0 0 [])), (3, (.own 1)), (4, (.int .i64 x3))], [(0, some (.var (e_api_Core p0))), (1, some (.arr 1 v1.length fun j => (.int .i64 (v1.getD j 0))))], 2⟩ : St)) hwn4 (cov_prune ⟨rfl, rfl, rfl, trivial⟩ ⟨rfl, rfl, trivial⟩ (Nat.le_of_ble_eq_true rfl)) (fun x3 st H hsn4 => ?_)))
  · have H := nx_of hy Hrn4
    refine nx_seq ?_
    refine aw_region (es := [_]) ⟨Step.plain rfl (does_assign (.const (.bool true)) (.bool true) (fun _ => rfl)), ⟨trivial, trivial, rfl⟩, rfl, rfl⟩ ?_
    refine aw_cov (cov_prune (s1 := ⟨[(2, (.bool true))], [], 2⟩) ⟨rfl, trivial⟩ trivial (Nat.le_refl _)) ?_
    refine aw_ret ?_
    exact fun a w hr => ⟨_, [(.bool true)], hr, ⟨⟨_, rfl, .data _ trivial⟩, trivial⟩, by decide, by cases H; rfl⟩
  · refine aw_seq ?_
    refine aw_region (es := [_, _, _, _]) ⟨Step.plain rfl (does_move (.tmp 4) (.int .i64 x3) trivial), ⟨⟨rfl, trivial⟩, trivial, rfl⟩, rfl,
      Step.plain rfl (does_move (.tmp 3) (.own 1) trivial), ⟨⟨rfl, trivial⟩, trivial, rfl⟩, rfl,
      Step.plain rfl (does_leno 63 1 v1.length 9 1 (fun j => (.int .i64 (v1.getD j 0))) el63), ⟨⟨rfl, trivial⟩, ⟨rfl, trivial⟩, rfl⟩, rfl,
      Step.plain rfl (does_bin .lss 3 3 (.tmp 8) (.tmp 10) .i64 x3 (v1.length : Int) (.bool (decide (x3 < (v1.length : Int)))) trivial trivial (bin_lss _ _ _ _)), ⟨⟨rfl, rfl, trivial⟩, trivial, rfl⟩, rfl, rfl⟩ ?_
    refine aw_cov (cov_prune (s1 := ⟨[(1, (.ptr 0 0 [])), (3, (.own 1)), (4, (.int .i64 x3)), (11, (.bool (decide (x3 < (v1.length : Int)))))], [(0, some (.var (e_api_Core p0))), (1, some (.arr 1 v1.length fun j => (.int .i64 (v1.getD j 0))))], 2⟩) ⟨rfl, rfl, rfl, rfl, trivial⟩ ⟨rfl, rfl, trivial⟩ (Nat.le_refl _)) ?_
    refine aw_cond rfl (fun hc => ?_) (fun hc => ?_)
    · replace H := ite_t hc H
      refine aw_skip ?_
      refine nx_seq ?_
      refine aw_seq ?_
      refine aw_block ?_
      obtain ⟨h5, H⟩ := ib_of H
      obtain ⟨h6, H⟩ := ib_of H
      refine aw_region (es := [_, _, _, _, _, _, _, _, _]) ⟨Step.plain rfl (does_move (.tmp 3) (.own 1) trivial), ⟨⟨rfl, trivial⟩, trivial, rfl⟩, rfl,
        Step.plain rfl (does_move (.tmp 4) (.int .i64 x3) trivial), ⟨⟨rfl, trivial⟩, trivial, rfl⟩, rfl,
        Step.plain rfl (does_indexAddro 63 1 v1.length 14 1 (fun j => (.int .i64 (v1.getD j 0))) (.tmp 15) .i64 x3 el63 trivial h5.1 h5.2), ⟨⟨rfl, rfl, trivial⟩, ⟨rfl, trivial⟩, rfl⟩, rfl,
        Step.plain rfl (does_load 3 16 1 (x3.toNat * 1) [x3.toNat] (.arr 1 v1.length fun j => (.int .i64 (v1.getD j 0))) (.int .i64 (v1.getD x3.toNat 0)) ⟨(ixl h5), trivial⟩ rfl rfl ty3), ⟨⟨rfl, trivial⟩, ⟨rfl, trivial⟩, rfl⟩, rfl,
        Step.plain rfl (does_fieldAddr 35 12 60 1 0 0 [] (.var (e_api_Core p0)) fl35_12), ⟨⟨rfl, trivial⟩, ⟨rfl, trivial⟩, rfl⟩, rfl,
        Step.plain rfl (does_indexAddr 33 8 16 18 0 (0 + 60) [12] (.var (e_api_Core p0)) (.tmp 17) .i64 (v1.getD x3.toNat 0) el33 trivial h6.1 h6.2), ⟨⟨rfl, rfl, trivial⟩, ⟨rfl, trivial⟩, rfl⟩, rfl,
        Step.plain rfl (does_load 32 19 0 ((0 + 60) + (v1.getD x3.toNat 0).toNat * 16) [12, (v1.getD x3.toNat 0).toNat] (.var (e_api_Core p0)) (e_api_Peer (p0.Peers ((v1.getD x3.toNat 0).toNat))) ⟨rfl, Nat.le_of_ble_eq_true rfl, ⟨rfl, (ixl h6), trivial⟩⟩ rfl rfl ty32), ⟨⟨rfl, trivial⟩, ⟨rfl, trivial⟩, rfl⟩, rfl,
        Step.plain rfl (does_alloc 32 2 (e_api_Peer z_api_Peer) zr32), ⟨trivial, trivial, rfl⟩, rfl,
        Step.plain rfl (does_store 32 5 (.tmp 20) 2 0 [] (.var (e_api_Peer z_api_Peer)) (.var (e_api_Peer (p0.Peers ((v1.getD x3.toNat 0).toNat)))) (e_api_Peer (p0.Peers ((v1.getD x3.toNat 0).toNat))) true trivial rfl trivial rfl rfl rfl ty32), ⟨⟨rfl, rfl, trivial⟩, ⟨rfl, trivial⟩, rfl⟩, rfl, rfl⟩ ?_
      refine aw_cov (cov_prune (s1 := ⟨[(1, (.ptr 0 0 [])), (3, (.own 1)), (4, (.int .i64 x3)), (5, (.ptr 2 0 []))], [(0, some (.var (e_api_Core p0))), (1, some (.arr 1 v1.length fun j => (.int .i64 (v1.getD j 0)))), (2, some (.var (e_api_Peer (p0.Peers ((v1.getD x3.toNat 0).toNat)))))], 3⟩) ⟨rfl, rfl, rfl, rfl, trivial⟩ ⟨rfl, rfl, rfl, trivial⟩ (Nat.le_refl _)) ?_
      refine aw_seq ?_
      obtain ⟨h7, H⟩ := ib_of H
      obtain ⟨h8, H⟩ := ib_of H
      refine aw_draw (es := [_, _, _, _, _, _, _, _, _, _]) (mixed) ⟨Step.plain rfl (does_fieldAddr 32 0 0 5 2 0 [] (.var (e_api_Peer (p0.Peers ((v1.getD x3.toNat 0).toNat)))) fl32_0), ⟨⟨rfl, trivial⟩, ⟨rfl, trivial⟩, rfl⟩, rfl,
        Step.plain rfl (does_load 22 21 2 (0 + 0) [0] (.var (e_api_Peer (p0.Peers ((v1.getD x3.toNat 0).toNat)))) (.int .u32 ((p0.Peers ((v1.getD x3.toNat 0).toNat)).Inc)) ⟨rfl, Nat.le_of_ble_eq_true rfl, trivial⟩ rfl rfl ty22), ⟨⟨rfl, trivial⟩, ⟨rfl, trivial⟩, rfl⟩, rfl,
        Step.plain rfl (does_move (.tmp 3) (.own 1) trivial), ⟨⟨rfl, trivial⟩, trivial, rfl⟩, rfl,
        Step.plain rfl (does_move (.tmp 4) (.int .i64 x3) trivial), ⟨⟨rfl, trivial⟩, trivial, rfl⟩, rfl,
        Step.plain rfl (does_indexAddro 63 1 v1.length 23 1 (fun j => (.int .i64 (v1.getD j 0))) (.tmp 24) .i64 x3 el63 trivial h7.1 h7.2), ⟨⟨rfl, rfl, trivial⟩, ⟨rfl, trivial⟩, rfl⟩, rfl,
        Step.plain rfl (does_load 3 25 1 (x3.toNat * 1) [x3.toNat] (.arr 1 v1.length fun j => (.int .i64 (v1.getD j 0))) (.int .i64 (v1.getD x3.toNat 0)) ⟨(ixl h7), trivial⟩ rfl rfl ty3), ⟨⟨rfl, trivial⟩, ⟨rfl, trivial⟩, rfl⟩, rfl,
        Step.plain rfl (does_fieldAddr 35 9 43 1 0 0 [] (.var (e_api_Core p0)) fl35_9), ⟨⟨rfl, trivial⟩, ⟨rfl, trivial⟩, rfl⟩, rfl,
        Step.plain rfl (does_indexAddr 28 8 1 27 0 (0 + 43) [9] (.var (e_api_Core p0)) (.tmp 26) .i64 (v1.getD x3.toNat 0) el28 trivial h8.1 h8.2), ⟨⟨rfl, rfl, trivial⟩, ⟨rfl, trivial⟩, rfl⟩, rfl,
        Step.plain rfl (does_load 22 28 0 ((0 + 43) + (v1.getD x3.toNat 0).toNat * 1) [9, (v1.getD x3.toNat 0).toNat] (.var (e_api_Core p0)) (.int .u32 (p0.Wanted ((v1.getD x3.toNat 0).toNat))) ⟨rfl, Nat.le_of_ble_eq_true rfl, ⟨rfl, (ixl h8), trivial⟩⟩ rfl rfl ty22), ⟨⟨rfl, trivial⟩, ⟨rfl, trivial⟩, rfl⟩, rfl,
        Step.plain rfl (does_bin .neq 22 22 (.tmp 22) (.tmp 29) .u32 ((p0.Peers ((v1.getD x3.toNat 0).toNat)).Inc) (p0.Wanted ((v1.getD x3.toNat 0).toNat)) (.bool (((p0.Peers ((v1.getD x3.toNat 0).toNat)).Inc) != (p0.Wanted ((v1.getD x3.toNat 0).toNat)))) trivial trivial (bin_neq _ _ _ _)), ⟨⟨rfl, rfl, trivial⟩, trivial, rfl⟩, rfl, rfl⟩ rfl ?_
      obtain ⟨v9, hv9, H⟩ := lt_of H
      refine aw_cov (cov_prune (s1 := ⟨[(1, (.ptr 0 0 [])), (3, (.own 1)), (4, (.int .i64 x3)), (5, (.ptr 2 0 [])), (30, (.bool v9))], [(0, some (.var (e_api_Core p0))), (1, some (.arr 1 v1.length fun j => (.int .i64 (v1.getD j 0)))), (2, some (.var (e_api_Peer (p0.Peers ((v1.getD x3.toNat 0).toNat)))))], 3⟩) ⟨rfl, rfl, rfl, rfl, (by subst hv9; rfl), trivial⟩ ⟨rfl, rfl, rfl, trivial⟩ (Nat.le_refl _)) ?_
      refine aw_cond rfl (fun hc => ?_) (fun hc => ?_)
      · replace H := ite_t hc H
        refine aw_region (es := [_]) ⟨Step.plain rfl (does_assign (.const (.bool false)) (.bool false) (fun _ => rfl)), ⟨trivial, trivial, rfl⟩, rfl, rfl⟩ ?_
        refine aw_cov (cov_prune (s1 := ⟨[(2, (.bool false))], [], 3⟩) ⟨rfl, trivial⟩ trivial (Nat.le_refl _)) ?_
        refine aw_ret ?_
        replace H := rt_of H hsn4 Hrn4
        refine rt_then ?_
        refine rt_blk ?_
        refine rt_then ?_
        refine rt_then ?_
        refine rt_blk ?_
        refine rt_then ?_
        refine rt_then ?_
        exact fun a w hr => ⟨_, [(.bool false)], hr, ⟨⟨_, rfl, .data _ trivial⟩, trivial⟩, by decide, by cases H; rfl⟩
      · replace H := ite_f hc H
        refine aw_skip ?_
        refine nx_seq ?_
        refine aw_region (es := [_, _, _, _, _, _, _, _, _, _, _, _, _, _, _, _, _]) ⟨Step.plain rfl (does_fieldAddr 32 1 1 5 2 0 [] (.var (e_api_Peer (p0.Peers ((v1.getD x3.toNat 0).toNat)))) fl32_1), ⟨⟨rfl, trivial⟩, ⟨rfl, trivial⟩, rfl⟩, rfl,
          Step.plain rfl (does_load 27 31 2 (0 + 1) [1] (.var (e_api_Peer (p0.Peers ((v1.getD x3.toNat 0).toNat)))) (e_api_Id ((p0.Peers ((v1.getD x3.toNat 0).toNat)).Conf)) ⟨rfl, Nat.le_of_ble_eq_true rfl, trivial⟩ rfl rfl ty27), ⟨⟨rfl, trivial⟩, ⟨rfl, trivial⟩, rfl⟩, rfl,
          Step.plain rfl (does_fieldAddr 35 8 40 1 0 0 [] (.var (e_api_Core p0)) fl35_8), ⟨⟨rfl, trivial⟩, ⟨rfl, trivial⟩, rfl⟩, rfl,
          Step.plain rfl (does_load 27 33 0 (0 + 40) [8] (.var (e_api_Core p0)) (e_api_Id p0.Promise) ⟨rfl, Nat.le_of_ble_eq_true rfl, trivial⟩ rfl rfl ty27), ⟨⟨rfl, trivial⟩, ⟨rfl, trivial⟩, rfl⟩, rfl,
          Step.plain rfl (does_eqT true 27 27 (.tmp 32) (.tmp 34) (e_api_Id ((p0.Peers ((v1.getD x3.toNat 0).toNat)).Conf)) (e_api_Id p0.Promise) (e_api_Id z_api_Id) (b_api_Id ((p0.Peers ((v1.getD x3.toNat 0).toNat)).Conf) p0.Promise) rfl rfl trivial trivial eg27 sh27 (al_api_Id _ _) (al_api_Id _ _) (q_api_Id _ _)), ⟨⟨rfl, rfl, trivial⟩, trivial, rfl⟩, rfl,
          Step.plain rfl (does_move (.tmp 35) (.bool (!(b_api_Id ((p0.Peers ((v1.getD x3.toNat 0).toNat)).Conf) p0.Promise))) trivial), ⟨⟨rfl, trivial⟩, trivial, rfl⟩, rfl,
          Step.guarded rfl rfl rfl rfl (fun hc => does_fieldAddr 32 2 4 5 2 0 [] (.var (e_api_Peer (p0.Peers ((v1.getD x3.toNat 0).toNat)))) fl32_2), ⟨⟨rfl, rfl, trivial⟩, ⟨rfl, trivial⟩, rfl⟩, rfl,
          Step.guarded rfl rfl rfl rfl (fun hc => Does.strip (n' := [(37, (.opt (!(b_api_Id ((p0.Peers ((v1.getD x3.toNat 0).toNat)).Conf) p0.Promise)) (.ptr 2 (0 + 4) [2])))]) (n := [(37, (.ptr 2 (0 + 4) [2]))]) ⟨(.opt _ _ hc), trivial⟩ (does_load 27 37 2 (0 + 4) [2] (.var (e_api_Peer (p0.Peers ((v1.getD x3.toNat 0).toNat)))) (e_api_Id ((p0.Peers ((v1.getD x3.toNat 0).toNat)).Promise)) ⟨rfl, Nat.le_of_ble_eq_true rfl, trivial⟩ rfl rfl ty27)), ⟨⟨rfl, rfl, trivial⟩, ⟨rfl, trivial⟩, rfl⟩, rfl,
          Step.guarded rfl rfl rfl rfl (fun hc => does_fieldAddr 35 8 40 1 0 0 [] (.var (e_api_Core p0)) fl35_8), ⟨⟨rfl, rfl, trivial⟩, ⟨rfl, trivial⟩, rfl⟩, rfl,
          Step.guarded rfl rfl rfl rfl (fun hc => Does.strip (n' := [(39, (.opt (!(b_api_Id ((p0.Peers ((v1.getD x3.toNat 0).toNat)).Conf) p0.Promise)) (.ptr 0 (0 + 40) [8])))]) (n := [(39, (.ptr 0 (0 + 40) [8]))]) ⟨(.opt _ _ hc), trivial⟩ (does_load 27 39 0 (0 + 40) [8] (.var (e_api_Core p0)) (e_api_Id p0.Promise) ⟨rfl, Nat.le_of_ble_eq_true rfl, trivial⟩ rfl rfl ty27)), ⟨⟨rfl, rfl, trivial⟩, ⟨rfl, trivial⟩, rfl⟩, rfl,
          Step.guarded rfl rfl rfl rfl (fun hc => Does.strip (n' := [(38, (.opt (!(b_api_Id ((p0.Peers ((v1.getD x3.toNat 0).toNat)).Conf) p0.Promise)) (e_api_Id ((p0.Peers ((v1.getD x3.toNat 0).toNat)).Promise)))), (40, (.opt (!(b_api_Id ((p0.Peers ((v1.getD x3.toNat 0).toNat)).Conf) p0.Promise)) (e_api_Id p0.Promise)))]) (n := [(38, (e_api_Id ((p0.Peers ((v1.getD x3.toNat 0).toNat)).Promise))), (40, (e_api_Id p0.Promise))]) ⟨(.opt _ _ hc), (.opt _ _ hc), trivial⟩ (does_eqT true 27 27 (.tmp 38) (.tmp 40) (e_api_Id ((p0.Peers ((v1.getD x3.toNat 0).toNat)).Promise)) (e_api_Id p0.Promise) (e_api_Id z_api_Id) (b_api_Id ((p0.Peers ((v1.getD x3.toNat 0).toNat)).Promise) p0.Promise) rfl rfl trivial trivial eg27 sh27 (al_api_Id _ _) (al_api_Id _ _) (q_api_Id _ _))), ⟨⟨rfl, rfl, rfl, trivial⟩, trivial, rfl⟩, rfl,
          Step.guarded rfl rfl rfl rfl (fun hc => Does.strip (n' := [(41, (.opt (!(b_api_Id ((p0.Peers ((v1.getD x3.toNat 0).toNat)).Conf) p0.Promise)) (.bool (!(b_api_Id ((p0.Peers ((v1.getD x3.toNat 0).toNat)).Promise) p0.Promise)))))]) (n := [(41, (.bool (!(b_api_Id ((p0.Peers ((v1.getD x3.toNat 0).toNat)).Promise) p0.Promise))))]) ⟨(.opt _ _ hc), trivial⟩ (does_move (.tmp 41) (.bool (!(b_api_Id ((p0.Peers ((v1.getD x3.toNat 0).toNat)).Promise) p0.Promise))) trivial)), ⟨⟨rfl, rfl, trivial⟩, trivial, rfl⟩, rfl,
          Step.guarded rfl rfl rfl rfl (fun hc => does_fieldAddr 32 4 15 5 2 0 [] (.var (e_api_Peer (p0.Peers ((v1.getD x3.toNat 0).toNat)))) fl32_4), ⟨⟨rfl, rfl, trivial⟩, ⟨rfl, trivial⟩, rfl⟩, rfl,
          Step.guarded rfl rfl rfl rfl (fun hc => Does.strip (n' := [(43, (.opt ((!(b_api_Id ((p0.Peers ((v1.getD x3.toNat 0).toNat)).Conf) p0.Promise)) && (!(!(b_api_Id ((p0.Peers ((v1.getD x3.toNat 0).toNat)).Promise) p0.Promise)))) (.ptr 2 (0 + 15) [4])))]) (n := [(43, (.ptr 2 (0 + 15) [4]))]) ⟨(.opt _ _ hc), trivial⟩ (does_load 4 43 2 (0 + 15) [4] (.var (e_api_Peer (p0.Peers ((v1.getD x3.toNat 0).toNat)))) (.bool ((p0.Peers ((v1.getD x3.toNat 0).toNat)).Ready)) ⟨rfl, Nat.le_of_ble_eq_true rfl, trivial⟩ rfl rfl ty4)), ⟨⟨rfl, rfl, trivial⟩, ⟨rfl, trivial⟩, rfl⟩, rfl,
          Step.guarded rfl rfl rfl rfl (fun hc => Does.strip (n' := [(44, (.opt ((!(b_api_Id ((p0.Peers ((v1.getD x3.toNat 0).toNat)).Conf) p0.Promise)) && (!(!(b_api_Id ((p0.Peers ((v1.getD x3.toNat 0).toNat)).Promise) p0.Promise)))) (.bool ((p0.Peers ((v1.getD x3.toNat 0).toNat)).Ready))))]) (n := [(44, (.bool ((p0.Peers ((v1.getD x3.toNat 0).toNat)).Ready)))]) ⟨(.opt _ _ hc), trivial⟩ (does_not 4 (.tmp 44) ((p0.Peers ((v1.getD x3.toNat 0).toNat)).Ready) trivial)), ⟨⟨rfl, rfl, trivial⟩, trivial, rfl⟩, rfl,
          Step.guarded rfl rfl rfl rfl (fun hc => Does.strip (n' := [(42, (.opt (!(b_api_Id ((p0.Peers ((v1.getD x3.toNat 0).toNat)).Conf) p0.Promise)) (.bool (!(b_api_Id ((p0.Peers ((v1.getD x3.toNat 0).toNat)).Promise) p0.Promise))))), (45, (.opt ((!(b_api_Id ((p0.Peers ((v1.getD x3.toNat 0).toNat)).Conf) p0.Promise)) && (!(!(b_api_Id ((p0.Peers ((v1.getD x3.toNat 0).toNat)).Promise) p0.Promise)))) (.bool (!((p0.Peers ((v1.getD x3.toNat 0).toNat)).Ready)))))]) (n := [(42, (.bool (!(b_api_Id ((p0.Peers ((v1.getD x3.toNat 0).toNat)).Promise) p0.Promise)))), (45, (.opt (!(!(b_api_Id ((p0.Peers ((v1.getD x3.toNat 0).toNat)).Promise) p0.Promise))) (.bool (!((p0.Peers ((v1.getD x3.toNat 0).toNat)).Ready)))))]) ⟨(.opt _ _ hc), (.half _ _ hc), trivial⟩ (does_or 42 45 (!(b_api_Id ((p0.Peers ((v1.getD x3.toNat 0).toNat)).Promise) p0.Promise)) (!((p0.Peers ((v1.getD x3.toNat 0).toNat)).Ready)))), ⟨⟨rfl, rfl, rfl, trivial⟩, trivial, rfl⟩, rfl,
          Step.plain rfl (does_and 36 46 (!(b_api_Id ((p0.Peers ((v1.getD x3.toNat 0).toNat)).Conf) p0.Promise)) ((!(b_api_Id ((p0.Peers ((v1.getD x3.toNat 0).toNat)).Promise) p0.Promise)) || (!((p0.Peers ((v1.getD x3.toNat 0).toNat)).Ready)))), ⟨⟨rfl, rfl, trivial⟩, trivial, rfl⟩, rfl, rfl⟩ ?_
        obtain ⟨v10, hv10, H⟩ := lt_of H
        refine aw_cov (cov_prune (s1 := ⟨[(1, (.ptr 0 0 [])), (3, (.own 1)), (4, (.int .i64 x3)), (47, (.bool v10))], [(0, some (.var (e_api_Core p0))), (1, some (.arr 1 v1.length fun j => (.int .i64 (v1.getD j 0))))], 3⟩) ⟨rfl, rfl, rfl, (by subst hv10; rfl), trivial⟩ ⟨rfl, rfl, trivial⟩ (Nat.le_refl _)) ?_
        refine aw_cond rfl (fun hc => ?_) (fun hc => ?_)
        · replace H := ite_t hc H
          refine aw_region (es := [_]) ⟨Step.plain rfl (does_assign (.const (.bool false)) (.bool false) (fun _ => rfl)), ⟨trivial, trivial, rfl⟩, rfl, rfl⟩ ?_
          refine aw_cov (cov_prune (s1 := ⟨[(2, (.bool false))], [], 3⟩) ⟨rfl, trivial⟩ trivial (Nat.le_refl _)) ?_
          refine aw_ret ?_
          replace H := rt_of H hsn4 Hrn4
          refine rt_blk ?_
          refine rt_then ?_
          refine rt_then ?_
          refine rt_blk ?_
          refine rt_then ?_
          refine rt_then ?_
          exact fun a w hr => ⟨_, [(.bool false)], hr, ⟨⟨_, rfl, .data _ trivial⟩, trivial⟩, by decide, by cases H; rfl⟩
        · replace H := ite_f hc H
          refine aw_skip ?_
          refine nx_blk ?_
          refine nx_seq ?_
          refine aw_region1 (es := [_, _, _]) ⟨Step.plain rfl (does_move (.tmp 4) (.int .i64 x3) trivial), ⟨⟨rfl, trivial⟩, trivial, rfl⟩, rfl,
            Step.plain rfl (does_bin .add 3 3 (.tmp 12) (.const (.int .i64 1)) .i64 x3 1 (.int .i64 (IntKind.i64.wrap (x3 + 1))) trivial (fun _ => rfl) (bin_add _ _ _ _)), ⟨⟨rfl, trivial⟩, trivial, rfl⟩, rfl,
            Step.plain rfl (does_assign (.tmp 13) (.int .i64 (IntKind.i64.wrap (x3 + 1))) trivial), ⟨⟨rfl, trivial⟩, trivial, rfl⟩, rfl, rfl⟩ ?_
          exact nx_loop ((IntKind.i64.wrap (x3 + 1))) H (cov_of (fun i => match i with | 0 => 0 | 1 => 1 | k => k) ⟨⟨_, rfl, ⟨rfl, Nat.le_of_ble_eq_true rfl⟩⟩, ⟨_, rfl, ⟨rfl, Nat.le_of_ble_eq_true rfl⟩⟩, ⟨_, rfl, ⟨rfl, trivial⟩⟩, trivial⟩ ⟨⟨Nat.le_of_ble_eq_true rfl, _, _, rfl, rfl, .inl ⟨rfl, (d_api_Core _).plain⟩⟩, ⟨Nat.le_of_ble_eq_true rfl, _, _, rfl, rfl, ⟨rfl, rfl, fun _ => ⟨rfl, trivial⟩⟩⟩, trivial⟩ rfl)
    · replace H := ite_f hc H
      refine aw_exit ?_
      refine ex_then ?_
      refine ex_then ?_
      refine ex_here ?_
      exact nx_ljoin () H hsn4 (cov_prune trivial trivial (Nat.le_of_ble_eq_true rfl))

theorem congresslaw12_GatherTells_spec (p0 : api_Core) (p1 : api_Packet) (p2 : (Nat → Int)) (r : Bool) (H : congresslaw12_GatherTells p0 p1 p2 = some r) : FSpec Try.prog 7 [(e_api_Core p0), (e_api_Packet p1), (e_a8_u32 p2)] (.bool r) := by
  refine spec_of (fn := Try.f7) (args := [(e_api_Core p0), (e_api_Packet p1), (e_a8_u32 p2)]) Try.func7 rfl (Nat.le_of_ble_eq_true rfl) ?_
  rintro ⟨G, w0, W, S, Sp⟩ hG
  cases hG
  unfold congresslaw12_GatherTells at H
  refine aw_region (es := [_, _, _, _]) ⟨Step.plain rfl (does_box 35 (.tmp 0) 0 (e_api_Core p0) trivial rfl), ⟨⟨rfl, trivial⟩, trivial, rfl⟩, rfl,
    Step.plain rfl (does_box 43 (.tmp 1) 1 (e_api_Packet p1) trivial rfl), ⟨⟨rfl, trivial⟩, trivial, rfl⟩, rfl,
    Step.plain rfl (does_box 28 (.tmp 2) 2 (e_a8_u32 p2) trivial rfl), ⟨⟨rfl, trivial⟩, trivial, rfl⟩, rfl,
    Step.plain rfl (does_assign (.const (.bool false)) (.bool false) (fun _ => rfl)), ⟨trivial, trivial, rfl⟩, rfl, rfl⟩ ?_
  refine aw_cov (cov_prune (s1 := ⟨[(3, (.ptr 0 0 [])), (4, (.ptr 1 0 [])), (5, (.ptr 2 0 []))], [(0, some (.var (e_api_Core p0))), (1, some (.var (e_api_Packet p1))), (2, some (.var (e_a8_u32 p2)))], 3⟩) ⟨rfl, rfl, rfl, trivial⟩ ⟨rfl, rfl, rfl, trivial⟩ (Nat.le_refl _)) ?_
  refine aw_seq ?_
  refine aw_region (es := [_, _, _, _, _, _, _, _]) ⟨Step.plain rfl (does_fieldAddr 35 0 0 3 0 0 [] (.var (e_api_Core p0)) fl35_0), ⟨⟨rfl, trivial⟩, ⟨rfl, trivial⟩, rfl⟩, rfl,
    Step.plain rfl (does_load 3 13 0 (0 + 0) [0] (.var (e_api_Core p0)) (.int .i64 p0.Self) ⟨rfl, Nat.le_of_ble_eq_true rfl, trivial⟩ rfl rfl ty3), ⟨⟨rfl, trivial⟩, ⟨rfl, trivial⟩, rfl⟩, rfl,
    Step.plain rfl (does_bin .lss 3 3 (.tmp 14) (.const (.int .i64 0)) .i64 p0.Self 0 (.bool (decide (p0.Self < 0))) trivial (fun _ => rfl) (bin_lss _ _ _ _)), ⟨⟨rfl, trivial⟩, trivial, rfl⟩, rfl,
    Step.plain rfl (does_move (.tmp 15) (.bool (decide (p0.Self < 0))) trivial), ⟨⟨rfl, trivial⟩, trivial, rfl⟩, rfl,
    Step.guarded rfl rfl rfl rfl (fun hc => does_fieldAddr 35 0 0 3 0 0 [] (.var (e_api_Core p0)) fl35_0), ⟨⟨rfl, rfl, trivial⟩, ⟨rfl, trivial⟩, rfl⟩, rfl,
    Step.guarded rfl rfl rfl rfl (fun hc => Does.strip (n' := [(17, (.opt (!(decide (p0.Self < 0))) (.ptr 0 (0 + 0) [0])))]) (n := [(17, (.ptr 0 (0 + 0) [0]))]) ⟨(.opt _ _ hc), trivial⟩ (does_load 3 17 0 (0 + 0) [0] (.var (e_api_Core p0)) (.int .i64 p0.Self) ⟨rfl, Nat.le_of_ble_eq_true rfl, trivial⟩ rfl rfl ty3)), ⟨⟨rfl, rfl, trivial⟩, ⟨rfl, trivial⟩, rfl⟩, rfl,
    Step.guarded rfl rfl rfl rfl (fun hc => Does.strip (n' := [(18, (.opt (!(decide (p0.Self < 0))) (.int .i64 p0.Self)))]) (n := [(18, (.int .i64 p0.Self))]) ⟨(.opt _ _ hc), trivial⟩ (does_bin .gtr 3 3 (.tmp 18) (.const (.int .i64 7)) .i64 p0.Self 7 (.bool (decide (p0.Self > 7))) trivial (fun _ => rfl) (bin_gtr _ _ _ _))), ⟨⟨rfl, rfl, trivial⟩, trivial, rfl⟩, rfl,
    Step.plain rfl (does_or 16 19 (decide (p0.Self < 0)) (decide (p0.Self > 7))), ⟨⟨rfl, rfl, trivial⟩, trivial, rfl⟩, rfl, rfl⟩ ?_
  refine aw_cov (cov_prune (s1 := ⟨[(3, (.ptr 0 0 [])), (4, (.ptr 1 0 [])), (5, (.ptr 2 0 [])), (20, (.bool ((decide (p0.Self < 0)) || (decide (p0.Self > 7)))))], [(0, some (.var (e_api_Core p0))), (1, some (.var (e_api_Packet p1))), (2, some (.var (e_a8_u32 p2)))], 3⟩) ⟨rfl, rfl, rfl, rfl, trivial⟩ ⟨rfl, rfl, rfl, trivial⟩ (Nat.le_refl _)) ?_
  refine aw_cond rfl (fun hc => ?_) (fun hc => ?_)
  · replace H := ite_t hc H
    obtain ⟨v1, h2, H⟩ := bnd H
    refine aw_region (es := [_, _]) ⟨Step.plain rfl (does_call 8 0 (fun _ => .any) (.func 8) [] [] [] true [] (.bool v1) _ _ rfl fo8 rfl trivial trivial (congresslaw12_fixed_spec _ h2) trivial), ⟨trivial, trivial, rfl⟩, rfl,
      Step.plain rfl (does_assign (.tmp 21) (.bool v1) trivial), ⟨⟨rfl, trivial⟩, trivial, rfl⟩, rfl, rfl⟩ ?_
    refine aw_cov (cov_prune (s1 := ⟨[(6, (.bool v1))], [], 3⟩) ⟨rfl, trivial⟩ trivial (Nat.le_refl _)) ?_
    refine aw_ret ?_
    refine rt_then ?_
    exact fun a w hr => ⟨_, [(.bool v1)], hr, ⟨⟨_, rfl, .data _ trivial⟩, trivial⟩, by decide, by cases H; rfl⟩
  · replace H := ite_f hc H
    refine aw_skip ?_
    refine nx_seq ?_
    obtain ⟨h3, H⟩ := ib_of H
    refine aw_region (es := [_, _, _, _, _, _, _]) ⟨Step.plain rfl (does_fieldAddr 35 0 0 3 0 0 [] (.var (e_api_Core p0)) fl35_0), ⟨⟨rfl, trivial⟩, ⟨rfl, trivial⟩, rfl⟩, rfl,
      Step.plain rfl (does_load 3 22 0 (0 + 0) [0] (.var (e_api_Core p0)) (.int .i64 p0.Self) ⟨rfl, Nat.le_of_ble_eq_true rfl, trivial⟩ rfl rfl ty3), ⟨⟨rfl, trivial⟩, ⟨rfl, trivial⟩, rfl⟩, rfl,
      Step.plain rfl (does_fieldAddr 35 12 60 3 0 0 [] (.var (e_api_Core p0)) fl35_12), ⟨⟨rfl, trivial⟩, ⟨rfl, trivial⟩, rfl⟩, rfl,
      Step.plain rfl (does_indexAddr 33 8 16 24 0 (0 + 60) [12] (.var (e_api_Core p0)) (.tmp 23) .i64 p0.Self el33 trivial h3.1 h3.2), ⟨⟨rfl, rfl, trivial⟩, ⟨rfl, trivial⟩, rfl⟩, rfl,
      Step.plain rfl (does_load 32 25 0 ((0 + 60) + p0.Self.toNat * 16) [12, p0.Self.toNat] (.var (e_api_Core p0)) (e_api_Peer (p0.Peers p0.Self.toNat)) ⟨rfl, Nat.le_of_ble_eq_true rfl, ⟨rfl, (ixl h3), trivial⟩⟩ rfl rfl ty32), ⟨⟨rfl, trivial⟩, ⟨rfl, trivial⟩, rfl⟩, rfl,
      Step.plain rfl (does_alloc 32 3 (e_api_Peer z_api_Peer) zr32), ⟨trivial, trivial, rfl⟩, rfl,
      Step.plain rfl (does_store 32 7 (.tmp 26) 3 0 [] (.var (e_api_Peer z_api_Peer)) (.var (e_api_Peer (p0.Peers p0.Self.toNat))) (e_api_Peer (p0.Peers p0.Self.toNat)) true trivial rfl trivial rfl rfl rfl ty32), ⟨⟨rfl, rfl, trivial⟩, ⟨rfl, trivial⟩, rfl⟩, rfl, rfl⟩ ?_
    refine aw_cov (cov_prune (s1 := ⟨[(3, (.ptr 0 0 [])), (4, (.ptr 1 0 [])), (5, (.ptr 2 0 [])), (7, (.ptr 3 0 []))], [(0, some (.var (e_api_Core p0))), (1, some (.var (e_api_Packet p1))), (2, some (.var (e_a8_u32 p2))), (3, some (.var (e_api_Peer (p0.Peers p0.Self.toNat))))], 4⟩) ⟨rfl, rfl, rfl, rfl, trivial⟩ ⟨rfl, rfl, rfl, rfl, trivial⟩ (Nat.le_refl _)) ?_
    obtain ⟨v4, h5, H⟩ := bnd H
    refine aw_region (es := [_, _, _, _, _, _, _, _, _]) ⟨Step.plain rfl (does_load 35 3 0 0 [] (.var (e_api_Core p0)) (e_api_Core p0) trivial rfl rfl ty35), ⟨⟨rfl, trivial⟩, ⟨rfl, trivial⟩, rfl⟩, rfl,
      Step.plain rfl (does_load 28 5 2 0 [] (.var (e_a8_u32 p2)) (e_a8_u32 p2) trivial rfl rfl ty28), ⟨⟨rfl, trivial⟩, ⟨rfl, trivial⟩, rfl⟩, rfl,
      Step.plain rfl (does_call 11 0 (fun _ => .any) (.func 11) [(.tmp 28), (.tmp 29)] [(e_api_Core p0), (e_a8_u32 p2)] [] true [(e_api_Core p0), (e_a8_u32 p2)] (resV [(e_api_Id v4.1), (.bool v4.2)]) _ _ rfl fo11 rfl ⟨trivial, trivial, trivial⟩ ⟨.data _ (d_api_Core p0), .data _ (d_a8_u32 p2), trivial⟩ (gather_Propose_spec p0 p2 _ h5) (res_flat2 (f_api_Id v4.1) trivial)), ⟨⟨rfl, rfl, trivial⟩, trivial, rfl⟩, rfl,
      Step.plain rfl (does_move (.tmp 30) (resV [(e_api_Id v4.1), (.bool v4.2)]) trivial), ⟨⟨rfl, trivial⟩, trivial, rfl⟩, rfl,
      Step.plain rfl (does_extract 27 0 2 (fun j => [(e_api_Id v4.1), (.bool v4.2)].getD j (.bool false)) (Nat.le_of_ble_eq_true rfl)), ⟨⟨rfl, trivial⟩, trivial, rfl⟩, rfl,
      Step.plain rfl (does_extract 27 1 2 (fun j => [(e_api_Id v4.1), (.bool v4.2)].getD j (.bool false)) (Nat.le_of_ble_eq_true rfl)), ⟨⟨rfl, trivial⟩, trivial, rfl⟩, rfl,
      Step.plain rfl (does_alloc 27 4 (e_api_Id z_api_Id) zr27), ⟨trivial, trivial, rfl⟩, rfl,
      Step.plain rfl (does_store 27 8 (.tmp 31) 4 0 [] (.var (e_api_Id z_api_Id)) (.var (e_api_Id v4.1)) (e_api_Id v4.1) true trivial rfl trivial rfl rfl rfl ty27), ⟨⟨rfl, rfl, trivial⟩, ⟨rfl, trivial⟩, rfl⟩, rfl,
      Step.plain rfl (does_assign (.tmp 32) (.bool v4.2) trivial), ⟨⟨rfl, trivial⟩, trivial, rfl⟩, rfl, rfl⟩ ?_
    refine aw_cov (cov_prune (s1 := ⟨[(3, (.ptr 0 0 [])), (4, (.ptr 1 0 [])), (5, (.ptr 2 0 [])), (7, (.ptr 3 0 [])), (8, (.ptr 4 0 [])), (9, (.bool v4.2))], [(0, some (.var (e_api_Core p0))), (1, some (.var (e_api_Packet p1))), (2, some (.var (e_a8_u32 p2))), (3, some (.var (e_api_Peer (p0.Peers p0.Self.toNat)))), (4, some (.var (e_api_Id v4.1)))], 5⟩) ⟨rfl, rfl, rfl, rfl, rfl, rfl, trivial⟩ ⟨rfl, rfl, rfl, rfl, rfl, trivial⟩ (Nat.le_refl _)) ?_
    obtain ⟨v6, h7, H⟩ := bnd H
    refine aw_region (es := [_, _, _, _, _, _, _, _, _]) ⟨Step.plain rfl (does_load 35 3 0 0 [] (.var (e_api_Core p0)) (e_api_Core p0) trivial rfl rfl ty35), ⟨⟨rfl, trivial⟩, ⟨rfl, trivial⟩, rfl⟩, rfl,
      Step.plain rfl (does_load 28 5 2 0 [] (.var (e_a8_u32 p2)) (e_a8_u32 p2) trivial rfl rfl ty28), ⟨⟨rfl, trivial⟩, ⟨rfl, trivial⟩, rfl⟩, rfl,
      Step.plain rfl (does_call 14 0 (fun _ => .any) (.func 14) [(.tmp 34), (.tmp 35)] [(e_api_Core p0), (e_a8_u32 p2)] [] true [(e_api_Core p0), (e_a8_u32 p2)] (resV [(e_api_Id v6.1), (.bool v6.2)]) _ _ rfl fo14 rfl ⟨trivial, trivial, trivial⟩ ⟨.data _ (d_api_Core p0), .data _ (d_a8_u32 p2), trivial⟩ (congressref12_Propose_spec p0 p2 _ h7) (res_flat2 (f_api_Id v6.1) trivial)), ⟨⟨rfl, rfl, trivial⟩, trivial, rfl⟩, rfl,
      Step.plain rfl (does_move (.tmp 36) (resV [(e_api_Id v6.1), (.bool v6.2)]) trivial), ⟨⟨rfl, trivial⟩, trivial, rfl⟩, rfl,
      Step.plain rfl (does_extract 33 0 2 (fun j => [(e_api_Id v6.1), (.bool v6.2)].getD j (.bool false)) (Nat.le_of_ble_eq_true rfl)), ⟨⟨rfl, trivial⟩, trivial, rfl⟩, rfl,
      Step.plain rfl (does_extract 33 1 2 (fun j => [(e_api_Id v6.1), (.bool v6.2)].getD j (.bool false)) (Nat.le_of_ble_eq_true rfl)), ⟨⟨rfl, trivial⟩, trivial, rfl⟩, rfl,
      Step.plain rfl (does_alloc 27 5 (e_api_Id z_api_Id) zr27), ⟨trivial, trivial, rfl⟩, rfl,
      Step.plain rfl (does_store 27 10 (.tmp 37) 5 0 [] (.var (e_api_Id z_api_Id)) (.var (e_api_Id v6.1)) (e_api_Id v6.1) true trivial rfl trivial rfl rfl rfl ty27), ⟨⟨rfl, rfl, trivial⟩, ⟨rfl, trivial⟩, rfl⟩, rfl,
      Step.plain rfl (does_assign (.tmp 38) (.bool v6.2) trivial), ⟨⟨rfl, trivial⟩, trivial, rfl⟩, rfl, rfl⟩ ?_
    refine aw_cov (cov_prune (s1 := ⟨[(3, (.ptr 0 0 [])), (4, (.ptr 1 0 [])), (7, (.ptr 3 0 [])), (8, (.ptr 4 0 [])), (9, (.bool v4.2)), (10, (.ptr 5 0 [])), (11, (.bool v6.2))], [(0, some (.var (e_api_Core p0))), (1, some (.var (e_api_Packet p1))), (3, some (.var (e_api_Peer (p0.Peers p0.Self.toNat)))), (4, some (.var (e_api_Id v4.1))), (5, some (.var (e_api_Id v6.1)))], 6⟩) ⟨rfl, rfl, rfl, rfl, rfl, rfl, rfl, trivial⟩ ⟨rfl, rfl, rfl, rfl, rfl, trivial⟩ (Nat.le_refl _)) ?_
    obtain ⟨v8, h9, H⟩ := bnd H
    obtain ⟨v10, h11, H⟩ := bnd H
    refine aw_draw (es := [_, _, _, _, _, _, _, _, _, _, _, _, _, _, _, _, _, _]) (mixed) ⟨Step.plain rfl (does_fieldAddr 35 8 40 3 0 0 [] (.var (e_api_Core p0)) fl35_8), ⟨⟨rfl, trivial⟩, ⟨rfl, trivial⟩, rfl⟩, rfl,
      Step.plain rfl (does_load 27 39 0 (0 + 40) [8] (.var (e_api_Core p0)) (e_api_Id p0.Promise) ⟨rfl, Nat.le_of_ble_eq_true rfl, trivial⟩ rfl rfl ty27), ⟨⟨rfl, trivial⟩, ⟨rfl, trivial⟩, rfl⟩, rfl,
      Step.plain rfl (does_fieldAddr 35 0 0 3 0 0 [] (.var (e_api_Core p0)) fl35_0), ⟨⟨rfl, trivial⟩, ⟨rfl, trivial⟩, rfl⟩, rfl,
      Step.plain rfl (does_load 3 41 0 (0 + 0) [0] (.var (e_api_Core p0)) (.int .i64 p0.Self) ⟨rfl, Nat.le_of_ble_eq_true rfl, trivial⟩ rfl rfl ty3), ⟨⟨rfl, trivial⟩, ⟨rfl, trivial⟩, rfl⟩, rfl,
      Step.plain rfl (does_fieldAddr 35 2 2 3 0 0 [] (.var (e_api_Core p0)) fl35_2), ⟨⟨rfl, trivial⟩, ⟨rfl, trivial⟩, rfl⟩, rfl,
      Step.plain rfl (does_load 22 43 0 (0 + 2) [2] (.var (e_api_Core p0)) (.int .u32 p0.Own) ⟨rfl, Nat.le_of_ble_eq_true rfl, trivial⟩ rfl rfl ty22), ⟨⟨rfl, trivial⟩, ⟨rfl, trivial⟩, rfl⟩, rfl,
      Step.plain rfl (does_load 43 4 1 0 [] (.var (e_api_Packet p1)) (e_api_Packet p1) trivial rfl rfl ty43), ⟨⟨rfl, trivial⟩, ⟨rfl, trivial⟩, rfl⟩, rfl,
      Step.plain rfl (does_call 9 0 (fun _ => .any) (.func 9) [(.tmp 40), (.tmp 42), (.tmp 44), (.tmp 45)] [(e_api_Id p0.Promise), (.int .i64 p0.Self), (.int .u32 p0.Own), (e_api_Packet p1)] [] true [(e_api_Id p0.Promise), (.int .i64 p0.Self), (.int .u32 p0.Own), (e_api_Packet p1)] (.bool v8) _ _ rfl fo9 rfl ⟨trivial, trivial, trivial, trivial, trivial⟩ ⟨.data _ (d_api_Id p0.Promise), .data _ trivial, .data _ trivial, .data _ (d_api_Packet p1), trivial⟩ (gather_Adopt_spec p0.Promise p0.Self p0.Own p1 _ h9) trivial), ⟨⟨rfl, rfl, rfl, rfl, trivial⟩, trivial, rfl⟩, rfl,
      Step.plain rfl (does_fieldAddr 35 8 40 3 0 0 [] (.var (e_api_Core p0)) fl35_8), ⟨⟨rfl, trivial⟩, ⟨rfl, trivial⟩, rfl⟩, rfl,
      Step.plain rfl (does_load 27 47 0 (0 + 40) [8] (.var (e_api_Core p0)) (e_api_Id p0.Promise) ⟨rfl, Nat.le_of_ble_eq_true rfl, trivial⟩ rfl rfl ty27), ⟨⟨rfl, trivial⟩, ⟨rfl, trivial⟩, rfl⟩, rfl,
      Step.plain rfl (does_fieldAddr 35 0 0 3 0 0 [] (.var (e_api_Core p0)) fl35_0), ⟨⟨rfl, trivial⟩, ⟨rfl, trivial⟩, rfl⟩, rfl,
      Step.plain rfl (does_load 3 49 0 (0 + 0) [0] (.var (e_api_Core p0)) (.int .i64 p0.Self) ⟨rfl, Nat.le_of_ble_eq_true rfl, trivial⟩ rfl rfl ty3), ⟨⟨rfl, trivial⟩, ⟨rfl, trivial⟩, rfl⟩, rfl,
      Step.plain rfl (does_fieldAddr 35 2 2 3 0 0 [] (.var (e_api_Core p0)) fl35_2), ⟨⟨rfl, trivial⟩, ⟨rfl, trivial⟩, rfl⟩, rfl,
      Step.plain rfl (does_load 22 51 0 (0 + 2) [2] (.var (e_api_Core p0)) (.int .u32 p0.Own) ⟨rfl, Nat.le_of_ble_eq_true rfl, trivial⟩ rfl rfl ty22), ⟨⟨rfl, trivial⟩, ⟨rfl, trivial⟩, rfl⟩, rfl,
      Step.plain rfl (does_load 43 4 1 0 [] (.var (e_api_Packet p1)) (e_api_Packet p1) trivial rfl rfl ty43), ⟨⟨rfl, trivial⟩, ⟨rfl, trivial⟩, rfl⟩, rfl,
      Step.plain rfl (does_call 15 0 (fun _ => .any) (.func 15) [(.tmp 48), (.tmp 50), (.tmp 52), (.tmp 53)] [(e_api_Id p0.Promise), (.int .i64 p0.Self), (.int .u32 p0.Own), (e_api_Packet p1)] [] true [(e_api_Id p0.Promise), (.int .i64 p0.Self), (.int .u32 p0.Own), (e_api_Packet p1)] (.bool v10) _ _ rfl fo15 rfl ⟨trivial, trivial, trivial, trivial, trivial⟩ ⟨.data _ (d_api_Id p0.Promise), .data _ trivial, .data _ trivial, .data _ (d_api_Packet p1), trivial⟩ (congressref12_Adopt_spec p0.Promise p0.Self p0.Own p1 _ h11) trivial), ⟨⟨rfl, rfl, rfl, rfl, trivial⟩, trivial, rfl⟩, rfl,
      Step.plain rfl (does_eqBool false 4 4 (.tmp 46) (.tmp 54) v8 v10 trivial trivial rfl), ⟨⟨rfl, rfl, trivial⟩, trivial, rfl⟩, rfl,
      Step.plain rfl (does_assign (.tmp 55) (.bool (v8 == v10)) trivial), ⟨⟨rfl, trivial⟩, trivial, rfl⟩, rfl, rfl⟩ rfl ?_
    refine aw_cov (cov_prune (s1 := ⟨[(3, (.ptr 0 0 [])), (4, (.ptr 1 0 [])), (7, (.ptr 3 0 [])), (8, (.ptr 4 0 [])), (9, (.bool v4.2)), (10, (.ptr 5 0 [])), (11, (.bool v6.2)), (12, (.bool (v8 == v10)))], [(0, some (.var (e_api_Core p0))), (1, some (.var (e_api_Packet p1))), (3, some (.var (e_api_Peer (p0.Peers p0.Self.toNat)))), (4, some (.var (e_api_Id v4.1))), (5, some (.var (e_api_Id v6.1)))], 6⟩) ⟨rfl, rfl, rfl, rfl, rfl, rfl, rfl, rfl, trivial⟩ ⟨rfl, rfl, rfl, rfl, rfl, trivial⟩ (Nat.le_refl _)) ?_
    obtain ⟨v12, h13, H⟩ := bnd H
    obtain ⟨v14, h15, H⟩ := whn_of H
    obtain ⟨v16, h17, H⟩ := whn_of H
    obtain ⟨v18, h19, H⟩ := whn_of H
    obtain ⟨v20, h21, H⟩ := whn_of H
    obtain ⟨v22, h23, H⟩ := whn_of H
    obtain ⟨v24, h25, H⟩ := whn_of H
    obtain ⟨v26, h27, H⟩ := whn_of H
    obtain ⟨v28, h29, H⟩ := whn_of H
    refine aw_draw (es := [_, _, _, _, _, _, _, _, _, _, _, _, _, _, _, _, _, _, _, _, _, _, _, _, _, _, _, _, _, _, _, _, _, _, _, _, _, _, _, _, _, _, _, _, _]) (mixed) ⟨Step.plain rfl (does_call 8 0 (fun _ => .any) (.func 8) [] [] [] true [] (.bool v12) _ _ rfl fo8 rfl trivial trivial (congresslaw12_fixed_spec _ h13) trivial), ⟨trivial, trivial, rfl⟩, rfl,
      Step.plain rfl (does_move (.tmp 56) (.bool v12) trivial), ⟨⟨rfl, trivial⟩, trivial, rfl⟩, rfl,
      Step.guarded rfl rfl rfl rfl (fun hc => does_load 32 7 3 0 [] (.var (e_api_Peer (p0.Peers p0.Self.toNat))) (e_api_Peer (p0.Peers p0.Self.toNat)) trivial rfl rfl ty32), ⟨⟨rfl, rfl, trivial⟩, ⟨rfl, trivial⟩, rfl⟩, rfl,
      Step.guarded rfl rfl rfl rfl (fun hc => does_load 43 4 1 0 [] (.var (e_api_Packet p1)) (e_api_Packet p1) trivial rfl rfl ty43), ⟨⟨rfl, rfl, trivial⟩, ⟨rfl, trivial⟩, rfl⟩, rfl,
      Step.guarded rfl rfl rfl rfl (fun hc => Does.strip (n' := [(58, (.opt v12 (e_api_Peer (p0.Peers p0.Self.toNat)))), (59, (.opt v12 (e_api_Packet p1)))]) (n := [(58, (e_api_Peer (p0.Peers p0.Self.toNat))), (59, (e_api_Packet p1))]) ⟨(.opt _ _ hc), (.opt _ _ hc), trivial⟩ (does_call 13 0 (fun _ => .any) (.func 13) [(.tmp 58), (.tmp 59)] [(e_api_Peer (p0.Peers p0.Self.toNat)), (e_api_Packet p1)] [] true [(e_api_Peer (p0.Peers p0.Self.toNat)), (e_api_Packet p1)] (e_api_Peer v14) _ _ rfl fo13 rfl ⟨trivial, trivial, trivial⟩ ⟨.data _ (d_api_Peer (p0.Peers p0.Self.toNat)), .data _ (d_api_Packet p1), trivial⟩ (gather_Update_spec (p0.Peers p0.Self.toNat) p1 _ (h15 hc)) (f_api_Peer v14))), ⟨⟨rfl, rfl, rfl, trivial⟩, trivial, rfl⟩, rfl,
      Step.guarded rfl rfl rfl rfl (fun hc => does_load 32 7 3 0 [] (.var (e_api_Peer (p0.Peers p0.Self.toNat))) (e_api_Peer (p0.Peers p0.Self.toNat)) trivial rfl rfl ty32), ⟨⟨rfl, rfl, trivial⟩, ⟨rfl, trivial⟩, rfl⟩, rfl,
      Step.guarded rfl rfl rfl rfl (fun hc => does_load 43 4 1 0 [] (.var (e_api_Packet p1)) (e_api_Packet p1) trivial rfl rfl ty43), ⟨⟨rfl, rfl, trivial⟩, ⟨rfl, trivial⟩, rfl⟩, rfl,
      Step.guarded rfl rfl rfl rfl (fun hc => Does.strip (n' := [(61, (.opt v12 (e_api_Peer (p0.Peers p0.Self.toNat)))), (62, (.opt v12 (e_api_Packet p1)))]) (n := [(61, (e_api_Peer (p0.Peers p0.Self.toNat))), (62, (e_api_Packet p1))]) ⟨(.opt _ _ hc), (.opt _ _ hc), trivial⟩ (does_call 16 0 (fun _ => .any) (.func 16) [(.tmp 61), (.tmp 62)] [(e_api_Peer (p0.Peers p0.Self.toNat)), (e_api_Packet p1)] [] true [(e_api_Peer (p0.Peers p0.Self.toNat)), (e_api_Packet p1)] (e_api_Peer v16) _ _ rfl fo16 rfl ⟨trivial, trivial, trivial⟩ ⟨.data _ (d_api_Peer (p0.Peers p0.Self.toNat)), .data _ (d_api_Packet p1), trivial⟩ (congressref12_Update_spec (p0.Peers p0.Self.toNat) p1 _ (h17 hc)) (f_api_Peer v16))), ⟨⟨rfl, rfl, rfl, trivial⟩, trivial, rfl⟩, rfl,
      Step.guarded rfl rfl rfl rfl (fun hc => Does.strip (n' := [(60, (.opt v12 (e_api_Peer v14))), (63, (.opt v12 (e_api_Peer v16)))]) (n := [(60, (e_api_Peer v14)), (63, (e_api_Peer v16))]) ⟨(.opt _ _ hc), (.opt _ _ hc), trivial⟩ (does_eqT false 32 32 (.tmp 60) (.tmp 63) (e_api_Peer v14) (e_api_Peer v16) (e_api_Peer z_api_Peer) (b_api_Peer v14 v16) rfl rfl trivial trivial eg32 sh32 (al_api_Peer _ _) (al_api_Peer _ _) (q_api_Peer _ _))), ⟨⟨rfl, rfl, rfl, trivial⟩, trivial, rfl⟩, rfl,
      Step.plain rfl (does_and 57 64 v12 (b_api_Peer v14 v16)), ⟨⟨rfl, rfl, trivial⟩, trivial, rfl⟩, rfl,
      Step.plain rfl (does_move (.tmp 65) (.bool (v12 && (b_api_Peer v14 v16))) trivial), ⟨⟨rfl, trivial⟩, trivial, rfl⟩, rfl,
      Step.guarded rfl rfl rfl rfl (fun hc => does_move (.tmp 12) (.bool (v8 == v10)) trivial), ⟨⟨rfl, rfl, trivial⟩, trivial, rfl⟩, rfl,
      Step.plain rfl (does_and 66 67 (v12 && (b_api_Peer v14 v16)) (v8 == v10)), ⟨⟨rfl, rfl, trivial⟩, trivial, rfl⟩, rfl,
      Step.plain rfl (does_move (.tmp 68) (.bool ((v12 && (b_api_Peer v14 v16)) && (v8 == v10))) trivial), ⟨⟨rfl, trivial⟩, trivial, rfl⟩, rfl,
      Step.guarded rfl rfl rfl rfl (fun hc => does_load 27 8 4 0 [] (.var (e_api_Id v4.1)) (e_api_Id v4.1) trivial rfl rfl ty27), ⟨⟨rfl, rfl, trivial⟩, ⟨rfl, trivial⟩, rfl⟩, rfl,
      Step.guarded rfl rfl rfl rfl (fun hc => does_load 27 10 5 0 [] (.var (e_api_Id v6.1)) (e_api_Id v6.1) trivial rfl rfl ty27), ⟨⟨rfl, rfl, trivial⟩, ⟨rfl, trivial⟩, rfl⟩, rfl,
      Step.guarded rfl rfl rfl rfl (fun hc => Does.strip (n' := [(70, (.opt ((v12 && (b_api_Peer v14 v16)) && (v8 == v10)) (e_api_Id v4.1))), (71, (.opt ((v12 && (b_api_Peer v14 v16)) && (v8 == v10)) (e_api_Id v6.1)))]) (n := [(70, (e_api_Id v4.1)), (71, (e_api_Id v6.1))]) ⟨(.opt _ _ hc), (.opt _ _ hc), trivial⟩ (does_eqT false 27 27 (.tmp 70) (.tmp 71) (e_api_Id v4.1) (e_api_Id v6.1) (e_api_Id z_api_Id) (b_api_Id v4.1 v6.1) rfl rfl trivial trivial eg27 sh27 (al_api_Id _ _) (al_api_Id _ _) (q_api_Id _ _))), ⟨⟨rfl, rfl, rfl, trivial⟩, trivial, rfl⟩, rfl,
      Step.plain rfl (does_and 69 72 ((v12 && (b_api_Peer v14 v16)) && (v8 == v10)) (b_api_Id v4.1 v6.1)), ⟨⟨rfl, rfl, trivial⟩, trivial, rfl⟩, rfl,
      Step.plain rfl (does_move (.tmp 73) (.bool (((v12 && (b_api_Peer v14 v16)) && (v8 == v10)) && (b_api_Id v4.1 v6.1))) trivial), ⟨⟨rfl, trivial⟩, trivial, rfl⟩, rfl,
      Step.guarded rfl rfl rfl rfl (fun hc => does_move (.tmp 9) (.bool v4.2) trivial), ⟨⟨rfl, rfl, trivial⟩, trivial, rfl⟩, rfl,
      Step.guarded rfl rfl rfl rfl (fun hc => does_move (.tmp 11) (.bool v6.2) trivial), ⟨⟨rfl, rfl, trivial⟩, trivial, rfl⟩, rfl,
      Step.guarded rfl rfl rfl rfl (fun hc => Does.strip (n' := [(75, (.opt (((v12 && (b_api_Peer v14 v16)) && (v8 == v10)) && (b_api_Id v4.1 v6.1)) (.bool v4.2))), (76, (.opt (((v12 && (b_api_Peer v14 v16)) && (v8 == v10)) && (b_api_Id v4.1 v6.1)) (.bool v6.2)))]) (n := [(75, (.bool v4.2)), (76, (.bool v6.2))]) ⟨(.opt _ _ hc), (.opt _ _ hc), trivial⟩ (does_eqBool false 4 4 (.tmp 75) (.tmp 76) v4.2 v6.2 trivial trivial rfl)), ⟨⟨rfl, rfl, rfl, trivial⟩, trivial, rfl⟩, rfl,
      Step.plain rfl (does_and 74 77 (((v12 && (b_api_Peer v14 v16)) && (v8 == v10)) && (b_api_Id v4.1 v6.1)) (v4.2 == v6.2)), ⟨⟨rfl, rfl, trivial⟩, trivial, rfl⟩, rfl,
      Step.plain rfl (does_move (.tmp 78) (.bool ((((v12 && (b_api_Peer v14 v16)) && (v8 == v10)) && (b_api_Id v4.1 v6.1)) && (v4.2 == v6.2))) trivial), ⟨⟨rfl, trivial⟩, trivial, rfl⟩, rfl,
      Step.guarded rfl rfl rfl rfl (fun hc => does_load 35 3 0 0 [] (.var (e_api_Core p0)) (e_api_Core p0) trivial rfl rfl ty35), ⟨⟨rfl, rfl, trivial⟩, ⟨rfl, trivial⟩, rfl⟩, rfl,
      Step.guarded rfl rfl rfl rfl (fun hc => Does.strip (n' := [(80, (.opt ((((v12 && (b_api_Peer v14 v16)) && (v8 == v10)) && (b_api_Id v4.1 v6.1)) && (v4.2 == v6.2)) (e_api_Core p0)))]) (n := [(80, (e_api_Core p0))]) ⟨(.opt _ _ hc), trivial⟩ (does_call 17 0 (fun _ => .any) (.func 17) [(.tmp 80)] [(e_api_Core p0)] [] true [(e_api_Core p0)] (.bool v18) _ _ rfl fo17 rfl ⟨trivial, trivial⟩ ⟨.data _ (d_api_Core p0), trivial⟩ (gather_All_spec p0 _ (h19 hc)) trivial)), ⟨⟨rfl, rfl, trivial⟩, trivial, rfl⟩, rfl,
      Step.guarded rfl rfl rfl rfl (fun hc => does_load 35 3 0 0 [] (.var (e_api_Core p0)) (e_api_Core p0) trivial rfl rfl ty35), ⟨⟨rfl, rfl, trivial⟩, ⟨rfl, trivial⟩, rfl⟩, rfl,
      Step.guarded rfl rfl rfl rfl (fun hc => Does.strip (n' := [(82, (.opt ((((v12 && (b_api_Peer v14 v16)) && (v8 == v10)) && (b_api_Id v4.1 v6.1)) && (v4.2 == v6.2)) (e_api_Core p0)))]) (n := [(82, (e_api_Core p0))]) ⟨(.opt _ _ hc), trivial⟩ (does_call 18 0 (fun _ => .any) (.func 18) [(.tmp 82)] [(e_api_Core p0)] [] true [(e_api_Core p0)] (.bool v20) _ _ rfl fo18 rfl ⟨trivial, trivial⟩ ⟨.data _ (d_api_Core p0), trivial⟩ (congressref12_All_spec p0 _ (h21 hc)) trivial)), ⟨⟨rfl, rfl, trivial⟩, trivial, rfl⟩, rfl,
      Step.guarded rfl rfl rfl rfl (fun hc => Does.strip (n' := [(81, (.opt ((((v12 && (b_api_Peer v14 v16)) && (v8 == v10)) && (b_api_Id v4.1 v6.1)) && (v4.2 == v6.2)) (.bool v18))), (83, (.opt ((((v12 && (b_api_Peer v14 v16)) && (v8 == v10)) && (b_api_Id v4.1 v6.1)) && (v4.2 == v6.2)) (.bool v20)))]) (n := [(81, (.bool v18)), (83, (.bool v20))]) ⟨(.opt _ _ hc), (.opt _ _ hc), trivial⟩ (does_eqBool false 4 4 (.tmp 81) (.tmp 83) v18 v20 trivial trivial rfl)), ⟨⟨rfl, rfl, rfl, trivial⟩, trivial, rfl⟩, rfl,
      Step.plain rfl (does_and 79 84 ((((v12 && (b_api_Peer v14 v16)) && (v8 == v10)) && (b_api_Id v4.1 v6.1)) && (v4.2 == v6.2)) (v18 == v20)), ⟨⟨rfl, rfl, trivial⟩, trivial, rfl⟩, rfl,
      Step.plain rfl (does_move (.tmp 85) (.bool (((((v12 && (b_api_Peer v14 v16)) && (v8 == v10)) && (b_api_Id v4.1 v6.1)) && (v4.2 == v6.2)) && (v18 == v20))) trivial), ⟨⟨rfl, trivial⟩, trivial, rfl⟩, rfl,
      Step.guarded rfl rfl rfl rfl (fun hc => does_load 35 3 0 0 [] (.var (e_api_Core p0)) (e_api_Core p0) trivial rfl rfl ty35), ⟨⟨rfl, rfl, trivial⟩, ⟨rfl, trivial⟩, rfl⟩, rfl,
      Step.guarded rfl rfl rfl rfl (fun hc => Does.strip (n' := [(87, (.opt (((((v12 && (b_api_Peer v14 v16)) && (v8 == v10)) && (b_api_Id v4.1 v6.1)) && (v4.2 == v6.2)) && (v18 == v20)) (e_api_Core p0)))]) (n := [(87, (e_api_Core p0))]) ⟨(.opt _ _ hc), trivial⟩ (does_call 12 0 (fun _ => .any) (.func 12) [(.tmp 87)] [(e_api_Core p0)] [] true [(e_api_Core p0)] (e_a8_u32 v22) _ _ rfl fo12 rfl ⟨trivial, trivial⟩ ⟨.data _ (d_api_Core p0), trivial⟩ (gather_Target_spec p0 _ (h23 hc)) (f_a8_u32 v22))), ⟨⟨rfl, rfl, trivial⟩, trivial, rfl⟩, rfl,
      Step.guarded rfl rfl rfl rfl (fun hc => does_load 35 3 0 0 [] (.var (e_api_Core p0)) (e_api_Core p0) trivial rfl rfl ty35), ⟨⟨rfl, rfl, trivial⟩, ⟨rfl, trivial⟩, rfl⟩, rfl,
      Step.guarded rfl rfl rfl rfl (fun hc => Does.strip (n' := [(89, (.opt (((((v12 && (b_api_Peer v14 v16)) && (v8 == v10)) && (b_api_Id v4.1 v6.1)) && (v4.2 == v6.2)) && (v18 == v20)) (e_api_Core p0)))]) (n := [(89, (e_api_Core p0))]) ⟨(.opt _ _ hc), trivial⟩ (does_call 19 0 (fun _ => .any) (.func 19) [(.tmp 89)] [(e_api_Core p0)] [] true [(e_api_Core p0)] (e_a8_u32 v24) _ _ rfl fo19 rfl ⟨trivial, trivial⟩ ⟨.data _ (d_api_Core p0), trivial⟩ (congressref12_Target_spec p0 _ (h25 hc)) (f_a8_u32 v24))), ⟨⟨rfl, rfl, trivial⟩, trivial, rfl⟩, rfl,
      Step.guarded rfl rfl rfl rfl (fun hc => Does.strip (n' := [(88, (.opt (((((v12 && (b_api_Peer v14 v16)) && (v8 == v10)) && (b_api_Id v4.1 v6.1)) && (v4.2 == v6.2)) && (v18 == v20)) (e_a8_u32 v22))), (90, (.opt (((((v12 && (b_api_Peer v14 v16)) && (v8 == v10)) && (b_api_Id v4.1 v6.1)) && (v4.2 == v6.2)) && (v18 == v20)) (e_a8_u32 v24)))]) (n := [(88, (e_a8_u32 v22)), (90, (e_a8_u32 v24))]) ⟨(.opt _ _ hc), (.opt _ _ hc), trivial⟩ (does_eqT false 29 29 (.tmp 88) (.tmp 90) (e_a8_u32 v22) (e_a8_u32 v24) (e_a8_u32 (fun _ => 0)) (b_a8_u32 v22 v24) rfl rfl trivial trivial eg29 sh29 (al_a8_u32 _ _) (al_a8_u32 _ _) (q_a8_u32 _ _))), ⟨⟨rfl, rfl, rfl, trivial⟩, trivial, rfl⟩, rfl,
      Step.plain rfl (does_and 86 91 (((((v12 && (b_api_Peer v14 v16)) && (v8 == v10)) && (b_api_Id v4.1 v6.1)) && (v4.2 == v6.2)) && (v18 == v20)) (b_a8_u32 v22 v24)), ⟨⟨rfl, rfl, trivial⟩, trivial, rfl⟩, rfl,
      Step.plain rfl (does_move (.tmp 92) (.bool ((((((v12 && (b_api_Peer v14 v16)) && (v8 == v10)) && (b_api_Id v4.1 v6.1)) && (v4.2 == v6.2)) && (v18 == v20)) && (b_a8_u32 v22 v24))) trivial), ⟨⟨rfl, trivial⟩, trivial, rfl⟩, rfl,
      Step.guarded rfl rfl rfl rfl (fun hc => does_load 35 3 0 0 [] (.var (e_api_Core p0)) (e_api_Core p0) trivial rfl rfl ty35), ⟨⟨rfl, rfl, trivial⟩, ⟨rfl, trivial⟩, rfl⟩, rfl,
      Step.guarded rfl rfl rfl rfl (fun hc => Does.strip (n' := [(94, (.opt ((((((v12 && (b_api_Peer v14 v16)) && (v8 == v10)) && (b_api_Id v4.1 v6.1)) && (v4.2 == v6.2)) && (v18 == v20)) && (b_a8_u32 v22 v24)) (e_api_Core p0)))]) (n := [(94, (e_api_Core p0))]) ⟨(.opt _ _ hc), trivial⟩ (does_call 20 0 (fun _ => .any) (.func 20) [(.tmp 94)] [(e_api_Core p0)] [] true [(e_api_Core p0)] (.bool v26) _ _ rfl fo20 rfl ⟨trivial, trivial⟩ ⟨.data _ (d_api_Core p0), trivial⟩ (gather_Done_spec p0 _ (h27 hc)) trivial)), ⟨⟨rfl, rfl, trivial⟩, trivial, rfl⟩, rfl,
      Step.guarded rfl rfl rfl rfl (fun hc => does_load 35 3 0 0 [] (.var (e_api_Core p0)) (e_api_Core p0) trivial rfl rfl ty35), ⟨⟨rfl, rfl, trivial⟩, ⟨rfl, trivial⟩, rfl⟩, rfl,
      Step.guarded rfl rfl rfl rfl (fun hc => Does.strip (n' := [(96, (.opt ((((((v12 && (b_api_Peer v14 v16)) && (v8 == v10)) && (b_api_Id v4.1 v6.1)) && (v4.2 == v6.2)) && (v18 == v20)) && (b_a8_u32 v22 v24)) (e_api_Core p0)))]) (n := [(96, (e_api_Core p0))]) ⟨(.opt _ _ hc), trivial⟩ (does_call 21 0 (fun _ => .any) (.func 21) [(.tmp 96)] [(e_api_Core p0)] [] true [(e_api_Core p0)] (.bool v28) _ _ rfl fo21 rfl ⟨trivial, trivial⟩ ⟨.data _ (d_api_Core p0), trivial⟩ (congressref12_Done_spec p0 _ (h29 hc)) trivial)), ⟨⟨rfl, rfl, trivial⟩, trivial, rfl⟩, rfl,
      Step.guarded rfl rfl rfl rfl (fun hc => Does.strip (n' := [(95, (.opt ((((((v12 && (b_api_Peer v14 v16)) && (v8 == v10)) && (b_api_Id v4.1 v6.1)) && (v4.2 == v6.2)) && (v18 == v20)) && (b_a8_u32 v22 v24)) (.bool v26))), (97, (.opt ((((((v12 && (b_api_Peer v14 v16)) && (v8 == v10)) && (b_api_Id v4.1 v6.1)) && (v4.2 == v6.2)) && (v18 == v20)) && (b_a8_u32 v22 v24)) (.bool v28)))]) (n := [(95, (.bool v26)), (97, (.bool v28))]) ⟨(.opt _ _ hc), (.opt _ _ hc), trivial⟩ (does_eqBool false 4 4 (.tmp 95) (.tmp 97) v26 v28 trivial trivial rfl)), ⟨⟨rfl, rfl, rfl, trivial⟩, trivial, rfl⟩, rfl,
      Step.plain rfl (does_and 93 98 ((((((v12 && (b_api_Peer v14 v16)) && (v8 == v10)) && (b_api_Id v4.1 v6.1)) && (v4.2 == v6.2)) && (v18 == v20)) && (b_a8_u32 v22 v24)) (v26 == v28)), ⟨⟨rfl, rfl, trivial⟩, trivial, rfl⟩, rfl,
      Step.plain rfl (does_assign (.tmp 99) (.bool (((((((v12 && (b_api_Peer v14 v16)) && (v8 == v10)) && (b_api_Id v4.1 v6.1)) && (v4.2 == v6.2)) && (v18 == v20)) && (b_a8_u32 v22 v24)) && (v26 == v28))) trivial), ⟨⟨rfl, trivial⟩, trivial, rfl⟩, rfl, rfl⟩ rfl ?_
    obtain ⟨v30, hv30, H⟩ := lt_of H
    refine aw_cov (cov_prune (s1 := ⟨[(6, (.bool v30))], [], 6⟩) ⟨(by subst hv30; rfl), trivial⟩ trivial (Nat.le_refl _)) ?_
    refine aw_ret ?_
    exact fun a w hr => ⟨_, [(.bool v30)], hr, ⟨⟨_, rfl, .data _ trivial⟩, trivial⟩, by decide, by cases H; rfl⟩
end Go.Proofs.Yteajgbkgijaebaa
