/- Printed by gen.py. Conditions: none. -/
import Derived.Test.YtclblogdciebnaaSp1
import Derived.KernelRfl
set_option linter.unusedVariables false
set_option maxRecDepth 100000
namespace Go.Proofs.Ytclblogdciebnaa
open Go.Eng
set_option maxHeartbeats 1600000
theorem ident_List_spec (p0 : (Nat → Int)) (r : (_root_.List Int)) (H : ident_List p0 = some r) : FSpecO Try.prog 42 [(e_a8_u32 p0)] [] 0 (.own 0) [(0, some (.arr 1 r.length fun j => (.int .i64 (r.getD j 0))))] 1 := by
  refine specO_of (fn := Try.f42) (args := [(e_a8_u32 p0)]) Try.func42 rfl (Nat.le_of_ble_eq_true rfl) ?_
  rintro ⟨G, w0, W, S, Sp⟩ hG
  cases hG
  unfold ident_List at H
  refine aw_region (es := [_, _]) ⟨Step.plain rfl (does_box 29 (.tmp 0) 0 (e_a8_u32 p0) trivial rfl), ⟨⟨rfl, trivial⟩, trivial, rfl⟩, rfl,
    Step.plain rfl (does_nil false 1 1 (fun j => (.int .i64 (([] : _root_.List Int).getD j 0)))), ⟨trivial, trivial, rfl⟩, rfl, rfl⟩ ?_
  refine aw_cov (cov_prune (s1 := ⟨[(1, (.ptr 0 0 []))], [(0, some (.var (e_a8_u32 p0)))], 2⟩) ⟨rfl, trivial⟩ ⟨rfl, trivial⟩ (Nat.le_refl _)) ?_
  refine aw_region (es := [_]) ⟨Step.plain rfl (does_nil false 2 1 (fun j => (.int .i64 (([] : _root_.List Int).getD j 0)))), ⟨trivial, trivial, rfl⟩, rfl, rfl⟩ ?_
  refine aw_cov (cov_prune (s1 := ⟨[(1, (.ptr 0 0 [])), (3, (.own 2))], [(0, some (.var (e_a8_u32 p0))), (2, some (.arr 1 ([] : _root_.List Int).length fun j => (.int .i64 (([] : _root_.List Int).getD j 0))))], 3⟩) ⟨rfl, rfl, trivial⟩ ⟨rfl, rfl, trivial⟩ (Nat.le_refl _)) ?_
  refine aw_seq ?_
  refine aw_region (es := [_, _]) ⟨Step.plain rfl (does_load 29 1 0 0 [] (.var (e_a8_u32 p0)) (e_a8_u32 p0) trivial rfl rfl ty29), ⟨⟨rfl, trivial⟩, ⟨rfl, trivial⟩, rfl⟩, rfl,
    Step.plain rfl (does_move (.const (.int .i64 0)) (.int .i64 0) (fun _ => rfl)), ⟨trivial, trivial, rfl⟩, rfl, rfl⟩ ?_
  refine aw_cov (cov_prune (s1 := ⟨[(3, (.own 2)), (6, (e_a8_u32 p0)), (7, (.int .i64 0))], [(2, some (.arr 1 ([] : _root_.List Int).length fun j => (.int .i64 (([] : _root_.List Int).getD j 0))))], 3⟩) ⟨rfl, rfl, rfl, trivial⟩ ⟨rfl, trivial⟩ (Nat.le_refl _)) ?_
  obtain ⟨wn2, hwn2, Hrn2⟩ := bnd H
  refine aw_meet (fun y7 : _root_.List Int => (⟨[(3, (.own 2))], [(2, some (.arr 1 y7.length fun j => (.int .i64 (y7.getD j 0))))], 3⟩ : St)) (fun y7 => Fl.nx y7 = wn2) (fun y7 hy => ?_) (aw_block (aw_runs (fun x1 : Int × _root_.List Int => (⟨[(3, (.own 2)), (6, (e_a8_u32 p0)), (7, (.int .i64 x1.1))], [(2, some (.arr 1 x1.2.length fun j => (.int .i64 (x1.2.getD j 0))))], 3⟩ : St)) hwn2 (cov_prune ⟨rfl, rfl, rfl, trivial⟩ ⟨rfl, trivial⟩ (Nat.le_of_ble_eq_true rfl)) (fun x1 st H hsn2 => ?_)))
  · have H := nx_of hy Hrn2
    refine nx_seq ?_
    refine aw_region (es := [_, _]) ⟨Step.plain rfl (does_move (.tmp 3) (.own 2) trivial), ⟨⟨rfl, trivial⟩, trivial, rfl⟩, rfl,
      Step.plain rfl (does_assign (.tmp 18) (.own 2) trivial), ⟨⟨rfl, trivial⟩, trivial, rfl⟩, rfl, rfl⟩ ?_
    refine aw_cov (cov_prune (s1 := ⟨[(2, (.own 2))], [(2, some (.arr 1 y7.length fun j => (.int .i64 (y7.getD j 0))))], 3⟩) ⟨rfl, trivial⟩ ⟨rfl, trivial⟩ (Nat.le_refl _)) ?_
    refine aw_ret ?_
    exact fun a w hr => ⟨_, [(.own 0)], reach_of hr (cov_to (s1 := ⟨[(2, (.own 0))], [(0, some (.arr 1 y7.length fun j => (.int .i64 (y7.getD j 0))))], 1⟩) (fun i => match i with | 0 => 2 | k => k) [] ⟨⟨_, rfl, .own 0 _ _ (Nat.le_of_ble_eq_true rfl) rfl rfl (Box.like_refl _)⟩, trivial⟩ ⟨⟨Nat.le_of_ble_eq_true rfl, _, _, rfl, rfl, boxTo_arr (fun _ => trivial)⟩, trivial⟩ rfl rfl), ⟨rfl, trivial⟩, by decide, by cases H; rfl, by cases H; exact ⟨rfl, trivial⟩, Nat.le_of_ble_eq_true rfl⟩
  · refine aw_region (es := [_]) ⟨Step.plain rfl (does_bin .lss 3 3 (.tmp 7) (.const (.int .i64 8)) .i64 x1.1 8 (.bool (decide (x1.1 < 8))) trivial (fun _ => rfl) (bin_lss _ _ _ _)), ⟨⟨rfl, trivial⟩, trivial, rfl⟩, rfl, rfl⟩ ?_
    refine aw_cov (cov_prune (s1 := ⟨[(3, (.own 2)), (6, (e_a8_u32 p0)), (7, (.int .i64 x1.1)), (8, (.bool (decide (x1.1 < 8))))], [(2, some (.arr 1 x1.2.length fun j => (.int .i64 (x1.2.getD j 0))))], 3⟩) ⟨rfl, rfl, rfl, rfl, trivial⟩ ⟨rfl, trivial⟩ (Nat.le_refl _)) ?_
    refine aw_seq ?_
    refine aw_cond rfl (fun hc => ?_) (fun hc => ?_)
    · replace H := ite_t hc H
      refine aw_skip ?_
      refine nx_seq ?_
      refine aw_seq ?_
      refine aw_jn (fun x6 : _root_.List Int => (⟨[(3, (.own 2)), (6, (e_a8_u32 p0)), (7, (.int .i64 x1.1))], [(2, some (.arr 1 x6.length fun j => (.int .i64 (x6.getD j 0))))], 4⟩ : St)) H (fun x6 H => ?_) (fun j3 H => ?_)
      · refine nx_seq ?_
        refine aw_region1 (es := [_, _]) ⟨Step.plain rfl (does_bin .add 3 3 (.tmp 7) (.const (.int .i64 1)) .i64 x1.1 1 (.int .i64 (IntKind.i64.wrap (x1.1 + 1))) trivial (fun _ => rfl) (bin_add _ _ _ _)), ⟨⟨rfl, trivial⟩, trivial, rfl⟩, rfl,
          Step.plain rfl (does_move (.tmp 17) (.int .i64 (IntKind.i64.wrap (x1.1 + 1))) trivial), ⟨⟨rfl, trivial⟩, trivial, rfl⟩, rfl, rfl⟩ ?_
        exact nx_loop ((IntKind.i64.wrap (x1.1 + 1)), x6) H (cov_of (fun i => match i with | 2 => 2 | k => k) ⟨⟨_, rfl, ⟨rfl, Nat.le_of_ble_eq_true rfl⟩⟩, ⟨_, rfl, .inl ⟨rfl, (d_a8_u32 _).plain⟩⟩, ⟨_, rfl, ⟨rfl, trivial⟩⟩, trivial⟩ ⟨⟨Nat.le_of_ble_eq_true rfl, _, _, rfl, rfl, ⟨rfl, rfl, fun _ => ⟨rfl, trivial⟩⟩⟩, trivial⟩ rfl)
      · refine aw_block ?_
        obtain ⟨h4, H⟩ := ib_of H
        refine aw_region (es := [_, _, _, _]) ⟨Step.plain rfl (does_move (.tmp 7) (.int .i64 x1.1) trivial), ⟨⟨rfl, trivial⟩, trivial, rfl⟩, rfl,
          Step.plain rfl (does_index 29 8 23 1 6 false (fun j => (.int .u32 (p0 j))) (.tmp 7) .i64 x1.1 ua29 ty23 rfl trivial h4.1 h4.2), ⟨⟨rfl, rfl, trivial⟩, trivial, rfl⟩, rfl,
          Step.plain rfl (does_assign (.tmp 9) (.int .i64 x1.1) trivial), ⟨⟨rfl, trivial⟩, trivial, rfl⟩, rfl,
          Step.plain rfl (does_assign (.tmp 10) (.int .u32 (p0 x1.1.toNat)) trivial), ⟨⟨rfl, trivial⟩, trivial, rfl⟩, rfl, rfl⟩ ?_
        refine aw_cov (cov_prune (s1 := ⟨[(3, (.own 2)), (6, (e_a8_u32 p0)), (7, (.int .i64 x1.1)), (4, (.int .i64 x1.1)), (5, (.int .u32 (p0 x1.1.toNat)))], [(2, some (.arr 1 x1.2.length fun j => (.int .i64 (x1.2.getD j 0))))], 3⟩) ⟨rfl, rfl, rfl, rfl, rfl, trivial⟩ ⟨rfl, trivial⟩ (Nat.le_refl _)) ?_
        refine aw_region (es := [_, _]) ⟨Step.plain rfl (does_move (.tmp 5) (.int .u32 (p0 x1.1.toNat)) trivial), ⟨⟨rfl, trivial⟩, trivial, rfl⟩, rfl,
          Step.plain rfl (does_bin .neq 23 23 (.tmp 11) (.const (.int .u32 0)) .u32 (p0 x1.1.toNat) 0 (.bool ((p0 x1.1.toNat) != 0)) trivial (fun _ => rfl) (bin_neq _ _ _ _)), ⟨⟨rfl, trivial⟩, trivial, rfl⟩, rfl, rfl⟩ ?_
        refine aw_cov (cov_prune (s1 := ⟨[(3, (.own 2)), (6, (e_a8_u32 p0)), (7, (.int .i64 x1.1)), (4, (.int .i64 x1.1)), (12, (.bool ((p0 x1.1.toNat) != 0)))], [(2, some (.arr 1 x1.2.length fun j => (.int .i64 (x1.2.getD j 0))))], 3⟩) ⟨rfl, rfl, rfl, rfl, rfl, trivial⟩ ⟨rfl, trivial⟩ (Nat.le_refl _)) ?_
        refine aw_cond rfl (fun hc => ?_) (fun hc => ?_)
        · replace H := ite_t hc H
          obtain ⟨h5, H⟩ := fit_of H
          refine aw_region1 (es := [_, _, _, _, _]) ⟨Step.plain rfl (does_move (.tmp 3) (.own 2) trivial), ⟨⟨rfl, trivial⟩, trivial, rfl⟩, rfl,
            Step.plain rfl (does_move (.tmp 4) (.int .i64 x1.1) trivial), ⟨⟨rfl, trivial⟩, trivial, rfl⟩, rfl,
            Step.plain rfl (does_buildSl 72 1 1 (.int .i64 0) (fun j => (.int .i64 (([x1.1] : _root_.List Int).getD j 0))) #[(0, (.tmp 14))] [(0, (.tmp 14))] [(0, (.int .i64 x1.1))] rfl so72 (by decide) ⟨⟨rfl, trivial⟩, trivial⟩ ⟨⟨Nat.le_of_ble_eq_true rfl, rfl, rfl⟩, trivial⟩ (fun j h => match j, h with | 0, _ => rfl | k + 1, h => absurd h (by omega))), ⟨⟨rfl, trivial⟩, trivial, rfl⟩, rfl,
            Step.plain rfl (does_appendL (fun z => V.int .i64 z) 0 x1.2 ([x1.1] : _root_.List Int) 72 1 8 2 3 13 15 ap72 h5), ⟨⟨rfl, rfl, trivial⟩, ⟨rfl, trivial⟩, rfl⟩, rfl,
            Step.plain rfl (does_assign (.tmp 16) (.own 3) trivial), ⟨⟨rfl, trivial⟩, trivial, rfl⟩, rfl, rfl⟩ ?_
          refine nx_blk ?_
          exact nx_join ((x1.2 ++ ([x1.1] : _root_.List Int))) H (cov_of (fun i => match i with | 2 => 3 | k => k) ⟨⟨_, rfl, ⟨rfl, Nat.le_of_ble_eq_true rfl⟩⟩, ⟨_, rfl, .inl ⟨rfl, (d_a8_u32 _).plain⟩⟩, ⟨_, rfl, ⟨rfl, trivial⟩⟩, trivial⟩ ⟨⟨Nat.le_of_ble_eq_true rfl, _, _, rfl, rfl, ⟨rfl, rfl, fun _ => ⟨rfl, trivial⟩⟩⟩, trivial⟩ rfl)
        · replace H := ite_f hc H
          refine aw_skip ?_
          refine nx_blk ?_
          exact nx_join (x1.2) H (cov_of (fun i => match i with | 2 => 2 | k => k) ⟨⟨_, rfl, ⟨rfl, Nat.le_of_ble_eq_true rfl⟩⟩, ⟨_, rfl, .inl ⟨rfl, (d_a8_u32 _).plain⟩⟩, ⟨_, rfl, ⟨rfl, trivial⟩⟩, trivial⟩ ⟨⟨Nat.le_of_ble_eq_true rfl, _, _, rfl, rfl, ⟨rfl, rfl, fun _ => ⟨rfl, trivial⟩⟩⟩, trivial⟩ rfl)
    · replace H := ite_f hc H
      refine aw_exit ?_
      refine ex_then ?_
      refine ex_then ?_
      refine ex_here ?_
      exact nx_ljoin (x1.2) H hsn2 (cov_prune ⟨rfl, trivial⟩ ⟨rfl, trivial⟩ (Nat.le_of_ble_eq_true rfl))

theorem ident_List_data (p0 : (Nat → Int)) (r : (_root_.List Int)) (H : ident_List p0 = some r) : FSpec Try.prog 42 [(e_a8_u32 p0)] (e_s_i64 r) :=
  FSpecO.toData (fz := [0]) (ident_List_spec p0 r H) (d_s_i64 r) (.frz 0 _ _ _ rfl (fun _ => trivial) (by decide))

theorem round_Least_spec (p0 : (Nat → Int)) (p1 : (Nat → Int)) (r : Int × Bool) (H : round_Least p0 p1 = some r) : FSpec Try.prog 31 [(e_a8_u32 p0), (e_a8_u32 p1)] (resV [(.int .u32 r.1), (.bool r.2)]) := by
  refine spec_of (fn := Try.f31) (args := [(e_a8_u32 p0), (e_a8_u32 p1)]) Try.func31 rfl (Nat.le_of_ble_eq_true rfl) ?_
  rintro ⟨G, w0, W, S, Sp⟩ hG
  cases hG
  unfold round_Least at H
  refine aw_region (es := [_, _, _, _]) ⟨Step.plain rfl (does_box 28 (.tmp 0) 0 (e_a8_u32 p0) trivial rfl), ⟨⟨rfl, trivial⟩, trivial, rfl⟩, rfl,
    Step.plain rfl (does_box 29 (.tmp 1) 1 (e_a8_u32 p1) trivial rfl), ⟨⟨rfl, trivial⟩, trivial, rfl⟩, rfl,
    Step.plain rfl (does_assign (.const (.int .u32 0)) (.int .u32 0) (fun _ => rfl)), ⟨trivial, trivial, rfl⟩, rfl,
    Step.plain rfl (does_assign (.const (.bool false)) (.bool false) (fun _ => rfl)), ⟨trivial, trivial, rfl⟩, rfl, rfl⟩ ?_
  refine aw_cov (cov_prune (s1 := ⟨[(2, (.ptr 0 0 [])), (3, (.ptr 1 0 []))], [(0, some (.var (e_a8_u32 p0))), (1, some (.var (e_a8_u32 p1)))], 2⟩) ⟨rfl, rfl, trivial⟩ ⟨rfl, rfl, trivial⟩ (Nat.le_refl _)) ?_
  obtain ⟨v1, h2, H⟩ := bnd H
  refine aw_region (es := [_, _, _]) ⟨Step.plain rfl (does_load 29 3 1 0 [] (.var (e_a8_u32 p1)) (e_a8_u32 p1) trivial rfl rfl ty29), ⟨⟨rfl, trivial⟩, ⟨rfl, trivial⟩, rfl⟩, rfl,
    Step.plain rfl (does_callO 42 0 (fun _ => .any) (.func 42) [(.tmp 10)] [(e_a8_u32 p1)] [] [] true [(e_a8_u32 p1)] _ (.own 2) _ 2 1 _ _ rfl fo42 rfl ⟨trivial, trivial⟩ ⟨.ro _ _ (.data _ (d_a8_u32 p1)), trivial⟩ (ident_List_spec p1 _ h2) rfl (by simp) rfl trivial ⟨⟨Nat.le_of_ble_eq_true rfl, _, rfl, fun _ => trivial⟩, trivial⟩ (.own 0 (Nat.le_of_ble_eq_true rfl))), ⟨⟨rfl, trivial⟩, trivial, rfl⟩, rfl,
    Step.plain rfl (does_assign (.tmp 11) (.own 2) trivial), ⟨⟨rfl, trivial⟩, trivial, rfl⟩, rfl, rfl⟩ ?_
  refine aw_cov (cov_prune (s1 := ⟨[(2, (.ptr 0 0 [])), (6, (.own 2))], [(0, some (.var (e_a8_u32 p0))), (2, some (.arr 1 v1.length fun j => (.int .i64 (v1.getD j 0))))], 3⟩) ⟨rfl, rfl, trivial⟩ ⟨rfl, rfl, trivial⟩ (Nat.le_refl _)) ?_
  refine aw_seq ?_
  refine aw_region (es := [_, _, _]) ⟨Step.plain rfl (does_move (.tmp 6) (.own 2) trivial), ⟨⟨rfl, trivial⟩, trivial, rfl⟩, rfl,
    Step.plain rfl (does_leno 72 1 v1.length 12 2 (fun j => (.int .i64 (v1.getD j 0))) el72), ⟨⟨rfl, trivial⟩, ⟨rfl, trivial⟩, rfl⟩, rfl,
    Step.plain rfl (does_bin .eql 3 3 (.tmp 13) (.const (.int .i64 0)) .i64 (v1.length : Int) 0 (.bool ((v1.length : Int) == 0)) trivial (fun _ => rfl) (bin_eql _ _ _ _)), ⟨⟨rfl, trivial⟩, trivial, rfl⟩, rfl, rfl⟩ ?_
  refine aw_cov (cov_prune (s1 := ⟨[(2, (.ptr 0 0 [])), (6, (.own 2)), (14, (.bool ((v1.length : Int) == 0)))], [(0, some (.var (e_a8_u32 p0))), (2, some (.arr 1 v1.length fun j => (.int .i64 (v1.getD j 0))))], 3⟩) ⟨rfl, rfl, rfl, trivial⟩ ⟨rfl, rfl, trivial⟩ (Nat.le_refl _)) ?_
  refine aw_cond rfl (fun hc => ?_) (fun hc => ?_)
  · replace H := ite_t hc H
    refine aw_region (es := [_, _]) ⟨Step.plain rfl (does_assign (.const (.int .u32 0)) (.int .u32 0) (fun _ => rfl)), ⟨trivial, trivial, rfl⟩, rfl,
      Step.plain rfl (does_assign (.const (.bool false)) (.bool false) (fun _ => rfl)), ⟨trivial, trivial, rfl⟩, rfl, rfl⟩ ?_
    refine aw_cov (cov_prune (s1 := ⟨[(4, (.int .u32 0)), (5, (.bool false))], [], 3⟩) ⟨rfl, rfl, trivial⟩ trivial (Nat.le_refl _)) ?_
    refine aw_ret ?_
    refine rt_then ?_
    exact fun a w hr => ⟨_, [(.int .u32 0), (.bool false)], hr, ⟨⟨_, rfl, .data (.int .u32 0) trivial⟩, ⟨_, rfl, .data (.bool false) trivial⟩, trivial⟩, by decide, by cases H; rfl⟩
  · replace H := ite_f hc H
    refine aw_skip ?_
    refine nx_seq ?_
    refine aw_region (es := [_]) ⟨Step.plain rfl (does_assign (.const (.int .u32 4294967295)) (.int .u32 4294967295) (fun _ => rfl)), ⟨trivial, trivial, rfl⟩, rfl, rfl⟩ ?_
    refine aw_cov (cov_prune (s1 := ⟨[(2, (.ptr 0 0 [])), (6, (.own 2)), (7, (.int .u32 4294967295))], [(0, some (.var (e_a8_u32 p0))), (2, some (.arr 1 v1.length fun j => (.int .i64 (v1.getD j 0))))], 3⟩) ⟨rfl, rfl, rfl, trivial⟩ ⟨rfl, rfl, trivial⟩ (Nat.le_refl _)) ?_
    refine aw_seq ?_
    refine aw_region (es := [_, _, _]) ⟨Step.plain rfl (does_move (.tmp 6) (.own 2) trivial), ⟨⟨rfl, trivial⟩, trivial, rfl⟩, rfl,
      Step.plain rfl (does_leno 72 1 v1.length 15 2 (fun j => (.int .i64 (v1.getD j 0))) el72), ⟨⟨rfl, trivial⟩, ⟨rfl, trivial⟩, rfl⟩, rfl,
      Step.plain rfl (does_move (.const (.int .i64 0)) (.int .i64 0) (fun _ => rfl)), ⟨trivial, trivial, rfl⟩, rfl, rfl⟩ ?_
    refine aw_cov (cov_prune (s1 := ⟨[(2, (.ptr 0 0 [])), (7, (.int .u32 4294967295)), (15, (.own 2)), (16, (.int .i64 (v1.length : Int))), (17, (.int .i64 0))], [(0, some (.var (e_a8_u32 p0))), (2, some (.arr 1 v1.length fun j => (.int .i64 (v1.getD j 0))))], 3⟩) ⟨rfl, rfl, rfl, rfl, rfl, trivial⟩ ⟨rfl, rfl, trivial⟩ (Nat.le_refl _)) ?_
    obtain ⟨wn4, hwn4, Hrn4⟩ := bnd H
    refine aw_meet (fun y8 : Int => (⟨[(7, (.int .u32 y8))], [], 3⟩ : St)) (fun y8 => Fl.nx y8 = wn4) (fun y8 hy => ?_) (aw_block (aw_runs (fun x3 : Int × Int => (⟨[(2, (.ptr 0 0 [])), (7, (.int .u32 x3.1)), (15, (.own 2)), (16, (.int .i64 (v1.length : Int))), (17, (.int .i64 x3.2))], [(0, some (.var (e_a8_u32 p0))), (2, some (.arr 1 v1.length fun j => (.int .i64 (v1.getD j 0))))], 3⟩ : St)) hwn4 (cov_prune ⟨rfl, rfl, rfl, rfl, rfl, trivial⟩ ⟨rfl, rfl, trivial⟩ (Nat.le_of_ble_eq_true rfl)) (fun x3 st H hsn4 => ?_)))
    · have H := nx_of hy Hrn4
      refine nx_seq ?_
      refine aw_region (es := [_, _, _]) ⟨Step.plain rfl (does_move (.tmp 7) (.int .u32 y8) trivial), ⟨⟨rfl, trivial⟩, trivial, rfl⟩, rfl,
        Step.plain rfl (does_assign (.tmp 27) (.int .u32 y8) trivial), ⟨⟨rfl, trivial⟩, trivial, rfl⟩, rfl,
        Step.plain rfl (does_assign (.const (.bool true)) (.bool true) (fun _ => rfl)), ⟨trivial, trivial, rfl⟩, rfl, rfl⟩ ?_
      refine aw_cov (cov_prune (s1 := ⟨[(4, (.int .u32 y8)), (5, (.bool true))], [], 3⟩) ⟨rfl, rfl, trivial⟩ trivial (Nat.le_refl _)) ?_
      refine aw_ret ?_
      exact fun a w hr => ⟨_, [(.int .u32 y8), (.bool true)], hr, ⟨⟨_, rfl, .data (.int .u32 y8) trivial⟩, ⟨_, rfl, .data (.bool true) trivial⟩, trivial⟩, by decide, by cases H; rfl⟩
    · refine aw_region (es := [_]) ⟨Step.plain rfl (does_bin .lss 3 3 (.tmp 17) (.tmp 16) .i64 x3.2 (v1.length : Int) (.bool (decide (x3.2 < (v1.length : Int)))) trivial trivial (bin_lss _ _ _ _)), ⟨⟨rfl, rfl, trivial⟩, trivial, rfl⟩, rfl, rfl⟩ ?_
      refine aw_cov (cov_prune (s1 := ⟨[(2, (.ptr 0 0 [])), (7, (.int .u32 x3.1)), (15, (.own 2)), (16, (.int .i64 (v1.length : Int))), (17, (.int .i64 x3.2)), (18, (.bool (decide (x3.2 < (v1.length : Int)))))], [(0, some (.var (e_a8_u32 p0))), (2, some (.arr 1 v1.length fun j => (.int .i64 (v1.getD j 0))))], 3⟩) ⟨rfl, rfl, rfl, rfl, rfl, rfl, trivial⟩ ⟨rfl, rfl, trivial⟩ (Nat.le_refl _)) ?_
      refine aw_seq ?_
      refine aw_cond rfl (fun hc => ?_) (fun hc => ?_)
      · replace H := ite_t hc H
        refine aw_skip ?_
        refine nx_seq ?_
        refine aw_seq ?_
        refine aw_block ?_
        obtain ⟨h5, H⟩ := ib_of H
        refine aw_region (es := [_, _, _]) ⟨Step.plain rfl (does_indexAddro 72 1 v1.length 15 2 (fun j => (.int .i64 (v1.getD j 0))) (.tmp 17) .i64 x3.2 el72 trivial h5.1 h5.2), ⟨⟨rfl, rfl, trivial⟩, ⟨rfl, trivial⟩, rfl⟩, rfl,
          Step.plain rfl (does_load 3 19 2 (x3.2.toNat * 1) [x3.2.toNat] (.arr 1 v1.length fun j => (.int .i64 (v1.getD j 0))) (.int .i64 (v1.getD x3.2.toNat 0)) ⟨(ixl h5), trivial⟩ rfl rfl ty3), ⟨⟨rfl, trivial⟩, ⟨rfl, trivial⟩, rfl⟩, rfl,
          Step.plain rfl (does_assign (.tmp 20) (.int .i64 (v1.getD x3.2.toNat 0)) trivial), ⟨⟨rfl, trivial⟩, trivial, rfl⟩, rfl, rfl⟩ ?_
        refine aw_cov (cov_prune (s1 := ⟨[(2, (.ptr 0 0 [])), (7, (.int .u32 x3.1)), (15, (.own 2)), (16, (.int .i64 (v1.length : Int))), (17, (.int .i64 x3.2)), (9, (.int .i64 (v1.getD x3.2.toNat 0)))], [(0, some (.var (e_a8_u32 p0))), (2, some (.arr 1 v1.length fun j => (.int .i64 (v1.getD j 0))))], 3⟩) ⟨rfl, rfl, rfl, rfl, rfl, rfl, trivial⟩ ⟨rfl, rfl, trivial⟩ (Nat.le_refl _)) ?_
        obtain ⟨h6, H⟩ := ib_of H
        refine aw_region1 (es := [_, _, _, _, _, _]) ⟨Step.plain rfl (does_move (.tmp 7) (.int .u32 x3.1) trivial), ⟨⟨rfl, trivial⟩, trivial, rfl⟩, rfl,
          Step.plain rfl (does_move (.tmp 9) (.int .i64 (v1.getD x3.2.toNat 0)) trivial), ⟨⟨rfl, trivial⟩, trivial, rfl⟩, rfl,
          Step.plain rfl (does_indexAddr 28 8 1 2 0 0 [] (.var (e_a8_u32 p0)) (.tmp 22) .i64 (v1.getD x3.2.toNat 0) el28 trivial h6.1 h6.2), ⟨⟨rfl, rfl, trivial⟩, ⟨rfl, trivial⟩, rfl⟩, rfl,
          Step.plain rfl (does_load 23 23 0 (0 + (v1.getD x3.2.toNat 0).toNat * 1) [(v1.getD x3.2.toNat 0).toNat] (.var (e_a8_u32 p0)) (.int .u32 (p0 ((v1.getD x3.2.toNat 0).toNat))) ⟨rfl, (ixl h6), trivial⟩ rfl rfl ty23), ⟨⟨rfl, trivial⟩, ⟨rfl, trivial⟩, rfl⟩, rfl,
          Step.plain rfl (does_min _ _ (.tmp 21) (.tmp 24) rfl .u32 x3.1 (p0 ((v1.getD x3.2.toNat 0).toNat)) trivial trivial), ⟨⟨rfl, rfl, trivial⟩, trivial, rfl⟩, rfl,
          Step.plain rfl (does_assign (.tmp 25) (.int .u32 (if (p0 ((v1.getD x3.2.toNat 0).toNat)) < x3.1 then p0 ((v1.getD x3.2.toNat 0).toNat) else x3.1)) trivial), ⟨⟨rfl, trivial⟩, trivial, rfl⟩, rfl, rfl⟩ ?_
        refine nx_blk ?_
        refine nx_seq ?_
        obtain ⟨v7, hv7, H⟩ := lt_of H
        refine aw_cov (cov_prune (s1 := ⟨[(2, (.ptr 0 0 [])), (15, (.own 2)), (16, (.int .i64 (v1.length : Int))), (17, (.int .i64 x3.2)), (7, (.int .u32 v7))], [(0, some (.var (e_a8_u32 p0))), (2, some (.arr 1 v1.length fun j => (.int .i64 (v1.getD j 0))))], 3⟩) ⟨rfl, rfl, rfl, rfl, (by subst hv7; rfl), trivial⟩ ⟨rfl, rfl, trivial⟩ (Nat.le_refl _)) ?_
        refine aw_region1 (es := [_, _]) ⟨Step.plain rfl (does_bin .add 3 3 (.tmp 17) (.const (.int .i64 1)) .i64 x3.2 1 (.int .i64 (IntKind.i64.wrap (x3.2 + 1))) trivial (fun _ => rfl) (bin_add _ _ _ _)), ⟨⟨rfl, trivial⟩, trivial, rfl⟩, rfl,
          Step.plain rfl (does_move (.tmp 26) (.int .i64 (IntKind.i64.wrap (x3.2 + 1))) trivial), ⟨⟨rfl, trivial⟩, trivial, rfl⟩, rfl, rfl⟩ ?_
        exact nx_loop (v7, (IntKind.i64.wrap (x3.2 + 1))) H (cov_prune ⟨rfl, rfl, rfl, rfl, rfl, trivial⟩ ⟨rfl, rfl, trivial⟩ (Nat.le_of_ble_eq_true rfl))
      · replace H := ite_f hc H
        refine aw_exit ?_
        refine ex_then ?_
        refine ex_then ?_
        refine ex_here ?_
        exact nx_ljoin (x3.1) H hsn4 (cov_prune ⟨rfl, trivial⟩ trivial (Nat.le_of_ble_eq_true rfl))

theorem round_ahead_spec (p0 : (Nat → Int)) (p1 : (Nat → Int)) (p2 : api_Place) (r : Bool) (H : round_ahead p0 p1 p2 = some r) : FSpec Try.prog 32 [(e_a8_u32 p0), (e_a8_u32 p1), (e_api_Place p2)] (.bool r) := by
  refine spec_of (fn := Try.f32) (args := [(e_a8_u32 p0), (e_a8_u32 p1), (e_api_Place p2)]) Try.func32 rfl (Nat.le_of_ble_eq_true rfl) ?_
  rintro ⟨G, w0, W, S, Sp⟩ hG
  cases hG
  unfold round_ahead at H
  refine aw_region (es := [_, _, _, _]) ⟨Step.plain rfl (does_box 28 (.tmp 0) 0 (e_a8_u32 p0) trivial rfl), ⟨⟨rfl, trivial⟩, trivial, rfl⟩, rfl,
    Step.plain rfl (does_box 29 (.tmp 1) 1 (e_a8_u32 p1) trivial rfl), ⟨⟨rfl, trivial⟩, trivial, rfl⟩, rfl,
    Step.plain rfl (does_box 42 (.tmp 2) 2 (e_api_Place p2) trivial rfl), ⟨⟨rfl, trivial⟩, trivial, rfl⟩, rfl,
    Step.plain rfl (does_assign (.const (.bool false)) (.bool false) (fun _ => rfl)), ⟨trivial, trivial, rfl⟩, rfl, rfl⟩ ?_
  refine aw_cov (cov_prune (s1 := ⟨[(3, (.ptr 0 0 [])), (4, (.ptr 1 0 [])), (5, (.ptr 2 0 []))], [(0, some (.var (e_a8_u32 p0))), (1, some (.var (e_a8_u32 p1))), (2, some (.var (e_api_Place p2)))], 3⟩) ⟨rfl, rfl, rfl, trivial⟩ ⟨rfl, rfl, rfl, trivial⟩ (Nat.le_refl _)) ?_
  refine aw_seq ?_
  refine aw_region (es := [_, _, _]) ⟨Step.plain rfl (does_fieldAddr 42 1 1 5 2 0 [] (.var (e_api_Place p2)) fl42_1), ⟨⟨rfl, trivial⟩, ⟨rfl, trivial⟩, rfl⟩, rfl,
    Step.plain rfl (does_load 3 8 2 (0 + 1) [1] (.var (e_api_Place p2)) (.int .i64 p2.From) ⟨rfl, Nat.le_of_ble_eq_true rfl, trivial⟩ rfl rfl ty3), ⟨⟨rfl, trivial⟩, ⟨rfl, trivial⟩, rfl⟩, rfl,
    Step.plain rfl (does_move (.const (.int .i64 0)) (.int .i64 0) (fun _ => rfl)), ⟨trivial, trivial, rfl⟩, rfl, rfl⟩ ?_
  refine aw_cov (cov_prune (s1 := ⟨[(3, (.ptr 0 0 [])), (4, (.ptr 1 0 [])), (5, (.ptr 2 0 [])), (9, (.int .i64 p2.From)), (10, (.int .i64 0))], [(0, some (.var (e_a8_u32 p0))), (1, some (.var (e_a8_u32 p1))), (2, some (.var (e_api_Place p2)))], 3⟩) ⟨rfl, rfl, rfl, rfl, rfl, trivial⟩ ⟨rfl, rfl, rfl, trivial⟩ (Nat.le_refl _)) ?_
  obtain ⟨wn2, hwn2, Hrn2⟩ := bnd H
  refine aw_meet (fun y5 : Unit => (⟨[], [], 3⟩ : St)) (fun y5 => Fl.nx y5 = wn2) (fun y5 hy => ?_) (aw_block (aw_runs (fun x1 : Int => (⟨[(3, (.ptr 0 0 [])), (4, (.ptr 1 0 [])), (5, (.ptr 2 0 [])), (9, (.int .i64 p2.From)), (10, (.int .i64 x1))], [(0, some (.var (e_a8_u32 p0))), (1, some (.var (e_a8_u32 p1))), (2, some (.var (e_api_Place p2)))], 3⟩ : St)) hwn2 (cov_prune ⟨rfl, rfl, rfl, rfl, rfl, trivial⟩ ⟨rfl, rfl, rfl, trivial⟩ (Nat.le_of_ble_eq_true rfl)) (fun x1 st H hsn2 => ?_)))
  · have H := nx_of hy Hrn2
    refine nx_seq ?_
    refine aw_region (es := [_]) ⟨Step.plain rfl (does_assign (.const (.bool true)) (.bool true) (fun _ => rfl)), ⟨trivial, trivial, rfl⟩, rfl, rfl⟩ ?_
    refine aw_cov (cov_prune (s1 := ⟨[(6, (.bool true))], [], 3⟩) ⟨rfl, trivial⟩ trivial (Nat.le_refl _)) ?_
    refine aw_ret ?_
    exact fun a w hr => ⟨_, [(.bool true)], hr, ⟨⟨_, rfl, .data (.bool true) trivial⟩, trivial⟩, by decide, by cases H; rfl⟩
  · refine aw_region (es := [_]) ⟨Step.plain rfl (does_bin .lss 3 3 (.tmp 10) (.tmp 9) .i64 x1 p2.From (.bool (decide (x1 < p2.From))) trivial trivial (bin_lss _ _ _ _)), ⟨⟨rfl, rfl, trivial⟩, trivial, rfl⟩, rfl, rfl⟩ ?_
    refine aw_cov (cov_prune (s1 := ⟨[(3, (.ptr 0 0 [])), (4, (.ptr 1 0 [])), (5, (.ptr 2 0 [])), (9, (.int .i64 p2.From)), (10, (.int .i64 x1)), (11, (.bool (decide (x1 < p2.From))))], [(0, some (.var (e_a8_u32 p0))), (1, some (.var (e_a8_u32 p1))), (2, some (.var (e_api_Place p2)))], 3⟩) ⟨rfl, rfl, rfl, rfl, rfl, rfl, trivial⟩ ⟨rfl, rfl, rfl, trivial⟩ (Nat.le_refl _)) ?_
    refine aw_seq ?_
    refine aw_cond rfl (fun hc => ?_) (fun hc => ?_)
    · replace H := ite_t hc H
      refine aw_skip ?_
      refine nx_seq ?_
      refine aw_seq ?_
      refine aw_block ?_
      refine aw_region (es := [_, _]) ⟨Step.plain rfl (does_move (.tmp 10) (.int .i64 x1) trivial), ⟨⟨rfl, trivial⟩, trivial, rfl⟩, rfl,
        Step.plain rfl (does_assign (.tmp 12) (.int .i64 x1) trivial), ⟨⟨rfl, trivial⟩, trivial, rfl⟩, rfl, rfl⟩ ?_
      refine aw_cov (cov_prune (s1 := ⟨[(3, (.ptr 0 0 [])), (4, (.ptr 1 0 [])), (5, (.ptr 2 0 [])), (9, (.int .i64 p2.From)), (10, (.int .i64 x1)), (7, (.int .i64 x1))], [(0, some (.var (e_a8_u32 p0))), (1, some (.var (e_a8_u32 p1))), (2, some (.var (e_api_Place p2)))], 3⟩) ⟨rfl, rfl, rfl, rfl, rfl, rfl, trivial⟩ ⟨rfl, rfl, rfl, trivial⟩ (Nat.le_refl _)) ?_
      obtain ⟨h3, H⟩ := ib_of H
      obtain ⟨h4, H⟩ := ibg_of H
      refine aw_draw (es := [_, _, _, _, _, _, _, _, _, _, _, _]) (mixed) ⟨Step.plain rfl (does_move (.tmp 7) (.int .i64 x1) trivial), ⟨⟨rfl, trivial⟩, trivial, rfl⟩, rfl,
        Step.plain rfl (does_indexAddr 29 8 1 4 1 0 [] (.var (e_a8_u32 p1)) (.tmp 13) .i64 x1 el29 trivial h3.1 h3.2), ⟨⟨rfl, rfl, trivial⟩, ⟨rfl, trivial⟩, rfl⟩, rfl,
        Step.plain rfl (does_load 23 14 1 (0 + x1.toNat * 1) [x1.toNat] (.var (e_a8_u32 p1)) (.int .u32 (p1 x1.toNat)) ⟨rfl, (ixl h3), trivial⟩ rfl rfl ty23), ⟨⟨rfl, trivial⟩, ⟨rfl, trivial⟩, rfl⟩, rfl,
        Step.plain rfl (does_bin .neq 23 23 (.tmp 15) (.const (.int .u32 0)) .u32 (p1 x1.toNat) 0 (.bool ((p1 x1.toNat) != 0)) trivial (fun _ => rfl) (bin_neq _ _ _ _)), ⟨⟨rfl, trivial⟩, trivial, rfl⟩, rfl,
        Step.plain rfl (does_move (.tmp 16) (.bool ((p1 x1.toNat) != 0)) trivial), ⟨⟨rfl, trivial⟩, trivial, rfl⟩, rfl,
        Step.guarded rfl rfl rfl rfl (fun hc => does_move (.tmp 7) (.int .i64 x1) trivial), ⟨⟨rfl, rfl, trivial⟩, trivial, rfl⟩, rfl,
        Step.guarded rfl rfl rfl rfl (fun hc => Does.strip (n' := [(3, (.ptr 0 0 [])), (18, (.opt ((p1 x1.toNat) != 0) (.int .i64 x1)))]) (n := [(3, (.ptr 0 0 [])), (18, (.int .i64 x1))]) ⟨(.same _), (.opt _ _ hc), trivial⟩ (does_indexAddr 28 8 1 3 0 0 [] (.var (e_a8_u32 p0)) (.tmp 18) .i64 x1 el28 trivial (h4 hc).1 (h4 hc).2)), ⟨⟨rfl, rfl, rfl, trivial⟩, ⟨rfl, trivial⟩, rfl⟩, rfl,
        Step.guarded rfl rfl rfl rfl (fun hc => Does.strip (n' := [(19, (.opt ((p1 x1.toNat) != 0) (.ptr 0 (0 + x1.toNat * 1) [x1.toNat])))]) (n := [(19, (.ptr 0 (0 + x1.toNat * 1) [x1.toNat]))]) ⟨(.opt _ _ hc), trivial⟩ (does_load 23 19 0 (0 + x1.toNat * 1) [x1.toNat] (.var (e_a8_u32 p0)) (.int .u32 (p0 x1.toNat)) ⟨rfl, (ixl (h4 hc)), trivial⟩ rfl rfl ty23)), ⟨⟨rfl, rfl, trivial⟩, ⟨rfl, trivial⟩, rfl⟩, rfl,
        Step.guarded rfl rfl rfl rfl (fun hc => does_fieldAddr 42 0 0 5 2 0 [] (.var (e_api_Place p2)) fl42_0), ⟨⟨rfl, rfl, trivial⟩, ⟨rfl, trivial⟩, rfl⟩, rfl,
        Step.guarded rfl rfl rfl rfl (fun hc => Does.strip (n' := [(21, (.opt ((p1 x1.toNat) != 0) (.ptr 2 (0 + 0) [0])))]) (n := [(21, (.ptr 2 (0 + 0) [0]))]) ⟨(.opt _ _ hc), trivial⟩ (does_load 23 21 2 (0 + 0) [0] (.var (e_api_Place p2)) (.int .u32 p2.Round) ⟨rfl, Nat.le_of_ble_eq_true rfl, trivial⟩ rfl rfl ty23)), ⟨⟨rfl, rfl, trivial⟩, ⟨rfl, trivial⟩, rfl⟩, rfl,
        Step.guarded rfl rfl rfl rfl (fun hc => Does.strip (n' := [(20, (.opt ((p1 x1.toNat) != 0) (.int .u32 (p0 x1.toNat)))), (22, (.opt ((p1 x1.toNat) != 0) (.int .u32 p2.Round)))]) (n := [(20, (.int .u32 (p0 x1.toNat))), (22, (.int .u32 p2.Round))]) ⟨(.opt _ _ hc), (.opt _ _ hc), trivial⟩ (does_bin .lss 23 23 (.tmp 20) (.tmp 22) .u32 (p0 x1.toNat) p2.Round (.bool (decide ((p0 x1.toNat) < p2.Round))) trivial trivial (bin_lss _ _ _ _))), ⟨⟨rfl, rfl, rfl, trivial⟩, trivial, rfl⟩, rfl,
        Step.plain rfl (does_and 17 23 ((p1 x1.toNat) != 0) (decide ((p0 x1.toNat) < p2.Round))), ⟨⟨rfl, rfl, trivial⟩, trivial, rfl⟩, rfl, rfl⟩ rfl ?_
      refine aw_cov (cov_prune (s1 := ⟨[(3, (.ptr 0 0 [])), (4, (.ptr 1 0 [])), (5, (.ptr 2 0 [])), (9, (.int .i64 p2.From)), (10, (.int .i64 x1)), (24, (.bool (((p1 x1.toNat) != 0) && (decide ((p0 x1.toNat) < p2.Round)))))], [(0, some (.var (e_a8_u32 p0))), (1, some (.var (e_a8_u32 p1))), (2, some (.var (e_api_Place p2)))], 3⟩) ⟨rfl, rfl, rfl, rfl, rfl, rfl, trivial⟩ ⟨rfl, rfl, rfl, trivial⟩ (Nat.le_refl _)) ?_
      refine aw_cond rfl (fun hc => ?_) (fun hc => ?_)
      · replace H := ite_t hc H
        refine aw_region (es := [_]) ⟨Step.plain rfl (does_assign (.const (.bool false)) (.bool false) (fun _ => rfl)), ⟨trivial, trivial, rfl⟩, rfl, rfl⟩ ?_
        refine aw_cov (cov_prune (s1 := ⟨[(6, (.bool false))], [], 3⟩) ⟨rfl, trivial⟩ trivial (Nat.le_refl _)) ?_
        refine aw_ret ?_
        replace H := rt_of H hsn2 Hrn2
        refine rt_blk ?_
        refine rt_then ?_
        refine rt_then ?_
        refine rt_blk ?_
        refine rt_then ?_
        refine rt_then ?_
        exact fun a w hr => ⟨_, [(.bool false)], hr, ⟨⟨_, rfl, .data (.bool false) trivial⟩, trivial⟩, by decide, by cases H; rfl⟩
      · replace H := ite_f hc H
        refine aw_skip ?_
        refine nx_blk ?_
        refine nx_seq ?_
        refine aw_region1 (es := [_, _]) ⟨Step.plain rfl (does_bin .add 3 3 (.tmp 10) (.const (.int .i64 1)) .i64 x1 1 (.int .i64 (IntKind.i64.wrap (x1 + 1))) trivial (fun _ => rfl) (bin_add _ _ _ _)), ⟨⟨rfl, trivial⟩, trivial, rfl⟩, rfl,
          Step.plain rfl (does_move (.tmp 25) (.int .i64 (IntKind.i64.wrap (x1 + 1))) trivial), ⟨⟨rfl, trivial⟩, trivial, rfl⟩, rfl, rfl⟩ ?_
        exact nx_loop ((IntKind.i64.wrap (x1 + 1))) H (cov_prune ⟨rfl, rfl, rfl, rfl, rfl, trivial⟩ ⟨rfl, rfl, rfl, trivial⟩ (Nat.le_of_ble_eq_true rfl))
    · replace H := ite_f hc H
      refine aw_exit ?_
      refine ex_then ?_
      refine ex_then ?_
      refine ex_here ?_
      exact nx_ljoin () H hsn2 (cov_prune trivial trivial (Nat.le_of_ble_eq_true rfl))

theorem round_Service_spec (p0 : (Nat → Int)) (p1 : (Nat → Int)) (p2 : api_Place) (p3 : Int) (r : Bool) (H : round_Service p0 p1 p2 p3 = some r) : FSpec Try.prog 23 [(e_a8_u32 p0), (e_a8_u32 p1), (e_api_Place p2), (.int .i64 p3)] (.bool r) := by
  refine spec_of (fn := Try.f23) (args := [(e_a8_u32 p0), (e_a8_u32 p1), (e_api_Place p2), (.int .i64 p3)]) Try.func23 rfl (Nat.le_of_ble_eq_true rfl) ?_
  rintro ⟨G, w0, W, S, Sp⟩ hG
  cases hG
  unfold round_Service at H
  refine aw_region (es := [_, _, _, _]) ⟨Step.plain rfl (does_box 28 (.tmp 0) 0 (e_a8_u32 p0) trivial rfl), ⟨⟨rfl, trivial⟩, trivial, rfl⟩, rfl,
    Step.plain rfl (does_box 29 (.tmp 1) 1 (e_a8_u32 p1) trivial rfl), ⟨⟨rfl, trivial⟩, trivial, rfl⟩, rfl,
    Step.plain rfl (does_box 42 (.tmp 2) 2 (e_api_Place p2) trivial rfl), ⟨⟨rfl, trivial⟩, trivial, rfl⟩, rfl,
    Step.plain rfl (does_assign (.const (.bool false)) (.bool false) (fun _ => rfl)), ⟨trivial, trivial, rfl⟩, rfl, rfl⟩ ?_
  refine aw_cov (cov_prune (s1 := ⟨[(3, (.int .i64 p3)), (4, (.ptr 0 0 [])), (5, (.ptr 1 0 [])), (6, (.ptr 2 0 []))], [(0, some (.var (e_a8_u32 p0))), (1, some (.var (e_a8_u32 p1))), (2, some (.var (e_api_Place p2)))], 3⟩) ⟨rfl, rfl, rfl, rfl, trivial⟩ ⟨rfl, rfl, rfl, trivial⟩ (Nat.le_refl _)) ?_
  refine aw_seq ?_
  obtain ⟨v1, h2, H⟩ := bnd H
  obtain ⟨h3, H⟩ := ibg_of H
  refine aw_draw (es := [_, _, _, _, _, _, _, _, _, _, _, _, _, _, _, _, _, _, _]) (mixed) ⟨Step.plain rfl (does_load 29 5 1 0 [] (.var (e_a8_u32 p1)) (e_a8_u32 p1) trivial rfl rfl ty29), ⟨⟨rfl, trivial⟩, ⟨rfl, trivial⟩, rfl⟩, rfl,
    Step.plain rfl (does_fieldAddr 42 1 1 6 2 0 [] (.var (e_api_Place p2)) fl42_1), ⟨⟨rfl, trivial⟩, ⟨rfl, trivial⟩, rfl⟩, rfl,
    Step.plain rfl (does_load 3 12 2 (0 + 1) [1] (.var (e_api_Place p2)) (.int .i64 p2.From) ⟨rfl, Nat.le_of_ble_eq_true rfl, trivial⟩ rfl rfl ty3), ⟨⟨rfl, trivial⟩, ⟨rfl, trivial⟩, rfl⟩, rfl,
    Step.plain rfl (does_call 30 0 (fun _ => .any) (.func 30) [(.tmp 11), (.tmp 13)] [(e_a8_u32 p1), (.int .i64 p2.From)] [] true [(e_a8_u32 p1), (.int .i64 p2.From)] (.bool v1) _ _ rfl fo30 rfl ⟨trivial, trivial, trivial⟩ ⟨.data _ (d_a8_u32 p1), .data _ trivial, trivial⟩ (round_member_spec p1 p2.From _ h2) trivial), ⟨⟨rfl, rfl, trivial⟩, trivial, rfl⟩, rfl,
    Step.plain rfl (does_not 4 (.tmp 14) v1 trivial), ⟨⟨rfl, trivial⟩, trivial, rfl⟩, rfl,
    Step.plain rfl (does_move (.tmp 15) (.bool (!v1)) trivial), ⟨⟨rfl, trivial⟩, trivial, rfl⟩, rfl,
    Step.guarded rfl rfl rfl rfl (fun hc => does_fieldAddr 42 0 0 6 2 0 [] (.var (e_api_Place p2)) fl42_0), ⟨⟨rfl, rfl, trivial⟩, ⟨rfl, trivial⟩, rfl⟩, rfl,
    Step.guarded rfl rfl rfl rfl (fun hc => Does.strip (n' := [(17, (.opt (!(!v1)) (.ptr 2 (0 + 0) [0])))]) (n := [(17, (.ptr 2 (0 + 0) [0]))]) ⟨(.opt _ _ hc), trivial⟩ (does_load 23 17 2 (0 + 0) [0] (.var (e_api_Place p2)) (.int .u32 p2.Round) ⟨rfl, Nat.le_of_ble_eq_true rfl, trivial⟩ rfl rfl ty23)), ⟨⟨rfl, rfl, trivial⟩, ⟨rfl, trivial⟩, rfl⟩, rfl,
    Step.guarded rfl rfl rfl rfl (fun hc => Does.strip (n' := [(18, (.opt (!(!v1)) (.int .u32 p2.Round)))]) (n := [(18, (.int .u32 p2.Round))]) ⟨(.opt _ _ hc), trivial⟩ (does_bin .eql 23 23 (.tmp 18) (.const (.int .u32 0)) .u32 p2.Round 0 (.bool (p2.Round == 0)) trivial (fun _ => rfl) (bin_eql _ _ _ _))), ⟨⟨rfl, rfl, trivial⟩, trivial, rfl⟩, rfl,
    Step.plain rfl (does_or 16 19 (!v1) (p2.Round == 0)), ⟨⟨rfl, rfl, trivial⟩, trivial, rfl⟩, rfl,
    Step.plain rfl (does_move (.tmp 20) (.bool ((!v1) || (p2.Round == 0))) trivial), ⟨⟨rfl, trivial⟩, trivial, rfl⟩, rfl,
    Step.guarded rfl rfl rfl rfl (fun hc => does_fieldAddr 42 0 0 6 2 0 [] (.var (e_api_Place p2)) fl42_0), ⟨⟨rfl, rfl, trivial⟩, ⟨rfl, trivial⟩, rfl⟩, rfl,
    Step.guarded rfl rfl rfl rfl (fun hc => Does.strip (n' := [(22, (.opt (!((!v1) || (p2.Round == 0))) (.ptr 2 (0 + 0) [0])))]) (n := [(22, (.ptr 2 (0 + 0) [0]))]) ⟨(.opt _ _ hc), trivial⟩ (does_load 23 22 2 (0 + 0) [0] (.var (e_api_Place p2)) (.int .u32 p2.Round) ⟨rfl, Nat.le_of_ble_eq_true rfl, trivial⟩ rfl rfl ty23)), ⟨⟨rfl, rfl, trivial⟩, ⟨rfl, trivial⟩, rfl⟩, rfl,
    Step.guarded rfl rfl rfl rfl (fun hc => does_fieldAddr 42 1 1 6 2 0 [] (.var (e_api_Place p2)) fl42_1), ⟨⟨rfl, rfl, trivial⟩, ⟨rfl, trivial⟩, rfl⟩, rfl,
    Step.guarded rfl rfl rfl rfl (fun hc => Does.strip (n' := [(24, (.opt (!((!v1) || (p2.Round == 0))) (.ptr 2 (0 + 1) [1])))]) (n := [(24, (.ptr 2 (0 + 1) [1]))]) ⟨(.opt _ _ hc), trivial⟩ (does_load 3 24 2 (0 + 1) [1] (.var (e_api_Place p2)) (.int .i64 p2.From) ⟨rfl, Nat.le_of_ble_eq_true rfl, trivial⟩ rfl rfl ty3)), ⟨⟨rfl, rfl, trivial⟩, ⟨rfl, trivial⟩, rfl⟩, rfl,
    Step.guarded rfl rfl rfl rfl (fun hc => Does.strip (n' := [(4, (.ptr 0 0 [])), (25, (.opt (!((!v1) || (p2.Round == 0))) (.int .i64 p2.From)))]) (n := [(4, (.ptr 0 0 [])), (25, (.int .i64 p2.From))]) ⟨(.same _), (.opt _ _ hc), trivial⟩ (does_indexAddr 28 8 1 4 0 0 [] (.var (e_a8_u32 p0)) (.tmp 25) .i64 p2.From el28 trivial (h3 hc).1 (h3 hc).2)), ⟨⟨rfl, rfl, rfl, trivial⟩, ⟨rfl, trivial⟩, rfl⟩, rfl,
    Step.guarded rfl rfl rfl rfl (fun hc => Does.strip (n' := [(26, (.opt (!((!v1) || (p2.Round == 0))) (.ptr 0 (0 + p2.From.toNat * 1) [p2.From.toNat])))]) (n := [(26, (.ptr 0 (0 + p2.From.toNat * 1) [p2.From.toNat]))]) ⟨(.opt _ _ hc), trivial⟩ (does_load 23 26 0 (0 + p2.From.toNat * 1) [p2.From.toNat] (.var (e_a8_u32 p0)) (.int .u32 (p0 p2.From.toNat)) ⟨rfl, (ixl (h3 hc)), trivial⟩ rfl rfl ty23)), ⟨⟨rfl, rfl, trivial⟩, ⟨rfl, trivial⟩, rfl⟩, rfl,
    Step.guarded rfl rfl rfl rfl (fun hc => Does.strip (n' := [(23, (.opt (!((!v1) || (p2.Round == 0))) (.int .u32 p2.Round))), (27, (.opt (!((!v1) || (p2.Round == 0))) (.int .u32 (p0 p2.From.toNat))))]) (n := [(23, (.int .u32 p2.Round)), (27, (.int .u32 (p0 p2.From.toNat)))]) ⟨(.opt _ _ hc), (.opt _ _ hc), trivial⟩ (does_bin .gtr 23 23 (.tmp 23) (.tmp 27) .u32 p2.Round (p0 p2.From.toNat) (.bool (decide (p2.Round > (p0 p2.From.toNat)))) trivial trivial (bin_gtr _ _ _ _))), ⟨⟨rfl, rfl, rfl, trivial⟩, trivial, rfl⟩, rfl,
    Step.plain rfl (does_or 21 28 ((!v1) || (p2.Round == 0)) (decide (p2.Round > (p0 p2.From.toNat)))), ⟨⟨rfl, rfl, trivial⟩, trivial, rfl⟩, rfl, rfl⟩ rfl ?_
  obtain ⟨v4, hv4, H⟩ := lt_of H
  refine aw_cov (cov_prune (s1 := ⟨[(3, (.int .i64 p3)), (4, (.ptr 0 0 [])), (5, (.ptr 1 0 [])), (6, (.ptr 2 0 [])), (29, (.bool v4))], [(0, some (.var (e_a8_u32 p0))), (1, some (.var (e_a8_u32 p1))), (2, some (.var (e_api_Place p2)))], 3⟩) ⟨rfl, rfl, rfl, rfl, (by subst hv4; rfl), trivial⟩ ⟨rfl, rfl, rfl, trivial⟩ (Nat.le_refl _)) ?_
  refine aw_cond rfl (fun hc => ?_) (fun hc => ?_)
  · replace H := ite_t hc H
    refine aw_region (es := [_]) ⟨Step.plain rfl (does_assign (.const (.bool false)) (.bool false) (fun _ => rfl)), ⟨trivial, trivial, rfl⟩, rfl, rfl⟩ ?_
    refine aw_cov (cov_prune (s1 := ⟨[(8, (.bool false))], [], 3⟩) ⟨rfl, trivial⟩ trivial (Nat.le_refl _)) ?_
    refine aw_ret ?_
    refine rt_then ?_
    exact fun a w hr => ⟨_, [(.bool false)], hr, ⟨⟨_, rfl, .data (.bool false) trivial⟩, trivial⟩, by decide, by cases H; rfl⟩
  · replace H := ite_f hc H
    refine aw_skip ?_
    refine nx_seq ?_
    obtain ⟨v5, h6, H⟩ := bnd H
    refine aw_region (es := [_, _, _, _, _, _, _, _]) ⟨Step.plain rfl (does_load 28 4 0 0 [] (.var (e_a8_u32 p0)) (e_a8_u32 p0) trivial rfl rfl ty28), ⟨⟨rfl, trivial⟩, ⟨rfl, trivial⟩, rfl⟩, rfl,
      Step.plain rfl (does_load 29 5 1 0 [] (.var (e_a8_u32 p1)) (e_a8_u32 p1) trivial rfl rfl ty29), ⟨⟨rfl, trivial⟩, ⟨rfl, trivial⟩, rfl⟩, rfl,
      Step.plain rfl (does_call 31 0 (fun _ => .any) (.func 31) [(.tmp 31), (.tmp 32)] [(e_a8_u32 p0), (e_a8_u32 p1)] [] true [(e_a8_u32 p0), (e_a8_u32 p1)] (resV [(.int .u32 v5.1), (.bool v5.2)]) _ _ rfl fo31 rfl ⟨trivial, trivial, trivial⟩ ⟨.data _ (d_a8_u32 p0), .data _ (d_a8_u32 p1), trivial⟩ (round_Least_spec p0 p1 _ h6) (res_flat2 trivial trivial)), ⟨⟨rfl, rfl, trivial⟩, trivial, rfl⟩, rfl,
      Step.plain rfl (does_move (.tmp 33) (resV [(.int .u32 v5.1), (.bool v5.2)]) trivial), ⟨⟨rfl, trivial⟩, trivial, rfl⟩, rfl,
      Step.plain rfl (does_extract 30 0 2 (fun j => [(.int .u32 v5.1), (.bool v5.2)].getD j (.bool false)) (Nat.le_of_ble_eq_true rfl)), ⟨⟨rfl, trivial⟩, trivial, rfl⟩, rfl,
      Step.plain rfl (does_extract 30 1 2 (fun j => [(.int .u32 v5.1), (.bool v5.2)].getD j (.bool false)) (Nat.le_of_ble_eq_true rfl)), ⟨⟨rfl, trivial⟩, trivial, rfl⟩, rfl,
      Step.plain rfl (does_assign (.tmp 34) (.int .u32 v5.1) trivial), ⟨⟨rfl, trivial⟩, trivial, rfl⟩, rfl,
      Step.plain rfl (does_assign (.tmp 35) (.bool v5.2) trivial), ⟨⟨rfl, trivial⟩, trivial, rfl⟩, rfl, rfl⟩ ?_
    refine aw_cov (cov_prune (s1 := ⟨[(3, (.int .i64 p3)), (4, (.ptr 0 0 [])), (5, (.ptr 1 0 [])), (6, (.ptr 2 0 [])), (9, (.int .u32 v5.1))], [(0, some (.var (e_a8_u32 p0))), (1, some (.var (e_a8_u32 p1))), (2, some (.var (e_api_Place p2)))], 3⟩) ⟨rfl, rfl, rfl, rfl, rfl, trivial⟩ ⟨rfl, rfl, rfl, trivial⟩ (Nat.le_refl _)) ?_
    refine aw_seq ?_
    refine aw_region (es := [_]) ⟨Step.plain rfl (does_move (.tmp 3) (.int .i64 p3) trivial), ⟨⟨rfl, trivial⟩, trivial, rfl⟩, rfl, rfl⟩ ?_
    refine aw_cov (cov_prune (s1 := ⟨[(4, (.ptr 0 0 [])), (5, (.ptr 1 0 [])), (6, (.ptr 2 0 [])), (9, (.int .u32 v5.1)), (36, (.int .i64 p3))], [(0, some (.var (e_a8_u32 p0))), (1, some (.var (e_a8_u32 p1))), (2, some (.var (e_api_Place p2)))], 3⟩) ⟨rfl, rfl, rfl, rfl, rfl, trivial⟩ ⟨rfl, rfl, rfl, trivial⟩ (Nat.le_refl _)) ?_
    refine aw_block ?_
    refine aw_region (es := [_, _]) ⟨Step.plain rfl (does_bin .eql 3 3 (.tmp 36) (.const (.int .i64 0)) .i64 p3 0 (.bool (p3 == 0)) trivial (fun _ => rfl) (bin_eql _ _ _ _)), ⟨⟨rfl, trivial⟩, trivial, rfl⟩, rfl,
      Step.plain rfl (does_assign (.tmp 38) (.bool (p3 == 0)) trivial), ⟨⟨rfl, trivial⟩, trivial, rfl⟩, rfl, rfl⟩ ?_
    refine aw_cov (cov_prune (s1 := ⟨[(4, (.ptr 0 0 [])), (5, (.ptr 1 0 [])), (6, (.ptr 2 0 [])), (9, (.int .u32 v5.1)), (36, (.int .i64 p3)), (37, (.bool (p3 == 0)))], [(0, some (.var (e_a8_u32 p0))), (1, some (.var (e_a8_u32 p1))), (2, some (.var (e_api_Place p2)))], 3⟩) ⟨rfl, rfl, rfl, rfl, rfl, rfl, trivial⟩ ⟨rfl, rfl, rfl, trivial⟩ (Nat.le_refl _)) ?_
    refine aw_cond rfl (fun hc => ?_) (fun hc => ?_)
    · replace H := ite_t hc H
      refine aw_region (es := [_]) ⟨Step.plain rfl (does_assign (.const (.bool true)) (.bool true) (fun _ => rfl)), ⟨trivial, trivial, rfl⟩, rfl, rfl⟩ ?_
      refine aw_cov (cov_prune (s1 := ⟨[(8, (.bool true))], [], 3⟩) ⟨rfl, trivial⟩ trivial (Nat.le_refl _)) ?_
      refine aw_ret ?_
      refine rt_blk ?_
      refine rt_then ?_
      exact fun a w hr => ⟨_, [(.bool true)], hr, ⟨⟨_, rfl, .data (.bool true) trivial⟩, trivial⟩, by decide, by cases H; rfl⟩
    · replace H := ite_f hc H
      refine aw_region (es := [_, _]) ⟨Step.plain rfl (does_bin .eql 3 3 (.tmp 36) (.const (.int .i64 1)) .i64 p3 1 (.bool (p3 == 1)) trivial (fun _ => rfl) (bin_eql _ _ _ _)), ⟨⟨rfl, trivial⟩, trivial, rfl⟩, rfl,
        Step.plain rfl (does_assign (.tmp 40) (.bool (p3 == 1)) trivial), ⟨⟨rfl, trivial⟩, trivial, rfl⟩, rfl, rfl⟩ ?_
      refine aw_cov (cov_prune (s1 := ⟨[(4, (.ptr 0 0 [])), (5, (.ptr 1 0 [])), (6, (.ptr 2 0 [])), (9, (.int .u32 v5.1)), (36, (.int .i64 p3)), (39, (.bool (p3 == 1)))], [(0, some (.var (e_a8_u32 p0))), (1, some (.var (e_a8_u32 p1))), (2, some (.var (e_api_Place p2)))], 3⟩) ⟨rfl, rfl, rfl, rfl, rfl, rfl, trivial⟩ ⟨rfl, rfl, rfl, trivial⟩ (Nat.le_refl _)) ?_
      refine aw_cond rfl (fun hc => ?_) (fun hc => ?_)
      · replace H := ite_t hc H
        refine aw_region (es := [_, _, _, _, _, _]) ⟨Step.plain rfl (does_move (.tmp 9) (.int .u32 v5.1) trivial), ⟨⟨rfl, trivial⟩, trivial, rfl⟩, rfl,
          Step.plain rfl (does_fieldAddr 42 0 0 6 2 0 [] (.var (e_api_Place p2)) fl42_0), ⟨⟨rfl, trivial⟩, ⟨rfl, trivial⟩, rfl⟩, rfl,
          Step.plain rfl (does_load 23 42 2 (0 + 0) [0] (.var (e_api_Place p2)) (.int .u32 p2.Round) ⟨rfl, Nat.le_of_ble_eq_true rfl, trivial⟩ rfl rfl ty23), ⟨⟨rfl, trivial⟩, ⟨rfl, trivial⟩, rfl⟩, rfl,
          Step.plain rfl (does_bin .sub 23 23 (.tmp 43) (.const (.int .u32 1)) .u32 p2.Round 1 (.int .u32 (IntKind.u32.wrap (p2.Round - 1))) trivial (fun _ => rfl) (bin_sub _ _ _ _)), ⟨⟨rfl, trivial⟩, trivial, rfl⟩, rfl,
          Step.plain rfl (does_bin .geq 23 23 (.tmp 41) (.tmp 44) .u32 v5.1 (IntKind.u32.wrap (p2.Round - 1)) (.bool (decide (v5.1 ≥ (IntKind.u32.wrap (p2.Round - 1))))) trivial trivial (bin_geq _ _ _ _)), ⟨⟨rfl, rfl, trivial⟩, trivial, rfl⟩, rfl,
          Step.plain rfl (does_assign (.tmp 45) (.bool (decide (v5.1 ≥ (IntKind.u32.wrap (p2.Round - 1))))) trivial), ⟨⟨rfl, trivial⟩, trivial, rfl⟩, rfl, rfl⟩ ?_
        refine aw_cov (cov_prune (s1 := ⟨[(8, (.bool (decide (v5.1 ≥ (IntKind.u32.wrap (p2.Round - 1))))))], [], 3⟩) ⟨rfl, trivial⟩ trivial (Nat.le_refl _)) ?_
        refine aw_ret ?_
        refine rt_blk ?_
        refine rt_then ?_
        exact fun a w hr => ⟨_, [(.bool (decide (v5.1 ≥ (IntKind.u32.wrap (p2.Round - 1)))))], hr, ⟨⟨_, rfl, .data (.bool (decide (v5.1 ≥ (IntKind.u32.wrap (p2.Round - 1))))) trivial⟩, trivial⟩, by decide, by cases H; rfl⟩
      · replace H := ite_f hc H
        refine aw_region (es := [_, _]) ⟨Step.plain rfl (does_bin .eql 3 3 (.tmp 36) (.const (.int .i64 2)) .i64 p3 2 (.bool (p3 == 2)) trivial (fun _ => rfl) (bin_eql _ _ _ _)), ⟨⟨rfl, trivial⟩, trivial, rfl⟩, rfl,
          Step.plain rfl (does_assign (.tmp 47) (.bool (p3 == 2)) trivial), ⟨⟨rfl, trivial⟩, trivial, rfl⟩, rfl, rfl⟩ ?_
        refine aw_cov (cov_prune (s1 := ⟨[(4, (.ptr 0 0 [])), (5, (.ptr 1 0 [])), (6, (.ptr 2 0 [])), (9, (.int .u32 v5.1)), (36, (.int .i64 p3)), (46, (.bool (p3 == 2)))], [(0, some (.var (e_a8_u32 p0))), (1, some (.var (e_a8_u32 p1))), (2, some (.var (e_api_Place p2)))], 3⟩) ⟨rfl, rfl, rfl, rfl, rfl, rfl, trivial⟩ ⟨rfl, rfl, rfl, trivial⟩ (Nat.le_refl _)) ?_
        refine aw_cond rfl (fun hc => ?_) (fun hc => ?_)
        · replace H := ite_t hc H
          obtain ⟨v7, h8, H⟩ := whn_of H
          refine aw_region (es := [_, _, _, _, _, _, _, _, _, _, _, _]) ⟨Step.plain rfl (does_move (.tmp 9) (.int .u32 v5.1) trivial), ⟨⟨rfl, trivial⟩, trivial, rfl⟩, rfl,
            Step.plain rfl (does_fieldAddr 42 0 0 6 2 0 [] (.var (e_api_Place p2)) fl42_0), ⟨⟨rfl, trivial⟩, ⟨rfl, trivial⟩, rfl⟩, rfl,
            Step.plain rfl (does_load 23 49 2 (0 + 0) [0] (.var (e_api_Place p2)) (.int .u32 p2.Round) ⟨rfl, Nat.le_of_ble_eq_true rfl, trivial⟩ rfl rfl ty23), ⟨⟨rfl, trivial⟩, ⟨rfl, trivial⟩, rfl⟩, rfl,
            Step.plain rfl (does_bin .sub 23 23 (.tmp 50) (.const (.int .u32 1)) .u32 p2.Round 1 (.int .u32 (IntKind.u32.wrap (p2.Round - 1))) trivial (fun _ => rfl) (bin_sub _ _ _ _)), ⟨⟨rfl, trivial⟩, trivial, rfl⟩, rfl,
            Step.plain rfl (does_bin .geq 23 23 (.tmp 48) (.tmp 51) .u32 v5.1 (IntKind.u32.wrap (p2.Round - 1)) (.bool (decide (v5.1 ≥ (IntKind.u32.wrap (p2.Round - 1))))) trivial trivial (bin_geq _ _ _ _)), ⟨⟨rfl, rfl, trivial⟩, trivial, rfl⟩, rfl,
            Step.plain rfl (does_move (.tmp 52) (.bool (decide (v5.1 ≥ (IntKind.u32.wrap (p2.Round - 1))))) trivial), ⟨⟨rfl, trivial⟩, trivial, rfl⟩, rfl,
            Step.guarded rfl rfl rfl rfl (fun hc => does_load 28 4 0 0 [] (.var (e_a8_u32 p0)) (e_a8_u32 p0) trivial rfl rfl ty28), ⟨⟨rfl, rfl, trivial⟩, ⟨rfl, trivial⟩, rfl⟩, rfl,
            Step.guarded rfl rfl rfl rfl (fun hc => does_load 29 5 1 0 [] (.var (e_a8_u32 p1)) (e_a8_u32 p1) trivial rfl rfl ty29), ⟨⟨rfl, rfl, trivial⟩, ⟨rfl, trivial⟩, rfl⟩, rfl,
            Step.guarded rfl rfl rfl rfl (fun hc => does_load 42 6 2 0 [] (.var (e_api_Place p2)) (e_api_Place p2) trivial rfl rfl ty42), ⟨⟨rfl, rfl, trivial⟩, ⟨rfl, trivial⟩, rfl⟩, rfl,
            Step.guarded rfl rfl rfl rfl (fun hc => Does.strip (n' := [(54, (.opt (decide (v5.1 ≥ (IntKind.u32.wrap (p2.Round - 1)))) (e_a8_u32 p0))), (55, (.opt (decide (v5.1 ≥ (IntKind.u32.wrap (p2.Round - 1)))) (e_a8_u32 p1))), (56, (.opt (decide (v5.1 ≥ (IntKind.u32.wrap (p2.Round - 1)))) (e_api_Place p2)))]) (n := [(54, (e_a8_u32 p0)), (55, (e_a8_u32 p1)), (56, (e_api_Place p2))]) ⟨(.opt _ _ hc), (.opt _ _ hc), (.opt _ _ hc), trivial⟩ (does_call 32 0 (fun _ => .any) (.func 32) [(.tmp 54), (.tmp 55), (.tmp 56)] [(e_a8_u32 p0), (e_a8_u32 p1), (e_api_Place p2)] [] true [(e_a8_u32 p0), (e_a8_u32 p1), (e_api_Place p2)] (.bool v7) _ _ rfl fo32 rfl ⟨trivial, trivial, trivial, trivial⟩ ⟨.data _ (d_a8_u32 p0), .data _ (d_a8_u32 p1), .data _ (d_api_Place p2), trivial⟩ (round_ahead_spec p0 p1 p2 _ (h8 hc)) trivial)), ⟨⟨rfl, rfl, rfl, rfl, trivial⟩, trivial, rfl⟩, rfl,
            Step.plain rfl (does_and 53 57 (decide (v5.1 ≥ (IntKind.u32.wrap (p2.Round - 1)))) v7), ⟨⟨rfl, rfl, trivial⟩, trivial, rfl⟩, rfl,
            Step.plain rfl (does_assign (.tmp 58) (.bool ((decide (v5.1 ≥ (IntKind.u32.wrap (p2.Round - 1)))) && v7)) trivial), ⟨⟨rfl, trivial⟩, trivial, rfl⟩, rfl, rfl⟩ ?_
          refine aw_cov (cov_prune (s1 := ⟨[(8, (.bool ((decide (v5.1 ≥ (IntKind.u32.wrap (p2.Round - 1)))) && v7)))], [], 3⟩) ⟨rfl, trivial⟩ trivial (Nat.le_refl _)) ?_
          refine aw_ret ?_
          refine rt_blk ?_
          refine rt_then ?_
          exact fun a w hr => ⟨_, [(.bool ((decide (v5.1 ≥ (IntKind.u32.wrap (p2.Round - 1)))) && v7))], hr, ⟨⟨_, rfl, .data (.bool ((decide (v5.1 ≥ (IntKind.u32.wrap (p2.Round - 1)))) && v7)) trivial⟩, trivial⟩, by decide, by cases H; rfl⟩
        · replace H := ite_f hc H
          refine aw_region (es := [_, _]) ⟨Step.plain rfl (does_bin .eql 3 3 (.tmp 36) (.const (.int .i64 3)) .i64 p3 3 (.bool (p3 == 3)) trivial (fun _ => rfl) (bin_eql _ _ _ _)), ⟨⟨rfl, trivial⟩, trivial, rfl⟩, rfl,
            Step.plain rfl (does_assign (.tmp 60) (.bool (p3 == 3)) trivial), ⟨⟨rfl, trivial⟩, trivial, rfl⟩, rfl, rfl⟩ ?_
          refine aw_cov (cov_prune (s1 := ⟨[(6, (.ptr 2 0 [])), (9, (.int .u32 v5.1)), (59, (.bool (p3 == 3)))], [(2, some (.var (e_api_Place p2)))], 3⟩) ⟨rfl, rfl, rfl, trivial⟩ ⟨rfl, trivial⟩ (Nat.le_refl _)) ?_
          refine aw_cond rfl (fun hc => ?_) (fun hc => ?_)
          · replace H := ite_t hc H
            refine aw_region (es := [_, _, _, _, _]) ⟨Step.plain rfl (does_move (.tmp 9) (.int .u32 v5.1) trivial), ⟨⟨rfl, trivial⟩, trivial, rfl⟩, rfl,
              Step.plain rfl (does_fieldAddr 42 0 0 6 2 0 [] (.var (e_api_Place p2)) fl42_0), ⟨⟨rfl, trivial⟩, ⟨rfl, trivial⟩, rfl⟩, rfl,
              Step.plain rfl (does_load 23 62 2 (0 + 0) [0] (.var (e_api_Place p2)) (.int .u32 p2.Round) ⟨rfl, Nat.le_of_ble_eq_true rfl, trivial⟩ rfl rfl ty23), ⟨⟨rfl, trivial⟩, ⟨rfl, trivial⟩, rfl⟩, rfl,
              Step.plain rfl (does_bin .gtr 23 23 (.tmp 61) (.tmp 63) .u32 v5.1 p2.Round (.bool (decide (v5.1 > p2.Round))) trivial trivial (bin_gtr _ _ _ _)), ⟨⟨rfl, rfl, trivial⟩, trivial, rfl⟩, rfl,
              Step.plain rfl (does_assign (.tmp 64) (.bool (decide (v5.1 > p2.Round))) trivial), ⟨⟨rfl, trivial⟩, trivial, rfl⟩, rfl, rfl⟩ ?_
            refine aw_cov (cov_prune (s1 := ⟨[(8, (.bool (decide (v5.1 > p2.Round))))], [], 3⟩) ⟨rfl, trivial⟩ trivial (Nat.le_refl _)) ?_
            refine aw_ret ?_
            refine rt_blk ?_
            refine rt_then ?_
            exact fun a w hr => ⟨_, [(.bool (decide (v5.1 > p2.Round)))], hr, ⟨⟨_, rfl, .data (.bool (decide (v5.1 > p2.Round))) trivial⟩, trivial⟩, by decide, by cases H; rfl⟩
          · replace H := ite_f hc H
            refine aw_skip ?_
            refine nx_blk ?_
            refine nx_seq ?_
            refine aw_region (es := [_]) ⟨Step.plain rfl (does_assign (.const (.bool false)) (.bool false) (fun _ => rfl)), ⟨trivial, trivial, rfl⟩, rfl, rfl⟩ ?_
            refine aw_cov (cov_prune (s1 := ⟨[(8, (.bool false))], [], 3⟩) ⟨rfl, trivial⟩ trivial (Nat.le_refl _)) ?_
            refine aw_ret ?_
            exact fun a w hr => ⟨_, [(.bool false)], hr, ⟨⟨_, rfl, .data (.bool false) trivial⟩, trivial⟩, by decide, by cases H; rfl⟩

theorem queue_ordered_spec (p0 : api_Entry) (r : Bool) (H : queue_ordered p0 = some r) : FSpec Try.prog 25 [(e_api_Entry p0)] (.bool r) := by
  refine spec_of (fn := Try.f25) (args := [(e_api_Entry p0)]) Try.func25 rfl (Nat.le_of_ble_eq_true rfl) ?_
  rintro ⟨G, w0, W, S, Sp⟩ hG
  cases hG
  unfold queue_ordered at H
  refine aw_region (es := [_, _]) ⟨Step.plain rfl (does_box 45 (.tmp 0) 0 (e_api_Entry p0) trivial rfl), ⟨⟨rfl, trivial⟩, trivial, rfl⟩, rfl,
    Step.plain rfl (does_assign (.const (.bool false)) (.bool false) (fun _ => rfl)), ⟨trivial, trivial, rfl⟩, rfl, rfl⟩ ?_
  refine aw_cov (cov_prune (s1 := ⟨[(1, (.ptr 0 0 []))], [(0, some (.var (e_api_Entry p0)))], 1⟩) ⟨rfl, trivial⟩ ⟨rfl, trivial⟩ (Nat.le_refl _)) ?_
  refine aw_region (es := [_, _, _, _, _, _, _, _, _, _, _, _, _, _]) ⟨Step.plain rfl (does_fieldAddr 45 0 0 1 0 0 [] (.var (e_api_Entry p0)) fl45_0), ⟨⟨rfl, trivial⟩, ⟨rfl, trivial⟩, rfl⟩, rfl,
    Step.plain rfl (does_load 3 3 0 (0 + 0) [0] (.var (e_api_Entry p0)) (.int .i64 p0.Kind) ⟨rfl, Nat.le_of_ble_eq_true rfl, trivial⟩ rfl rfl ty3), ⟨⟨rfl, trivial⟩, ⟨rfl, trivial⟩, rfl⟩, rfl,
    Step.plain rfl (does_bin .neq 3 3 (.tmp 4) (.const (.int .i64 1)) .i64 p0.Kind 1 (.bool (p0.Kind != 1)) trivial (fun _ => rfl) (bin_neq _ _ _ _)), ⟨⟨rfl, trivial⟩, trivial, rfl⟩, rfl,
    Step.plain rfl (does_move (.tmp 5) (.bool (p0.Kind != 1)) trivial), ⟨⟨rfl, trivial⟩, trivial, rfl⟩, rfl,
    Step.guarded rfl rfl rfl rfl (fun hc => does_fieldAddr 45 1 1 1 0 0 [] (.var (e_api_Entry p0)) fl45_1), ⟨⟨rfl, rfl, trivial⟩, ⟨rfl, trivial⟩, rfl⟩, rfl,
    Step.guarded rfl rfl rfl rfl (fun hc => Does.strip (n' := [(7, (.opt (!(p0.Kind != 1)) (.ptr 0 (0 + 1) [1])))]) (n := [(7, (.ptr 0 (0 + 1) [1]))]) ⟨(.opt _ _ hc), trivial⟩ (does_load 3 7 0 (0 + 1) [1] (.var (e_api_Entry p0)) (.int .i64 p0.Service) ⟨rfl, Nat.le_of_ble_eq_true rfl, trivial⟩ rfl rfl ty3)), ⟨⟨rfl, rfl, trivial⟩, ⟨rfl, trivial⟩, rfl⟩, rfl,
    Step.guarded rfl rfl rfl rfl (fun hc => Does.strip (n' := [(8, (.opt (!(p0.Kind != 1)) (.int .i64 p0.Service)))]) (n := [(8, (.int .i64 p0.Service))]) ⟨(.opt _ _ hc), trivial⟩ (does_bin .eql 3 3 (.tmp 8) (.const (.int .i64 2)) .i64 p0.Service 2 (.bool (p0.Service == 2)) trivial (fun _ => rfl) (bin_eql _ _ _ _))), ⟨⟨rfl, rfl, trivial⟩, trivial, rfl⟩, rfl,
    Step.plain rfl (does_or 6 9 (p0.Kind != 1) (p0.Service == 2)), ⟨⟨rfl, rfl, trivial⟩, trivial, rfl⟩, rfl,
    Step.plain rfl (does_move (.tmp 10) (.bool ((p0.Kind != 1) || (p0.Service == 2))) trivial), ⟨⟨rfl, trivial⟩, trivial, rfl⟩, rfl,
    Step.guarded rfl rfl rfl rfl (fun hc => does_fieldAddr 45 1 1 1 0 0 [] (.var (e_api_Entry p0)) fl45_1), ⟨⟨rfl, rfl, trivial⟩, ⟨rfl, trivial⟩, rfl⟩, rfl,
    Step.guarded rfl rfl rfl rfl (fun hc => Does.strip (n' := [(12, (.opt (!((p0.Kind != 1) || (p0.Service == 2))) (.ptr 0 (0 + 1) [1])))]) (n := [(12, (.ptr 0 (0 + 1) [1]))]) ⟨(.opt _ _ hc), trivial⟩ (does_load 3 12 0 (0 + 1) [1] (.var (e_api_Entry p0)) (.int .i64 p0.Service) ⟨rfl, Nat.le_of_ble_eq_true rfl, trivial⟩ rfl rfl ty3)), ⟨⟨rfl, rfl, trivial⟩, ⟨rfl, trivial⟩, rfl⟩, rfl,
    Step.guarded rfl rfl rfl rfl (fun hc => Does.strip (n' := [(13, (.opt (!((p0.Kind != 1) || (p0.Service == 2))) (.int .i64 p0.Service)))]) (n := [(13, (.int .i64 p0.Service))]) ⟨(.opt _ _ hc), trivial⟩ (does_bin .eql 3 3 (.tmp 13) (.const (.int .i64 3)) .i64 p0.Service 3 (.bool (p0.Service == 3)) trivial (fun _ => rfl) (bin_eql _ _ _ _))), ⟨⟨rfl, rfl, trivial⟩, trivial, rfl⟩, rfl,
    Step.plain rfl (does_or 11 14 ((p0.Kind != 1) || (p0.Service == 2)) (p0.Service == 3)), ⟨⟨rfl, rfl, trivial⟩, trivial, rfl⟩, rfl,
    Step.plain rfl (does_assign (.tmp 15) (.bool (((p0.Kind != 1) || (p0.Service == 2)) || (p0.Service == 3))) trivial), ⟨⟨rfl, trivial⟩, trivial, rfl⟩, rfl, rfl⟩ ?_
  refine aw_cov (cov_prune (s1 := ⟨[(2, (.bool (((p0.Kind != 1) || (p0.Service == 2)) || (p0.Service == 3))))], [], 1⟩) ⟨rfl, trivial⟩ trivial (Nat.le_refl _)) ?_
  refine aw_ret ?_
  exact fun a w hr => ⟨_, [(.bool (((p0.Kind != 1) || (p0.Service == 2)) || (p0.Service == 3)))], hr, ⟨⟨_, rfl, .data (.bool (((p0.Kind != 1) || (p0.Service == 2)) || (p0.Service == 3))) trivial⟩, trivial⟩, by decide, by cases H; rfl⟩

theorem queue_Ready_spec (p0 : (_root_.List api_Wait)) (p1 : (Nat → Int)) (p2 : (Nat → Int)) (r : (_root_.List api_Wait) × (_root_.List api_Wait)) (H : queue_Ready p0 p1 p2 = some r) : FSpecO Try.prog 9 [(e_s_api_Wait p0), (e_a8_u32 p1), (e_a8_u32 p2)] [] 0 (resV [(.own 0), (.own 1)]) [(0, some (.arr 9 r.1.length fun j => (e_api_Wait (r.1.getD j z_api_Wait)))), (1, some (.arr 9 r.2.length fun j => (e_api_Wait (r.2.getD j z_api_Wait))))] 2 := by
  refine specO_of (fn := Try.f9) (args := [(e_s_api_Wait p0), (e_a8_u32 p1), (e_a8_u32 p2)]) Try.func9 rfl (Nat.le_of_ble_eq_true rfl) ?_
  rintro ⟨G, w0, W, S, Sp⟩ hG
  cases hG
  unfold queue_Ready at H
  refine aw_region (es := [_, _, _, _]) ⟨Step.plain rfl (does_box 28 (.tmp 1) 0 (e_a8_u32 p1) trivial rfl), ⟨⟨rfl, trivial⟩, trivial, rfl⟩, rfl,
    Step.plain rfl (does_box 29 (.tmp 2) 1 (e_a8_u32 p2) trivial rfl), ⟨⟨rfl, trivial⟩, trivial, rfl⟩, rfl,
    Step.plain rfl (does_nil false 2 9 (fun j => (e_api_Wait (([] : _root_.List api_Wait).getD j z_api_Wait)))), ⟨trivial, trivial, rfl⟩, rfl,
    Step.plain rfl (does_nil false 3 9 (fun j => (e_api_Wait (([] : _root_.List api_Wait).getD j z_api_Wait)))), ⟨trivial, trivial, rfl⟩, rfl, rfl⟩ ?_
  refine aw_cov (cov_prune (s1 := ⟨[(0, (e_s_api_Wait p0)), (4, (.ptr 0 0 [])), (5, (.ptr 1 0 []))], [(0, some (.var (e_a8_u32 p1))), (1, some (.var (e_a8_u32 p2)))], 4⟩) ⟨rfl, rfl, rfl, trivial⟩ ⟨rfl, rfl, trivial⟩ (Nat.le_refl _)) ?_
  refine aw_region (es := [_, _]) ⟨Step.plain rfl (does_nil false 4 9 (fun j => (e_api_Wait (([] : _root_.List api_Wait).getD j z_api_Wait)))), ⟨trivial, trivial, rfl⟩, rfl,
    Step.plain rfl (does_nil false 5 9 (fun j => (e_api_Wait (([] : _root_.List api_Wait).getD j z_api_Wait)))), ⟨trivial, trivial, rfl⟩, rfl, rfl⟩ ?_
  refine aw_cov (cov_prune (s1 := ⟨[(0, (e_s_api_Wait p0)), (4, (.ptr 0 0 [])), (5, (.ptr 1 0 [])), (8, (.own 4)), (9, (.own 5))], [(0, some (.var (e_a8_u32 p1))), (1, some (.var (e_a8_u32 p2))), (4, some (.arr 9 ([] : _root_.List api_Wait).length fun j => (e_api_Wait (([] : _root_.List api_Wait).getD j z_api_Wait)))), (5, some (.arr 9 ([] : _root_.List api_Wait).length fun j => (e_api_Wait (([] : _root_.List api_Wait).getD j z_api_Wait))))], 6⟩) ⟨rfl, rfl, rfl, rfl, rfl, trivial⟩ ⟨rfl, rfl, rfl, rfl, trivial⟩ (Nat.le_refl _)) ?_
  refine aw_region (es := [_]) ⟨Step.plain rfl (does_assign (.const (.bool false)) (.bool false) (fun _ => rfl)), ⟨trivial, trivial, rfl⟩, rfl, rfl⟩ ?_
  refine aw_cov (cov_prune (s1 := ⟨[(0, (e_s_api_Wait p0)), (4, (.ptr 0 0 [])), (5, (.ptr 1 0 [])), (8, (.own 4)), (9, (.own 5)), (10, (.bool false))], [(0, some (.var (e_a8_u32 p1))), (1, some (.var (e_a8_u32 p2))), (4, some (.arr 9 ([] : _root_.List api_Wait).length fun j => (e_api_Wait (([] : _root_.List api_Wait).getD j z_api_Wait)))), (5, some (.arr 9 ([] : _root_.List api_Wait).length fun j => (e_api_Wait (([] : _root_.List api_Wait).getD j z_api_Wait))))], 6⟩) ⟨rfl, rfl, rfl, rfl, rfl, rfl, trivial⟩ ⟨rfl, rfl, rfl, rfl, trivial⟩ (Nat.le_refl _)) ?_
  refine aw_seq ?_
  refine aw_region (es := [_, _, _]) ⟨Step.plain rfl (does_move (.tmp 0) (e_s_api_Wait p0) trivial), ⟨⟨rfl, trivial⟩, trivial, rfl⟩, rfl,
    Step.plain rfl (does_lens 22 9 p0.length 14 (fun j => (e_api_Wait (p0.getD j z_api_Wait))) el22), ⟨⟨rfl, trivial⟩, trivial, rfl⟩, rfl,
    Step.plain rfl (does_move (.const (.int .i64 0)) (.int .i64 0) (fun _ => rfl)), ⟨trivial, trivial, rfl⟩, rfl, rfl⟩ ?_
  refine aw_cov (cov_prune (s1 := ⟨[(4, (.ptr 0 0 [])), (5, (.ptr 1 0 [])), (8, (.own 4)), (9, (.own 5)), (10, (.bool false)), (14, (e_s_api_Wait p0)), (15, (.int .i64 (p0.length : Int))), (16, (.int .i64 0))], [(0, some (.var (e_a8_u32 p1))), (1, some (.var (e_a8_u32 p2))), (4, some (.arr 9 ([] : _root_.List api_Wait).length fun j => (e_api_Wait (([] : _root_.List api_Wait).getD j z_api_Wait)))), (5, some (.arr 9 ([] : _root_.List api_Wait).length fun j => (e_api_Wait (([] : _root_.List api_Wait).getD j z_api_Wait))))], 6⟩) ⟨rfl, rfl, rfl, rfl, rfl, rfl, rfl, rfl, trivial⟩ ⟨rfl, rfl, rfl, rfl, trivial⟩ (Nat.le_refl _)) ?_
  obtain ⟨wn2, hwn2, Hrn2⟩ := bnd H
  refine aw_meet (fun y16 : _root_.List api_Wait × _root_.List api_Wait => (⟨[(8, (.own 4)), (9, (.own 5))], [(4, some (.arr 9 y16.1.length fun j => (e_api_Wait (y16.1.getD j z_api_Wait)))), (5, some (.arr 9 y16.2.length fun j => (e_api_Wait (y16.2.getD j z_api_Wait))))], 6⟩ : St)) (fun y16 => Fl.nx y16 = wn2) (fun y16 hy => ?_) (aw_block (aw_runs (fun x1 : Bool × Int × _root_.List api_Wait × _root_.List api_Wait => (⟨[(4, (.ptr 0 0 [])), (5, (.ptr 1 0 [])), (8, (.own 4)), (9, (.own 5)), (10, (.bool x1.1)), (14, (e_s_api_Wait p0)), (15, (.int .i64 (p0.length : Int))), (16, (.int .i64 x1.2.1))], [(0, some (.var (e_a8_u32 p1))), (1, some (.var (e_a8_u32 p2))), (4, some (.arr 9 x1.2.2.1.length fun j => (e_api_Wait (x1.2.2.1.getD j z_api_Wait)))), (5, some (.arr 9 x1.2.2.2.length fun j => (e_api_Wait (x1.2.2.2.getD j z_api_Wait))))], 6⟩ : St)) hwn2 (cov_prune ⟨rfl, rfl, rfl, rfl, rfl, rfl, rfl, rfl, trivial⟩ ⟨rfl, rfl, rfl, rfl, trivial⟩ (Nat.le_of_ble_eq_true rfl)) (fun x1 st H hsn2 => ?_)))
  · have H := nx_of hy Hrn2
    refine nx_seq ?_
    refine aw_region (es := [_, _, _, _]) ⟨Step.plain rfl (does_move (.tmp 8) (.own 4) trivial), ⟨⟨rfl, trivial⟩, trivial, rfl⟩, rfl,
      Step.plain rfl (does_move (.tmp 9) (.own 5) trivial), ⟨⟨rfl, trivial⟩, trivial, rfl⟩, rfl,
      Step.plain rfl (does_assign (.tmp 48) (.own 4) trivial), ⟨⟨rfl, trivial⟩, trivial, rfl⟩, rfl,
      Step.plain rfl (does_assign (.tmp 49) (.own 5) trivial), ⟨⟨rfl, trivial⟩, trivial, rfl⟩, rfl, rfl⟩ ?_
    refine aw_cov (cov_prune (s1 := ⟨[(6, (.own 4)), (7, (.own 5))], [(4, some (.arr 9 y16.1.length fun j => (e_api_Wait (y16.1.getD j z_api_Wait)))), (5, some (.arr 9 y16.2.length fun j => (e_api_Wait (y16.2.getD j z_api_Wait))))], 6⟩) ⟨rfl, rfl, trivial⟩ ⟨rfl, rfl, trivial⟩ (Nat.le_refl _)) ?_
    refine aw_ret ?_
    exact fun a w hr => ⟨_, [(.own 0), (.own 1)], reach_of hr (cov_to (s1 := ⟨[(6, (.own 0)), (7, (.own 1))], [(0, some (.arr 9 y16.1.length fun j => (e_api_Wait (y16.1.getD j z_api_Wait)))), (1, some (.arr 9 y16.2.length fun j => (e_api_Wait (y16.2.getD j z_api_Wait))))], 2⟩) (fun i => match i with | 0 => 4 | 1 => 5 | k => k) [] ⟨⟨_, rfl, .own 0 _ _ (Nat.le_of_ble_eq_true rfl) rfl rfl (Box.like_refl _)⟩, ⟨_, rfl, .own 1 _ _ (Nat.le_of_ble_eq_true rfl) rfl rfl (Box.like_refl _)⟩, trivial⟩ ⟨⟨Nat.le_of_ble_eq_true rfl, _, _, rfl, rfl, boxTo_arr (fun _ => (d_api_Wait _))⟩, ⟨Nat.le_of_ble_eq_true rfl, _, _, rfl, rfl, boxTo_arr (fun _ => (d_api_Wait _))⟩, trivial⟩ rfl rfl), ⟨rfl, rfl, trivial⟩, by decide, by cases H; rfl, by cases H; exact ⟨rfl, rfl, trivial⟩, Nat.le_of_ble_eq_true rfl⟩
  · refine aw_region (es := [_]) ⟨Step.plain rfl (does_bin .lss 3 3 (.tmp 16) (.tmp 15) .i64 x1.2.1 (p0.length : Int) (.bool (decide (x1.2.1 < (p0.length : Int)))) trivial trivial (bin_lss _ _ _ _)), ⟨⟨rfl, rfl, trivial⟩, trivial, rfl⟩, rfl, rfl⟩ ?_
    refine aw_cov (cov_prune (s1 := ⟨[(4, (.ptr 0 0 [])), (5, (.ptr 1 0 [])), (8, (.own 4)), (9, (.own 5)), (10, (.bool x1.1)), (14, (e_s_api_Wait p0)), (15, (.int .i64 (p0.length : Int))), (16, (.int .i64 x1.2.1)), (17, (.bool (decide (x1.2.1 < (p0.length : Int)))))], [(0, some (.var (e_a8_u32 p1))), (1, some (.var (e_a8_u32 p2))), (4, some (.arr 9 x1.2.2.1.length fun j => (e_api_Wait (x1.2.2.1.getD j z_api_Wait)))), (5, some (.arr 9 x1.2.2.2.length fun j => (e_api_Wait (x1.2.2.2.getD j z_api_Wait))))], 6⟩) ⟨rfl, rfl, rfl, rfl, rfl, rfl, rfl, rfl, rfl, trivial⟩ ⟨rfl, rfl, rfl, rfl, trivial⟩ (Nat.le_refl _)) ?_
    refine aw_seq ?_
    refine aw_cond rfl (fun hc => ?_) (fun hc => ?_)
    · replace H := ite_t hc H
      refine aw_skip ?_
      refine nx_seq ?_
      refine aw_seq ?_
      refine aw_jn (fun x15 : Bool × _root_.List api_Wait × _root_.List api_Wait => (⟨[(4, (.ptr 0 0 [])), (5, (.ptr 1 0 [])), (8, (.own 4)), (9, (.own 5)), (10, (.bool x15.1)), (14, (e_s_api_Wait p0)), (15, (.int .i64 (p0.length : Int))), (16, (.int .i64 x1.2.1))], [(0, some (.var (e_a8_u32 p1))), (1, some (.var (e_a8_u32 p2))), (4, some (.arr 9 x15.2.1.length fun j => (e_api_Wait (x15.2.1.getD j z_api_Wait)))), (5, some (.arr 9 x15.2.2.length fun j => (e_api_Wait (x15.2.2.getD j z_api_Wait))))], 8⟩ : St)) H (fun x15 H => ?_) (fun j3 H => ?_)
      · refine nx_seq ?_
        refine aw_region1 (es := [_, _]) ⟨Step.plain rfl (does_bin .add 3 3 (.tmp 16) (.const (.int .i64 1)) .i64 x1.2.1 1 (.int .i64 (IntKind.i64.wrap (x1.2.1 + 1))) trivial (fun _ => rfl) (bin_add _ _ _ _)), ⟨⟨rfl, trivial⟩, trivial, rfl⟩, rfl,
          Step.plain rfl (does_move (.tmp 47) (.int .i64 (IntKind.i64.wrap (x1.2.1 + 1))) trivial), ⟨⟨rfl, trivial⟩, trivial, rfl⟩, rfl, rfl⟩ ?_
        exact nx_loop (x15.1, (IntKind.i64.wrap (x1.2.1 + 1)), x15.2.1, x15.2.2) H (cov_of (fun i => match i with | 0 => 0 | 1 => 1 | 4 => 4 | 5 => 5 | k => k) ⟨⟨_, rfl, ⟨rfl, Nat.le_of_ble_eq_true rfl⟩⟩, ⟨_, rfl, ⟨rfl, Nat.le_of_ble_eq_true rfl⟩⟩, ⟨_, rfl, ⟨rfl, Nat.le_of_ble_eq_true rfl⟩⟩, ⟨_, rfl, ⟨rfl, Nat.le_of_ble_eq_true rfl⟩⟩, ⟨_, rfl, ⟨rfl, trivial⟩⟩, ⟨_, rfl, ⟨rfl, (d_s_api_Wait _).plain⟩⟩, ⟨_, rfl, ⟨rfl, trivial⟩⟩, ⟨_, rfl, ⟨rfl, trivial⟩⟩, trivial⟩ ⟨⟨Nat.le_of_ble_eq_true rfl, _, _, rfl, rfl, .inl ⟨rfl, (d_a8_u32 _).plain⟩⟩, ⟨Nat.le_of_ble_eq_true rfl, _, _, rfl, rfl, .inl ⟨rfl, (d_a8_u32 _).plain⟩⟩, ⟨Nat.le_of_ble_eq_true rfl, _, _, rfl, rfl, ⟨rfl, rfl, fun _ => .inl ⟨rfl, (d_api_Wait _).plain⟩⟩⟩, ⟨Nat.le_of_ble_eq_true rfl, _, _, rfl, rfl, ⟨rfl, rfl, fun _ => .inl ⟨rfl, (d_api_Wait _).plain⟩⟩⟩, trivial⟩ rfl)
      · refine aw_block ?_
        obtain ⟨h4, H⟩ := ib_of H
        refine aw_region (es := [_, _, _, _]) ⟨Step.plain rfl (does_indexAddrs 22 9 p0.length 14 (fun j => (e_api_Wait (p0.getD j z_api_Wait))) (.tmp 16) .i64 x1.2.1 el22 trivial h4.1 h4.2), ⟨⟨rfl, rfl, trivial⟩, trivial, rfl⟩, rfl,
          Step.plain rfl (does_loadc 47 18 (e_api_Wait (p0.getD x1.2.1.toNat z_api_Wait)) ty47), ⟨⟨rfl, trivial⟩, trivial, rfl⟩, rfl,
          Step.plain rfl (does_alloc 47 6 (e_api_Wait z_api_Wait) zr47), ⟨trivial, trivial, rfl⟩, rfl,
          Step.plain rfl (does_store 47 12 (.tmp 19) 6 0 [] (.var (e_api_Wait z_api_Wait)) (.var (e_api_Wait (p0.getD x1.2.1.toNat z_api_Wait))) (e_api_Wait (p0.getD x1.2.1.toNat z_api_Wait)) true trivial rfl trivial rfl rfl rfl ty47), ⟨⟨rfl, rfl, trivial⟩, ⟨rfl, trivial⟩, rfl⟩, rfl, rfl⟩ ?_
        refine aw_cov (cov_prune (s1 := ⟨[(4, (.ptr 0 0 [])), (5, (.ptr 1 0 [])), (8, (.own 4)), (9, (.own 5)), (10, (.bool x1.1)), (14, (e_s_api_Wait p0)), (15, (.int .i64 (p0.length : Int))), (16, (.int .i64 x1.2.1)), (12, (.ptr 6 0 []))], [(0, some (.var (e_a8_u32 p1))), (1, some (.var (e_a8_u32 p2))), (4, some (.arr 9 x1.2.2.1.length fun j => (e_api_Wait (x1.2.2.1.getD j z_api_Wait)))), (5, some (.arr 9 x1.2.2.2.length fun j => (e_api_Wait (x1.2.2.2.getD j z_api_Wait)))), (6, some (.var (e_api_Wait (p0.getD x1.2.1.toNat z_api_Wait))))], 7⟩) ⟨rfl, rfl, rfl, rfl, rfl, rfl, rfl, rfl, rfl, trivial⟩ ⟨rfl, rfl, rfl, rfl, rfl, trivial⟩ (Nat.le_refl _)) ?_
        obtain ⟨v5, h6, H⟩ := bnd H
        obtain ⟨v7, h8, H⟩ := bnd H
        refine aw_draw (es := [_, _, _, _, _, _, _, _, _]) (mixed) ⟨Step.plain rfl (does_load 28 4 0 0 [] (.var (e_a8_u32 p1)) (e_a8_u32 p1) trivial rfl rfl ty28), ⟨⟨rfl, trivial⟩, ⟨rfl, trivial⟩, rfl⟩, rfl,
          Step.plain rfl (does_load 29 5 1 0 [] (.var (e_a8_u32 p2)) (e_a8_u32 p2) trivial rfl rfl ty29), ⟨⟨rfl, trivial⟩, ⟨rfl, trivial⟩, rfl⟩, rfl,
          Step.plain rfl (does_fieldAddr 47 0 0 12 6 0 [] (.var (e_api_Wait (p0.getD x1.2.1.toNat z_api_Wait))) fl47_0), ⟨⟨rfl, trivial⟩, ⟨rfl, trivial⟩, rfl⟩, rfl,
          Step.plain rfl (does_load 42 22 6 (0 + 0) [0] (.var (e_api_Wait (p0.getD x1.2.1.toNat z_api_Wait))) (e_api_Place ((p0.getD x1.2.1.toNat z_api_Wait).Place)) ⟨rfl, Nat.le_of_ble_eq_true rfl, trivial⟩ rfl rfl ty42), ⟨⟨rfl, trivial⟩, ⟨rfl, trivial⟩, rfl⟩, rfl,
          Step.plain rfl (does_fieldAddr 47 1 3 12 6 0 [] (.var (e_api_Wait (p0.getD x1.2.1.toNat z_api_Wait))) fl47_1), ⟨⟨rfl, trivial⟩, ⟨rfl, trivial⟩, rfl⟩, rfl,
          Step.plain rfl (does_load 45 24 6 (0 + 3) [1] (.var (e_api_Wait (p0.getD x1.2.1.toNat z_api_Wait))) (e_api_Entry ((p0.getD x1.2.1.toNat z_api_Wait).Entry)) ⟨rfl, Nat.le_of_ble_eq_true rfl, trivial⟩ rfl rfl ty45), ⟨⟨rfl, trivial⟩, ⟨rfl, trivial⟩, rfl⟩, rfl,
          Step.plain rfl (does_call 24 0 (fun _ => .any) (.func 24) [(.tmp 25)] [(e_api_Entry ((p0.getD x1.2.1.toNat z_api_Wait).Entry))] [] true [(e_api_Entry ((p0.getD x1.2.1.toNat z_api_Wait).Entry))] (.int .i64 v5) _ _ rfl fo24 rfl ⟨trivial, trivial⟩ ⟨.data _ (d_api_Entry ((p0.getD x1.2.1.toNat z_api_Wait).Entry)), trivial⟩ (queue_service_spec ((p0.getD x1.2.1.toNat z_api_Wait).Entry) _ h6) trivial), ⟨⟨rfl, trivial⟩, trivial, rfl⟩, rfl,
          Step.plain rfl (does_call 23 0 (fun _ => .any) (.func 23) [(.tmp 20), (.tmp 21), (.tmp 23), (.tmp 26)] [(e_a8_u32 p1), (e_a8_u32 p2), (e_api_Place ((p0.getD x1.2.1.toNat z_api_Wait).Place)), (.int .i64 v5)] [] true [(e_a8_u32 p1), (e_a8_u32 p2), (e_api_Place ((p0.getD x1.2.1.toNat z_api_Wait).Place)), (.int .i64 v5)] (.bool v7) _ _ rfl fo23 rfl ⟨trivial, trivial, trivial, trivial, trivial⟩ ⟨.data _ (d_a8_u32 p1), .data _ (d_a8_u32 p2), .data _ (d_api_Place ((p0.getD x1.2.1.toNat z_api_Wait).Place)), .data _ trivial, trivial⟩ (round_Service_spec p1 p2 ((p0.getD x1.2.1.toNat z_api_Wait).Place) v5 _ h8) trivial), ⟨⟨rfl, rfl, rfl, rfl, trivial⟩, trivial, rfl⟩, rfl,
          Step.plain rfl (does_assign (.tmp 27) (.bool v7) trivial), ⟨⟨rfl, trivial⟩, trivial, rfl⟩, rfl, rfl⟩ rfl ?_
        refine aw_cov (cov_prune (s1 := ⟨[(4, (.ptr 0 0 [])), (5, (.ptr 1 0 [])), (8, (.own 4)), (9, (.own 5)), (10, (.bool x1.1)), (14, (e_s_api_Wait p0)), (15, (.int .i64 (p0.length : Int))), (16, (.int .i64 x1.2.1)), (12, (.ptr 6 0 [])), (13, (.bool v7))], [(0, some (.var (e_a8_u32 p1))), (1, some (.var (e_a8_u32 p2))), (4, some (.arr 9 x1.2.2.1.length fun j => (e_api_Wait (x1.2.2.1.getD j z_api_Wait)))), (5, some (.arr 9 x1.2.2.2.length fun j => (e_api_Wait (x1.2.2.2.getD j z_api_Wait)))), (6, some (.var (e_api_Wait (p0.getD x1.2.1.toNat z_api_Wait))))], 7⟩) ⟨rfl, rfl, rfl, rfl, rfl, rfl, rfl, rfl, rfl, rfl, trivial⟩ ⟨rfl, rfl, rfl, rfl, rfl, trivial⟩ (Nat.le_refl _)) ?_
        refine aw_seq ?_
        obtain ⟨v9, h10, H⟩ := bnd H
        refine aw_region (es := [_, _, _]) ⟨Step.plain rfl (does_fieldAddr 47 1 3 12 6 0 [] (.var (e_api_Wait (p0.getD x1.2.1.toNat z_api_Wait))) fl47_1), ⟨⟨rfl, trivial⟩, ⟨rfl, trivial⟩, rfl⟩, rfl,
          Step.plain rfl (does_load 45 28 6 (0 + 3) [1] (.var (e_api_Wait (p0.getD x1.2.1.toNat z_api_Wait))) (e_api_Entry ((p0.getD x1.2.1.toNat z_api_Wait).Entry)) ⟨rfl, Nat.le_of_ble_eq_true rfl, trivial⟩ rfl rfl ty45), ⟨⟨rfl, trivial⟩, ⟨rfl, trivial⟩, rfl⟩, rfl,
          Step.plain rfl (does_call 25 0 (fun _ => .any) (.func 25) [(.tmp 29)] [(e_api_Entry ((p0.getD x1.2.1.toNat z_api_Wait).Entry))] [] true [(e_api_Entry ((p0.getD x1.2.1.toNat z_api_Wait).Entry))] (.bool v9) _ _ rfl fo25 rfl ⟨trivial, trivial⟩ ⟨.data _ (d_api_Entry ((p0.getD x1.2.1.toNat z_api_Wait).Entry)), trivial⟩ (queue_ordered_spec ((p0.getD x1.2.1.toNat z_api_Wait).Entry) _ h10) trivial), ⟨⟨rfl, trivial⟩, trivial, rfl⟩, rfl, rfl⟩ ?_
        refine aw_cov (cov_prune (s1 := ⟨[(4, (.ptr 0 0 [])), (5, (.ptr 1 0 [])), (8, (.own 4)), (9, (.own 5)), (10, (.bool x1.1)), (14, (e_s_api_Wait p0)), (15, (.int .i64 (p0.length : Int))), (16, (.int .i64 x1.2.1)), (12, (.ptr 6 0 [])), (13, (.bool v7)), (30, (.bool v9))], [(0, some (.var (e_a8_u32 p1))), (1, some (.var (e_a8_u32 p2))), (4, some (.arr 9 x1.2.2.1.length fun j => (e_api_Wait (x1.2.2.1.getD j z_api_Wait)))), (5, some (.arr 9 x1.2.2.2.length fun j => (e_api_Wait (x1.2.2.2.getD j z_api_Wait)))), (6, some (.var (e_api_Wait (p0.getD x1.2.1.toNat z_api_Wait))))], 7⟩) ⟨rfl, rfl, rfl, rfl, rfl, rfl, rfl, rfl, rfl, rfl, rfl, trivial⟩ ⟨rfl, rfl, rfl, rfl, rfl, trivial⟩ (Nat.le_refl _)) ?_
        refine aw_jn (fun x12 : Bool × Bool => (⟨[(4, (.ptr 0 0 [])), (5, (.ptr 1 0 [])), (8, (.own 4)), (9, (.own 5)), (10, (.bool x12.1)), (12, (.ptr 6 0 [])), (13, (.bool x12.2)), (14, (e_s_api_Wait p0)), (15, (.int .i64 (p0.length : Int))), (16, (.int .i64 x1.2.1))], [(0, some (.var (e_a8_u32 p1))), (1, some (.var (e_a8_u32 p2))), (4, some (.arr 9 x1.2.2.1.length fun j => (e_api_Wait (x1.2.2.1.getD j z_api_Wait)))), (5, some (.arr 9 x1.2.2.2.length fun j => (e_api_Wait (x1.2.2.2.getD j z_api_Wait)))), (6, some (.var (e_api_Wait (p0.getD x1.2.1.toNat z_api_Wait))))], 7⟩ : St)) H (fun x12 H => ?_) (fun j11 H => ?_)
        · refine nx_seq ?_
          refine aw_region (es := [_]) ⟨Step.plain rfl (does_move (.tmp 13) (.bool x12.2) trivial), ⟨⟨rfl, trivial⟩, trivial, rfl⟩, rfl, rfl⟩ ?_
          refine aw_cov (cov_prune (s1 := ⟨[(4, (.ptr 0 0 [])), (5, (.ptr 1 0 [])), (8, (.own 4)), (9, (.own 5)), (10, (.bool x12.1)), (12, (.ptr 6 0 [])), (14, (e_s_api_Wait p0)), (15, (.int .i64 (p0.length : Int))), (16, (.int .i64 x1.2.1)), (38, (.bool x12.2))], [(0, some (.var (e_a8_u32 p1))), (1, some (.var (e_a8_u32 p2))), (4, some (.arr 9 x1.2.2.1.length fun j => (e_api_Wait (x1.2.2.1.getD j z_api_Wait)))), (5, some (.arr 9 x1.2.2.2.length fun j => (e_api_Wait (x1.2.2.2.getD j z_api_Wait)))), (6, some (.var (e_api_Wait (p0.getD x1.2.1.toNat z_api_Wait))))], 7⟩) ⟨rfl, rfl, rfl, rfl, rfl, rfl, rfl, rfl, rfl, rfl, trivial⟩ ⟨rfl, rfl, rfl, rfl, rfl, trivial⟩ (Nat.le_refl _)) ?_
          refine aw_cond rfl (fun hc => ?_) (fun hc => ?_)
          · replace H := ite_t hc H
            obtain ⟨h13, H⟩ := fit_of H
            refine aw_region1 (es := [_, _, _, _, _]) ⟨Step.plain rfl (does_move (.tmp 8) (.own 4) trivial), ⟨⟨rfl, trivial⟩, trivial, rfl⟩, rfl,
              Step.plain rfl (does_load 47 12 6 0 [] (.var (e_api_Wait (p0.getD x1.2.1.toNat z_api_Wait))) (e_api_Wait (p0.getD x1.2.1.toNat z_api_Wait)) trivial rfl rfl ty47), ⟨⟨rfl, trivial⟩, ⟨rfl, trivial⟩, rfl⟩, rfl,
              Step.plain rfl (does_buildSl 22 1 9 (e_api_Wait z_api_Wait) (fun j => (e_api_Wait (([p0.getD x1.2.1.toNat z_api_Wait] : _root_.List api_Wait).getD j z_api_Wait))) #[(0, (.tmp 40))] [(0, (.tmp 40))] [(0, (e_api_Wait (p0.getD x1.2.1.toNat z_api_Wait)))] rfl so22 (by decide) ⟨⟨rfl, trivial⟩, trivial⟩ ⟨⟨Nat.le_of_ble_eq_true rfl, rfl, rfl⟩, trivial⟩ (fun j h => match j, h with | 0, _ => rfl | k + 1, h => absurd h (by omega))), ⟨⟨rfl, trivial⟩, trivial, rfl⟩, rfl,
              Step.plain rfl (does_appendL e_api_Wait z_api_Wait x1.2.2.1 ([p0.getD x1.2.1.toNat z_api_Wait] : _root_.List api_Wait) 22 9 80 4 7 39 41 ap22 h13), ⟨⟨rfl, rfl, trivial⟩, ⟨rfl, trivial⟩, rfl⟩, rfl,
              Step.plain rfl (does_assign (.tmp 42) (.own 7) trivial), ⟨⟨rfl, trivial⟩, trivial, rfl⟩, rfl, rfl⟩ ?_
            refine nx_blk ?_
            exact nx_join (x12.1, (x1.2.2.1 ++ ([p0.getD x1.2.1.toNat z_api_Wait] : _root_.List api_Wait)), x1.2.2.2) H (cov_of (fun i => match i with | 0 => 0 | 1 => 1 | 4 => 7 | 5 => 5 | k => k) ⟨⟨_, rfl, ⟨rfl, Nat.le_of_ble_eq_true rfl⟩⟩, ⟨_, rfl, ⟨rfl, Nat.le_of_ble_eq_true rfl⟩⟩, ⟨_, rfl, ⟨rfl, Nat.le_of_ble_eq_true rfl⟩⟩, ⟨_, rfl, ⟨rfl, Nat.le_of_ble_eq_true rfl⟩⟩, ⟨_, rfl, ⟨rfl, trivial⟩⟩, ⟨_, rfl, ⟨rfl, (d_s_api_Wait _).plain⟩⟩, ⟨_, rfl, ⟨rfl, trivial⟩⟩, ⟨_, rfl, ⟨rfl, trivial⟩⟩, trivial⟩ ⟨⟨Nat.le_of_ble_eq_true rfl, _, _, rfl, rfl, .inl ⟨rfl, (d_a8_u32 _).plain⟩⟩, ⟨Nat.le_of_ble_eq_true rfl, _, _, rfl, rfl, .inl ⟨rfl, (d_a8_u32 _).plain⟩⟩, ⟨Nat.le_of_ble_eq_true rfl, _, _, rfl, rfl, ⟨rfl, rfl, fun _ => .inl ⟨rfl, (d_api_Wait _).plain⟩⟩⟩, ⟨Nat.le_of_ble_eq_true rfl, _, _, rfl, rfl, ⟨rfl, rfl, fun _ => .inl ⟨rfl, (d_api_Wait _).plain⟩⟩⟩, trivial⟩ rfl)
          · replace H := ite_f hc H
            obtain ⟨h14, H⟩ := fit_of H
            refine aw_region1 (es := [_, _, _, _, _]) ⟨Step.plain rfl (does_move (.tmp 9) (.own 5) trivial), ⟨⟨rfl, trivial⟩, trivial, rfl⟩, rfl,
              Step.plain rfl (does_load 47 12 6 0 [] (.var (e_api_Wait (p0.getD x1.2.1.toNat z_api_Wait))) (e_api_Wait (p0.getD x1.2.1.toNat z_api_Wait)) trivial rfl rfl ty47), ⟨⟨rfl, trivial⟩, ⟨rfl, trivial⟩, rfl⟩, rfl,
              Step.plain rfl (does_buildSl 22 1 9 (e_api_Wait z_api_Wait) (fun j => (e_api_Wait (([p0.getD x1.2.1.toNat z_api_Wait] : _root_.List api_Wait).getD j z_api_Wait))) #[(0, (.tmp 44))] [(0, (.tmp 44))] [(0, (e_api_Wait (p0.getD x1.2.1.toNat z_api_Wait)))] rfl so22 (by decide) ⟨⟨rfl, trivial⟩, trivial⟩ ⟨⟨Nat.le_of_ble_eq_true rfl, rfl, rfl⟩, trivial⟩ (fun j h => match j, h with | 0, _ => rfl | k + 1, h => absurd h (by omega))), ⟨⟨rfl, trivial⟩, trivial, rfl⟩, rfl,
              Step.plain rfl (does_appendL e_api_Wait z_api_Wait x1.2.2.2 ([p0.getD x1.2.1.toNat z_api_Wait] : _root_.List api_Wait) 22 9 80 5 7 43 45 ap22 h14), ⟨⟨rfl, rfl, trivial⟩, ⟨rfl, trivial⟩, rfl⟩, rfl,
              Step.plain rfl (does_assign (.tmp 46) (.own 7) trivial), ⟨⟨rfl, trivial⟩, trivial, rfl⟩, rfl, rfl⟩ ?_
            refine nx_blk ?_
            exact nx_join (x12.1, x1.2.2.1, (x1.2.2.2 ++ ([p0.getD x1.2.1.toNat z_api_Wait] : _root_.List api_Wait))) H (cov_of (fun i => match i with | 0 => 0 | 1 => 1 | 4 => 4 | 5 => 7 | k => k) ⟨⟨_, rfl, ⟨rfl, Nat.le_of_ble_eq_true rfl⟩⟩, ⟨_, rfl, ⟨rfl, Nat.le_of_ble_eq_true rfl⟩⟩, ⟨_, rfl, ⟨rfl, Nat.le_of_ble_eq_true rfl⟩⟩, ⟨_, rfl, ⟨rfl, Nat.le_of_ble_eq_true rfl⟩⟩, ⟨_, rfl, ⟨rfl, trivial⟩⟩, ⟨_, rfl, ⟨rfl, (d_s_api_Wait _).plain⟩⟩, ⟨_, rfl, ⟨rfl, trivial⟩⟩, ⟨_, rfl, ⟨rfl, trivial⟩⟩, trivial⟩ ⟨⟨Nat.le_of_ble_eq_true rfl, _, _, rfl, rfl, .inl ⟨rfl, (d_a8_u32 _).plain⟩⟩, ⟨Nat.le_of_ble_eq_true rfl, _, _, rfl, rfl, .inl ⟨rfl, (d_a8_u32 _).plain⟩⟩, ⟨Nat.le_of_ble_eq_true rfl, _, _, rfl, rfl, ⟨rfl, rfl, fun _ => .inl ⟨rfl, (d_api_Wait _).plain⟩⟩⟩, ⟨Nat.le_of_ble_eq_true rfl, _, _, rfl, rfl, ⟨rfl, rfl, fun _ => .inl ⟨rfl, (d_api_Wait _).plain⟩⟩⟩, trivial⟩ rfl)
        · refine aw_cond rfl (fun hc => ?_) (fun hc => ?_)
          · replace H := ite_t hc H
            refine aw_region (es := [_, _, _, _, _, _]) ⟨Step.plain rfl (does_move (.tmp 13) (.bool v7) trivial), ⟨⟨rfl, trivial⟩, trivial, rfl⟩, rfl,
              Step.plain rfl (does_move (.tmp 31) (.bool v7) trivial), ⟨⟨rfl, trivial⟩, trivial, rfl⟩, rfl,
              Step.guarded rfl rfl rfl rfl (fun hc => does_move (.tmp 10) (.bool x1.1) trivial), ⟨⟨rfl, rfl, trivial⟩, trivial, rfl⟩, rfl,
              Step.guarded rfl rfl rfl rfl (fun hc => Does.strip (n' := [(33, (.opt v7 (.bool x1.1)))]) (n := [(33, (.bool x1.1))]) ⟨(.opt _ _ hc), trivial⟩ (does_not 4 (.tmp 33) x1.1 trivial)), ⟨⟨rfl, rfl, trivial⟩, trivial, rfl⟩, rfl,
              Step.plain rfl (does_and 32 34 v7 (!x1.1)), ⟨⟨rfl, rfl, trivial⟩, trivial, rfl⟩, rfl,
              Step.plain rfl (does_assign (.tmp 35) (.bool (v7 && (!x1.1))) trivial), ⟨⟨rfl, trivial⟩, trivial, rfl⟩, rfl, rfl⟩ ?_
            refine aw_cov (cov_prune (s1 := ⟨[(4, (.ptr 0 0 [])), (5, (.ptr 1 0 [])), (8, (.own 4)), (9, (.own 5)), (14, (e_s_api_Wait p0)), (15, (.int .i64 (p0.length : Int))), (16, (.int .i64 x1.2.1)), (12, (.ptr 6 0 [])), (13, (.bool (v7 && (!x1.1))))], [(0, some (.var (e_a8_u32 p1))), (1, some (.var (e_a8_u32 p2))), (4, some (.arr 9 x1.2.2.1.length fun j => (e_api_Wait (x1.2.2.1.getD j z_api_Wait)))), (5, some (.arr 9 x1.2.2.2.length fun j => (e_api_Wait (x1.2.2.2.getD j z_api_Wait)))), (6, some (.var (e_api_Wait (p0.getD x1.2.1.toNat z_api_Wait))))], 7⟩) ⟨rfl, rfl, rfl, rfl, rfl, rfl, rfl, rfl, rfl, trivial⟩ ⟨rfl, rfl, rfl, rfl, rfl, trivial⟩ (Nat.le_refl _)) ?_
            refine aw_region1 (es := [_, _, _]) ⟨Step.plain rfl (does_move (.tmp 13) (.bool (v7 && (!x1.1))) trivial), ⟨⟨rfl, trivial⟩, trivial, rfl⟩, rfl,
              Step.plain rfl (does_not 4 (.tmp 36) (v7 && (!x1.1)) trivial), ⟨⟨rfl, trivial⟩, trivial, rfl⟩, rfl,
              Step.plain rfl (does_assign (.tmp 37) (.bool (!(v7 && (!x1.1)))) trivial), ⟨⟨rfl, trivial⟩, trivial, rfl⟩, rfl, rfl⟩ ?_
            exact nx_join ((!(v7 && (!x1.1))), (v7 && (!x1.1))) H (cov_prune ⟨rfl, rfl, rfl, rfl, rfl, rfl, rfl, rfl, rfl, rfl, trivial⟩ ⟨rfl, rfl, rfl, rfl, rfl, trivial⟩ (Nat.le_of_ble_eq_true rfl))
          · replace H := ite_f hc H
            refine aw_skip ?_
            exact nx_join (x1.1, v7) H (cov_prune ⟨rfl, rfl, rfl, rfl, rfl, rfl, rfl, rfl, rfl, rfl, trivial⟩ ⟨rfl, rfl, rfl, rfl, rfl, trivial⟩ (Nat.le_of_ble_eq_true rfl))
    · replace H := ite_f hc H
      refine aw_exit ?_
      refine ex_then ?_
      refine ex_then ?_
      refine ex_here ?_
      exact nx_ljoin (x1.2.2.1, x1.2.2.2) H hsn2 (cov_prune ⟨rfl, rfl, trivial⟩ ⟨rfl, rfl, trivial⟩ (Nat.le_of_ble_eq_true rfl))

theorem queue_Ready_data (p0 : (_root_.List api_Wait)) (p1 : (Nat → Int)) (p2 : (Nat → Int)) (r : (_root_.List api_Wait) × (_root_.List api_Wait)) (H : queue_Ready p0 p1 p2 = some r) : FSpec Try.prog 9 [(e_s_api_Wait p0), (e_a8_u32 p1), (e_a8_u32 p2)] (resV [(e_s_api_Wait r.1), (e_s_api_Wait r.2)]) :=
  FSpecO.toData (fz := [0, 1]) (queue_Ready_spec p0 p1 p2 r H) (res_data2 (d_s_api_Wait r.1) (d_s_api_Wait r.2)) (.tup _ _ _ (fun j => match j with | 0 => .frz 0 _ _ _ rfl (fun _ => (d_api_Wait _)) (by decide) | 1 => .frz 1 _ _ _ rfl (fun _ => (d_api_Wait _)) (by decide) | _ + 2 => .plain _ trivial))

theorem queue_May_spec (p0 : (_root_.List api_Wait)) (r : Bool) (H : queue_May p0 = some r) : FSpec Try.prog 15 [(e_s_api_Wait p0)] (.bool r) := by
  refine spec_of (fn := Try.f15) (args := [(e_s_api_Wait p0)]) Try.func15 rfl (Nat.le_of_ble_eq_true rfl) ?_
  rintro ⟨G, w0, W, S, Sp⟩ hG
  cases hG
  unfold queue_May at H
  refine aw_region (es := [_]) ⟨Step.plain rfl (does_assign (.const (.bool false)) (.bool false) (fun _ => rfl)), ⟨trivial, trivial, rfl⟩, rfl, rfl⟩ ?_
  refine aw_cov (cov_prune (s1 := ⟨[(0, (e_s_api_Wait p0))], [], 0⟩) ⟨rfl, trivial⟩ trivial (Nat.le_refl _)) ?_
  refine aw_seq ?_
  refine aw_region (es := [_, _, _]) ⟨Step.plain rfl (does_move (.tmp 0) (e_s_api_Wait p0) trivial), ⟨⟨rfl, trivial⟩, trivial, rfl⟩, rfl,
    Step.plain rfl (does_lens 22 9 p0.length 5 (fun j => (e_api_Wait (p0.getD j z_api_Wait))) el22), ⟨⟨rfl, trivial⟩, trivial, rfl⟩, rfl,
    Step.plain rfl (does_move (.const (.int .i64 0)) (.int .i64 0) (fun _ => rfl)), ⟨trivial, trivial, rfl⟩, rfl, rfl⟩ ?_
  refine aw_cov (cov_prune (s1 := ⟨[(0, (e_s_api_Wait p0)), (5, (e_s_api_Wait p0)), (6, (.int .i64 (p0.length : Int))), (7, (.int .i64 0))], [], 0⟩) ⟨rfl, rfl, rfl, rfl, trivial⟩ trivial (Nat.le_refl _)) ?_
  obtain ⟨wn2, hwn2, Hrn2⟩ := bnd H
  refine aw_meet (fun y8 : Unit => (⟨[], [], 0⟩ : St)) (fun y8 => Fl.nx y8 = wn2) (fun y8 hy => ?_) (aw_block (aw_runs (fun x1 : Int => (⟨[(0, (e_s_api_Wait p0)), (5, (e_s_api_Wait p0)), (6, (.int .i64 (p0.length : Int))), (7, (.int .i64 x1))], [], 0⟩ : St)) hwn2 (cov_prune ⟨rfl, rfl, rfl, rfl, trivial⟩ trivial (Nat.le_of_ble_eq_true rfl)) (fun x1 st H hsn2 => ?_)))
  · have H := nx_of hy Hrn2
    refine nx_seq ?_
    refine aw_region (es := [_]) ⟨Step.plain rfl (does_assign (.const (.bool true)) (.bool true) (fun _ => rfl)), ⟨trivial, trivial, rfl⟩, rfl, rfl⟩ ?_
    refine aw_cov (cov_prune (s1 := ⟨[(2, (.bool true))], [], 0⟩) ⟨rfl, trivial⟩ trivial (Nat.le_refl _)) ?_
    refine aw_ret ?_
    exact fun a w hr => ⟨_, [(.bool true)], hr, ⟨⟨_, rfl, .data (.bool true) trivial⟩, trivial⟩, by decide, by cases H; rfl⟩
  · refine aw_region (es := [_]) ⟨Step.plain rfl (does_bin .lss 3 3 (.tmp 7) (.tmp 6) .i64 x1 (p0.length : Int) (.bool (decide (x1 < (p0.length : Int)))) trivial trivial (bin_lss _ _ _ _)), ⟨⟨rfl, rfl, trivial⟩, trivial, rfl⟩, rfl, rfl⟩ ?_
    refine aw_cov (cov_prune (s1 := ⟨[(0, (e_s_api_Wait p0)), (5, (e_s_api_Wait p0)), (6, (.int .i64 (p0.length : Int))), (7, (.int .i64 x1)), (8, (.bool (decide (x1 < (p0.length : Int)))))], [], 0⟩) ⟨rfl, rfl, rfl, rfl, rfl, trivial⟩ trivial (Nat.le_refl _)) ?_
    refine aw_seq ?_
    refine aw_cond rfl (fun hc => ?_) (fun hc => ?_)
    · replace H := ite_t hc H
      refine aw_skip ?_
      refine nx_seq ?_
      refine aw_seq ?_
      refine aw_block ?_
      obtain ⟨h3, H⟩ := ib_of H
      refine aw_region (es := [_, _, _, _, _, _]) ⟨Step.plain rfl (does_move (.tmp 7) (.int .i64 x1) trivial), ⟨⟨rfl, trivial⟩, trivial, rfl⟩, rfl,
        Step.plain rfl (does_indexAddrs 22 9 p0.length 5 (fun j => (e_api_Wait (p0.getD j z_api_Wait))) (.tmp 7) .i64 x1 el22 trivial h3.1 h3.2), ⟨⟨rfl, rfl, trivial⟩, trivial, rfl⟩, rfl,
        Step.plain rfl (does_loadc 47 10 (e_api_Wait (p0.getD x1.toNat z_api_Wait)) ty47), ⟨⟨rfl, trivial⟩, trivial, rfl⟩, rfl,
        Step.plain rfl (does_alloc 47 0 (e_api_Wait z_api_Wait) zr47), ⟨trivial, trivial, rfl⟩, rfl,
        Step.plain rfl (does_assign (.tmp 9) (.int .i64 x1) trivial), ⟨⟨rfl, trivial⟩, trivial, rfl⟩, rfl,
        Step.plain rfl (does_store 47 4 (.tmp 11) 0 0 [] (.var (e_api_Wait z_api_Wait)) (.var (e_api_Wait (p0.getD x1.toNat z_api_Wait))) (e_api_Wait (p0.getD x1.toNat z_api_Wait)) true trivial rfl trivial rfl rfl rfl ty47), ⟨⟨rfl, rfl, trivial⟩, ⟨rfl, trivial⟩, rfl⟩, rfl, rfl⟩ ?_
      refine aw_cov (cov_prune (s1 := ⟨[(0, (e_s_api_Wait p0)), (5, (e_s_api_Wait p0)), (6, (.int .i64 (p0.length : Int))), (7, (.int .i64 x1)), (4, (.ptr 0 0 [])), (3, (.int .i64 x1))], [(0, some (.var (e_api_Wait (p0.getD x1.toNat z_api_Wait))))], 1⟩) ⟨rfl, rfl, rfl, rfl, rfl, rfl, trivial⟩ ⟨rfl, trivial⟩ (Nat.le_refl _)) ?_
      obtain ⟨h4, H⟩ := ibg_of H
      obtain ⟨v5, h6, H⟩ := whn_of H
      refine aw_draw (es := [_, _, _, _, _, _, _, _, _, _, _, _, _, _, _, _, _, _, _, _]) (mixed) ⟨Step.plain rfl (does_fieldAddr 47 1 3 4 0 0 [] (.var (e_api_Wait (p0.getD x1.toNat z_api_Wait))) fl47_1), ⟨⟨rfl, trivial⟩, ⟨rfl, trivial⟩, rfl⟩, rfl,
        Step.plain rfl (does_load 45 12 0 (0 + 3) [1] (.var (e_api_Wait (p0.getD x1.toNat z_api_Wait))) (e_api_Entry ((p0.getD x1.toNat z_api_Wait).Entry)) ⟨rfl, Nat.le_of_ble_eq_true rfl, trivial⟩ rfl rfl ty45), ⟨⟨rfl, trivial⟩, ⟨rfl, trivial⟩, rfl⟩, rfl,
        Step.plain rfl (does_buildT 45 #[] [] [] (.st [1, 1, 1, 1, 1, 1]) (c_api_Entry z_api_Entry) (c_api_Entry ({ Kind := 0, Service := 0, Group := 0, Session := 0, Number := 0, Text := ByteArray.empty } : api_Entry)) rfl bo45 trivial trivial (by funext j; match j with | 0 => rfl | 1 => rfl | 2 => rfl | 3 => rfl | 4 => rfl | 5 => rfl | _ + 6 => rfl)), ⟨trivial, trivial, rfl⟩, rfl,
        Step.plain rfl (does_eqT false 45 45 (.tmp 13) (.tmp 14) (e_api_Entry ((p0.getD x1.toNat z_api_Wait).Entry)) (e_api_Entry ({ Kind := 0, Service := 0, Group := 0, Session := 0, Number := 0, Text := ByteArray.empty } : api_Entry)) (e_api_Entry z_api_Entry) (b_api_Entry ((p0.getD x1.toNat z_api_Wait).Entry) ({ Kind := 0, Service := 0, Group := 0, Session := 0, Number := 0, Text := ByteArray.empty } : api_Entry)) rfl rfl trivial trivial eg45 sh45 (al_api_Entry _ _) (al_api_Entry _ _) (q_api_Entry _ _)), ⟨⟨rfl, rfl, trivial⟩, trivial, rfl⟩, rfl,
        Step.plain rfl (does_move (.tmp 15) (.bool (b_api_Entry ((p0.getD x1.toNat z_api_Wait).Entry) ({ Kind := 0, Service := 0, Group := 0, Session := 0, Number := 0, Text := ByteArray.empty } : api_Entry))) trivial), ⟨⟨rfl, trivial⟩, trivial, rfl⟩, rfl,
        Step.guarded rfl rfl rfl rfl (fun hc => does_move (.tmp 3) (.int .i64 x1) trivial), ⟨⟨rfl, rfl, trivial⟩, trivial, rfl⟩, rfl,
        Step.guarded rfl rfl rfl rfl (fun hc => Does.strip (n' := [(17, (.opt (!(b_api_Entry ((p0.getD x1.toNat z_api_Wait).Entry) ({ Kind := 0, Service := 0, Group := 0, Session := 0, Number := 0, Text := ByteArray.empty } : api_Entry))) (.int .i64 x1)))]) (n := [(17, (.int .i64 x1))]) ⟨(.opt _ _ hc), trivial⟩ (does_bin .gtr 3 3 (.tmp 17) (.const (.int .i64 0)) .i64 x1 0 (.bool (decide (x1 > 0))) trivial (fun _ => rfl) (bin_gtr _ _ _ _))), ⟨⟨rfl, rfl, trivial⟩, trivial, rfl⟩, rfl,
        Step.guarded rfl rfl rfl rfl (fun hc => Does.strip (n' := [(18, (.opt (!(b_api_Entry ((p0.getD x1.toNat z_api_Wait).Entry) ({ Kind := 0, Service := 0, Group := 0, Session := 0, Number := 0, Text := ByteArray.empty } : api_Entry))) (.bool (decide (x1 > 0)))))]) (n := [(18, (.bool (decide (x1 > 0))))]) ⟨(.opt _ _ hc), trivial⟩ (does_move (.tmp 18) (.bool (decide (x1 > 0))) trivial)), ⟨⟨rfl, rfl, trivial⟩, trivial, rfl⟩, rfl,
        Step.guarded rfl rfl rfl rfl (fun hc => does_move (.tmp 0) (e_s_api_Wait p0) trivial), ⟨⟨rfl, rfl, trivial⟩, trivial, rfl⟩, rfl,
        Step.guarded rfl rfl rfl rfl (fun hc => does_move (.tmp 3) (.int .i64 x1) trivial), ⟨⟨rfl, rfl, trivial⟩, trivial, rfl⟩, rfl,
        Step.guarded rfl rfl rfl rfl (fun hc => Does.strip (n' := [(21, (.opt ((!(b_api_Entry ((p0.getD x1.toNat z_api_Wait).Entry) ({ Kind := 0, Service := 0, Group := 0, Session := 0, Number := 0, Text := ByteArray.empty } : api_Entry))) && (decide (x1 > 0))) (.int .i64 x1)))]) (n := [(21, (.int .i64 x1))]) ⟨(.opt _ _ hc), trivial⟩ (does_bin .sub 3 3 (.tmp 21) (.const (.int .i64 1)) .i64 x1 1 (.int .i64 (IntKind.i64.wrap (x1 - 1))) trivial (fun _ => rfl) (bin_sub _ _ _ _))), ⟨⟨rfl, rfl, trivial⟩, trivial, rfl⟩, rfl,
        Step.guarded rfl rfl rfl rfl (fun hc => Does.strip (n' := [(20, (.opt ((!(b_api_Entry ((p0.getD x1.toNat z_api_Wait).Entry) ({ Kind := 0, Service := 0, Group := 0, Session := 0, Number := 0, Text := ByteArray.empty } : api_Entry))) && (decide (x1 > 0))) (e_s_api_Wait p0))), (22, (.opt ((!(b_api_Entry ((p0.getD x1.toNat z_api_Wait).Entry) ({ Kind := 0, Service := 0, Group := 0, Session := 0, Number := 0, Text := ByteArray.empty } : api_Entry))) && (decide (x1 > 0))) (.int .i64 (IntKind.i64.wrap (x1 - 1)))))]) (n := [(20, (e_s_api_Wait p0)), (22, (.int .i64 (IntKind.i64.wrap (x1 - 1))))]) ⟨(.opt _ _ hc), (.opt _ _ hc), trivial⟩ (does_indexAddrs 22 9 p0.length 20 (fun j => (e_api_Wait (p0.getD j z_api_Wait))) (.tmp 22) .i64 (IntKind.i64.wrap (x1 - 1)) el22 trivial (h4 hc).1 (h4 hc).2)), ⟨⟨rfl, rfl, rfl, trivial⟩, trivial, rfl⟩, rfl,
        Step.guarded rfl rfl rfl rfl (fun hc => Does.strip (n' := [(23, (.opt ((!(b_api_Entry ((p0.getD x1.toNat z_api_Wait).Entry) ({ Kind := 0, Service := 0, Group := 0, Session := 0, Number := 0, Text := ByteArray.empty } : api_Entry))) && (decide (x1 > 0))) (.cptr (e_api_Wait (p0.getD ((IntKind.i64.wrap (x1 - 1)).toNat) z_api_Wait)))))]) (n := [(23, (.cptr (e_api_Wait (p0.getD ((IntKind.i64.wrap (x1 - 1)).toNat) z_api_Wait))))]) ⟨(.opt _ _ hc), trivial⟩ (does_fieldAddrc 47 0 0 23 (e_api_Wait (p0.getD ((IntKind.i64.wrap (x1 - 1)).toNat) z_api_Wait)) fl47_0 rfl (Nat.le_of_ble_eq_true rfl) rfl)), ⟨⟨rfl, rfl, trivial⟩, trivial, rfl⟩, rfl,
        Step.guarded rfl rfl rfl rfl (fun hc => Does.strip (n' := [(24, (.opt ((!(b_api_Entry ((p0.getD x1.toNat z_api_Wait).Entry) ({ Kind := 0, Service := 0, Group := 0, Session := 0, Number := 0, Text := ByteArray.empty } : api_Entry))) && (decide (x1 > 0))) (.cptr (e_api_Place ((p0.getD ((IntKind.i64.wrap (x1 - 1)).toNat) z_api_Wait).Place)))))]) (n := [(24, (.cptr (e_api_Place ((p0.getD ((IntKind.i64.wrap (x1 - 1)).toNat) z_api_Wait).Place))))]) ⟨(.opt _ _ hc), trivial⟩ (does_loadc 42 24 (e_api_Place ((p0.getD ((IntKind.i64.wrap (x1 - 1)).toNat) z_api_Wait).Place)) ty42)), ⟨⟨rfl, rfl, trivial⟩, trivial, rfl⟩, rfl,
        Step.guarded rfl rfl rfl rfl (fun hc => does_fieldAddr 47 0 0 4 0 0 [] (.var (e_api_Wait (p0.getD x1.toNat z_api_Wait))) fl47_0), ⟨⟨rfl, rfl, trivial⟩, ⟨rfl, trivial⟩, rfl⟩, rfl,
        Step.guarded rfl rfl rfl rfl (fun hc => Does.strip (n' := [(26, (.opt ((!(b_api_Entry ((p0.getD x1.toNat z_api_Wait).Entry) ({ Kind := 0, Service := 0, Group := 0, Session := 0, Number := 0, Text := ByteArray.empty } : api_Entry))) && (decide (x1 > 0))) (.ptr 0 (0 + 0) [0])))]) (n := [(26, (.ptr 0 (0 + 0) [0]))]) ⟨(.opt _ _ hc), trivial⟩ (does_load 42 26 0 (0 + 0) [0] (.var (e_api_Wait (p0.getD x1.toNat z_api_Wait))) (e_api_Place ((p0.getD x1.toNat z_api_Wait).Place)) ⟨rfl, Nat.le_of_ble_eq_true rfl, trivial⟩ rfl rfl ty42)), ⟨⟨rfl, rfl, trivial⟩, ⟨rfl, trivial⟩, rfl⟩, rfl,
        Step.guarded rfl rfl rfl rfl (fun hc => Does.strip (n' := [(25, (.opt ((!(b_api_Entry ((p0.getD x1.toNat z_api_Wait).Entry) ({ Kind := 0, Service := 0, Group := 0, Session := 0, Number := 0, Text := ByteArray.empty } : api_Entry))) && (decide (x1 > 0))) (e_api_Place ((p0.getD ((IntKind.i64.wrap (x1 - 1)).toNat) z_api_Wait).Place)))), (27, (.opt ((!(b_api_Entry ((p0.getD x1.toNat z_api_Wait).Entry) ({ Kind := 0, Service := 0, Group := 0, Session := 0, Number := 0, Text := ByteArray.empty } : api_Entry))) && (decide (x1 > 0))) (e_api_Place ((p0.getD x1.toNat z_api_Wait).Place))))]) (n := [(25, (e_api_Place ((p0.getD ((IntKind.i64.wrap (x1 - 1)).toNat) z_api_Wait).Place))), (27, (e_api_Place ((p0.getD x1.toNat z_api_Wait).Place)))]) ⟨(.opt _ _ hc), (.opt _ _ hc), trivial⟩ (does_call 29 0 (fun _ => .any) (.func 29) [(.tmp 25), (.tmp 27)] [(e_api_Place ((p0.getD ((IntKind.i64.wrap (x1 - 1)).toNat) z_api_Wait).Place)), (e_api_Place ((p0.getD x1.toNat z_api_Wait).Place))] [] true [(e_api_Place ((p0.getD ((IntKind.i64.wrap (x1 - 1)).toNat) z_api_Wait).Place)), (e_api_Place ((p0.getD x1.toNat z_api_Wait).Place))] (.bool v5) _ _ rfl fo29 rfl ⟨trivial, trivial, trivial⟩ ⟨.data _ (d_api_Place ((p0.getD ((IntKind.i64.wrap (x1 - 1)).toNat) z_api_Wait).Place)), .data _ (d_api_Place ((p0.getD x1.toNat z_api_Wait).Place)), trivial⟩ (round_Before_spec ((p0.getD ((IntKind.i64.wrap (x1 - 1)).toNat) z_api_Wait).Place) ((p0.getD x1.toNat z_api_Wait).Place) _ (h6 hc)) trivial)), ⟨⟨rfl, rfl, rfl, trivial⟩, trivial, rfl⟩, rfl,
        Step.guarded rfl rfl rfl rfl (fun hc => Does.strip (n' := [(28, (.opt ((!(b_api_Entry ((p0.getD x1.toNat z_api_Wait).Entry) ({ Kind := 0, Service := 0, Group := 0, Session := 0, Number := 0, Text := ByteArray.empty } : api_Entry))) && (decide (x1 > 0))) (.bool v5)))]) (n := [(28, (.bool v5))]) ⟨(.opt _ _ hc), trivial⟩ (does_not 4 (.tmp 28) v5 trivial)), ⟨⟨rfl, rfl, trivial⟩, trivial, rfl⟩, rfl,
        Step.guarded rfl rfl rfl rfl (fun hc => Does.strip (n' := [(19, (.opt (!(b_api_Entry ((p0.getD x1.toNat z_api_Wait).Entry) ({ Kind := 0, Service := 0, Group := 0, Session := 0, Number := 0, Text := ByteArray.empty } : api_Entry))) (.bool (decide (x1 > 0))))), (29, (.opt ((!(b_api_Entry ((p0.getD x1.toNat z_api_Wait).Entry) ({ Kind := 0, Service := 0, Group := 0, Session := 0, Number := 0, Text := ByteArray.empty } : api_Entry))) && (decide (x1 > 0))) (.bool (!v5))))]) (n := [(19, (.bool (decide (x1 > 0)))), (29, (.opt (decide (x1 > 0)) (.bool (!v5))))]) ⟨(.opt _ _ hc), (.half _ _ hc), trivial⟩ (does_and 19 29 (decide (x1 > 0)) (!v5))), ⟨⟨rfl, rfl, rfl, trivial⟩, trivial, rfl⟩, rfl,
        Step.plain rfl (does_or 16 30 (b_api_Entry ((p0.getD x1.toNat z_api_Wait).Entry) ({ Kind := 0, Service := 0, Group := 0, Session := 0, Number := 0, Text := ByteArray.empty } : api_Entry)) ((decide (x1 > 0)) && (!v5))), ⟨⟨rfl, rfl, trivial⟩, trivial, rfl⟩, rfl, rfl⟩ rfl ?_
      obtain ⟨v7, hv7, H⟩ := lt_of H
      refine aw_cov (cov_prune (s1 := ⟨[(0, (e_s_api_Wait p0)), (5, (e_s_api_Wait p0)), (6, (.int .i64 (p0.length : Int))), (7, (.int .i64 x1)), (31, (.bool v7))], [], 1⟩) ⟨rfl, rfl, rfl, rfl, (by subst hv7; rfl), trivial⟩ trivial (Nat.le_refl _)) ?_
      refine aw_cond rfl (fun hc => ?_) (fun hc => ?_)
      · replace H := ite_t hc H
        refine aw_region (es := [_]) ⟨Step.plain rfl (does_assign (.const (.bool false)) (.bool false) (fun _ => rfl)), ⟨trivial, trivial, rfl⟩, rfl, rfl⟩ ?_
        refine aw_cov (cov_prune (s1 := ⟨[(2, (.bool false))], [], 1⟩) ⟨rfl, trivial⟩ trivial (Nat.le_refl _)) ?_
        refine aw_ret ?_
        replace H := rt_of H hsn2 Hrn2
        refine rt_blk ?_
        refine rt_then ?_
        refine rt_then ?_
        refine rt_blk ?_
        refine rt_then ?_
        refine rt_then ?_
        exact fun a w hr => ⟨_, [(.bool false)], hr, ⟨⟨_, rfl, .data (.bool false) trivial⟩, trivial⟩, by decide, by cases H; rfl⟩
      · replace H := ite_f hc H
        refine aw_skip ?_
        refine nx_blk ?_
        refine nx_seq ?_
        refine aw_region1 (es := [_, _]) ⟨Step.plain rfl (does_bin .add 3 3 (.tmp 7) (.const (.int .i64 1)) .i64 x1 1 (.int .i64 (IntKind.i64.wrap (x1 + 1))) trivial (fun _ => rfl) (bin_add _ _ _ _)), ⟨⟨rfl, trivial⟩, trivial, rfl⟩, rfl,
          Step.plain rfl (does_move (.tmp 32) (.int .i64 (IntKind.i64.wrap (x1 + 1))) trivial), ⟨⟨rfl, trivial⟩, trivial, rfl⟩, rfl, rfl⟩ ?_
        exact nx_loop ((IntKind.i64.wrap (x1 + 1))) H (cov_of (fun i => i) ⟨⟨_, rfl, ⟨rfl, (d_s_api_Wait _).plain⟩⟩, ⟨_, rfl, ⟨rfl, (d_s_api_Wait _).plain⟩⟩, ⟨_, rfl, ⟨rfl, trivial⟩⟩, ⟨_, rfl, ⟨rfl, trivial⟩⟩, trivial⟩ trivial rfl)
    · replace H := ite_f hc H
      refine aw_exit ?_
      refine ex_then ?_
      refine ex_then ?_
      refine ex_here ?_
      exact nx_ljoin () H hsn2 (cov_prune trivial trivial (Nat.le_of_ble_eq_true rfl))

theorem queue_Flush_spec (p0 : (_root_.List api_Wait)) (r : (_root_.List api_Wait)) (H : queue_Flush p0 = some r) : FSpecO Try.prog 14 [(e_s_api_Wait p0)] [] 0 (.own 0) [(0, some (.arr 9 r.length fun j => (e_api_Wait (r.getD j z_api_Wait))))] 1 := by
  refine specO_of (fn := Try.f14) (args := [(e_s_api_Wait p0)]) Try.func14 rfl (Nat.le_of_ble_eq_true rfl) ?_
  rintro ⟨G, w0, W, S, Sp⟩ hG
  cases hG
  unfold queue_Flush at H
  refine aw_region (es := [_]) ⟨Step.plain rfl (does_nil false 0 9 (fun j => (e_api_Wait (([] : _root_.List api_Wait).getD j z_api_Wait)))), ⟨trivial, trivial, rfl⟩, rfl, rfl⟩ ?_
  refine aw_cov (cov_prune (s1 := ⟨[(0, (e_s_api_Wait p0))], [], 1⟩) ⟨rfl, trivial⟩ trivial (Nat.le_refl _)) ?_
  obtain ⟨v1, h2, H⟩ := bnd H
  refine aw_region (es := [_, _, _]) ⟨Step.plain rfl (does_move (.tmp 0) (e_s_api_Wait p0) trivial), ⟨⟨rfl, trivial⟩, trivial, rfl⟩, rfl,
    Step.plain rfl (does_callO 27 0 (fun _ => .any) (.func 27) [(.tmp 3)] [(e_s_api_Wait p0)] [] [] true [(e_s_api_Wait p0)] _ (.own 1) _ 1 1 _ _ rfl fo27 rfl ⟨trivial, trivial⟩ ⟨.ro _ _ (.data _ (d_s_api_Wait p0)), trivial⟩ (slices_Clone_api_Wait_api_Wait_spec p0 _ h2) rfl (by simp) rfl trivial ⟨⟨Nat.le_of_ble_eq_true rfl, _, rfl, fun _ => (f_api_Wait _)⟩, trivial⟩ (.own 0 (Nat.le_of_ble_eq_true rfl))), ⟨⟨rfl, trivial⟩, trivial, rfl⟩, rfl,
    Step.plain rfl (does_assign (.tmp 4) (.own 1) trivial), ⟨⟨rfl, trivial⟩, trivial, rfl⟩, rfl, rfl⟩ ?_
  refine aw_cov (cov_prune (s1 := ⟨[(2, (.own 1))], [(1, some (.arr 9 v1.length fun j => (e_api_Wait (v1.getD j z_api_Wait))))], 2⟩) ⟨rfl, trivial⟩ ⟨rfl, trivial⟩ (Nat.le_refl _)) ?_
  refine aw_ret ?_
  exact fun a w hr => ⟨_, [(.own 0)], reach_of hr (cov_to (s1 := ⟨[(2, (.own 0))], [(0, some (.arr 9 v1.length fun j => (e_api_Wait (v1.getD j z_api_Wait))))], 1⟩) (fun i => match i with | 0 => 1 | k => k) [] ⟨⟨_, rfl, .own 0 _ _ (Nat.le_of_ble_eq_true rfl) rfl rfl (Box.like_refl _)⟩, trivial⟩ ⟨⟨Nat.le_of_ble_eq_true rfl, _, _, rfl, rfl, boxTo_arr (fun _ => (d_api_Wait _))⟩, trivial⟩ rfl rfl), ⟨rfl, trivial⟩, by decide, by cases H; rfl, by cases H; exact ⟨rfl, trivial⟩, Nat.le_of_ble_eq_true rfl⟩

theorem queue_Flush_data (p0 : (_root_.List api_Wait)) (r : (_root_.List api_Wait)) (H : queue_Flush p0 = some r) : FSpec Try.prog 14 [(e_s_api_Wait p0)] (e_s_api_Wait r) :=
  FSpecO.toData (fz := [0]) (queue_Flush_spec p0 r H) (d_s_api_Wait r) (.frz 0 _ _ _ rfl (fun _ => (d_api_Wait _)) (by decide))
end Go.Proofs.Ytclblogdciebnaa
