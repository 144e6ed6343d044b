/- Printed by gen.py. Conditions: none. -/
import Derived.Test.YtbkofjefhnnmlaaFact
import Derived.KernelRfl
set_option linter.unusedVariables false
set_option maxRecDepth 100000
namespace Go.Proofs.Ytbkofjefhnnmlaa
open Go.Eng
set_option maxHeartbeats 1600000
theorem slices_Clone_api_Kept_api_Kept_spec (p0 : (_root_.List api_Kept)) (r : (_root_.List api_Kept)) (H : slices_Clone_api_Kept_api_Kept p0 = some r) : FSpecO Try.prog 18 [(e_s_api_Kept p0)] [] 0 (.own 0) [(0, some (.arr 38 r.length fun j => (e_api_Kept (r.getD j z_api_Kept))))] 1 := by
  refine specO_of (fn := Try.f18) (args := [(e_s_api_Kept p0)]) Try.func18 rfl (Nat.le_of_ble_eq_true rfl) ?_
  rintro ⟨G, w0, W, S, Sp⟩ hG
  cases hG
  unfold slices_Clone_api_Kept_api_Kept at H
  refine aw_region (es := [_]) ⟨Step.plain rfl (does_nil false 0 38 (fun j => (e_api_Kept (([] : _root_.List api_Kept).getD j z_api_Kept)))), ⟨trivial, trivial, rfl⟩, rfl, rfl⟩ ?_
  refine aw_cov (cov_prune (s1 := ⟨[(0, (e_s_api_Kept p0))], [], 1⟩) ⟨rfl, trivial⟩ trivial (Nat.le_refl _)) ?_
  refine aw_seq ?_
  refine aw_region (es := [_, _]) ⟨Step.plain rfl (does_move (.tmp 0) (e_s_api_Kept p0) trivial), ⟨⟨rfl, trivial⟩, trivial, rfl⟩, rfl,
    Step.plain rfl (does_eqnil 22 36 22 3 38 p0.length (fun j => (e_api_Kept (p0.getD j z_api_Kept))) us22), ⟨⟨rfl, trivial⟩, trivial, rfl⟩, rfl, rfl⟩ ?_
  refine aw_cov (cov_prune (s1 := ⟨[(0, (e_s_api_Kept p0)), (4, (.nilq p0.length))], [], 1⟩) ⟨rfl, rfl, trivial⟩ trivial (Nat.le_refl _)) ?_
  obtain ⟨H1, H2⟩ := nilq_of H
  clear H
  refine aw_condq rfl (fun hc => ?_) ?_
  · have H := H1 hc
    refine aw_region (es := [_]) ⟨Step.plain rfl (does_nil false 1 38 (fun j => (e_api_Kept (([] : _root_.List api_Kept).getD j z_api_Kept)))), ⟨trivial, trivial, rfl⟩, rfl, rfl⟩ ?_
    refine aw_cov (cov_prune (s1 := ⟨[(2, (.own 1))], [(1, some (.arr 38 ([] : _root_.List api_Kept).length fun j => (e_api_Kept (([] : _root_.List api_Kept).getD j z_api_Kept))))], 2⟩) ⟨rfl, trivial⟩ ⟨rfl, trivial⟩ (Nat.le_refl _)) ?_
    refine aw_ret ?_
    refine rt_then ?_
    exact fun a w hr => ⟨_, [(.own 0)], reach_of hr (cov_to (s1 := ⟨[(2, (.own 0))], [(0, some (.arr 38 ([] : _root_.List api_Kept).length fun j => (e_api_Kept (([] : _root_.List api_Kept).getD j z_api_Kept))))], 1⟩) (fun i => match i with | 0 => 1 | k => k) [] ⟨⟨_, rfl, .own 0 _ _ (Nat.le_of_ble_eq_true rfl) rfl rfl (Box.like_refl _)⟩, trivial⟩ ⟨⟨Nat.le_of_ble_eq_true rfl, _, _, rfl, rfl, boxTo_arr (fun _ => (d_api_Kept _))⟩, trivial⟩ rfl rfl), ⟨rfl, trivial⟩, by decide, by cases H; rfl, by cases H; exact ⟨rfl, trivial⟩, Nat.le_of_ble_eq_true rfl⟩
  · have H := H2
    refine aw_skip ?_
    refine nx_seq ?_
    obtain ⟨h1, H⟩ := fit_of H
    refine aw_region (es := [_, _, _, _]) ⟨Step.plain rfl (does_buildOwn 22 0 38 1 (e_api_Kept z_api_Kept) (fun j => (e_api_Kept (([] : _root_.List api_Kept).getD j z_api_Kept))) #[] [] [] rfl so22 (by decide) trivial trivial (fun j h => match j, h with  | k + 0, h => absurd h (by omega))), ⟨trivial, trivial, rfl⟩, rfl,
      Step.plain rfl (does_move (.tmp 0) (e_s_api_Kept p0) trivial), ⟨⟨rfl, trivial⟩, trivial, rfl⟩, rfl,
      Step.plain rfl (does_appendL e_api_Kept z_api_Kept ([] : _root_.List api_Kept) p0 22 38 352 1 2 5 6 ap22 h1), ⟨⟨rfl, rfl, trivial⟩, ⟨rfl, trivial⟩, rfl⟩, rfl,
      Step.plain rfl (does_assign (.tmp 7) (.own 2) trivial), ⟨⟨rfl, trivial⟩, trivial, rfl⟩, rfl, rfl⟩ ?_
    refine aw_cov (cov_prune (s1 := ⟨[(2, (.own 2))], [(2, some (.arr 38 (([] : _root_.List api_Kept) ++ p0).length fun j => (e_api_Kept ((([] : _root_.List api_Kept) ++ p0).getD j z_api_Kept))))], 3⟩) ⟨rfl, trivial⟩ ⟨rfl, trivial⟩ (Nat.le_refl _)) ?_
    refine aw_ret ?_
    exact fun a w hr => ⟨_, [(.own 0)], reach_of hr (cov_to (s1 := ⟨[(2, (.own 0))], [(0, some (.arr 38 (([] : _root_.List api_Kept) ++ p0).length fun j => (e_api_Kept ((([] : _root_.List api_Kept) ++ p0).getD j z_api_Kept))))], 1⟩) (fun i => match i with | 0 => 2 | k => k) [] ⟨⟨_, rfl, .own 0 _ _ (Nat.le_of_ble_eq_true rfl) rfl rfl (Box.like_refl _)⟩, trivial⟩ ⟨⟨Nat.le_of_ble_eq_true rfl, _, _, rfl, rfl, boxTo_arr (fun _ => (d_api_Kept _))⟩, trivial⟩ rfl rfl), ⟨rfl, trivial⟩, by decide, by cases H; rfl, by cases H; exact ⟨rfl, trivial⟩, Nat.le_of_ble_eq_true rfl⟩

theorem slices_Clone_api_Kept_api_Kept_data (p0 : (_root_.List api_Kept)) (r : (_root_.List api_Kept)) (H : slices_Clone_api_Kept_api_Kept p0 = some r) : FSpec Try.prog 18 [(e_s_api_Kept p0)] (e_s_api_Kept r) :=
  FSpecO.toData (fz := [0]) (slices_Clone_api_Kept_api_Kept_spec p0 r H) (d_s_api_Kept r) (.frz 0 _ _ _ rfl (fun _ => (d_api_Kept _)) (by decide))

theorem ident_List_spec (p0 : (Nat → Int)) (r : (_root_.List Int)) (H : ident_List p0 = some r) : FSpecO Try.prog 20 [(e_a8_u32 p0)] [] 0 (.own 0) [(0, some (.arr 1 r.length fun j => (.int .i64 (r.getD j 0))))] 1 := by
  refine specO_of (fn := Try.f20) (args := [(e_a8_u32 p0)]) Try.func20 rfl (Nat.le_of_ble_eq_true rfl) ?_
  rintro ⟨G, w0, W, S, Sp⟩ hG
  cases hG
  unfold ident_List at H
  refine aw_region (es := [_, _]) ⟨Step.plain rfl (does_box 26 (.tmp 0) 0 (e_a8_u32 p0) trivial rfl), ⟨⟨rfl, trivial⟩, trivial, rfl⟩, rfl,
    Step.plain rfl (does_nil false 1 1 (fun j => (.int .i64 (([] : _root_.List Int).getD j 0)))), ⟨trivial, trivial, rfl⟩, rfl, rfl⟩ ?_
  refine aw_cov (cov_prune (s1 := ⟨[(1, (.ptr 0 0 []))], [(0, some (.var (e_a8_u32 p0)))], 2⟩) ⟨rfl, trivial⟩ ⟨rfl, trivial⟩ (Nat.le_refl _)) ?_
  refine aw_region (es := [_]) ⟨Step.plain rfl (does_nil false 2 1 (fun j => (.int .i64 (([] : _root_.List Int).getD j 0)))), ⟨trivial, trivial, rfl⟩, rfl, rfl⟩ ?_
  refine aw_cov (cov_prune (s1 := ⟨[(1, (.ptr 0 0 [])), (3, (.own 2))], [(0, some (.var (e_a8_u32 p0))), (2, some (.arr 1 ([] : _root_.List Int).length fun j => (.int .i64 (([] : _root_.List Int).getD j 0))))], 3⟩) ⟨rfl, rfl, trivial⟩ ⟨rfl, rfl, trivial⟩ (Nat.le_refl _)) ?_
  refine aw_seq ?_
  refine aw_region (es := [_, _]) ⟨Step.plain rfl (does_load 26 1 0 0 [] (.var (e_a8_u32 p0)) (e_a8_u32 p0) trivial rfl rfl ty26), ⟨⟨rfl, trivial⟩, ⟨rfl, trivial⟩, rfl⟩, rfl,
    Step.plain rfl (does_move (.const (.int .i64 0)) (.int .i64 0) (fun _ => rfl)), ⟨trivial, trivial, rfl⟩, rfl, rfl⟩ ?_
  refine aw_cov (cov_prune (s1 := ⟨[(3, (.own 2)), (6, (e_a8_u32 p0)), (7, (.int .i64 0))], [(2, some (.arr 1 ([] : _root_.List Int).length fun j => (.int .i64 (([] : _root_.List Int).getD j 0))))], 3⟩) ⟨rfl, rfl, rfl, trivial⟩ ⟨rfl, trivial⟩ (Nat.le_refl _)) ?_
  obtain ⟨wn2, hwn2, Hrn2⟩ := bnd H
  refine aw_meet (fun y7 : _root_.List Int => (⟨[(3, (.own 2))], [(2, some (.arr 1 y7.length fun j => (.int .i64 (y7.getD j 0))))], 3⟩ : St)) (fun y7 => Fl.nx y7 = wn2) (fun y7 hy => ?_) (aw_block (aw_runs (fun x1 : Int × _root_.List Int => (⟨[(3, (.own 2)), (6, (e_a8_u32 p0)), (7, (.int .i64 x1.1))], [(2, some (.arr 1 x1.2.length fun j => (.int .i64 (x1.2.getD j 0))))], 3⟩ : St)) hwn2 (cov_prune ⟨rfl, rfl, rfl, trivial⟩ ⟨rfl, trivial⟩ (Nat.le_of_ble_eq_true rfl)) (fun x1 st H hsn2 => ?_)))
  · have H := nx_of hy Hrn2
    refine nx_seq ?_
    refine aw_region (es := [_, _]) ⟨Step.plain rfl (does_move (.tmp 3) (.own 2) trivial), ⟨⟨rfl, trivial⟩, trivial, rfl⟩, rfl,
      Step.plain rfl (does_assign (.tmp 18) (.own 2) trivial), ⟨⟨rfl, trivial⟩, trivial, rfl⟩, rfl, rfl⟩ ?_
    refine aw_cov (cov_prune (s1 := ⟨[(2, (.own 2))], [(2, some (.arr 1 y7.length fun j => (.int .i64 (y7.getD j 0))))], 3⟩) ⟨rfl, trivial⟩ ⟨rfl, trivial⟩ (Nat.le_refl _)) ?_
    refine aw_ret ?_
    exact fun a w hr => ⟨_, [(.own 0)], reach_of hr (cov_to (s1 := ⟨[(2, (.own 0))], [(0, some (.arr 1 y7.length fun j => (.int .i64 (y7.getD j 0))))], 1⟩) (fun i => match i with | 0 => 2 | k => k) [] ⟨⟨_, rfl, .own 0 _ _ (Nat.le_of_ble_eq_true rfl) rfl rfl (Box.like_refl _)⟩, trivial⟩ ⟨⟨Nat.le_of_ble_eq_true rfl, _, _, rfl, rfl, boxTo_arr (fun _ => trivial)⟩, trivial⟩ rfl rfl), ⟨rfl, trivial⟩, by decide, by cases H; rfl, by cases H; exact ⟨rfl, trivial⟩, Nat.le_of_ble_eq_true rfl⟩
  · refine aw_region (es := [_]) ⟨Step.plain rfl (does_bin .lss 3 3 (.tmp 7) (.const (.int .i64 8)) .i64 x1.1 8 (.bool (decide (x1.1 < 8))) trivial (fun _ => rfl) (bin_lss _ _ _ _)), ⟨⟨rfl, trivial⟩, trivial, rfl⟩, rfl, rfl⟩ ?_
    refine aw_cov (cov_prune (s1 := ⟨[(3, (.own 2)), (6, (e_a8_u32 p0)), (7, (.int .i64 x1.1)), (8, (.bool (decide (x1.1 < 8))))], [(2, some (.arr 1 x1.2.length fun j => (.int .i64 (x1.2.getD j 0))))], 3⟩) ⟨rfl, rfl, rfl, rfl, trivial⟩ ⟨rfl, trivial⟩ (Nat.le_refl _)) ?_
    refine aw_seq ?_
    refine aw_cond rfl (fun hc => ?_) (fun hc => ?_)
    · replace H := ite_t hc H
      refine aw_skip ?_
      refine nx_seq ?_
      refine aw_seq ?_
      refine aw_jn (fun x6 : _root_.List Int => (⟨[(3, (.own 2)), (6, (e_a8_u32 p0)), (7, (.int .i64 x1.1))], [(2, some (.arr 1 x6.length fun j => (.int .i64 (x6.getD j 0))))], 4⟩ : St)) H (fun x6 H => ?_) (fun j3 H => ?_)
      · refine nx_seq ?_
        refine aw_region1 (es := [_, _]) ⟨Step.plain rfl (does_bin .add 3 3 (.tmp 7) (.const (.int .i64 1)) .i64 x1.1 1 (.int .i64 (IntKind.i64.wrap (x1.1 + 1))) trivial (fun _ => rfl) (bin_add _ _ _ _)), ⟨⟨rfl, trivial⟩, trivial, rfl⟩, rfl,
          Step.plain rfl (does_move (.tmp 17) (.int .i64 (IntKind.i64.wrap (x1.1 + 1))) trivial), ⟨⟨rfl, trivial⟩, trivial, rfl⟩, rfl, rfl⟩ ?_
        exact nx_loop ((IntKind.i64.wrap (x1.1 + 1)), x6) H (cov_of (fun i => match i with | 2 => 2 | k => k) ⟨⟨_, rfl, ⟨rfl, Nat.le_of_ble_eq_true rfl⟩⟩, ⟨_, rfl, .inl ⟨rfl, (d_a8_u32 _).plain⟩⟩, ⟨_, rfl, ⟨rfl, trivial⟩⟩, trivial⟩ ⟨⟨Nat.le_of_ble_eq_true rfl, _, _, rfl, rfl, ⟨rfl, rfl, fun _ => ⟨rfl, trivial⟩⟩⟩, trivial⟩ rfl)
      · refine aw_block ?_
        obtain ⟨h4, H⟩ := ib_of H
        refine aw_region (es := [_, _, _, _]) ⟨Step.plain rfl (does_move (.tmp 7) (.int .i64 x1.1) trivial), ⟨⟨rfl, trivial⟩, trivial, rfl⟩, rfl,
          Step.plain rfl (does_index 26 8 23 1 6 false (fun j => (.int .u32 (p0 j))) (.tmp 7) .i64 x1.1 ua26 ty23 rfl trivial h4.1 h4.2), ⟨⟨rfl, rfl, trivial⟩, trivial, rfl⟩, rfl,
          Step.plain rfl (does_assign (.tmp 9) (.int .i64 x1.1) trivial), ⟨⟨rfl, trivial⟩, trivial, rfl⟩, rfl,
          Step.plain rfl (does_assign (.tmp 10) (.int .u32 (p0 x1.1.toNat)) trivial), ⟨⟨rfl, trivial⟩, trivial, rfl⟩, rfl, rfl⟩ ?_
        refine aw_cov (cov_prune (s1 := ⟨[(3, (.own 2)), (6, (e_a8_u32 p0)), (7, (.int .i64 x1.1)), (4, (.int .i64 x1.1)), (5, (.int .u32 (p0 x1.1.toNat)))], [(2, some (.arr 1 x1.2.length fun j => (.int .i64 (x1.2.getD j 0))))], 3⟩) ⟨rfl, rfl, rfl, rfl, rfl, trivial⟩ ⟨rfl, trivial⟩ (Nat.le_refl _)) ?_
        refine aw_region (es := [_, _]) ⟨Step.plain rfl (does_move (.tmp 5) (.int .u32 (p0 x1.1.toNat)) trivial), ⟨⟨rfl, trivial⟩, trivial, rfl⟩, rfl,
          Step.plain rfl (does_bin .neq 23 23 (.tmp 11) (.const (.int .u32 0)) .u32 (p0 x1.1.toNat) 0 (.bool ((p0 x1.1.toNat) != 0)) trivial (fun _ => rfl) (bin_neq _ _ _ _)), ⟨⟨rfl, trivial⟩, trivial, rfl⟩, rfl, rfl⟩ ?_
        refine aw_cov (cov_prune (s1 := ⟨[(3, (.own 2)), (6, (e_a8_u32 p0)), (7, (.int .i64 x1.1)), (4, (.int .i64 x1.1)), (12, (.bool ((p0 x1.1.toNat) != 0)))], [(2, some (.arr 1 x1.2.length fun j => (.int .i64 (x1.2.getD j 0))))], 3⟩) ⟨rfl, rfl, rfl, rfl, rfl, trivial⟩ ⟨rfl, trivial⟩ (Nat.le_refl _)) ?_
        refine aw_cond rfl (fun hc => ?_) (fun hc => ?_)
        · replace H := ite_t hc H
          obtain ⟨h5, H⟩ := fit_of H
          refine aw_region1 (es := [_, _, _, _, _]) ⟨Step.plain rfl (does_move (.tmp 3) (.own 2) trivial), ⟨⟨rfl, trivial⟩, trivial, rfl⟩, rfl,
            Step.plain rfl (does_move (.tmp 4) (.int .i64 x1.1) trivial), ⟨⟨rfl, trivial⟩, trivial, rfl⟩, rfl,
            Step.plain rfl (does_buildSl 58 1 1 (.int .i64 0) (fun j => (.int .i64 (([x1.1] : _root_.List Int).getD j 0))) #[(0, (.tmp 14))] [(0, (.tmp 14))] [(0, (.int .i64 x1.1))] rfl so58 (by decide) ⟨⟨rfl, trivial⟩, trivial⟩ ⟨⟨Nat.le_of_ble_eq_true rfl, rfl, rfl⟩, trivial⟩ (fun j h => match j, h with | 0, _ => rfl | k + 1, h => absurd h (by omega))), ⟨⟨rfl, trivial⟩, trivial, rfl⟩, rfl,
            Step.plain rfl (does_appendL (fun z => V.int .i64 z) 0 x1.2 ([x1.1] : _root_.List Int) 58 1 8 2 3 13 15 ap58 h5), ⟨⟨rfl, rfl, trivial⟩, ⟨rfl, trivial⟩, rfl⟩, rfl,
            Step.plain rfl (does_assign (.tmp 16) (.own 3) trivial), ⟨⟨rfl, trivial⟩, trivial, rfl⟩, rfl, rfl⟩ ?_
          refine nx_blk ?_
          exact nx_join ((x1.2 ++ ([x1.1] : _root_.List Int))) H (cov_of (fun i => match i with | 2 => 3 | k => k) ⟨⟨_, rfl, ⟨rfl, Nat.le_of_ble_eq_true rfl⟩⟩, ⟨_, rfl, .inl ⟨rfl, (d_a8_u32 _).plain⟩⟩, ⟨_, rfl, ⟨rfl, trivial⟩⟩, trivial⟩ ⟨⟨Nat.le_of_ble_eq_true rfl, _, _, rfl, rfl, ⟨rfl, rfl, fun _ => ⟨rfl, trivial⟩⟩⟩, trivial⟩ rfl)
        · replace H := ite_f hc H
          refine aw_skip ?_
          refine nx_blk ?_
          exact nx_join (x1.2) H (cov_of (fun i => match i with | 2 => 2 | k => k) ⟨⟨_, rfl, ⟨rfl, Nat.le_of_ble_eq_true rfl⟩⟩, ⟨_, rfl, .inl ⟨rfl, (d_a8_u32 _).plain⟩⟩, ⟨_, rfl, ⟨rfl, trivial⟩⟩, trivial⟩ ⟨⟨Nat.le_of_ble_eq_true rfl, _, _, rfl, rfl, ⟨rfl, rfl, fun _ => ⟨rfl, trivial⟩⟩⟩, trivial⟩ rfl)
    · replace H := ite_f hc H
      refine aw_exit ?_
      refine ex_then ?_
      refine ex_then ?_
      refine ex_here ?_
      exact nx_ljoin (x1.2) H hsn2 (cov_prune ⟨rfl, trivial⟩ ⟨rfl, trivial⟩ (Nat.le_of_ble_eq_true rfl))

theorem ident_List_data (p0 : (Nat → Int)) (r : (_root_.List Int)) (H : ident_List p0 = some r) : FSpec Try.prog 20 [(e_a8_u32 p0)] (e_s_i64 r) :=
  FSpecO.toData (fz := [0]) (ident_List_spec p0 r H) (d_s_i64 r) (.frz 0 _ _ _ rfl (fun _ => trivial) (by decide))

theorem slices_Index_int_int_spec (p0 : (_root_.List Int)) (p1 : Int) (r : Int) (H : slices_Index_int_int p0 p1 = some r) : FSpec Try.prog 27 [(e_s_i64 p0), (.int .i64 p1)] (.int .i64 r) := by
  refine spec_of (fn := Try.f27) (args := [(e_s_i64 p0), (.int .i64 p1)]) Try.func27 rfl (Nat.le_of_ble_eq_true rfl) ?_
  rintro ⟨G, w0, W, S, Sp⟩ hG
  cases hG
  unfold slices_Index_int_int at H
  refine aw_region (es := [_]) ⟨Step.plain rfl (does_assign (.const (.int .i64 0)) (.int .i64 0) (fun _ => rfl)), ⟨trivial, trivial, rfl⟩, rfl, rfl⟩ ?_
  refine aw_cov (cov_prune (s1 := ⟨[(0, (e_s_i64 p0)), (1, (.int .i64 p1))], [], 0⟩) ⟨rfl, rfl, trivial⟩ trivial (Nat.le_refl _)) ?_
  refine aw_seq ?_
  refine aw_region (es := [_, _, _]) ⟨Step.plain rfl (does_move (.tmp 0) (e_s_i64 p0) trivial), ⟨⟨rfl, trivial⟩, trivial, rfl⟩, rfl,
    Step.plain rfl (does_lens 58 1 p0.length 6 (fun j => (.int .i64 (p0.getD j 0))) el58), ⟨⟨rfl, trivial⟩, trivial, rfl⟩, rfl,
    Step.plain rfl (does_move (.const (.int .i64 0)) (.int .i64 0) (fun _ => rfl)), ⟨trivial, trivial, rfl⟩, rfl, rfl⟩ ?_
  refine aw_cov (cov_prune (s1 := ⟨[(0, (e_s_i64 p0)), (1, (.int .i64 p1)), (7, (.int .i64 (p0.length : Int))), (8, (.int .i64 0))], [], 0⟩) ⟨rfl, rfl, rfl, rfl, trivial⟩ trivial (Nat.le_refl _)) ?_
  obtain ⟨wn2, hwn2, Hrn2⟩ := bnd H
  refine aw_meet (fun y4 : Unit => (⟨[], [], 0⟩ : St)) (fun y4 => Fl.nx y4 = wn2) (fun y4 hy => ?_) (aw_block (aw_runs (fun x1 : Int => (⟨[(0, (e_s_i64 p0)), (1, (.int .i64 p1)), (7, (.int .i64 (p0.length : Int))), (8, (.int .i64 x1))], [], 0⟩ : St)) hwn2 (cov_prune ⟨rfl, rfl, rfl, rfl, trivial⟩ trivial (Nat.le_of_ble_eq_true rfl)) (fun x1 st H hsn2 => ?_)))
  · have H := nx_of hy Hrn2
    refine nx_seq ?_
    refine aw_region (es := [_]) ⟨Step.plain rfl (does_assign (.const (.int .i64 (-1))) (.int .i64 (-1)) (fun _ => rfl)), ⟨trivial, trivial, rfl⟩, rfl, rfl⟩ ?_
    refine aw_cov (cov_prune (s1 := ⟨[(4, (.int .i64 (-1)))], [], 0⟩) ⟨rfl, trivial⟩ trivial (Nat.le_refl _)) ?_
    refine aw_ret ?_
    exact fun a w hr => ⟨_, [(.int .i64 (-1))], hr, ⟨⟨_, rfl, .data (.int .i64 (-1)) trivial⟩, trivial⟩, by decide, by cases H; rfl⟩
  · refine aw_region (es := [_]) ⟨Step.plain rfl (does_bin .lss 3 3 (.tmp 8) (.tmp 7) .i64 x1 (p0.length : Int) (.bool (decide (x1 < (p0.length : Int)))) trivial trivial (bin_lss _ _ _ _)), ⟨⟨rfl, rfl, trivial⟩, trivial, rfl⟩, rfl, rfl⟩ ?_
    refine aw_cov (cov_prune (s1 := ⟨[(0, (e_s_i64 p0)), (1, (.int .i64 p1)), (7, (.int .i64 (p0.length : Int))), (8, (.int .i64 x1)), (9, (.bool (decide (x1 < (p0.length : Int)))))], [], 0⟩) ⟨rfl, rfl, rfl, rfl, rfl, trivial⟩ trivial (Nat.le_refl _)) ?_
    refine aw_seq ?_
    refine aw_cond rfl (fun hc => ?_) (fun hc => ?_)
    · replace H := ite_t hc H
      refine aw_skip ?_
      refine nx_seq ?_
      refine aw_seq ?_
      refine aw_block ?_
      refine aw_region (es := [_, _]) ⟨Step.plain rfl (does_move (.tmp 8) (.int .i64 x1) trivial), ⟨⟨rfl, trivial⟩, trivial, rfl⟩, rfl,
        Step.plain rfl (does_assign (.tmp 10) (.int .i64 x1) trivial), ⟨⟨rfl, trivial⟩, trivial, rfl⟩, rfl, rfl⟩ ?_
      refine aw_cov (cov_prune (s1 := ⟨[(0, (e_s_i64 p0)), (1, (.int .i64 p1)), (7, (.int .i64 (p0.length : Int))), (8, (.int .i64 x1)), (5, (.int .i64 x1))], [], 0⟩) ⟨rfl, rfl, rfl, rfl, rfl, trivial⟩ trivial (Nat.le_refl _)) ?_
      obtain ⟨h3, H⟩ := ib_of H
      refine aw_region (es := [_, _, _, _, _, _]) ⟨Step.plain rfl (does_move (.tmp 1) (.int .i64 p1) trivial), ⟨⟨rfl, trivial⟩, trivial, rfl⟩, rfl,
        Step.plain rfl (does_move (.tmp 0) (e_s_i64 p0) trivial), ⟨⟨rfl, trivial⟩, trivial, rfl⟩, rfl,
        Step.plain rfl (does_move (.tmp 5) (.int .i64 x1) trivial), ⟨⟨rfl, trivial⟩, trivial, rfl⟩, rfl,
        Step.plain rfl (does_indexAddrs 58 1 p0.length 12 (fun j => (.int .i64 (p0.getD j 0))) (.tmp 13) .i64 x1 el58 trivial h3.1 h3.2), ⟨⟨rfl, rfl, trivial⟩, trivial, rfl⟩, rfl,
        Step.plain rfl (does_loadc 3 14 (.int .i64 (p0.getD x1.toNat 0)) ty3), ⟨⟨rfl, trivial⟩, trivial, rfl⟩, rfl,
        Step.plain rfl (does_bin .eql 3 3 (.tmp 11) (.tmp 15) .i64 p1 (p0.getD x1.toNat 0) (.bool (p1 == (p0.getD x1.toNat 0))) trivial trivial (bin_eql _ _ _ _)), ⟨⟨rfl, rfl, trivial⟩, trivial, rfl⟩, rfl, rfl⟩ ?_
      refine aw_cov (cov_prune (s1 := ⟨[(0, (e_s_i64 p0)), (1, (.int .i64 p1)), (7, (.int .i64 (p0.length : Int))), (8, (.int .i64 x1)), (5, (.int .i64 x1)), (16, (.bool (p1 == (p0.getD x1.toNat 0))))], [], 0⟩) ⟨rfl, rfl, rfl, rfl, rfl, rfl, trivial⟩ trivial (Nat.le_refl _)) ?_
      refine aw_cond rfl (fun hc => ?_) (fun hc => ?_)
      · replace H := ite_t hc H
        refine aw_region (es := [_, _]) ⟨Step.plain rfl (does_move (.tmp 5) (.int .i64 x1) trivial), ⟨⟨rfl, trivial⟩, trivial, rfl⟩, rfl,
          Step.plain rfl (does_assign (.tmp 17) (.int .i64 x1) trivial), ⟨⟨rfl, trivial⟩, trivial, rfl⟩, rfl, rfl⟩ ?_
        refine aw_cov (cov_prune (s1 := ⟨[(4, (.int .i64 x1))], [], 0⟩) ⟨rfl, trivial⟩ trivial (Nat.le_refl _)) ?_
        refine aw_ret ?_
        replace H := rt_of H hsn2 Hrn2
        refine rt_blk ?_
        refine rt_then ?_
        refine rt_then ?_
        refine rt_blk ?_
        refine rt_then ?_
        refine rt_then ?_
        exact fun a w hr => ⟨_, [(.int .i64 x1)], hr, ⟨⟨_, rfl, .data (.int .i64 x1) trivial⟩, trivial⟩, by decide, by cases H; rfl⟩
      · replace H := ite_f hc H
        refine aw_skip ?_
        refine nx_blk ?_
        refine nx_seq ?_
        refine aw_region1 (es := [_, _]) ⟨Step.plain rfl (does_bin .add 3 3 (.tmp 8) (.const (.int .i64 1)) .i64 x1 1 (.int .i64 (IntKind.i64.wrap (x1 + 1))) trivial (fun _ => rfl) (bin_add _ _ _ _)), ⟨⟨rfl, trivial⟩, trivial, rfl⟩, rfl,
          Step.plain rfl (does_move (.tmp 18) (.int .i64 (IntKind.i64.wrap (x1 + 1))) trivial), ⟨⟨rfl, trivial⟩, trivial, rfl⟩, rfl, rfl⟩ ?_
        exact nx_loop ((IntKind.i64.wrap (x1 + 1))) H (cov_prune ⟨rfl, rfl, rfl, rfl, trivial⟩ trivial (Nat.le_of_ble_eq_true rfl))
    · replace H := ite_f hc H
      refine aw_exit ?_
      refine ex_then ?_
      refine ex_then ?_
      refine ex_here ?_
      exact nx_ljoin () H hsn2 (cov_prune trivial trivial (Nat.le_of_ble_eq_true rfl))

theorem slices_Contains_int_int_spec (p0 : (_root_.List Int)) (p1 : Int) (r : Bool) (H : slices_Contains_int_int p0 p1 = some r) : FSpec Try.prog 19 [(e_s_i64 p0), (.int .i64 p1)] (.bool r) := by
  refine spec_of (fn := Try.f19) (args := [(e_s_i64 p0), (.int .i64 p1)]) Try.func19 rfl (Nat.le_of_ble_eq_true rfl) ?_
  rintro ⟨G, w0, W, S, Sp⟩ hG
  cases hG
  unfold slices_Contains_int_int at H
  refine aw_region (es := [_]) ⟨Step.plain rfl (does_assign (.const (.bool false)) (.bool false) (fun _ => rfl)), ⟨trivial, trivial, rfl⟩, rfl, rfl⟩ ?_
  refine aw_cov (cov_prune (s1 := ⟨[(0, (e_s_i64 p0)), (1, (.int .i64 p1))], [], 0⟩) ⟨rfl, rfl, trivial⟩ trivial (Nat.le_refl _)) ?_
  obtain ⟨v1, h2, H⟩ := bnd H
  refine aw_region (es := [_, _, _, _, _]) ⟨Step.plain rfl (does_move (.tmp 0) (e_s_i64 p0) trivial), ⟨⟨rfl, trivial⟩, trivial, rfl⟩, rfl,
    Step.plain rfl (does_move (.tmp 1) (.int .i64 p1) trivial), ⟨⟨rfl, trivial⟩, trivial, rfl⟩, rfl,
    Step.plain rfl (does_call 27 0 (fun _ => .any) (.func 27) [(.tmp 5), (.tmp 6)] [(e_s_i64 p0), (.int .i64 p1)] [] true [(e_s_i64 p0), (.int .i64 p1)] (.int .i64 v1) _ _ rfl fo27 rfl ⟨trivial, trivial, trivial⟩ ⟨.data _ (d_s_i64 p0), .data _ trivial, trivial⟩ (slices_Index_int_int_spec p0 p1 _ h2) trivial), ⟨⟨rfl, rfl, trivial⟩, trivial, rfl⟩, rfl,
    Step.plain rfl (does_bin .geq 3 3 (.tmp 7) (.const (.int .i64 0)) .i64 v1 0 (.bool (decide (v1 ≥ 0))) trivial (fun _ => rfl) (bin_geq _ _ _ _)), ⟨⟨rfl, trivial⟩, trivial, rfl⟩, rfl,
    Step.plain rfl (does_assign (.tmp 8) (.bool (decide (v1 ≥ 0))) trivial), ⟨⟨rfl, trivial⟩, trivial, rfl⟩, rfl, rfl⟩ ?_
  refine aw_cov (cov_prune (s1 := ⟨[(4, (.bool (decide (v1 ≥ 0))))], [], 0⟩) ⟨rfl, trivial⟩ trivial (Nat.le_refl _)) ?_
  refine aw_ret ?_
  exact fun a w hr => ⟨_, [(.bool (decide (v1 ≥ 0)))], hr, ⟨⟨_, rfl, .data (.bool (decide (v1 ≥ 0))) trivial⟩, trivial⟩, by decide, by cases H; rfl⟩

theorem slices_IndexFunc_api_Kept_api_Kept_spec (p0 : (_root_.List api_Kept)) (p1 : (api_Kept → Option (Bool))) (k1 n1 : Nat) (c1 : Nat → V) (o1 : FnOk Try.prog k1) (h1 : ∀ j, (c1 j).Cap) (g1 : ∀ (x0 : api_Kept) (r : Bool), p1 x0 = some r → FSpec Try.prog k1 ([(e_api_Kept x0)] ++ (List.range n1).map c1) (.bool r)) (r : Int) (H : slices_IndexFunc_api_Kept_api_Kept p0 p1 = some r) : FSpec Try.prog 23 [(e_s_api_Kept p0), (.fn k1 n1 c1)] (.int .i64 r) := by
  refine spec_of (fn := Try.f23) (args := [(e_s_api_Kept p0), (.fn k1 n1 c1)]) Try.func23 rfl (Nat.le_of_ble_eq_true rfl) ?_
  rintro ⟨G, w0, W, S, Sp⟩ hG
  cases hG
  unfold slices_IndexFunc_api_Kept_api_Kept at H
  refine aw_region (es := [_]) ⟨Step.plain rfl (does_assign (.const (.int .i64 0)) (.int .i64 0) (fun _ => rfl)), ⟨trivial, trivial, rfl⟩, rfl, rfl⟩ ?_
  refine aw_cov (cov_prune (s1 := ⟨[(0, (e_s_api_Kept p0)), (1, (.fn k1 n1 c1))], [], 0⟩) ⟨rfl, rfl, trivial⟩ trivial (Nat.le_refl _)) ?_
  refine aw_seq ?_
  refine aw_region (es := [_, _, _]) ⟨Step.plain rfl (does_move (.tmp 0) (e_s_api_Kept p0) trivial), ⟨⟨rfl, trivial⟩, trivial, rfl⟩, rfl,
    Step.plain rfl (does_lens 22 38 p0.length 6 (fun j => (e_api_Kept (p0.getD j z_api_Kept))) el22), ⟨⟨rfl, trivial⟩, trivial, rfl⟩, rfl,
    Step.plain rfl (does_move (.const (.int .i64 0)) (.int .i64 0) (fun _ => rfl)), ⟨trivial, trivial, rfl⟩, rfl, rfl⟩ ?_
  refine aw_cov (cov_prune (s1 := ⟨[(0, (e_s_api_Kept p0)), (1, (.fn k1 n1 c1)), (7, (.int .i64 (p0.length : Int))), (8, (.int .i64 0))], [], 0⟩) ⟨rfl, rfl, rfl, rfl, trivial⟩ trivial (Nat.le_refl _)) ?_
  obtain ⟨wn2, hwn2, Hrn2⟩ := bnd H
  refine aw_meet (fun y6 : Unit => (⟨[], [], 0⟩ : St)) (fun y6 => Fl.nx y6 = wn2) (fun y6 hy => ?_) (aw_block (aw_runs (fun x1 : Int => (⟨[(0, (e_s_api_Kept p0)), (1, (.fn k1 n1 c1)), (7, (.int .i64 (p0.length : Int))), (8, (.int .i64 x1))], [], 0⟩ : St)) hwn2 (cov_prune ⟨rfl, rfl, rfl, rfl, trivial⟩ trivial (Nat.le_of_ble_eq_true rfl)) (fun x1 st H hsn2 => ?_)))
  · have H := nx_of hy Hrn2
    refine nx_seq ?_
    refine aw_region (es := [_]) ⟨Step.plain rfl (does_assign (.const (.int .i64 (-1))) (.int .i64 (-1)) (fun _ => rfl)), ⟨trivial, trivial, rfl⟩, rfl, rfl⟩ ?_
    refine aw_cov (cov_prune (s1 := ⟨[(4, (.int .i64 (-1)))], [], 0⟩) ⟨rfl, trivial⟩ trivial (Nat.le_refl _)) ?_
    refine aw_ret ?_
    exact fun a w hr => ⟨_, [(.int .i64 (-1))], hr, ⟨⟨_, rfl, .data (.int .i64 (-1)) trivial⟩, trivial⟩, by decide, by cases H; rfl⟩
  · refine aw_region (es := [_]) ⟨Step.plain rfl (does_bin .lss 3 3 (.tmp 8) (.tmp 7) .i64 x1 (p0.length : Int) (.bool (decide (x1 < (p0.length : Int)))) trivial trivial (bin_lss _ _ _ _)), ⟨⟨rfl, rfl, trivial⟩, trivial, rfl⟩, rfl, rfl⟩ ?_
    refine aw_cov (cov_prune (s1 := ⟨[(0, (e_s_api_Kept p0)), (1, (.fn k1 n1 c1)), (7, (.int .i64 (p0.length : Int))), (8, (.int .i64 x1)), (9, (.bool (decide (x1 < (p0.length : Int)))))], [], 0⟩) ⟨rfl, rfl, rfl, rfl, rfl, trivial⟩ trivial (Nat.le_refl _)) ?_
    refine aw_seq ?_
    refine aw_cond rfl (fun hc => ?_) (fun hc => ?_)
    · replace H := ite_t hc H
      refine aw_skip ?_
      refine nx_seq ?_
      refine aw_seq ?_
      refine aw_block ?_
      refine aw_region (es := [_, _]) ⟨Step.plain rfl (does_move (.tmp 8) (.int .i64 x1) trivial), ⟨⟨rfl, trivial⟩, trivial, rfl⟩, rfl,
        Step.plain rfl (does_assign (.tmp 10) (.int .i64 x1) trivial), ⟨⟨rfl, trivial⟩, trivial, rfl⟩, rfl, rfl⟩ ?_
      refine aw_cov (cov_prune (s1 := ⟨[(0, (e_s_api_Kept p0)), (1, (.fn k1 n1 c1)), (7, (.int .i64 (p0.length : Int))), (8, (.int .i64 x1)), (5, (.int .i64 x1))], [], 0⟩) ⟨rfl, rfl, rfl, rfl, rfl, trivial⟩ trivial (Nat.le_refl _)) ?_
      obtain ⟨h3, H⟩ := ib_of H
      obtain ⟨v4, h5, H⟩ := bnd H
      refine aw_region (es := [_, _, _, _, _, _]) ⟨Step.plain rfl (does_move (.tmp 1) (.fn k1 n1 c1) trivial), ⟨⟨rfl, trivial⟩, trivial, rfl⟩, rfl,
        Step.plain rfl (does_move (.tmp 0) (e_s_api_Kept p0) trivial), ⟨⟨rfl, trivial⟩, trivial, rfl⟩, rfl,
        Step.plain rfl (does_move (.tmp 5) (.int .i64 x1) trivial), ⟨⟨rfl, trivial⟩, trivial, rfl⟩, rfl,
        Step.plain rfl (does_indexAddrs 22 38 p0.length 12 (fun j => (e_api_Kept (p0.getD j z_api_Kept))) (.tmp 13) .i64 x1 el22 trivial h3.1 h3.2), ⟨⟨rfl, rfl, trivial⟩, trivial, rfl⟩, rfl,
        Step.plain rfl (does_loadc 36 14 (e_api_Kept (p0.getD x1.toNat z_api_Kept)) ty36), ⟨⟨rfl, trivial⟩, trivial, rfl⟩, rfl,
        Step.plain rfl (does_callf k1 n1 c1 11 [(.tmp 15)] [(e_api_Kept (p0.getD x1.toNat z_api_Kept))] [(e_api_Kept (p0.getD x1.toNat z_api_Kept))] [] true (.bool v4) _ _ rfl o1 ⟨trivial, trivial⟩ ⟨.data _ (d_api_Kept (p0.getD x1.toNat z_api_Kept)), trivial⟩ h1 (g1 (p0.getD x1.toNat z_api_Kept) _ h5) trivial), ⟨⟨rfl, rfl, trivial⟩, trivial, rfl⟩, rfl, rfl⟩ ?_
      refine aw_cov (cov_prune (s1 := ⟨[(0, (e_s_api_Kept p0)), (1, (.fn k1 n1 c1)), (7, (.int .i64 (p0.length : Int))), (8, (.int .i64 x1)), (5, (.int .i64 x1)), (16, (.bool v4))], [], 0⟩) ⟨rfl, rfl, rfl, rfl, rfl, rfl, trivial⟩ trivial (Nat.le_refl _)) ?_
      refine aw_cond rfl (fun hc => ?_) (fun hc => ?_)
      · replace H := ite_t hc H
        refine aw_region (es := [_, _]) ⟨Step.plain rfl (does_move (.tmp 5) (.int .i64 x1) trivial), ⟨⟨rfl, trivial⟩, trivial, rfl⟩, rfl,
          Step.plain rfl (does_assign (.tmp 17) (.int .i64 x1) trivial), ⟨⟨rfl, trivial⟩, trivial, rfl⟩, rfl, rfl⟩ ?_
        refine aw_cov (cov_prune (s1 := ⟨[(4, (.int .i64 x1))], [], 0⟩) ⟨rfl, trivial⟩ trivial (Nat.le_refl _)) ?_
        refine aw_ret ?_
        replace H := rt_of H hsn2 Hrn2
        refine rt_blk ?_
        refine rt_then ?_
        refine rt_then ?_
        refine rt_blk ?_
        refine rt_then ?_
        refine rt_then ?_
        exact fun a w hr => ⟨_, [(.int .i64 x1)], hr, ⟨⟨_, rfl, .data (.int .i64 x1) trivial⟩, trivial⟩, by decide, by cases H; rfl⟩
      · replace H := ite_f hc H
        refine aw_skip ?_
        refine nx_blk ?_
        refine nx_seq ?_
        refine aw_region1 (es := [_, _]) ⟨Step.plain rfl (does_bin .add 3 3 (.tmp 8) (.const (.int .i64 1)) .i64 x1 1 (.int .i64 (IntKind.i64.wrap (x1 + 1))) trivial (fun _ => rfl) (bin_add _ _ _ _)), ⟨⟨rfl, trivial⟩, trivial, rfl⟩, rfl,
          Step.plain rfl (does_move (.tmp 18) (.int .i64 (IntKind.i64.wrap (x1 + 1))) trivial), ⟨⟨rfl, trivial⟩, trivial, rfl⟩, rfl, rfl⟩ ?_
        exact nx_loop ((IntKind.i64.wrap (x1 + 1))) H (cov_prune ⟨rfl, rfl, rfl, rfl, trivial⟩ trivial (Nat.le_of_ble_eq_true rfl))
    · replace H := ite_f hc H
      refine aw_exit ?_
      refine ex_then ?_
      refine ex_then ?_
      refine ex_here ?_
      exact nx_ljoin () H hsn2 (cov_prune trivial trivial (Nat.le_of_ble_eq_true rfl))

theorem slices_DeleteFunc_api_Kept_api_Kept_spec (p0 : (_root_.List api_Kept)) (p1 : (api_Kept → Option (Bool))) (k1 n1 : Nat) (c1 : Nat → V) (o1 : FnOk Try.prog k1) (h1 : ∀ j, (c1 j).Cap) (g1 : ∀ (x0 : api_Kept) (r : Bool), p1 x0 = some r → FSpec Try.prog k1 ([(e_api_Kept x0)] ++ (List.range n1).map c1) (.bool r)) (r : (_root_.List api_Kept)) (H : slices_DeleteFunc_api_Kept_api_Kept p0 p1 = some r) : FSpecO Try.prog 21 [(.own 0), (.fn k1 n1 c1)] [(0, some (.arr 38 p0.length fun j => (e_api_Kept (p0.getD j z_api_Kept))))] 1 (.own 0) [(0, some (.arr 38 r.length fun j => (e_api_Kept (r.getD j z_api_Kept))))] 1 := by
  refine specO_of (fn := Try.f21) (args := [(.own 0), (.fn k1 n1 c1)]) Try.func21 rfl (Nat.le_of_ble_eq_true rfl) ?_
  rintro ⟨G, w0, W, S, Sp⟩ hG
  cases hG
  unfold slices_DeleteFunc_api_Kept_api_Kept at H
  refine aw_region (es := [_]) ⟨Step.plain rfl (does_nil false 1 38 (fun j => (e_api_Kept (([] : _root_.List api_Kept).getD j z_api_Kept)))), ⟨trivial, trivial, rfl⟩, rfl, rfl⟩ ?_
  refine aw_cov (cov_prune (s1 := ⟨[(0, (.own 0)), (1, (.fn k1 n1 c1))], [(0, some (.arr 38 p0.length fun j => (e_api_Kept (p0.getD j z_api_Kept))))], 2⟩) ⟨rfl, rfl, trivial⟩ ⟨rfl, trivial⟩ (Nat.le_refl _)) ?_
  obtain ⟨v1, h2, H⟩ := bnd H
  refine aw_region (es := [_, _, _, _]) ⟨Step.plain rfl (does_move (.tmp 0) (.own 0) trivial), ⟨⟨rfl, trivial⟩, trivial, rfl⟩, rfl,
    Step.plain rfl (does_move (.tmp 1) (.fn k1 n1 c1) trivial), ⟨⟨rfl, trivial⟩, trivial, rfl⟩, rfl,
    Step.plain rfl (does_call 23 0 (fun _ => .any) (.func 23) [(.tmp 8), (.tmp 9)] [(.own 0), (.fn k1 n1 c1)] [(0, (.arr 38 p0.length fun j => (e_api_Kept (p0.getD j z_api_Kept))))] true [(e_s_api_Kept p0), (.fn k1 n1 c1)] (.int .i64 v1) _ _ rfl fo23 rfl ⟨trivial, trivial, trivial⟩ ⟨.own 0 _ _ _ (.head _) rfl (fun _ => (d_api_Kept _)), .fn _ _ _ _ (fun j _ => (h1 j).pass), trivial⟩ (slices_IndexFunc_api_Kept_api_Kept_spec p0 p1 k1 n1 c1 o1 h1 g1 _ h2) trivial), ⟨⟨rfl, rfl, trivial⟩, ⟨rfl, trivial⟩, rfl⟩, rfl,
    Step.plain rfl (does_assign (.tmp 10) (.int .i64 v1) trivial), ⟨⟨rfl, trivial⟩, trivial, rfl⟩, rfl, rfl⟩ ?_
  refine aw_cov (cov_prune (s1 := ⟨[(0, (.own 0)), (1, (.fn k1 n1 c1)), (5, (.int .i64 v1))], [(0, some (.arr 38 p0.length fun j => (e_api_Kept (p0.getD j z_api_Kept))))], 2⟩) ⟨rfl, rfl, rfl, trivial⟩ ⟨rfl, trivial⟩ (Nat.le_refl _)) ?_
  refine aw_seq ?_
  refine aw_region (es := [_, _]) ⟨Step.plain rfl (does_move (.tmp 5) (.int .i64 v1) trivial), ⟨⟨rfl, trivial⟩, trivial, rfl⟩, rfl,
    Step.plain rfl (does_bin .eql 3 3 (.tmp 11) (.const (.int .i64 (-1))) .i64 v1 (-1) (.bool (v1 == (-1))) trivial (fun _ => rfl) (bin_eql _ _ _ _)), ⟨⟨rfl, trivial⟩, trivial, rfl⟩, rfl, rfl⟩ ?_
  refine aw_cov (cov_prune (s1 := ⟨[(0, (.own 0)), (1, (.fn k1 n1 c1)), (5, (.int .i64 v1)), (12, (.bool (v1 == (-1))))], [(0, some (.arr 38 p0.length fun j => (e_api_Kept (p0.getD j z_api_Kept))))], 2⟩) ⟨rfl, rfl, rfl, rfl, trivial⟩ ⟨rfl, trivial⟩ (Nat.le_refl _)) ?_
  refine aw_cond rfl (fun hc => ?_) (fun hc => ?_)
  · replace H := ite_t hc H
    refine aw_region (es := [_, _]) ⟨Step.plain rfl (does_move (.tmp 0) (.own 0) trivial), ⟨⟨rfl, trivial⟩, trivial, rfl⟩, rfl,
      Step.plain rfl (does_assign (.tmp 13) (.own 0) trivial), ⟨⟨rfl, trivial⟩, trivial, rfl⟩, rfl, rfl⟩ ?_
    refine aw_cov (cov_prune (s1 := ⟨[(4, (.own 0))], [(0, some (.arr 38 p0.length fun j => (e_api_Kept (p0.getD j z_api_Kept))))], 2⟩) ⟨rfl, trivial⟩ ⟨rfl, trivial⟩ (Nat.le_refl _)) ?_
    refine aw_ret ?_
    refine rt_then ?_
    exact fun a w hr => ⟨_, [(.own 0)], reach_of hr (cov_to (s1 := ⟨[(4, (.own 0))], [(0, some (.arr 38 p0.length fun j => (e_api_Kept (p0.getD j z_api_Kept))))], 1⟩) (fun i => match i with | 0 => 0 | k => k) [] ⟨⟨_, rfl, .own 0 _ _ (Nat.le_of_ble_eq_true rfl) rfl rfl (Box.like_refl _)⟩, trivial⟩ ⟨⟨Nat.le_of_ble_eq_true rfl, _, _, rfl, rfl, boxTo_arr (fun _ => (d_api_Kept _))⟩, trivial⟩ rfl rfl), ⟨rfl, trivial⟩, by decide, by cases H; rfl, by cases H; exact ⟨rfl, trivial⟩, Nat.le_of_ble_eq_true rfl⟩
  · replace H := ite_f hc H
    refine aw_skip ?_
    refine nx_seq ?_
    refine aw_seq ?_
    refine aw_region (es := [_, _, _]) ⟨Step.plain rfl (does_move (.tmp 5) (.int .i64 v1) trivial), ⟨⟨rfl, trivial⟩, trivial, rfl⟩, rfl,
      Step.plain rfl (does_bin .add 3 3 (.tmp 14) (.const (.int .i64 1)) .i64 v1 1 (.int .i64 (IntKind.i64.wrap (v1 + 1))) trivial (fun _ => rfl) (bin_add _ _ _ _)), ⟨⟨rfl, trivial⟩, trivial, rfl⟩, rfl,
      Step.plain rfl (does_assign (.tmp 15) (.int .i64 (IntKind.i64.wrap (v1 + 1))) trivial), ⟨⟨rfl, trivial⟩, trivial, rfl⟩, rfl, rfl⟩ ?_
    refine aw_cov (cov_prune (s1 := ⟨[(0, (.own 0)), (1, (.fn k1 n1 c1)), (5, (.int .i64 v1)), (6, (.int .i64 (IntKind.i64.wrap (v1 + 1))))], [(0, some (.arr 38 p0.length fun j => (e_api_Kept (p0.getD j z_api_Kept))))], 2⟩) ⟨rfl, rfl, rfl, rfl, trivial⟩ ⟨rfl, trivial⟩ (Nat.le_refl _)) ?_
    obtain ⟨wn4, hwn4, Hrn4⟩ := bnd H
    refine aw_meet (fun y11 : Int × _root_.List api_Kept => (⟨[(0, (.own 0)), (5, (.int .i64 y11.1))], [(0, some (.arr 38 y11.2.length fun j => (e_api_Kept (y11.2.getD j z_api_Kept))))], 2⟩ : St)) (fun y11 => Fl.nx y11 = wn4) (fun y11 hy => ?_) (aw_block (aw_runs (fun x3 : Int × Int × _root_.List api_Kept => (⟨[(0, (.own 0)), (1, (.fn k1 n1 c1)), (5, (.int .i64 x3.1)), (6, (.int .i64 x3.2.1))], [(0, some (.arr 38 x3.2.2.length fun j => (e_api_Kept (x3.2.2.getD j z_api_Kept))))], 2⟩ : St)) hwn4 (cov_prune ⟨rfl, rfl, rfl, rfl, trivial⟩ ⟨rfl, trivial⟩ (Nat.le_of_ble_eq_true rfl)) (fun x3 st H hsn4 => ?_)))
    · have H := nx_of hy Hrn4
      refine nx_seq ?_
      obtain ⟨h12, H⟩ := sb_of H
      obtain ⟨h13, H⟩ := inb_of H
      refine aw_region (es := [_, _, _, _]) ⟨Step.plain rfl (does_move (.tmp 0) (.own 0) trivial), ⟨⟨rfl, trivial⟩, trivial, rfl⟩, rfl,
        Step.plain rfl (does_move (.tmp 5) (.int .i64 y11.1) trivial), ⟨⟨rfl, trivial⟩, trivial, rfl⟩, rfl,
        Step.plain rfl (does_sliceo 22 38 y11.2.length 36 0 y11.1.toNat y11.2.length (fun j => (e_api_Kept (y11.2.getD j z_api_Kept))) (some ((.tmp 37), .i64, y11.1)) none _ _ el22 rfl rfl trivial trivial (Int.toNat_of_nonneg h12.1).symm rfl (by omega) (by omega)), ⟨⟨rfl, rfl, trivial⟩, ⟨rfl, trivial⟩, rfl⟩, rfl,
        Step.plain rfl (does_clearL e_api_Kept z_api_Kept y11.2 22 38 38 0 y11.1.toNat (y11.2.length - y11.1.toNat) so22 h13), ⟨⟨rfl, trivial⟩, ⟨rfl, trivial⟩, rfl⟩, rfl, rfl⟩ ?_
      refine aw_cov (cov_prune (s1 := ⟨[(0, (.own 0)), (5, (.int .i64 y11.1))], [(0, some (.arr 38 (clr y11.2 z_api_Kept y11.1.toNat (y11.2.length - y11.1.toNat)).length fun j => (e_api_Kept ((clr y11.2 z_api_Kept y11.1.toNat (y11.2.length - y11.1.toNat)).getD j z_api_Kept))))], 2⟩) ⟨rfl, rfl, trivial⟩ ⟨rfl, trivial⟩ (Nat.le_refl _)) ?_
      obtain ⟨h14, H⟩ := sb_of H
      refine aw_region (es := [_, _, _, _]) ⟨Step.plain rfl (does_move (.tmp 0) (.own 0) trivial), ⟨⟨rfl, trivial⟩, trivial, rfl⟩, rfl,
        Step.plain rfl (does_move (.tmp 5) (.int .i64 y11.1) trivial), ⟨⟨rfl, trivial⟩, trivial, rfl⟩, rfl,
        Step.plain rfl (does_sliceo 22 38 (clr y11.2 z_api_Kept y11.1.toNat (y11.2.length - y11.1.toNat)).length 39 0 0 y11.1.toNat (fun j => (e_api_Kept ((clr y11.2 z_api_Kept y11.1.toNat (y11.2.length - y11.1.toNat)).getD j z_api_Kept))) none (some ((.tmp 40), .i64, y11.1)) _ _ el22 rfl rfl trivial trivial rfl (Int.toNat_of_nonneg (Int.le_trans h14.1 h14.2.1)).symm (by omega) (by omega)), ⟨⟨rfl, rfl, trivial⟩, ⟨rfl, trivial⟩, rfl⟩, rfl,
        Step.plain rfl (does_assign (.tmp 41) (.view 0 0 (y11.1.toNat - 0)) trivial), ⟨⟨rfl, trivial⟩, trivial, rfl⟩, rfl, rfl⟩ ?_
      refine aw_cov (cov_prune (s1 := ⟨[(4, (.view 0 0 (y11.1.toNat - 0)))], [(0, some (.arr 38 (clr y11.2 z_api_Kept y11.1.toNat (y11.2.length - y11.1.toNat)).length fun j => (e_api_Kept ((clr y11.2 z_api_Kept y11.1.toNat (y11.2.length - y11.1.toNat)).getD j z_api_Kept))))], 2⟩) ⟨rfl, trivial⟩ ⟨rfl, trivial⟩ (Nat.le_refl _)) ?_
      refine aw_ret ?_
      obtain ⟨h15, H⟩ := inb_of H
      exact fun a w hr => ⟨_, [(.own 0)], reach_of hr (cov_to (s1 := ⟨[(4, (.own 0))], [(0, some (.arr 38 ((clr y11.2 z_api_Kept y11.1.toNat (y11.2.length - y11.1.toNat)).take (y11.1.toNat - 0)).length fun j => (e_api_Kept (((clr y11.2 z_api_Kept y11.1.toNat (y11.2.length - y11.1.toNat)).take (y11.1.toNat - 0)).getD j z_api_Kept))))], 1⟩) (fun i => match i with | 0 => 0 | k => k) [] ⟨⟨_, rfl, .shr 0 _ _ _ _ _ _ (Nat.le_of_ble_eq_true rfl) rfl rfl (len_take h15)⟩, trivial⟩ ⟨⟨Nat.le_of_ble_eq_true rfl, _, _, rfl, rfl, boxTo_take e_api_Kept _ (fun _ => (d_api_Kept _))⟩, trivial⟩ rfl rfl), ⟨rfl, trivial⟩, by decide, by cases H; rfl, by cases H; exact ⟨rfl, trivial⟩, Nat.le_of_ble_eq_true rfl⟩
    · refine aw_seq ?_
      refine aw_region (es := [_, _, _, _]) ⟨Step.plain rfl (does_move (.tmp 6) (.int .i64 x3.2.1) trivial), ⟨⟨rfl, trivial⟩, trivial, rfl⟩, rfl,
        Step.plain rfl (does_move (.tmp 0) (.own 0) trivial), ⟨⟨rfl, trivial⟩, trivial, rfl⟩, rfl,
        Step.plain rfl (does_leno 22 38 x3.2.2.length 17 0 (fun j => (e_api_Kept (x3.2.2.getD j z_api_Kept))) el22), ⟨⟨rfl, trivial⟩, ⟨rfl, trivial⟩, rfl⟩, rfl,
        Step.plain rfl (does_bin .lss 3 3 (.tmp 16) (.tmp 18) .i64 x3.2.1 (x3.2.2.length : Int) (.bool (decide (x3.2.1 < (x3.2.2.length : Int)))) trivial trivial (bin_lss _ _ _ _)), ⟨⟨rfl, rfl, trivial⟩, trivial, rfl⟩, rfl, rfl⟩ ?_
      refine aw_cov (cov_prune (s1 := ⟨[(0, (.own 0)), (1, (.fn k1 n1 c1)), (5, (.int .i64 x3.1)), (6, (.int .i64 x3.2.1)), (19, (.bool (decide (x3.2.1 < (x3.2.2.length : Int)))))], [(0, some (.arr 38 x3.2.2.length fun j => (e_api_Kept (x3.2.2.getD j z_api_Kept))))], 2⟩) ⟨rfl, rfl, rfl, rfl, rfl, trivial⟩ ⟨rfl, trivial⟩ (Nat.le_refl _)) ?_
      refine aw_cond rfl (fun hc => ?_) (fun hc => ?_)
      · replace H := ite_t hc H
        refine aw_skip ?_
        refine nx_seq ?_
        refine aw_seq ?_
        refine aw_jn (fun x10 : Int × _root_.List api_Kept => (⟨[(0, (.own 0)), (1, (.fn k1 n1 c1)), (5, (.int .i64 x10.1)), (6, (.int .i64 x3.2.1))], [(0, some (.arr 38 x10.2.length fun j => (e_api_Kept (x10.2.getD j z_api_Kept))))], 3⟩ : St)) H (fun x10 H => ?_) (fun j5 H => ?_)
        · refine nx_seq ?_
          refine aw_region1 (es := [_, _, _]) ⟨Step.plain rfl (does_move (.tmp 6) (.int .i64 x3.2.1) trivial), ⟨⟨rfl, trivial⟩, trivial, rfl⟩, rfl,
            Step.plain rfl (does_bin .add 3 3 (.tmp 20) (.const (.int .i64 1)) .i64 x3.2.1 1 (.int .i64 (IntKind.i64.wrap (x3.2.1 + 1))) trivial (fun _ => rfl) (bin_add _ _ _ _)), ⟨⟨rfl, trivial⟩, trivial, rfl⟩, rfl,
            Step.plain rfl (does_assign (.tmp 21) (.int .i64 (IntKind.i64.wrap (x3.2.1 + 1))) trivial), ⟨⟨rfl, trivial⟩, trivial, rfl⟩, rfl, rfl⟩ ?_
          exact nx_loop (x10.1, (IntKind.i64.wrap (x3.2.1 + 1)), x10.2) H (cov_of (fun i => match i with | 0 => 0 | k => k) ⟨⟨_, rfl, ⟨rfl, Nat.le_of_ble_eq_true rfl⟩⟩, ⟨_, rfl, ⟨rfl, fun j => (h1 j).plain⟩⟩, ⟨_, rfl, ⟨rfl, trivial⟩⟩, ⟨_, rfl, ⟨rfl, trivial⟩⟩, trivial⟩ ⟨⟨Nat.le_of_ble_eq_true rfl, _, _, rfl, rfl, ⟨rfl, rfl, fun _ => .inl ⟨rfl, (d_api_Kept _).plain⟩⟩⟩, trivial⟩ rfl)
        · refine aw_block ?_
          obtain ⟨h6, H⟩ := ib_of H
          refine aw_region (es := [_, _, _, _, _, _]) ⟨Step.plain rfl (does_move (.tmp 0) (.own 0) trivial), ⟨⟨rfl, trivial⟩, trivial, rfl⟩, rfl,
            Step.plain rfl (does_move (.tmp 6) (.int .i64 x3.2.1) trivial), ⟨⟨rfl, trivial⟩, trivial, rfl⟩, rfl,
            Step.plain rfl (does_indexAddro 22 38 x3.2.2.length 22 0 (fun j => (e_api_Kept (x3.2.2.getD j z_api_Kept))) (.tmp 23) .i64 x3.2.1 el22 trivial h6.1 h6.2), ⟨⟨rfl, rfl, trivial⟩, ⟨rfl, trivial⟩, rfl⟩, rfl,
            Step.plain rfl (does_load 36 24 0 (x3.2.1.toNat * 38) [x3.2.1.toNat] (.arr 38 x3.2.2.length fun j => (e_api_Kept (x3.2.2.getD j z_api_Kept))) (e_api_Kept (x3.2.2.getD x3.2.1.toNat z_api_Kept)) ⟨(ixl h6), trivial⟩ rfl rfl ty36), ⟨⟨rfl, trivial⟩, ⟨rfl, trivial⟩, rfl⟩, rfl,
            Step.plain rfl (does_alloc 36 2 (e_api_Kept z_api_Kept) zr36), ⟨trivial, trivial, rfl⟩, rfl,
            Step.plain rfl (does_store 36 7 (.tmp 25) 2 0 [] (.var (e_api_Kept z_api_Kept)) (.var (e_api_Kept (x3.2.2.getD x3.2.1.toNat z_api_Kept))) (e_api_Kept (x3.2.2.getD x3.2.1.toNat z_api_Kept)) true trivial rfl trivial rfl rfl rfl ty36), ⟨⟨rfl, rfl, trivial⟩, ⟨rfl, trivial⟩, rfl⟩, rfl, rfl⟩ ?_
          refine aw_cov (cov_prune (s1 := ⟨[(0, (.own 0)), (1, (.fn k1 n1 c1)), (5, (.int .i64 x3.1)), (6, (.int .i64 x3.2.1)), (7, (.ptr 2 0 []))], [(0, some (.arr 38 x3.2.2.length fun j => (e_api_Kept (x3.2.2.getD j z_api_Kept)))), (2, some (.var (e_api_Kept (x3.2.2.getD x3.2.1.toNat z_api_Kept))))], 3⟩) ⟨rfl, rfl, rfl, rfl, rfl, trivial⟩ ⟨rfl, rfl, trivial⟩ (Nat.le_refl _)) ?_
          obtain ⟨v7, h8, H⟩ := bnd H
          refine aw_region (es := [_, _, _, _]) ⟨Step.plain rfl (does_move (.tmp 1) (.fn k1 n1 c1) trivial), ⟨⟨rfl, trivial⟩, trivial, rfl⟩, rfl,
            Step.plain rfl (does_load 36 7 2 0 [] (.var (e_api_Kept (x3.2.2.getD x3.2.1.toNat z_api_Kept))) (e_api_Kept (x3.2.2.getD x3.2.1.toNat z_api_Kept)) trivial rfl rfl ty36), ⟨⟨rfl, trivial⟩, ⟨rfl, trivial⟩, rfl⟩, rfl,
            Step.plain rfl (does_callf k1 n1 c1 26 [(.tmp 27)] [(e_api_Kept (x3.2.2.getD x3.2.1.toNat z_api_Kept))] [(e_api_Kept (x3.2.2.getD x3.2.1.toNat z_api_Kept))] [] true (.bool v7) _ _ rfl o1 ⟨trivial, trivial⟩ ⟨.data _ (d_api_Kept (x3.2.2.getD x3.2.1.toNat z_api_Kept)), trivial⟩ h1 (g1 (x3.2.2.getD x3.2.1.toNat z_api_Kept) _ h8) trivial), ⟨⟨rfl, rfl, trivial⟩, trivial, rfl⟩, rfl,
            Step.plain rfl (does_not 4 (.tmp 28) v7 trivial), ⟨⟨rfl, trivial⟩, trivial, rfl⟩, rfl, rfl⟩ ?_
          refine aw_cov (cov_prune (s1 := ⟨[(0, (.own 0)), (1, (.fn k1 n1 c1)), (5, (.int .i64 x3.1)), (6, (.int .i64 x3.2.1)), (7, (.ptr 2 0 [])), (29, (.bool (!v7)))], [(0, some (.arr 38 x3.2.2.length fun j => (e_api_Kept (x3.2.2.getD j z_api_Kept)))), (2, some (.var (e_api_Kept (x3.2.2.getD x3.2.1.toNat z_api_Kept))))], 3⟩) ⟨rfl, rfl, rfl, rfl, rfl, rfl, trivial⟩ ⟨rfl, rfl, trivial⟩ (Nat.le_refl _)) ?_
          refine aw_cond rfl (fun hc => ?_) (fun hc => ?_)
          · replace H := ite_t hc H
            obtain ⟨h9, H⟩ := ib_of H
            refine aw_region (es := [_, _, _, _, _]) ⟨Step.plain rfl (does_move (.tmp 0) (.own 0) trivial), ⟨⟨rfl, trivial⟩, trivial, rfl⟩, rfl,
              Step.plain rfl (does_move (.tmp 5) (.int .i64 x3.1) trivial), ⟨⟨rfl, trivial⟩, trivial, rfl⟩, rfl,
              Step.plain rfl (does_load 36 7 2 0 [] (.var (e_api_Kept (x3.2.2.getD x3.2.1.toNat z_api_Kept))) (e_api_Kept (x3.2.2.getD x3.2.1.toNat z_api_Kept)) trivial rfl rfl ty36), ⟨⟨rfl, trivial⟩, ⟨rfl, trivial⟩, rfl⟩, rfl,
              Step.plain rfl (does_indexAddro 22 38 x3.2.2.length 30 0 (fun j => (e_api_Kept (x3.2.2.getD j z_api_Kept))) (.tmp 31) .i64 x3.1 el22 trivial h9.1 h9.2), ⟨⟨rfl, rfl, trivial⟩, ⟨rfl, trivial⟩, rfl⟩, rfl,
              Step.plain rfl (does_store 36 33 (.tmp 32) 0 (x3.1.toNat * 38) [x3.1.toNat] (.arr 38 x3.2.2.length fun j => (e_api_Kept (x3.2.2.getD j z_api_Kept))) (.arr 38 (x3.2.2.set x3.1.toNat (x3.2.2.getD x3.2.1.toNat z_api_Kept)).length fun j => (e_api_Kept ((x3.2.2.set x3.1.toNat (x3.2.2.getD x3.2.1.toNat z_api_Kept)).getD j z_api_Kept))) (e_api_Kept (x3.2.2.getD x3.2.1.toNat z_api_Kept)) true trivial rfl ⟨(ixl h9), trivial⟩ rfl rfl (set_arr e_api_Kept z_api_Kept _ (ixl h9) rfl) ty36), ⟨⟨rfl, rfl, trivial⟩, ⟨rfl, trivial⟩, rfl⟩, rfl, rfl⟩ ?_
            refine aw_cov (cov_prune (s1 := ⟨[(0, (.own 0)), (1, (.fn k1 n1 c1)), (5, (.int .i64 x3.1)), (6, (.int .i64 x3.2.1))], [(0, some (.arr 38 (x3.2.2.set x3.1.toNat (x3.2.2.getD x3.2.1.toNat z_api_Kept)).length fun j => (e_api_Kept ((x3.2.2.set x3.1.toNat (x3.2.2.getD x3.2.1.toNat z_api_Kept)).getD j z_api_Kept))))], 3⟩) ⟨rfl, rfl, rfl, rfl, trivial⟩ ⟨rfl, trivial⟩ (Nat.le_refl _)) ?_
            refine aw_region1 (es := [_, _, _]) ⟨Step.plain rfl (does_move (.tmp 5) (.int .i64 x3.1) trivial), ⟨⟨rfl, trivial⟩, trivial, rfl⟩, rfl,
              Step.plain rfl (does_bin .add 3 3 (.tmp 34) (.const (.int .i64 1)) .i64 x3.1 1 (.int .i64 (IntKind.i64.wrap (x3.1 + 1))) trivial (fun _ => rfl) (bin_add _ _ _ _)), ⟨⟨rfl, trivial⟩, trivial, rfl⟩, rfl,
              Step.plain rfl (does_assign (.tmp 35) (.int .i64 (IntKind.i64.wrap (x3.1 + 1))) trivial), ⟨⟨rfl, trivial⟩, trivial, rfl⟩, rfl, rfl⟩ ?_
            refine nx_blk ?_
            exact nx_join ((IntKind.i64.wrap (x3.1 + 1)), x3.2.2.set x3.1.toNat (x3.2.2.getD x3.2.1.toNat z_api_Kept)) H (cov_prune ⟨rfl, rfl, rfl, rfl, trivial⟩ ⟨rfl, trivial⟩ (Nat.le_of_ble_eq_true rfl))
          · replace H := ite_f hc H
            refine aw_skip ?_
            refine nx_blk ?_
            exact nx_join (x3.1, x3.2.2) H (cov_prune ⟨rfl, rfl, rfl, rfl, trivial⟩ ⟨rfl, trivial⟩ (Nat.le_of_ble_eq_true rfl))
      · replace H := ite_f hc H
        refine aw_exit ?_
        refine ex_then ?_
        refine ex_then ?_
        refine ex_here ?_
        exact nx_ljoin (x3.1, x3.2.2) H hsn4 (cov_prune ⟨rfl, rfl, trivial⟩ ⟨rfl, trivial⟩ (Nat.le_of_ble_eq_true rfl))

theorem kept_Take_1_spec (p0 : api_Kept) (q0 : api_Kept) (r : Bool) (H : kept_Take_1 p0 q0 = some r) : FSpec Try.prog 22 [(e_api_Kept p0), (.cptr (e_api_Kept q0))] (.bool r) := by
  refine spec_of (fn := Try.f22) (args := [(e_api_Kept p0), (.cptr (e_api_Kept q0))]) Try.func22 rfl (Nat.le_of_ble_eq_true rfl) ?_
  rintro ⟨G, w0, W, S, Sp⟩ hG
  cases hG
  unfold kept_Take_1 at H
  refine aw_region (es := [_, _]) ⟨Step.plain rfl (does_box 36 (.tmp 0) 0 (e_api_Kept p0) trivial rfl), ⟨⟨rfl, trivial⟩, trivial, rfl⟩, rfl,
    Step.plain rfl (does_assign (.const (.bool false)) (.bool false) (fun _ => rfl)), ⟨trivial, trivial, rfl⟩, rfl, rfl⟩ ?_
  refine aw_cov (cov_prune (s1 := ⟨[(1, (.cptr (e_api_Kept q0))), (2, (.ptr 0 0 []))], [(0, some (.var (e_api_Kept p0)))], 1⟩) ⟨rfl, rfl, trivial⟩ ⟨rfl, trivial⟩ (Nat.le_refl _)) ?_
  refine aw_region (es := [_, _, _, _, _, _, _, _, _, _, _, _, _, _, _, _, _, _, _]) ⟨Step.plain rfl (does_fieldAddr 36 0 0 2 0 0 [] (.var (e_api_Kept p0)) fl36_0), ⟨⟨rfl, trivial⟩, ⟨rfl, trivial⟩, rfl⟩, rfl,
    Step.plain rfl (does_load 3 4 0 (0 + 0) [0] (.var (e_api_Kept p0)) (.int .i64 p0.From) ⟨rfl, Nat.le_of_ble_eq_true rfl, trivial⟩ rfl rfl ty3), ⟨⟨rfl, trivial⟩, ⟨rfl, trivial⟩, rfl⟩, rfl,
    Step.plain rfl (does_fieldAddrc 36 0 0 1 (e_api_Kept q0) fl36_0 rfl (Nat.le_of_ble_eq_true rfl) rfl), ⟨⟨rfl, trivial⟩, trivial, rfl⟩, rfl,
    Step.plain rfl (does_loadc 3 6 (.int .i64 q0.From) ty3), ⟨⟨rfl, trivial⟩, trivial, rfl⟩, rfl,
    Step.plain rfl (does_bin .eql 3 3 (.tmp 5) (.tmp 7) .i64 p0.From q0.From (.bool (p0.From == q0.From)) trivial trivial (bin_eql _ _ _ _)), ⟨⟨rfl, rfl, trivial⟩, trivial, rfl⟩, rfl,
    Step.plain rfl (does_move (.tmp 8) (.bool (p0.From == q0.From)) trivial), ⟨⟨rfl, trivial⟩, trivial, rfl⟩, rfl,
    Step.guarded rfl rfl rfl rfl (fun hc => does_fieldAddrc 36 1 1 1 (e_api_Kept q0) fl36_1 rfl (Nat.le_of_ble_eq_true rfl) rfl), ⟨⟨rfl, rfl, trivial⟩, trivial, rfl⟩, rfl,
    Step.guarded rfl rfl rfl rfl (fun hc => Does.strip (n' := [(10, (.opt (p0.From == q0.From) (.cptr (.int .u32 q0.Round))))]) (n := [(10, (.cptr (.int .u32 q0.Round)))]) ⟨(.opt _ _ hc), trivial⟩ (does_loadc 23 10 (.int .u32 q0.Round) ty23)), ⟨⟨rfl, rfl, trivial⟩, trivial, rfl⟩, rfl,
    Step.guarded rfl rfl rfl rfl (fun hc => Does.strip (n' := [(11, (.opt (p0.From == q0.From) (.int .u32 q0.Round)))]) (n := [(11, (.int .u32 q0.Round))]) ⟨(.opt _ _ hc), trivial⟩ (does_bin .geq 23 23 (.tmp 11) (.const (.int .u32 3)) .u32 q0.Round 3 (.bool (decide (q0.Round ≥ 3))) trivial (fun _ => rfl) (bin_geq _ _ _ _))), ⟨⟨rfl, rfl, trivial⟩, trivial, rfl⟩, rfl,
    Step.plain rfl (does_and 9 12 (p0.From == q0.From) (decide (q0.Round ≥ 3))), ⟨⟨rfl, rfl, trivial⟩, trivial, rfl⟩, rfl,
    Step.plain rfl (does_move (.tmp 13) (.bool ((p0.From == q0.From) && (decide (q0.Round ≥ 3)))) trivial), ⟨⟨rfl, trivial⟩, trivial, rfl⟩, rfl,
    Step.guarded rfl rfl rfl rfl (fun hc => does_fieldAddr 36 1 1 2 0 0 [] (.var (e_api_Kept p0)) fl36_1), ⟨⟨rfl, rfl, trivial⟩, ⟨rfl, trivial⟩, rfl⟩, rfl,
    Step.guarded rfl rfl rfl rfl (fun hc => Does.strip (n' := [(15, (.opt ((p0.From == q0.From) && (decide (q0.Round ≥ 3))) (.ptr 0 (0 + 1) [1])))]) (n := [(15, (.ptr 0 (0 + 1) [1]))]) ⟨(.opt _ _ hc), trivial⟩ (does_load 23 15 0 (0 + 1) [1] (.var (e_api_Kept p0)) (.int .u32 p0.Round) ⟨rfl, Nat.le_of_ble_eq_true rfl, trivial⟩ rfl rfl ty23)), ⟨⟨rfl, rfl, trivial⟩, ⟨rfl, trivial⟩, rfl⟩, rfl,
    Step.guarded rfl rfl rfl rfl (fun hc => does_fieldAddrc 36 1 1 1 (e_api_Kept q0) fl36_1 rfl (Nat.le_of_ble_eq_true rfl) rfl), ⟨⟨rfl, rfl, trivial⟩, trivial, rfl⟩, rfl,
    Step.guarded rfl rfl rfl rfl (fun hc => Does.strip (n' := [(17, (.opt ((p0.From == q0.From) && (decide (q0.Round ≥ 3))) (.cptr (.int .u32 q0.Round))))]) (n := [(17, (.cptr (.int .u32 q0.Round)))]) ⟨(.opt _ _ hc), trivial⟩ (does_loadc 23 17 (.int .u32 q0.Round) ty23)), ⟨⟨rfl, rfl, trivial⟩, trivial, rfl⟩, rfl,
    Step.guarded rfl rfl rfl rfl (fun hc => Does.strip (n' := [(18, (.opt ((p0.From == q0.From) && (decide (q0.Round ≥ 3))) (.int .u32 q0.Round)))]) (n := [(18, (.int .u32 q0.Round))]) ⟨(.opt _ _ hc), trivial⟩ (does_bin .sub 23 23 (.tmp 18) (.const (.int .u32 3)) .u32 q0.Round 3 (.int .u32 (IntKind.u32.wrap (q0.Round - 3))) trivial (fun _ => rfl) (bin_sub _ _ _ _))), ⟨⟨rfl, rfl, trivial⟩, trivial, rfl⟩, rfl,
    Step.guarded rfl rfl rfl rfl (fun hc => Does.strip (n' := [(16, (.opt ((p0.From == q0.From) && (decide (q0.Round ≥ 3))) (.int .u32 p0.Round))), (19, (.opt ((p0.From == q0.From) && (decide (q0.Round ≥ 3))) (.int .u32 (IntKind.u32.wrap (q0.Round - 3)))))]) (n := [(16, (.int .u32 p0.Round)), (19, (.int .u32 (IntKind.u32.wrap (q0.Round - 3))))]) ⟨(.opt _ _ hc), (.opt _ _ hc), trivial⟩ (does_bin .leq 23 23 (.tmp 16) (.tmp 19) .u32 p0.Round (IntKind.u32.wrap (q0.Round - 3)) (.bool (decide (p0.Round ≤ (IntKind.u32.wrap (q0.Round - 3))))) trivial trivial (bin_leq _ _ _ _))), ⟨⟨rfl, rfl, rfl, trivial⟩, trivial, rfl⟩, rfl,
    Step.plain rfl (does_and 14 20 ((p0.From == q0.From) && (decide (q0.Round ≥ 3))) (decide (p0.Round ≤ (IntKind.u32.wrap (q0.Round - 3))))), ⟨⟨rfl, rfl, trivial⟩, trivial, rfl⟩, rfl,
    Step.plain rfl (does_assign (.tmp 21) (.bool (((p0.From == q0.From) && (decide (q0.Round ≥ 3))) && (decide (p0.Round ≤ (IntKind.u32.wrap (q0.Round - 3)))))) trivial), ⟨⟨rfl, trivial⟩, trivial, rfl⟩, rfl, rfl⟩ ?_
  obtain ⟨v1, hv1, H⟩ := lt_of H
  refine aw_cov (cov_prune (s1 := ⟨[(3, (.bool v1))], [], 1⟩) ⟨(by subst hv1; rfl), trivial⟩ trivial (Nat.le_refl _)) ?_
  refine aw_ret ?_
  exact fun a w hr => ⟨_, [(.bool v1)], hr, ⟨⟨_, rfl, .data (.bool v1) trivial⟩, trivial⟩, by decide, by cases H; rfl⟩

theorem kept_Take_spec (p0 : (_root_.List api_Kept)) (p1 : (Nat → Int)) (p2 : (Nat → Int)) (p3 : api_Kept) (r : (_root_.List api_Kept) × (Nat → Int) × Bool) (H : kept_Take p0 p1 p2 p3 = some r) : FSpecO Try.prog 7 [(e_s_api_Kept p0), (e_a8_u32 p1), (e_a8_u32 p2), (e_api_Kept p3)] [] 0 (resV [(.own 0), (e_a8_u32 r.2.1), (.bool r.2.2)]) [(0, some (.arr 38 r.1.length fun j => (e_api_Kept (r.1.getD j z_api_Kept))))] 2 := by
  refine specO_of (fn := Try.f7) (args := [(e_s_api_Kept p0), (e_a8_u32 p1), (e_a8_u32 p2), (e_api_Kept p3)]) Try.func7 rfl (Nat.le_of_ble_eq_true rfl) ?_
  rintro ⟨G, w0, W, S, Sp⟩ hG
  cases hG
  unfold kept_Take at H
  refine aw_region (es := [_, _, _, _, _, _]) ⟨Step.plain rfl (does_box 25 (.tmp 1) 0 (e_a8_u32 p1) trivial rfl), ⟨⟨rfl, trivial⟩, trivial, rfl⟩, rfl,
    Step.plain rfl (does_box 26 (.tmp 2) 1 (e_a8_u32 p2) trivial rfl), ⟨⟨rfl, trivial⟩, trivial, rfl⟩, rfl,
    Step.plain rfl (does_box 36 (.tmp 3) 2 (e_api_Kept p3) trivial rfl), ⟨⟨rfl, trivial⟩, trivial, rfl⟩, rfl,
    Step.plain rfl (does_nil false 3 38 (fun j => (e_api_Kept (([] : _root_.List api_Kept).getD j z_api_Kept)))), ⟨trivial, trivial, rfl⟩, rfl,
    Step.plain rfl (does_alloc 25 4 (e_a8_u32 (fun _ => 0)) zr25), ⟨trivial, trivial, rfl⟩, rfl,
    Step.plain rfl (does_assign (.const (.bool false)) (.bool false) (fun _ => rfl)), ⟨trivial, trivial, rfl⟩, rfl, rfl⟩ ?_
  refine aw_cov (cov_prune (s1 := ⟨[(0, (e_s_api_Kept p0)), (5, (.ptr 0 0 [])), (6, (.ptr 1 0 [])), (7, (.ptr 2 0 [])), (9, (.ptr 4 0 []))], [(0, some (.var (e_a8_u32 p1))), (1, some (.var (e_a8_u32 p2))), (2, some (.var (e_api_Kept p3))), (4, some (.var (e_a8_u32 (fun _ => 0))))], 5⟩) ⟨rfl, rfl, rfl, rfl, rfl, trivial⟩ ⟨rfl, rfl, rfl, rfl, trivial⟩ (Nat.le_refl _)) ?_
  obtain ⟨v1, h2, H⟩ := bnd H
  refine aw_region (es := [_, _, _]) ⟨Step.plain rfl (does_move (.tmp 0) (e_s_api_Kept p0) trivial), ⟨⟨rfl, trivial⟩, trivial, rfl⟩, rfl,
    Step.plain rfl (does_callO 18 0 (fun _ => .any) (.func 18) [(.tmp 12)] [(e_s_api_Kept p0)] [] [] true [(e_s_api_Kept p0)] _ (.own 5) _ 5 1 _ _ rfl fo18 rfl ⟨trivial, trivial⟩ ⟨.ro _ _ (.data _ (d_s_api_Kept p0)), trivial⟩ (slices_Clone_api_Kept_api_Kept_spec p0 _ h2) rfl (by simp) rfl trivial ⟨⟨Nat.le_of_ble_eq_true rfl, _, rfl, fun _ => (f_api_Kept _)⟩, trivial⟩ (.own 0 (Nat.le_of_ble_eq_true rfl))), ⟨⟨rfl, trivial⟩, trivial, rfl⟩, rfl,
    Step.plain rfl (does_assign (.tmp 13) (.own 5) trivial), ⟨⟨rfl, trivial⟩, trivial, rfl⟩, rfl, rfl⟩ ?_
  refine aw_cov (cov_prune (s1 := ⟨[(5, (.ptr 0 0 [])), (6, (.ptr 1 0 [])), (7, (.ptr 2 0 [])), (9, (.ptr 4 0 [])), (11, (.own 5))], [(0, some (.var (e_a8_u32 p1))), (1, some (.var (e_a8_u32 p2))), (2, some (.var (e_api_Kept p3))), (4, some (.var (e_a8_u32 (fun _ => 0)))), (5, some (.arr 38 v1.length fun j => (e_api_Kept (v1.getD j z_api_Kept))))], 6⟩) ⟨rfl, rfl, rfl, rfl, rfl, trivial⟩ ⟨rfl, rfl, rfl, rfl, rfl, trivial⟩ (Nat.le_refl _)) ?_
  refine aw_seq ?_
  obtain ⟨v3, h4, H⟩ := bnd H
  obtain ⟨v5, h6, H⟩ := bnd H
  obtain ⟨h7, H⟩ := ibg_of H
  obtain ⟨h8, H⟩ := ibg_of H
  refine aw_draw (es := [_, _, _, _, _, _, _, _, _, _, _, _, _, _, _, _, _, _, _, _, _, _, _]) (mixed) ⟨Step.plain rfl (does_load 26 6 1 0 [] (.var (e_a8_u32 p2)) (e_a8_u32 p2) trivial rfl rfl ty26), ⟨⟨rfl, trivial⟩, ⟨rfl, trivial⟩, rfl⟩, rfl,
    Step.plain rfl (does_callO 20 0 (fun _ => .any) (.func 20) [(.tmp 14)] [(e_a8_u32 p2)] [] [] true [(e_a8_u32 p2)] _ (.own 6) _ 6 1 _ _ rfl fo20 rfl ⟨trivial, trivial⟩ ⟨.ro _ _ (.data _ (d_a8_u32 p2)), trivial⟩ (ident_List_spec p2 _ h4) rfl (by simp) rfl trivial ⟨⟨Nat.le_of_ble_eq_true rfl, _, rfl, fun _ => trivial⟩, trivial⟩ (.own 0 (Nat.le_of_ble_eq_true rfl))), ⟨⟨rfl, trivial⟩, trivial, rfl⟩, rfl,
    Step.plain rfl (does_fieldAddr 36 0 0 7 2 0 [] (.var (e_api_Kept p3)) fl36_0), ⟨⟨rfl, trivial⟩, ⟨rfl, trivial⟩, rfl⟩, rfl,
    Step.plain rfl (does_load 3 16 2 (0 + 0) [0] (.var (e_api_Kept p3)) (.int .i64 p3.From) ⟨rfl, Nat.le_of_ble_eq_true rfl, trivial⟩ rfl rfl ty3), ⟨⟨rfl, trivial⟩, ⟨rfl, trivial⟩, rfl⟩, rfl,
    Step.plain rfl (does_call 19 0 (fun _ => .any) (.func 19) [(.tmp 15), (.tmp 17)] [(.own 6), (.int .i64 p3.From)] [(6, (.arr 1 v3.length fun j => (.int .i64 (v3.getD j 0))))] true [(e_s_i64 v3), (.int .i64 p3.From)] (.bool v5) _ _ rfl fo19 rfl ⟨trivial, trivial, trivial⟩ ⟨.own 6 _ _ _ (.head _) rfl (fun _ => trivial), .data _ trivial, trivial⟩ (slices_Contains_int_int_spec v3 p3.From _ h6) trivial), ⟨⟨rfl, rfl, trivial⟩, ⟨rfl, trivial⟩, rfl⟩, rfl,
    Step.plain rfl (does_not 4 (.tmp 18) v5 trivial), ⟨⟨rfl, trivial⟩, trivial, rfl⟩, rfl,
    Step.plain rfl (does_move (.tmp 19) (.bool (!v5)) trivial), ⟨⟨rfl, trivial⟩, trivial, rfl⟩, rfl,
    Step.guarded rfl rfl rfl rfl (fun hc => does_fieldAddr 36 0 0 7 2 0 [] (.var (e_api_Kept p3)) fl36_0), ⟨⟨rfl, rfl, trivial⟩, ⟨rfl, trivial⟩, rfl⟩, rfl,
    Step.guarded rfl rfl rfl rfl (fun hc => Does.strip (n' := [(21, (.opt (!(!v5)) (.ptr 2 (0 + 0) [0])))]) (n := [(21, (.ptr 2 (0 + 0) [0]))]) ⟨(.opt _ _ hc), trivial⟩ (does_load 3 21 2 (0 + 0) [0] (.var (e_api_Kept p3)) (.int .i64 p3.From) ⟨rfl, Nat.le_of_ble_eq_true rfl, trivial⟩ rfl rfl ty3)), ⟨⟨rfl, rfl, trivial⟩, ⟨rfl, trivial⟩, rfl⟩, rfl,
    Step.guarded rfl rfl rfl rfl (fun hc => Does.strip (n' := [(5, (.ptr 0 0 [])), (22, (.opt (!(!v5)) (.int .i64 p3.From)))]) (n := [(5, (.ptr 0 0 [])), (22, (.int .i64 p3.From))]) ⟨(.same _), (.opt _ _ hc), trivial⟩ (does_indexAddr 25 8 1 5 0 0 [] (.var (e_a8_u32 p1)) (.tmp 22) .i64 p3.From el25 trivial (h7 hc).1 (h7 hc).2)), ⟨⟨rfl, rfl, rfl, trivial⟩, ⟨rfl, trivial⟩, rfl⟩, rfl,
    Step.guarded rfl rfl rfl rfl (fun hc => Does.strip (n' := [(23, (.opt (!(!v5)) (.ptr 0 (0 + p3.From.toNat * 1) [p3.From.toNat])))]) (n := [(23, (.ptr 0 (0 + p3.From.toNat * 1) [p3.From.toNat]))]) ⟨(.opt _ _ hc), trivial⟩ (does_load 23 23 0 (0 + p3.From.toNat * 1) [p3.From.toNat] (.var (e_a8_u32 p1)) (.int .u32 (p1 p3.From.toNat)) ⟨rfl, (ixl (h7 hc)), trivial⟩ rfl rfl ty23)), ⟨⟨rfl, rfl, trivial⟩, ⟨rfl, trivial⟩, rfl⟩, rfl,
    Step.guarded rfl rfl rfl rfl (fun hc => Does.strip (n' := [(24, (.opt (!(!v5)) (.int .u32 (p1 p3.From.toNat))))]) (n := [(24, (.int .u32 (p1 p3.From.toNat)))]) ⟨(.opt _ _ hc), trivial⟩ (does_bin .eql 23 23 (.tmp 24) (.const (.int .u32 4294967295)) .u32 (p1 p3.From.toNat) 4294967295 (.bool ((p1 p3.From.toNat) == 4294967295)) trivial (fun _ => rfl) (bin_eql _ _ _ _))), ⟨⟨rfl, rfl, trivial⟩, trivial, rfl⟩, rfl,
    Step.plain rfl (does_or 20 25 (!v5) ((p1 p3.From.toNat) == 4294967295)), ⟨⟨rfl, rfl, trivial⟩, trivial, rfl⟩, rfl,
    Step.plain rfl (does_move (.tmp 26) (.bool ((!v5) || ((p1 p3.From.toNat) == 4294967295))) trivial), ⟨⟨rfl, trivial⟩, trivial, rfl⟩, rfl,
    Step.guarded rfl rfl rfl rfl (fun hc => does_fieldAddr 36 1 1 7 2 0 [] (.var (e_api_Kept p3)) fl36_1), ⟨⟨rfl, rfl, trivial⟩, ⟨rfl, trivial⟩, rfl⟩, rfl,
    Step.guarded rfl rfl rfl rfl (fun hc => Does.strip (n' := [(28, (.opt (!((!v5) || ((p1 p3.From.toNat) == 4294967295))) (.ptr 2 (0 + 1) [1])))]) (n := [(28, (.ptr 2 (0 + 1) [1]))]) ⟨(.opt _ _ hc), trivial⟩ (does_load 23 28 2 (0 + 1) [1] (.var (e_api_Kept p3)) (.int .u32 p3.Round) ⟨rfl, Nat.le_of_ble_eq_true rfl, trivial⟩ rfl rfl ty23)), ⟨⟨rfl, rfl, trivial⟩, ⟨rfl, trivial⟩, rfl⟩, rfl,
    Step.guarded rfl rfl rfl rfl (fun hc => does_fieldAddr 36 0 0 7 2 0 [] (.var (e_api_Kept p3)) fl36_0), ⟨⟨rfl, rfl, trivial⟩, ⟨rfl, trivial⟩, rfl⟩, rfl,
    Step.guarded rfl rfl rfl rfl (fun hc => Does.strip (n' := [(30, (.opt (!((!v5) || ((p1 p3.From.toNat) == 4294967295))) (.ptr 2 (0 + 0) [0])))]) (n := [(30, (.ptr 2 (0 + 0) [0]))]) ⟨(.opt _ _ hc), trivial⟩ (does_load 3 30 2 (0 + 0) [0] (.var (e_api_Kept p3)) (.int .i64 p3.From) ⟨rfl, Nat.le_of_ble_eq_true rfl, trivial⟩ rfl rfl ty3)), ⟨⟨rfl, rfl, trivial⟩, ⟨rfl, trivial⟩, rfl⟩, rfl,
    Step.guarded rfl rfl rfl rfl (fun hc => Does.strip (n' := [(5, (.ptr 0 0 [])), (31, (.opt (!((!v5) || ((p1 p3.From.toNat) == 4294967295))) (.int .i64 p3.From)))]) (n := [(5, (.ptr 0 0 [])), (31, (.int .i64 p3.From))]) ⟨(.same _), (.opt _ _ hc), trivial⟩ (does_indexAddr 25 8 1 5 0 0 [] (.var (e_a8_u32 p1)) (.tmp 31) .i64 p3.From el25 trivial (h8 hc).1 (h8 hc).2)), ⟨⟨rfl, rfl, rfl, trivial⟩, ⟨rfl, trivial⟩, rfl⟩, rfl,
    Step.guarded rfl rfl rfl rfl (fun hc => Does.strip (n' := [(32, (.opt (!((!v5) || ((p1 p3.From.toNat) == 4294967295))) (.ptr 0 (0 + p3.From.toNat * 1) [p3.From.toNat])))]) (n := [(32, (.ptr 0 (0 + p3.From.toNat * 1) [p3.From.toNat]))]) ⟨(.opt _ _ hc), trivial⟩ (does_load 23 32 0 (0 + p3.From.toNat * 1) [p3.From.toNat] (.var (e_a8_u32 p1)) (.int .u32 (p1 p3.From.toNat)) ⟨rfl, (ixl (h8 hc)), trivial⟩ rfl rfl ty23)), ⟨⟨rfl, rfl, trivial⟩, ⟨rfl, trivial⟩, rfl⟩, rfl,
    Step.guarded rfl rfl rfl rfl (fun hc => Does.strip (n' := [(33, (.opt (!((!v5) || ((p1 p3.From.toNat) == 4294967295))) (.int .u32 (p1 p3.From.toNat))))]) (n := [(33, (.int .u32 (p1 p3.From.toNat)))]) ⟨(.opt _ _ hc), trivial⟩ (does_bin .add 23 23 (.tmp 33) (.const (.int .u32 1)) .u32 (p1 p3.From.toNat) 1 (.int .u32 (IntKind.u32.wrap ((p1 p3.From.toNat) + 1))) trivial (fun _ => rfl) (bin_add _ _ _ _))), ⟨⟨rfl, rfl, trivial⟩, trivial, rfl⟩, rfl,
    Step.guarded rfl rfl rfl rfl (fun hc => Does.strip (n' := [(29, (.opt (!((!v5) || ((p1 p3.From.toNat) == 4294967295))) (.int .u32 p3.Round))), (34, (.opt (!((!v5) || ((p1 p3.From.toNat) == 4294967295))) (.int .u32 (IntKind.u32.wrap ((p1 p3.From.toNat) + 1)))))]) (n := [(29, (.int .u32 p3.Round)), (34, (.int .u32 (IntKind.u32.wrap ((p1 p3.From.toNat) + 1))))]) ⟨(.opt _ _ hc), (.opt _ _ hc), trivial⟩ (does_bin .neq 23 23 (.tmp 29) (.tmp 34) .u32 p3.Round (IntKind.u32.wrap ((p1 p3.From.toNat) + 1)) (.bool (p3.Round != (IntKind.u32.wrap ((p1 p3.From.toNat) + 1)))) trivial trivial (bin_neq _ _ _ _))), ⟨⟨rfl, rfl, rfl, trivial⟩, trivial, rfl⟩, rfl,
    Step.plain rfl (does_or 27 35 ((!v5) || ((p1 p3.From.toNat) == 4294967295)) (p3.Round != (IntKind.u32.wrap ((p1 p3.From.toNat) + 1)))), ⟨⟨rfl, rfl, trivial⟩, trivial, rfl⟩, rfl, rfl⟩ rfl ?_
  obtain ⟨v9, hv9, H⟩ := lt_of H
  refine aw_cov (cov_prune (s1 := ⟨[(5, (.ptr 0 0 [])), (7, (.ptr 2 0 [])), (9, (.ptr 4 0 [])), (11, (.own 5)), (36, (.bool v9))], [(0, some (.var (e_a8_u32 p1))), (2, some (.var (e_api_Kept p3))), (4, some (.var (e_a8_u32 (fun _ => 0)))), (5, some (.arr 38 v1.length fun j => (e_api_Kept (v1.getD j z_api_Kept))))], 7⟩) ⟨rfl, rfl, rfl, rfl, (by subst hv9; rfl), trivial⟩ ⟨rfl, rfl, rfl, rfl, trivial⟩ (Nat.le_refl _)) ?_
  refine aw_cond rfl (fun hc => ?_) (fun hc => ?_)
  · replace H := ite_t hc H
    refine aw_draw (es := [_, _, _, _, _]) (mixed) ⟨Step.plain rfl (does_move (.tmp 11) (.own 5) trivial), ⟨⟨rfl, trivial⟩, trivial, rfl⟩, rfl,
      Step.plain rfl (does_load 25 5 0 0 [] (.var (e_a8_u32 p1)) (e_a8_u32 p1) trivial rfl rfl ty25), ⟨⟨rfl, trivial⟩, ⟨rfl, trivial⟩, rfl⟩, rfl,
      Step.plain rfl (does_assign (.tmp 37) (.own 5) trivial), ⟨⟨rfl, trivial⟩, trivial, rfl⟩, rfl,
      Step.plain rfl (does_store 25 9 (.tmp 38) 4 0 [] (.var (e_a8_u32 (fun _ => 0))) (.var (e_a8_u32 p1)) (e_a8_u32 p1) true trivial rfl trivial rfl rfl rfl ty25), ⟨⟨rfl, rfl, trivial⟩, ⟨rfl, trivial⟩, rfl⟩, rfl,
      Step.plain rfl (does_assign (.const (.bool false)) (.bool false) (fun _ => rfl)), ⟨trivial, trivial, rfl⟩, rfl, rfl⟩ rfl ?_
    refine aw_cov (cov_prune (s1 := ⟨[(9, (.ptr 4 0 [])), (8, (.own 5)), (10, (.bool false))], [(4, some (.var (e_a8_u32 p1))), (5, some (.arr 38 v1.length fun j => (e_api_Kept (v1.getD j z_api_Kept))))], 7⟩) ⟨rfl, rfl, rfl, trivial⟩ ⟨rfl, rfl, trivial⟩ (Nat.le_refl _)) ?_
    refine aw_ret ?_
    refine rt_then ?_
    exact fun a w hr => ⟨_, [(.own 0), (e_a8_u32 p1), (.bool false)], reach_of hr (cov_to (s1 := ⟨[(8, (.own 0)), (9, (.ptr 1 0 [])), (10, (.bool false))], [(0, some (.arr 38 v1.length fun j => (e_api_Kept (v1.getD j z_api_Kept)))), (1, some (.var (e_a8_u32 p1)))], 2⟩) (fun i => match i with | 0 => 5 | 1 => 4 | k => k) [] ⟨⟨_, rfl, .own 0 _ _ (Nat.le_of_ble_eq_true rfl) rfl rfl (Box.like_refl _)⟩, ⟨_, rfl, .ptr 1 _ _ _ _ (Nat.le_of_ble_eq_true rfl) rfl rfl⟩, ⟨_, rfl, .plain _ (trivial)⟩, trivial⟩ ⟨⟨Nat.le_of_ble_eq_true rfl, _, _, rfl, rfl, boxTo_arr (fun _ => (d_api_Kept _))⟩, ⟨Nat.le_of_ble_eq_true rfl, _, _, rfl, rfl, boxTo_var ((d_a8_u32 _).plain)⟩, trivial⟩ rfl rfl), ⟨rfl, ⟨1, rfl, rfl, ty25⟩, rfl, trivial⟩, by decide, by cases H; rfl, by cases H; exact ⟨rfl, trivial⟩, Nat.le_of_ble_eq_true rfl⟩
  · replace H := ite_f hc H
    refine aw_skip ?_
    refine nx_seq ?_
    obtain ⟨v10, h11, H⟩ := bnd H
    refine aw_region (es := [_, _, _, _]) ⟨Step.plain rfl (does_move (.tmp 11) (.own 5) trivial), ⟨⟨rfl, trivial⟩, trivial, rfl⟩, rfl,
      Step.plain rfl (does_makeFunc 22 [(.tmp 7)] [(.ptr 2 0 [])] #[(.tmp 7)] rfl ⟨trivial, trivial⟩), ⟨⟨rfl, trivial⟩, trivial, rfl⟩, rfl,
      Step.plain rfl (does_callO 21 0 (fun _ => .any) (.func 21) [(.tmp 39), (.tmp 40)] [(.own 5), (.fn 22 1 (fun j => ([(.ptr 2 0 [])] : _root_.List V).getD j (.bool false)))] [(2, (.var (e_api_Kept p3)))] [(5, (.arr 38 v1.length fun j => (e_api_Kept (v1.getD j z_api_Kept))))] true [(.own 0), (.fn 22 1 (fun j => ([.cptr (e_api_Kept p3)] : _root_.List V).getD j (.bool false)))] _ (.own 7) _ 7 1 _ _ rfl fo21 rfl ⟨trivial, trivial, trivial⟩ ⟨(.mv 0 _ rfl), .ro _ _ (.fn _ _ _ _ (fun j hj => match j, hj with | 0, _ => .ptr 2 0 [] (.var (e_api_Kept p3)) (e_api_Kept p3) (.head _) trivial rfl rfl (d_api_Kept p3) | k + 1, hj => absurd hj (by omega))), trivial⟩ (slices_DeleteFunc_api_Kept_api_Kept_spec v1 (fun z0 => kept_Take_1 z0 p3) 22 1 (fun j => ([.cptr (e_api_Kept p3)] : _root_.List V).getD j (.bool false)) fo22 (fun j => match j with | 0 => .inr ⟨(e_api_Kept p3), (d_api_Kept p3), rfl⟩ | _ + 1 => .inl trivial) (fun z0 r h => kept_Take_1_spec z0 p3 r h) _ h11) rfl (by simp) rfl ⟨(fun _ => (f_api_Kept _)), trivial⟩ ⟨⟨Nat.le_of_ble_eq_true rfl, _, rfl, fun _ => (f_api_Kept _)⟩, trivial⟩ (.own 0 (Nat.le_of_ble_eq_true rfl))), ⟨⟨rfl, rfl, trivial⟩, ⟨rfl, rfl, trivial⟩, rfl⟩, rfl,
      Step.plain rfl (does_assign (.tmp 41) (.own 7) trivial), ⟨⟨rfl, trivial⟩, trivial, rfl⟩, rfl, rfl⟩ ?_
    refine aw_cov (cov_prune (s1 := ⟨[(5, (.ptr 0 0 [])), (7, (.ptr 2 0 [])), (9, (.ptr 4 0 [])), (11, (.own 7))], [(0, some (.var (e_a8_u32 p1))), (2, some (.var (e_api_Kept p3))), (4, some (.var (e_a8_u32 (fun _ => 0)))), (7, some (.arr 38 v10.length fun j => (e_api_Kept (v10.getD j z_api_Kept))))], 8⟩) ⟨rfl, rfl, rfl, rfl, trivial⟩ ⟨rfl, rfl, rfl, rfl, trivial⟩ (Nat.le_refl _)) ?_
    obtain ⟨h12, H⟩ := ib_of H
    refine aw_region (es := [_, _, _, _, _, _]) ⟨Step.plain rfl (does_fieldAddr 36 0 0 7 2 0 [] (.var (e_api_Kept p3)) fl36_0), ⟨⟨rfl, trivial⟩, ⟨rfl, trivial⟩, rfl⟩, rfl,
      Step.plain rfl (does_load 3 42 2 (0 + 0) [0] (.var (e_api_Kept p3)) (.int .i64 p3.From) ⟨rfl, Nat.le_of_ble_eq_true rfl, trivial⟩ rfl rfl ty3), ⟨⟨rfl, trivial⟩, ⟨rfl, trivial⟩, rfl⟩, rfl,
      Step.plain rfl (does_fieldAddr 36 1 1 7 2 0 [] (.var (e_api_Kept p3)) fl36_1), ⟨⟨rfl, trivial⟩, ⟨rfl, trivial⟩, rfl⟩, rfl,
      Step.plain rfl (does_load 23 44 2 (0 + 1) [1] (.var (e_api_Kept p3)) (.int .u32 p3.Round) ⟨rfl, Nat.le_of_ble_eq_true rfl, trivial⟩ rfl rfl ty23), ⟨⟨rfl, trivial⟩, ⟨rfl, trivial⟩, rfl⟩, rfl,
      Step.plain rfl (does_indexAddr 25 8 1 5 0 0 [] (.var (e_a8_u32 p1)) (.tmp 43) .i64 p3.From el25 trivial h12.1 h12.2), ⟨⟨rfl, rfl, trivial⟩, ⟨rfl, trivial⟩, rfl⟩, rfl,
      Step.plain rfl (does_store 23 46 (.tmp 45) 0 (0 + p3.From.toNat * 1) [p3.From.toNat] (.var (e_a8_u32 p1)) (.var (e_a8_u32 (aupd p1 p3.From.toNat p3.Round))) (.int .u32 p3.Round) false trivial rfl ⟨rfl, (ixl h12), trivial⟩ rfl rfl (congrArg Box.var (set_cons rfl (vupd_map (fun z => V.int .u32 z) _ _ _))) ty23), ⟨⟨rfl, rfl, trivial⟩, ⟨rfl, trivial⟩, rfl⟩, rfl, rfl⟩ ?_
    refine aw_cov (cov_prune (s1 := ⟨[(5, (.ptr 0 0 [])), (7, (.ptr 2 0 [])), (9, (.ptr 4 0 [])), (11, (.own 7))], [(0, some (.var (e_a8_u32 (aupd p1 p3.From.toNat p3.Round)))), (2, some (.var (e_api_Kept p3))), (4, some (.var (e_a8_u32 (fun _ => 0)))), (7, some (.arr 38 v10.length fun j => (e_api_Kept (v10.getD j z_api_Kept))))], 8⟩) ⟨rfl, rfl, rfl, rfl, trivial⟩ ⟨rfl, rfl, rfl, rfl, trivial⟩ (Nat.le_refl _)) ?_
    obtain ⟨h13, H⟩ := fit_of H
    refine aw_draw (es := [_, _, _, _, _, _, _, _]) (mixed) ⟨Step.plain rfl (does_move (.tmp 11) (.own 7) trivial), ⟨⟨rfl, trivial⟩, trivial, rfl⟩, rfl,
      Step.plain rfl (does_load 36 7 2 0 [] (.var (e_api_Kept p3)) (e_api_Kept p3) trivial rfl rfl ty36), ⟨⟨rfl, trivial⟩, ⟨rfl, trivial⟩, rfl⟩, rfl,
      Step.plain rfl (does_buildSl 22 1 38 (e_api_Kept z_api_Kept) (fun j => (e_api_Kept (([p3] : _root_.List api_Kept).getD j z_api_Kept))) #[(0, (.tmp 48))] [(0, (.tmp 48))] [(0, (e_api_Kept p3))] rfl so22 (by decide) ⟨⟨rfl, trivial⟩, trivial⟩ ⟨⟨Nat.le_of_ble_eq_true rfl, rfl, rfl⟩, trivial⟩ (fun j h => match j, h with | 0, _ => rfl | k + 1, h => absurd h (by omega))), ⟨⟨rfl, trivial⟩, trivial, rfl⟩, rfl,
      Step.plain rfl (does_appendL e_api_Kept z_api_Kept v10 ([p3] : _root_.List api_Kept) 22 38 352 7 8 47 49 ap22 h13), ⟨⟨rfl, rfl, trivial⟩, ⟨rfl, trivial⟩, rfl⟩, rfl,
      Step.plain rfl (does_load 25 5 0 0 [] (.var (e_a8_u32 (aupd p1 p3.From.toNat p3.Round))) (e_a8_u32 (aupd p1 p3.From.toNat p3.Round)) trivial rfl rfl ty25), ⟨⟨rfl, trivial⟩, ⟨rfl, trivial⟩, rfl⟩, rfl,
      Step.plain rfl (does_assign (.tmp 50) (.own 8) trivial), ⟨⟨rfl, trivial⟩, trivial, rfl⟩, rfl,
      Step.plain rfl (does_store 25 9 (.tmp 51) 4 0 [] (.var (e_a8_u32 (fun _ => 0))) (.var (e_a8_u32 (aupd p1 p3.From.toNat p3.Round))) (e_a8_u32 (aupd p1 p3.From.toNat p3.Round)) true trivial rfl trivial rfl rfl rfl ty25), ⟨⟨rfl, rfl, trivial⟩, ⟨rfl, trivial⟩, rfl⟩, rfl,
      Step.plain rfl (does_assign (.const (.bool true)) (.bool true) (fun _ => rfl)), ⟨trivial, trivial, rfl⟩, rfl, rfl⟩ rfl ?_
    refine aw_cov (cov_prune (s1 := ⟨[(9, (.ptr 4 0 [])), (8, (.own 8)), (10, (.bool true))], [(4, some (.var (e_a8_u32 (aupd p1 p3.From.toNat p3.Round)))), (8, some (.arr 38 (v10 ++ ([p3] : _root_.List api_Kept)).length fun j => (e_api_Kept ((v10 ++ ([p3] : _root_.List api_Kept)).getD j z_api_Kept))))], 9⟩) ⟨rfl, rfl, rfl, trivial⟩ ⟨rfl, rfl, trivial⟩ (Nat.le_refl _)) ?_
    refine aw_ret ?_
    exact fun a w hr => ⟨_, [(.own 0), (e_a8_u32 (aupd p1 p3.From.toNat p3.Round)), (.bool true)], reach_of hr (cov_to (s1 := ⟨[(8, (.own 0)), (9, (.ptr 1 0 [])), (10, (.bool true))], [(0, some (.arr 38 (v10 ++ ([p3] : _root_.List api_Kept)).length fun j => (e_api_Kept ((v10 ++ ([p3] : _root_.List api_Kept)).getD j z_api_Kept)))), (1, some (.var (e_a8_u32 (aupd p1 p3.From.toNat p3.Round))))], 2⟩) (fun i => match i with | 0 => 8 | 1 => 4 | k => k) [] ⟨⟨_, rfl, .own 0 _ _ (Nat.le_of_ble_eq_true rfl) rfl rfl (Box.like_refl _)⟩, ⟨_, rfl, .ptr 1 _ _ _ _ (Nat.le_of_ble_eq_true rfl) rfl rfl⟩, ⟨_, rfl, .plain _ (trivial)⟩, trivial⟩ ⟨⟨Nat.le_of_ble_eq_true rfl, _, _, rfl, rfl, boxTo_arr (fun _ => (d_api_Kept _))⟩, ⟨Nat.le_of_ble_eq_true rfl, _, _, rfl, rfl, boxTo_var ((d_a8_u32 _).plain)⟩, trivial⟩ rfl rfl), ⟨rfl, ⟨1, rfl, rfl, ty25⟩, rfl, trivial⟩, by decide, by cases H; rfl, by cases H; exact ⟨rfl, trivial⟩, Nat.le_of_ble_eq_true rfl⟩

theorem kept_Take_data (p0 : (_root_.List api_Kept)) (p1 : (Nat → Int)) (p2 : (Nat → Int)) (p3 : api_Kept) (r : (_root_.List api_Kept) × (Nat → Int) × Bool) (H : kept_Take p0 p1 p2 p3 = some r) : FSpec Try.prog 7 [(e_s_api_Kept p0), (e_a8_u32 p1), (e_a8_u32 p2), (e_api_Kept p3)] (resV [(e_s_api_Kept r.1), (e_a8_u32 r.2.1), (.bool r.2.2)]) :=
  FSpecO.toData (fz := [0]) (kept_Take_spec p0 p1 p2 p3 r H) (res_data3 (d_s_api_Kept r.1) (d_a8_u32 r.2.1) trivial) (.tup _ _ _ (fun j => match j with | 0 => .frz 0 _ _ _ rfl (fun _ => (d_api_Kept _)) (by decide) | 1 => .plain _ ((d_a8_u32 r.2.1).plain) | 2 => .plain _ (trivial) | _ + 3 => .plain _ trivial))

theorem congressref10_Is_spec (p0 : (Nat → Int)) (p1 : Int) (r : Bool) (H : congressref10_Is p0 p1 = some r) : FSpec Try.prog 15 [(e_a8_u32 p0), (.int .i64 p1)] (.bool r) := by
  refine spec_of (fn := Try.f15) (args := [(e_a8_u32 p0), (.int .i64 p1)]) Try.func15 rfl (Nat.le_of_ble_eq_true rfl) ?_
  rintro ⟨G, w0, W, S, Sp⟩ hG
  cases hG
  unfold congressref10_Is at H
  refine aw_region (es := [_, _]) ⟨Step.plain rfl (does_box 26 (.tmp 0) 0 (e_a8_u32 p0) trivial rfl), ⟨⟨rfl, trivial⟩, trivial, rfl⟩, rfl,
    Step.plain rfl (does_assign (.const (.bool false)) (.bool false) (fun _ => rfl)), ⟨trivial, trivial, rfl⟩, rfl, rfl⟩ ?_
  refine aw_cov (cov_prune (s1 := ⟨[(1, (.int .i64 p1)), (2, (.ptr 0 0 []))], [(0, some (.var (e_a8_u32 p0)))], 1⟩) ⟨rfl, rfl, trivial⟩ ⟨rfl, trivial⟩ (Nat.le_refl _)) ?_
  obtain ⟨h1, H⟩ := ibg_of H
  refine aw_region (es := [_, _, _, _, _, _, _, _, _, _, _, _, _]) ⟨Step.plain rfl (does_move (.tmp 1) (.int .i64 p1) trivial), ⟨⟨rfl, trivial⟩, trivial, rfl⟩, rfl,
    Step.plain rfl (does_bin .geq 3 3 (.tmp 5) (.const (.int .i64 0)) .i64 p1 0 (.bool (decide (p1 ≥ 0))) trivial (fun _ => rfl) (bin_geq _ _ _ _)), ⟨⟨rfl, trivial⟩, trivial, rfl⟩, rfl,
    Step.plain rfl (does_move (.tmp 6) (.bool (decide (p1 ≥ 0))) trivial), ⟨⟨rfl, trivial⟩, trivial, rfl⟩, rfl,
    Step.guarded rfl rfl rfl rfl (fun hc => does_move (.tmp 1) (.int .i64 p1) trivial), ⟨⟨rfl, rfl, trivial⟩, trivial, rfl⟩, rfl,
    Step.guarded rfl rfl rfl rfl (fun hc => Does.strip (n' := [(8, (.opt (decide (p1 ≥ 0)) (.int .i64 p1)))]) (n := [(8, (.int .i64 p1))]) ⟨(.opt _ _ hc), trivial⟩ (does_bin .lss 3 3 (.tmp 8) (.const (.int .i64 8)) .i64 p1 8 (.bool (decide (p1 < 8))) trivial (fun _ => rfl) (bin_lss _ _ _ _))), ⟨⟨rfl, rfl, trivial⟩, trivial, rfl⟩, rfl,
    Step.plain rfl (does_and 7 9 (decide (p1 ≥ 0)) (decide (p1 < 8))), ⟨⟨rfl, rfl, trivial⟩, trivial, rfl⟩, rfl,
    Step.plain rfl (does_move (.tmp 10) (.bool ((decide (p1 ≥ 0)) && (decide (p1 < 8)))) trivial), ⟨⟨rfl, trivial⟩, trivial, rfl⟩, rfl,
    Step.guarded rfl rfl rfl rfl (fun hc => does_move (.tmp 1) (.int .i64 p1) trivial), ⟨⟨rfl, rfl, trivial⟩, trivial, rfl⟩, rfl,
    Step.guarded rfl rfl rfl rfl (fun hc => Does.strip (n' := [(2, (.ptr 0 0 [])), (12, (.opt ((decide (p1 ≥ 0)) && (decide (p1 < 8))) (.int .i64 p1)))]) (n := [(2, (.ptr 0 0 [])), (12, (.int .i64 p1))]) ⟨(.same _), (.opt _ _ hc), trivial⟩ (does_indexAddr 26 8 1 2 0 0 [] (.var (e_a8_u32 p0)) (.tmp 12) .i64 p1 el26 trivial (h1 hc).1 (h1 hc).2)), ⟨⟨rfl, rfl, rfl, trivial⟩, ⟨rfl, trivial⟩, rfl⟩, rfl,
    Step.guarded rfl rfl rfl rfl (fun hc => Does.strip (n' := [(13, (.opt ((decide (p1 ≥ 0)) && (decide (p1 < 8))) (.ptr 0 (0 + p1.toNat * 1) [p1.toNat])))]) (n := [(13, (.ptr 0 (0 + p1.toNat * 1) [p1.toNat]))]) ⟨(.opt _ _ hc), trivial⟩ (does_load 23 13 0 (0 + p1.toNat * 1) [p1.toNat] (.var (e_a8_u32 p0)) (.int .u32 (p0 p1.toNat)) ⟨rfl, (ixl (h1 hc)), trivial⟩ rfl rfl ty23)), ⟨⟨rfl, rfl, trivial⟩, ⟨rfl, trivial⟩, rfl⟩, rfl,
    Step.guarded rfl rfl rfl rfl (fun hc => Does.strip (n' := [(14, (.opt ((decide (p1 ≥ 0)) && (decide (p1 < 8))) (.int .u32 (p0 p1.toNat))))]) (n := [(14, (.int .u32 (p0 p1.toNat)))]) ⟨(.opt _ _ hc), trivial⟩ (does_bin .neq 23 23 (.tmp 14) (.const (.int .u32 0)) .u32 (p0 p1.toNat) 0 (.bool ((p0 p1.toNat) != 0)) trivial (fun _ => rfl) (bin_neq _ _ _ _))), ⟨⟨rfl, rfl, trivial⟩, trivial, rfl⟩, rfl,
    Step.plain rfl (does_and 11 15 ((decide (p1 ≥ 0)) && (decide (p1 < 8))) ((p0 p1.toNat) != 0)), ⟨⟨rfl, rfl, trivial⟩, trivial, rfl⟩, rfl,
    Step.plain rfl (does_assign (.tmp 16) (.bool (((decide (p1 ≥ 0)) && (decide (p1 < 8))) && ((p0 p1.toNat) != 0))) trivial), ⟨⟨rfl, trivial⟩, trivial, rfl⟩, rfl, rfl⟩ ?_
  refine aw_cov (cov_prune (s1 := ⟨[(4, (.bool (((decide (p1 ≥ 0)) && (decide (p1 < 8))) && ((p0 p1.toNat) != 0))))], [], 1⟩) ⟨rfl, trivial⟩ trivial (Nat.le_refl _)) ?_
  refine aw_ret ?_
  exact fun a w hr => ⟨_, [(.bool (((decide (p1 ≥ 0)) && (decide (p1 < 8))) && ((p0 p1.toNat) != 0)))], hr, ⟨⟨_, rfl, .data (.bool (((decide (p1 ≥ 0)) && (decide (p1 < 8))) && ((p0 p1.toNat) != 0))) trivial⟩, trivial⟩, by decide, by cases H; rfl⟩

theorem congressref10_Take_spec (p0 : (_root_.List api_Kept)) (p1 : (Nat → Int)) (p2 : (Nat → Int)) (p3 : api_Kept) (r : (_root_.List api_Kept) × (Nat → Int) × Bool) (H : congressref10_Take p0 p1 p2 p3 = some r) : FSpec Try.prog 8 [(e_s_api_Kept p0), (e_a8_u32 p1), (e_a8_u32 p2), (e_api_Kept p3)] (resV [(e_s_api_Kept r.1), (e_a8_u32 r.2.1), (.bool r.2.2)]) := by
  refine spec_of (fn := Try.f8) (args := [(e_s_api_Kept p0), (e_a8_u32 p1), (e_a8_u32 p2), (e_api_Kept p3)]) Try.func8 rfl (Nat.le_of_ble_eq_true rfl) ?_
  rintro ⟨G, w0, W, S, Sp⟩ hG
  cases hG
  unfold congressref10_Take at H
  refine aw_region (es := [_, _, _, _, _, _]) ⟨Step.plain rfl (does_box 25 (.tmp 1) 0 (e_a8_u32 p1) trivial rfl), ⟨⟨rfl, trivial⟩, trivial, rfl⟩, rfl,
    Step.plain rfl (does_box 26 (.tmp 2) 1 (e_a8_u32 p2) trivial rfl), ⟨⟨rfl, trivial⟩, trivial, rfl⟩, rfl,
    Step.plain rfl (does_box 36 (.tmp 3) 2 (e_api_Kept p3) trivial rfl), ⟨⟨rfl, trivial⟩, trivial, rfl⟩, rfl,
    Step.plain rfl (does_nil false 3 38 (fun j => (e_api_Kept (([] : _root_.List api_Kept).getD j z_api_Kept)))), ⟨trivial, trivial, rfl⟩, rfl,
    Step.plain rfl (does_alloc 25 4 (e_a8_u32 (fun _ => 0)) zr25), ⟨trivial, trivial, rfl⟩, rfl,
    Step.plain rfl (does_assign (.const (.bool false)) (.bool false) (fun _ => rfl)), ⟨trivial, trivial, rfl⟩, rfl, rfl⟩ ?_
  refine aw_cov (cov_prune (s1 := ⟨[(0, (e_s_api_Kept p0)), (5, (.ptr 0 0 [])), (6, (.ptr 1 0 [])), (7, (.ptr 2 0 [])), (9, (.ptr 4 0 []))], [(0, some (.var (e_a8_u32 p1))), (1, some (.var (e_a8_u32 p2))), (2, some (.var (e_api_Kept p3))), (4, some (.var (e_a8_u32 (fun _ => 0))))], 5⟩) ⟨rfl, rfl, rfl, rfl, rfl, trivial⟩ ⟨rfl, rfl, rfl, rfl, trivial⟩ (Nat.le_refl _)) ?_
  refine aw_seq ?_
  obtain ⟨v1, h2, H⟩ := bnd H
  obtain ⟨h3, H⟩ := ibg_of H
  refine aw_draw (es := [_, _, _, _, _, _, _, _, _, _, _, _, _, _, _, _, _]) (mixed) ⟨Step.plain rfl (does_load 26 6 1 0 [] (.var (e_a8_u32 p2)) (e_a8_u32 p2) trivial rfl rfl ty26), ⟨⟨rfl, trivial⟩, ⟨rfl, trivial⟩, rfl⟩, rfl,
    Step.plain rfl (does_fieldAddr 36 0 0 7 2 0 [] (.var (e_api_Kept p3)) fl36_0), ⟨⟨rfl, trivial⟩, ⟨rfl, trivial⟩, rfl⟩, rfl,
    Step.plain rfl (does_load 3 14 2 (0 + 0) [0] (.var (e_api_Kept p3)) (.int .i64 p3.From) ⟨rfl, Nat.le_of_ble_eq_true rfl, trivial⟩ rfl rfl ty3), ⟨⟨rfl, trivial⟩, ⟨rfl, trivial⟩, rfl⟩, rfl,
    Step.plain rfl (does_call 15 0 (fun _ => .any) (.func 15) [(.tmp 13), (.tmp 15)] [(e_a8_u32 p2), (.int .i64 p3.From)] [] true [(e_a8_u32 p2), (.int .i64 p3.From)] (.bool v1) _ _ rfl fo15 rfl ⟨trivial, trivial, trivial⟩ ⟨.data _ (d_a8_u32 p2), .data _ trivial, trivial⟩ (congressref10_Is_spec p2 p3.From _ h2) trivial), ⟨⟨rfl, rfl, trivial⟩, trivial, rfl⟩, rfl,
    Step.plain rfl (does_not 4 (.tmp 16) v1 trivial), ⟨⟨rfl, trivial⟩, trivial, rfl⟩, rfl,
    Step.plain rfl (does_move (.tmp 17) (.bool (!v1)) trivial), ⟨⟨rfl, trivial⟩, trivial, rfl⟩, rfl,
    Step.guarded rfl rfl rfl rfl (fun hc => does_fieldAddr 36 1 1 7 2 0 [] (.var (e_api_Kept p3)) fl36_1), ⟨⟨rfl, rfl, trivial⟩, ⟨rfl, trivial⟩, rfl⟩, rfl,
    Step.guarded rfl rfl rfl rfl (fun hc => Does.strip (n' := [(19, (.opt (!(!v1)) (.ptr 2 (0 + 1) [1])))]) (n := [(19, (.ptr 2 (0 + 1) [1]))]) ⟨(.opt _ _ hc), trivial⟩ (does_load 23 19 2 (0 + 1) [1] (.var (e_api_Kept p3)) (.int .u32 p3.Round) ⟨rfl, Nat.le_of_ble_eq_true rfl, trivial⟩ rfl rfl ty23)), ⟨⟨rfl, rfl, trivial⟩, ⟨rfl, trivial⟩, rfl⟩, rfl,
    Step.guarded rfl rfl rfl rfl (fun hc => Does.strip (n' := [(20, (.opt (!(!v1)) (.int .u32 p3.Round)))]) (n := [(20, (.int .u32 p3.Round))]) ⟨(.opt _ _ hc), trivial⟩ (does_convInt 23 29 (.tmp 20) .u32 .u64 p3.Round trivial rfl rfl)), ⟨⟨rfl, rfl, trivial⟩, trivial, rfl⟩, rfl,
    Step.guarded rfl rfl rfl rfl (fun hc => does_fieldAddr 36 0 0 7 2 0 [] (.var (e_api_Kept p3)) fl36_0), ⟨⟨rfl, rfl, trivial⟩, ⟨rfl, trivial⟩, rfl⟩, rfl,
    Step.guarded rfl rfl rfl rfl (fun hc => Does.strip (n' := [(22, (.opt (!(!v1)) (.ptr 2 (0 + 0) [0])))]) (n := [(22, (.ptr 2 (0 + 0) [0]))]) ⟨(.opt _ _ hc), trivial⟩ (does_load 3 22 2 (0 + 0) [0] (.var (e_api_Kept p3)) (.int .i64 p3.From) ⟨rfl, Nat.le_of_ble_eq_true rfl, trivial⟩ rfl rfl ty3)), ⟨⟨rfl, rfl, trivial⟩, ⟨rfl, trivial⟩, rfl⟩, rfl,
    Step.guarded rfl rfl rfl rfl (fun hc => Does.strip (n' := [(5, (.ptr 0 0 [])), (23, (.opt (!(!v1)) (.int .i64 p3.From)))]) (n := [(5, (.ptr 0 0 [])), (23, (.int .i64 p3.From))]) ⟨(.same _), (.opt _ _ hc), trivial⟩ (does_indexAddr 25 8 1 5 0 0 [] (.var (e_a8_u32 p1)) (.tmp 23) .i64 p3.From el25 trivial (h3 hc).1 (h3 hc).2)), ⟨⟨rfl, rfl, rfl, trivial⟩, ⟨rfl, trivial⟩, rfl⟩, rfl,
    Step.guarded rfl rfl rfl rfl (fun hc => Does.strip (n' := [(24, (.opt (!(!v1)) (.ptr 0 (0 + p3.From.toNat * 1) [p3.From.toNat])))]) (n := [(24, (.ptr 0 (0 + p3.From.toNat * 1) [p3.From.toNat]))]) ⟨(.opt _ _ hc), trivial⟩ (does_load 23 24 0 (0 + p3.From.toNat * 1) [p3.From.toNat] (.var (e_a8_u32 p1)) (.int .u32 (p1 p3.From.toNat)) ⟨rfl, (ixl (h3 hc)), trivial⟩ rfl rfl ty23)), ⟨⟨rfl, rfl, trivial⟩, ⟨rfl, trivial⟩, rfl⟩, rfl,
    Step.guarded rfl rfl rfl rfl (fun hc => Does.strip (n' := [(25, (.opt (!(!v1)) (.int .u32 (p1 p3.From.toNat))))]) (n := [(25, (.int .u32 (p1 p3.From.toNat)))]) ⟨(.opt _ _ hc), trivial⟩ (does_convInt 23 29 (.tmp 25) .u32 .u64 (p1 p3.From.toNat) trivial rfl rfl)), ⟨⟨rfl, rfl, trivial⟩, trivial, rfl⟩, rfl,
    Step.guarded rfl rfl rfl rfl (fun hc => Does.strip (n' := [(26, (.opt (!(!v1)) (.int .u64 (IntKind.u64.wrap (p1 p3.From.toNat)))))]) (n := [(26, (.int .u64 (IntKind.u64.wrap (p1 p3.From.toNat))))]) ⟨(.opt _ _ hc), trivial⟩ (does_bin .add 29 29 (.tmp 26) (.const (.int .u64 1)) .u64 (IntKind.u64.wrap (p1 p3.From.toNat)) 1 (.int .u64 (IntKind.u64.wrap ((IntKind.u64.wrap (p1 p3.From.toNat)) + 1))) trivial (fun _ => rfl) (bin_add _ _ _ _))), ⟨⟨rfl, rfl, trivial⟩, trivial, rfl⟩, rfl,
    Step.guarded rfl rfl rfl rfl (fun hc => Does.strip (n' := [(21, (.opt (!(!v1)) (.int .u64 (IntKind.u64.wrap (p3.Round))))), (27, (.opt (!(!v1)) (.int .u64 (IntKind.u64.wrap ((IntKind.u64.wrap (p1 p3.From.toNat)) + 1)))))]) (n := [(21, (.int .u64 (IntKind.u64.wrap (p3.Round)))), (27, (.int .u64 (IntKind.u64.wrap ((IntKind.u64.wrap (p1 p3.From.toNat)) + 1))))]) ⟨(.opt _ _ hc), (.opt _ _ hc), trivial⟩ (does_bin .neq 29 29 (.tmp 21) (.tmp 27) .u64 (IntKind.u64.wrap (p3.Round)) (IntKind.u64.wrap ((IntKind.u64.wrap (p1 p3.From.toNat)) + 1)) (.bool ((IntKind.u64.wrap (p3.Round)) != (IntKind.u64.wrap ((IntKind.u64.wrap (p1 p3.From.toNat)) + 1)))) trivial trivial (bin_neq _ _ _ _))), ⟨⟨rfl, rfl, rfl, trivial⟩, trivial, rfl⟩, rfl,
    Step.plain rfl (does_or 18 28 (!v1) ((IntKind.u64.wrap (p3.Round)) != (IntKind.u64.wrap ((IntKind.u64.wrap (p1 p3.From.toNat)) + 1)))), ⟨⟨rfl, rfl, trivial⟩, trivial, rfl⟩, rfl, rfl⟩ rfl ?_
  obtain ⟨v4, hv4, H⟩ := lt_of H
  refine aw_cov (cov_prune (s1 := ⟨[(0, (e_s_api_Kept p0)), (5, (.ptr 0 0 [])), (7, (.ptr 2 0 [])), (9, (.ptr 4 0 [])), (29, (.bool v4))], [(0, some (.var (e_a8_u32 p1))), (2, some (.var (e_api_Kept p3))), (4, some (.var (e_a8_u32 (fun _ => 0))))], 5⟩) ⟨rfl, rfl, rfl, rfl, (by subst hv4; rfl), trivial⟩ ⟨rfl, rfl, rfl, trivial⟩ (Nat.le_refl _)) ?_
  refine aw_cond rfl (fun hc => ?_) (fun hc => ?_)
  · replace H := ite_t hc H
    refine aw_draw (es := [_, _, _, _, _]) (mixed) ⟨Step.plain rfl (does_move (.tmp 0) (e_s_api_Kept p0) trivial), ⟨⟨rfl, trivial⟩, trivial, rfl⟩, rfl,
      Step.plain rfl (does_load 25 5 0 0 [] (.var (e_a8_u32 p1)) (e_a8_u32 p1) trivial rfl rfl ty25), ⟨⟨rfl, trivial⟩, ⟨rfl, trivial⟩, rfl⟩, rfl,
      Step.plain rfl (does_assign (.tmp 30) (e_s_api_Kept p0) trivial), ⟨⟨rfl, trivial⟩, trivial, rfl⟩, rfl,
      Step.plain rfl (does_store 25 9 (.tmp 31) 4 0 [] (.var (e_a8_u32 (fun _ => 0))) (.var (e_a8_u32 p1)) (e_a8_u32 p1) true trivial rfl trivial rfl rfl rfl ty25), ⟨⟨rfl, rfl, trivial⟩, ⟨rfl, trivial⟩, rfl⟩, rfl,
      Step.plain rfl (does_assign (.const (.bool false)) (.bool false) (fun _ => rfl)), ⟨trivial, trivial, rfl⟩, rfl, rfl⟩ rfl ?_
    refine aw_cov (cov_prune (s1 := ⟨[(9, (.ptr 4 0 [])), (8, (e_s_api_Kept p0)), (10, (.bool false))], [(4, some (.var (e_a8_u32 p1)))], 5⟩) ⟨rfl, rfl, rfl, trivial⟩ ⟨rfl, trivial⟩ (Nat.le_refl _)) ?_
    refine aw_ret ?_
    refine rt_then ?_
    exact fun a w hr => ⟨_, [(e_s_api_Kept p0), (e_a8_u32 p1), (.bool false)], hr, ⟨⟨_, rfl, .data (e_s_api_Kept p0) (d_s_api_Kept p0)⟩, ⟨4, _, rfl, rfl, .data _ (d_a8_u32 p1), ty25⟩, ⟨_, rfl, .data (.bool false) trivial⟩, trivial⟩, by decide, by cases H; rfl⟩
  · replace H := ite_f hc H
    refine aw_skip ?_
    refine nx_seq ?_
    refine aw_region (es := [_, _]) ⟨Step.plain rfl (does_buildOwn 22 0 38 5 (e_api_Kept z_api_Kept) (fun j => (e_api_Kept (([] : _root_.List api_Kept).getD j z_api_Kept))) #[] [] [] rfl so22 (by decide) trivial trivial (fun j h => match j, h with  | k + 0, h => absurd h (by omega))), ⟨trivial, trivial, rfl⟩, rfl,
      Step.plain rfl (does_assign (.tmp 32) (.own 5) trivial), ⟨⟨rfl, trivial⟩, trivial, rfl⟩, rfl, rfl⟩ ?_
    refine aw_cov (cov_prune (s1 := ⟨[(0, (e_s_api_Kept p0)), (5, (.ptr 0 0 [])), (7, (.ptr 2 0 [])), (9, (.ptr 4 0 [])), (11, (.own 5))], [(0, some (.var (e_a8_u32 p1))), (2, some (.var (e_api_Kept p3))), (4, some (.var (e_a8_u32 (fun _ => 0)))), (5, some (.arr 38 ([] : _root_.List api_Kept).length fun j => (e_api_Kept (([] : _root_.List api_Kept).getD j z_api_Kept))))], 6⟩) ⟨rfl, rfl, rfl, rfl, rfl, trivial⟩ ⟨rfl, rfl, rfl, rfl, trivial⟩ (Nat.le_refl _)) ?_
    refine aw_seq ?_
    refine aw_region (es := [_]) ⟨Step.plain rfl (does_assign (.const (.int .i64 0)) (.int .i64 0) (fun _ => rfl)), ⟨trivial, trivial, rfl⟩, rfl, rfl⟩ ?_
    refine aw_cov (cov_prune (s1 := ⟨[(0, (e_s_api_Kept p0)), (5, (.ptr 0 0 [])), (7, (.ptr 2 0 [])), (9, (.ptr 4 0 [])), (11, (.own 5)), (12, (.int .i64 0))], [(0, some (.var (e_a8_u32 p1))), (2, some (.var (e_api_Kept p3))), (4, some (.var (e_a8_u32 (fun _ => 0)))), (5, some (.arr 38 ([] : _root_.List api_Kept).length fun j => (e_api_Kept (([] : _root_.List api_Kept).getD j z_api_Kept))))], 6⟩) ⟨rfl, rfl, rfl, rfl, rfl, rfl, trivial⟩ ⟨rfl, rfl, rfl, rfl, trivial⟩ (Nat.le_refl _)) ?_
    obtain ⟨wn6, hwn6, Hrn6⟩ := bnd H
    refine aw_meet (fun y14 : _root_.List api_Kept => (⟨[(5, (.ptr 0 0 [])), (7, (.ptr 2 0 [])), (9, (.ptr 4 0 [])), (11, (.own 5))], [(0, some (.var (e_a8_u32 p1))), (2, some (.var (e_api_Kept p3))), (4, some (.var (e_a8_u32 (fun _ => 0)))), (5, some (.arr 38 y14.length fun j => (e_api_Kept (y14.getD j z_api_Kept))))], 6⟩ : St)) (fun y14 => Fl.nx y14 = wn6) (fun y14 hy => ?_) (aw_block (aw_runs (fun x5 : Int × _root_.List api_Kept => (⟨[(0, (e_s_api_Kept p0)), (5, (.ptr 0 0 [])), (7, (.ptr 2 0 [])), (9, (.ptr 4 0 [])), (11, (.own 5)), (12, (.int .i64 x5.1))], [(0, some (.var (e_a8_u32 p1))), (2, some (.var (e_api_Kept p3))), (4, some (.var (e_a8_u32 (fun _ => 0)))), (5, some (.arr 38 x5.2.length fun j => (e_api_Kept (x5.2.getD j z_api_Kept))))], 6⟩ : St)) hwn6 (cov_prune ⟨rfl, rfl, rfl, rfl, rfl, rfl, trivial⟩ ⟨rfl, rfl, rfl, rfl, trivial⟩ (Nat.le_of_ble_eq_true rfl)) (fun x5 st H hsn6 => ?_)))
    · have H := nx_of hy Hrn6
      refine nx_seq ?_
      obtain ⟨h15, H⟩ := fit_of H
      refine aw_region (es := [_, _, _, _, _]) ⟨Step.plain rfl (does_move (.tmp 11) (.own 5) trivial), ⟨⟨rfl, trivial⟩, trivial, rfl⟩, rfl,
        Step.plain rfl (does_load 36 7 2 0 [] (.var (e_api_Kept p3)) (e_api_Kept p3) trivial rfl rfl ty36), ⟨⟨rfl, trivial⟩, ⟨rfl, trivial⟩, rfl⟩, rfl,
        Step.plain rfl (does_buildSl 22 1 38 (e_api_Kept z_api_Kept) (fun j => (e_api_Kept (([p3] : _root_.List api_Kept).getD j z_api_Kept))) #[(0, (.tmp 68))] [(0, (.tmp 68))] [(0, (e_api_Kept p3))] rfl so22 (by decide) ⟨⟨rfl, trivial⟩, trivial⟩ ⟨⟨Nat.le_of_ble_eq_true rfl, rfl, rfl⟩, trivial⟩ (fun j h => match j, h with | 0, _ => rfl | k + 1, h => absurd h (by omega))), ⟨⟨rfl, trivial⟩, trivial, rfl⟩, rfl,
        Step.plain rfl (does_appendL e_api_Kept z_api_Kept y14 ([p3] : _root_.List api_Kept) 22 38 352 5 6 67 69 ap22 h15), ⟨⟨rfl, rfl, trivial⟩, ⟨rfl, trivial⟩, rfl⟩, rfl,
        Step.plain rfl (does_assign (.tmp 70) (.own 6) trivial), ⟨⟨rfl, trivial⟩, trivial, rfl⟩, rfl, rfl⟩ ?_
      refine aw_cov (cov_prune (s1 := ⟨[(5, (.ptr 0 0 [])), (7, (.ptr 2 0 [])), (9, (.ptr 4 0 [])), (11, (.own 6))], [(0, some (.var (e_a8_u32 p1))), (2, some (.var (e_api_Kept p3))), (4, some (.var (e_a8_u32 (fun _ => 0)))), (6, some (.arr 38 (y14 ++ ([p3] : _root_.List api_Kept)).length fun j => (e_api_Kept ((y14 ++ ([p3] : _root_.List api_Kept)).getD j z_api_Kept))))], 7⟩) ⟨rfl, rfl, rfl, rfl, trivial⟩ ⟨rfl, rfl, rfl, rfl, trivial⟩ (Nat.le_refl _)) ?_
      obtain ⟨h16, H⟩ := ib_of H
      refine aw_region (es := [_, _, _, _, _, _]) ⟨Step.plain rfl (does_fieldAddr 36 0 0 7 2 0 [] (.var (e_api_Kept p3)) fl36_0), ⟨⟨rfl, trivial⟩, ⟨rfl, trivial⟩, rfl⟩, rfl,
        Step.plain rfl (does_load 3 71 2 (0 + 0) [0] (.var (e_api_Kept p3)) (.int .i64 p3.From) ⟨rfl, Nat.le_of_ble_eq_true rfl, trivial⟩ rfl rfl ty3), ⟨⟨rfl, trivial⟩, ⟨rfl, trivial⟩, rfl⟩, rfl,
        Step.plain rfl (does_fieldAddr 36 1 1 7 2 0 [] (.var (e_api_Kept p3)) fl36_1), ⟨⟨rfl, trivial⟩, ⟨rfl, trivial⟩, rfl⟩, rfl,
        Step.plain rfl (does_load 23 73 2 (0 + 1) [1] (.var (e_api_Kept p3)) (.int .u32 p3.Round) ⟨rfl, Nat.le_of_ble_eq_true rfl, trivial⟩ rfl rfl ty23), ⟨⟨rfl, trivial⟩, ⟨rfl, trivial⟩, rfl⟩, rfl,
        Step.plain rfl (does_indexAddr 25 8 1 5 0 0 [] (.var (e_a8_u32 p1)) (.tmp 72) .i64 p3.From el25 trivial h16.1 h16.2), ⟨⟨rfl, rfl, trivial⟩, ⟨rfl, trivial⟩, rfl⟩, rfl,
        Step.plain rfl (does_store 23 75 (.tmp 74) 0 (0 + p3.From.toNat * 1) [p3.From.toNat] (.var (e_a8_u32 p1)) (.var (e_a8_u32 (aupd p1 p3.From.toNat p3.Round))) (.int .u32 p3.Round) false trivial rfl ⟨rfl, (ixl h16), trivial⟩ rfl rfl (congrArg Box.var (set_cons rfl (vupd_map (fun z => V.int .u32 z) _ _ _))) ty23), ⟨⟨rfl, rfl, trivial⟩, ⟨rfl, trivial⟩, rfl⟩, rfl, rfl⟩ ?_
      refine aw_cov (cov_prune (s1 := ⟨[(5, (.ptr 0 0 [])), (9, (.ptr 4 0 [])), (11, (.own 6))], [(0, some (.var (e_a8_u32 (aupd p1 p3.From.toNat p3.Round)))), (4, some (.var (e_a8_u32 (fun _ => 0)))), (6, some (.arr 38 (y14 ++ ([p3] : _root_.List api_Kept)).length fun j => (e_api_Kept ((y14 ++ ([p3] : _root_.List api_Kept)).getD j z_api_Kept))))], 7⟩) ⟨rfl, rfl, rfl, trivial⟩ ⟨rfl, rfl, rfl, trivial⟩ (Nat.le_refl _)) ?_
      refine aw_draw (es := [_, _, _, _, _]) (mixed) ⟨Step.plain rfl (does_move (.tmp 11) (.own 6) trivial), ⟨⟨rfl, trivial⟩, trivial, rfl⟩, rfl,
        Step.plain rfl (does_load 25 5 0 0 [] (.var (e_a8_u32 (aupd p1 p3.From.toNat p3.Round))) (e_a8_u32 (aupd p1 p3.From.toNat p3.Round)) trivial rfl rfl ty25), ⟨⟨rfl, trivial⟩, ⟨rfl, trivial⟩, rfl⟩, rfl,
        Step.plain rfl (does_assign (.tmp 76) (.own 6) trivial), ⟨⟨rfl, trivial⟩, trivial, rfl⟩, rfl,
        Step.plain rfl (does_store 25 9 (.tmp 77) 4 0 [] (.var (e_a8_u32 (fun _ => 0))) (.var (e_a8_u32 (aupd p1 p3.From.toNat p3.Round))) (e_a8_u32 (aupd p1 p3.From.toNat p3.Round)) true trivial rfl trivial rfl rfl rfl ty25), ⟨⟨rfl, rfl, trivial⟩, ⟨rfl, trivial⟩, rfl⟩, rfl,
        Step.plain rfl (does_assign (.const (.bool true)) (.bool true) (fun _ => rfl)), ⟨trivial, trivial, rfl⟩, rfl, rfl⟩ rfl ?_
      refine aw_cov (cov_prune (s1 := ⟨[(9, (.ptr 4 0 [])), (8, (.own 6)), (10, (.bool true))], [(4, some (.var (e_a8_u32 (aupd p1 p3.From.toNat p3.Round)))), (6, some (.arr 38 (y14 ++ ([p3] : _root_.List api_Kept)).length fun j => (e_api_Kept ((y14 ++ ([p3] : _root_.List api_Kept)).getD j z_api_Kept))))], 7⟩) ⟨rfl, rfl, rfl, trivial⟩ ⟨rfl, rfl, trivial⟩ (Nat.le_refl _)) ?_
      refine aw_ret ?_
      exact fun a w hr => ⟨_, [(e_s_api_Kept (y14 ++ ([p3] : _root_.List api_Kept))), (e_a8_u32 (aupd p1 p3.From.toNat p3.Round)), (.bool true)], hr, ⟨⟨_, rfl, .own _ _ _ _ rfl (fun _ => (d_api_Kept _))⟩, ⟨4, _, rfl, rfl, .data _ (d_a8_u32 (aupd p1 p3.From.toNat p3.Round)), ty25⟩, ⟨_, rfl, .data (.bool true) trivial⟩, trivial⟩, by decide, by cases H; rfl⟩
    · refine aw_seq ?_
      refine aw_region (es := [_, _, _, _]) ⟨Step.plain rfl (does_move (.tmp 12) (.int .i64 x5.1) trivial), ⟨⟨rfl, trivial⟩, trivial, rfl⟩, rfl,
        Step.plain rfl (does_move (.tmp 0) (e_s_api_Kept p0) trivial), ⟨⟨rfl, trivial⟩, trivial, rfl⟩, rfl,
        Step.plain rfl (does_lens 22 38 p0.length 34 (fun j => (e_api_Kept (p0.getD j z_api_Kept))) el22), ⟨⟨rfl, trivial⟩, trivial, rfl⟩, rfl,
        Step.plain rfl (does_bin .lss 3 3 (.tmp 33) (.tmp 35) .i64 x5.1 (p0.length : Int) (.bool (decide (x5.1 < (p0.length : Int)))) trivial trivial (bin_lss _ _ _ _)), ⟨⟨rfl, rfl, trivial⟩, trivial, rfl⟩, rfl, rfl⟩ ?_
      refine aw_cov (cov_prune (s1 := ⟨[(0, (e_s_api_Kept p0)), (5, (.ptr 0 0 [])), (7, (.ptr 2 0 [])), (9, (.ptr 4 0 [])), (11, (.own 5)), (12, (.int .i64 x5.1)), (36, (.bool (decide (x5.1 < (p0.length : Int)))))], [(0, some (.var (e_a8_u32 p1))), (2, some (.var (e_api_Kept p3))), (4, some (.var (e_a8_u32 (fun _ => 0)))), (5, some (.arr 38 x5.2.length fun j => (e_api_Kept (x5.2.getD j z_api_Kept))))], 6⟩) ⟨rfl, rfl, rfl, rfl, rfl, rfl, rfl, trivial⟩ ⟨rfl, rfl, rfl, rfl, trivial⟩ (Nat.le_refl _)) ?_
      refine aw_cond rfl (fun hc => ?_) (fun hc => ?_)
      · replace H := ite_t hc H
        refine aw_skip ?_
        refine nx_seq ?_
        refine aw_seq ?_
        refine aw_jn (fun x13 : _root_.List api_Kept => (⟨[(0, (e_s_api_Kept p0)), (5, (.ptr 0 0 [])), (7, (.ptr 2 0 [])), (9, (.ptr 4 0 [])), (11, (.own 5)), (12, (.int .i64 x5.1))], [(0, some (.var (e_a8_u32 p1))), (2, some (.var (e_api_Kept p3))), (4, some (.var (e_a8_u32 (fun _ => 0)))), (5, some (.arr 38 x13.length fun j => (e_api_Kept (x13.getD j z_api_Kept))))], 7⟩ : St)) H (fun x13 H => ?_) (fun j7 H => ?_)
        · refine nx_seq ?_
          refine aw_region1 (es := [_, _, _]) ⟨Step.plain rfl (does_move (.tmp 12) (.int .i64 x5.1) trivial), ⟨⟨rfl, trivial⟩, trivial, rfl⟩, rfl,
            Step.plain rfl (does_bin .add 3 3 (.tmp 37) (.const (.int .i64 1)) .i64 x5.1 1 (.int .i64 (IntKind.i64.wrap (x5.1 + 1))) trivial (fun _ => rfl) (bin_add _ _ _ _)), ⟨⟨rfl, trivial⟩, trivial, rfl⟩, rfl,
            Step.plain rfl (does_assign (.tmp 38) (.int .i64 (IntKind.i64.wrap (x5.1 + 1))) trivial), ⟨⟨rfl, trivial⟩, trivial, rfl⟩, rfl, rfl⟩ ?_
          exact nx_loop ((IntKind.i64.wrap (x5.1 + 1)), x13) H (cov_of (fun i => match i with | 0 => 0 | 2 => 2 | 4 => 4 | 5 => 5 | k => k) ⟨⟨_, rfl, ⟨rfl, (d_s_api_Kept _).plain⟩⟩, ⟨_, rfl, ⟨rfl, Nat.le_of_ble_eq_true rfl⟩⟩, ⟨_, rfl, ⟨rfl, Nat.le_of_ble_eq_true rfl⟩⟩, ⟨_, rfl, ⟨rfl, Nat.le_of_ble_eq_true rfl⟩⟩, ⟨_, rfl, ⟨rfl, Nat.le_of_ble_eq_true rfl⟩⟩, ⟨_, rfl, ⟨rfl, trivial⟩⟩, trivial⟩ ⟨⟨Nat.le_of_ble_eq_true rfl, _, _, rfl, rfl, .inl ⟨rfl, (d_a8_u32 _).plain⟩⟩, ⟨Nat.le_of_ble_eq_true rfl, _, _, rfl, rfl, .inl ⟨rfl, (d_api_Kept _).plain⟩⟩, ⟨Nat.le_of_ble_eq_true rfl, _, _, rfl, rfl, .inl ⟨rfl, (d_a8_u32 _).plain⟩⟩, ⟨Nat.le_of_ble_eq_true rfl, _, _, rfl, rfl, ⟨rfl, rfl, fun _ => .inl ⟨rfl, (d_api_Kept _).plain⟩⟩⟩, trivial⟩ rfl)
        · refine aw_block ?_
          obtain ⟨h8, H⟩ := ib_of H
          obtain ⟨h9, H⟩ := ibg_of H
          refine aw_draw (es := [_, _, _, _, _, _, _, _, _, _, _, _, _, _, _, _, _, _, _, _, _]) (mixed) ⟨Step.plain rfl (does_move (.tmp 0) (e_s_api_Kept p0) trivial), ⟨⟨rfl, trivial⟩, trivial, rfl⟩, rfl,
            Step.plain rfl (does_move (.tmp 12) (.int .i64 x5.1) trivial), ⟨⟨rfl, trivial⟩, trivial, rfl⟩, rfl,
            Step.plain rfl (does_indexAddrs 22 38 p0.length 39 (fun j => (e_api_Kept (p0.getD j z_api_Kept))) (.tmp 40) .i64 x5.1 el22 trivial h8.1 h8.2), ⟨⟨rfl, rfl, trivial⟩, trivial, rfl⟩, rfl,
            Step.plain rfl (does_fieldAddrc 36 0 0 41 (e_api_Kept (p0.getD x5.1.toNat z_api_Kept)) fl36_0 rfl (Nat.le_of_ble_eq_true rfl) rfl), ⟨⟨rfl, trivial⟩, trivial, rfl⟩, rfl,
            Step.plain rfl (does_loadc 3 42 (.int .i64 ((p0.getD x5.1.toNat z_api_Kept).From)) ty3), ⟨⟨rfl, trivial⟩, trivial, rfl⟩, rfl,
            Step.plain rfl (does_fieldAddr 36 0 0 7 2 0 [] (.var (e_api_Kept p3)) fl36_0), ⟨⟨rfl, trivial⟩, ⟨rfl, trivial⟩, rfl⟩, rfl,
            Step.plain rfl (does_load 3 44 2 (0 + 0) [0] (.var (e_api_Kept p3)) (.int .i64 p3.From) ⟨rfl, Nat.le_of_ble_eq_true rfl, trivial⟩ rfl rfl ty3), ⟨⟨rfl, trivial⟩, ⟨rfl, trivial⟩, rfl⟩, rfl,
            Step.plain rfl (does_bin .neq 3 3 (.tmp 43) (.tmp 45) .i64 ((p0.getD x5.1.toNat z_api_Kept).From) p3.From (.bool (((p0.getD x5.1.toNat z_api_Kept).From) != p3.From)) trivial trivial (bin_neq _ _ _ _)), ⟨⟨rfl, rfl, trivial⟩, trivial, rfl⟩, rfl,
            Step.plain rfl (does_move (.tmp 46) (.bool (((p0.getD x5.1.toNat z_api_Kept).From) != p3.From)) trivial), ⟨⟨rfl, trivial⟩, trivial, rfl⟩, rfl,
            Step.guarded rfl rfl rfl rfl (fun hc => does_move (.tmp 0) (e_s_api_Kept p0) trivial), ⟨⟨rfl, rfl, trivial⟩, trivial, rfl⟩, rfl,
            Step.guarded rfl rfl rfl rfl (fun hc => does_move (.tmp 12) (.int .i64 x5.1) trivial), ⟨⟨rfl, rfl, trivial⟩, trivial, rfl⟩, rfl,
            Step.guarded rfl rfl rfl rfl (fun hc => Does.strip (n' := [(48, (.opt (!(((p0.getD x5.1.toNat z_api_Kept).From) != p3.From)) (e_s_api_Kept p0))), (49, (.opt (!(((p0.getD x5.1.toNat z_api_Kept).From) != p3.From)) (.int .i64 x5.1)))]) (n := [(48, (e_s_api_Kept p0)), (49, (.int .i64 x5.1))]) ⟨(.opt _ _ hc), (.opt _ _ hc), trivial⟩ (does_indexAddrs 22 38 p0.length 48 (fun j => (e_api_Kept (p0.getD j z_api_Kept))) (.tmp 49) .i64 x5.1 el22 trivial (h9 hc).1 (h9 hc).2)), ⟨⟨rfl, rfl, rfl, trivial⟩, trivial, rfl⟩, rfl,
            Step.guarded rfl rfl rfl rfl (fun hc => Does.strip (n' := [(50, (.opt (!(((p0.getD x5.1.toNat z_api_Kept).From) != p3.From)) (.cptr (e_api_Kept (p0.getD x5.1.toNat z_api_Kept)))))]) (n := [(50, (.cptr (e_api_Kept (p0.getD x5.1.toNat z_api_Kept))))]) ⟨(.opt _ _ hc), trivial⟩ (does_fieldAddrc 36 1 1 50 (e_api_Kept (p0.getD x5.1.toNat z_api_Kept)) fl36_1 rfl (Nat.le_of_ble_eq_true rfl) rfl)), ⟨⟨rfl, rfl, trivial⟩, trivial, rfl⟩, rfl,
            Step.guarded rfl rfl rfl rfl (fun hc => Does.strip (n' := [(51, (.opt (!(((p0.getD x5.1.toNat z_api_Kept).From) != p3.From)) (.cptr (.int .u32 ((p0.getD x5.1.toNat z_api_Kept).Round)))))]) (n := [(51, (.cptr (.int .u32 ((p0.getD x5.1.toNat z_api_Kept).Round))))]) ⟨(.opt _ _ hc), trivial⟩ (does_loadc 23 51 (.int .u32 ((p0.getD x5.1.toNat z_api_Kept).Round)) ty23)), ⟨⟨rfl, rfl, trivial⟩, trivial, rfl⟩, rfl,
            Step.guarded rfl rfl rfl rfl (fun hc => Does.strip (n' := [(52, (.opt (!(((p0.getD x5.1.toNat z_api_Kept).From) != p3.From)) (.int .u32 ((p0.getD x5.1.toNat z_api_Kept).Round))))]) (n := [(52, (.int .u32 ((p0.getD x5.1.toNat z_api_Kept).Round)))]) ⟨(.opt _ _ hc), trivial⟩ (does_convInt 23 29 (.tmp 52) .u32 .u64 ((p0.getD x5.1.toNat z_api_Kept).Round) trivial rfl rfl)), ⟨⟨rfl, rfl, trivial⟩, trivial, rfl⟩, rfl,
            Step.guarded rfl rfl rfl rfl (fun hc => Does.strip (n' := [(53, (.opt (!(((p0.getD x5.1.toNat z_api_Kept).From) != p3.From)) (.int .u64 (IntKind.u64.wrap ((p0.getD x5.1.toNat z_api_Kept).Round)))))]) (n := [(53, (.int .u64 (IntKind.u64.wrap ((p0.getD x5.1.toNat z_api_Kept).Round))))]) ⟨(.opt _ _ hc), trivial⟩ (does_bin .add 29 29 (.tmp 53) (.const (.int .u64 3)) .u64 (IntKind.u64.wrap ((p0.getD x5.1.toNat z_api_Kept).Round)) 3 (.int .u64 (IntKind.u64.wrap ((IntKind.u64.wrap ((p0.getD x5.1.toNat z_api_Kept).Round)) + 3))) trivial (fun _ => rfl) (bin_add _ _ _ _))), ⟨⟨rfl, rfl, trivial⟩, trivial, rfl⟩, rfl,
            Step.guarded rfl rfl rfl rfl (fun hc => does_fieldAddr 36 1 1 7 2 0 [] (.var (e_api_Kept p3)) fl36_1), ⟨⟨rfl, rfl, trivial⟩, ⟨rfl, trivial⟩, rfl⟩, rfl,
            Step.guarded rfl rfl rfl rfl (fun hc => Does.strip (n' := [(55, (.opt (!(((p0.getD x5.1.toNat z_api_Kept).From) != p3.From)) (.ptr 2 (0 + 1) [1])))]) (n := [(55, (.ptr 2 (0 + 1) [1]))]) ⟨(.opt _ _ hc), trivial⟩ (does_load 23 55 2 (0 + 1) [1] (.var (e_api_Kept p3)) (.int .u32 p3.Round) ⟨rfl, Nat.le_of_ble_eq_true rfl, trivial⟩ rfl rfl ty23)), ⟨⟨rfl, rfl, trivial⟩, ⟨rfl, trivial⟩, rfl⟩, rfl,
            Step.guarded rfl rfl rfl rfl (fun hc => Does.strip (n' := [(56, (.opt (!(((p0.getD x5.1.toNat z_api_Kept).From) != p3.From)) (.int .u32 p3.Round)))]) (n := [(56, (.int .u32 p3.Round))]) ⟨(.opt _ _ hc), trivial⟩ (does_convInt 23 29 (.tmp 56) .u32 .u64 p3.Round trivial rfl rfl)), ⟨⟨rfl, rfl, trivial⟩, trivial, rfl⟩, rfl,
            Step.guarded rfl rfl rfl rfl (fun hc => Does.strip (n' := [(54, (.opt (!(((p0.getD x5.1.toNat z_api_Kept).From) != p3.From)) (.int .u64 (IntKind.u64.wrap ((IntKind.u64.wrap ((p0.getD x5.1.toNat z_api_Kept).Round)) + 3))))), (57, (.opt (!(((p0.getD x5.1.toNat z_api_Kept).From) != p3.From)) (.int .u64 (IntKind.u64.wrap (p3.Round)))))]) (n := [(54, (.int .u64 (IntKind.u64.wrap ((IntKind.u64.wrap ((p0.getD x5.1.toNat z_api_Kept).Round)) + 3)))), (57, (.int .u64 (IntKind.u64.wrap (p3.Round))))]) ⟨(.opt _ _ hc), (.opt _ _ hc), trivial⟩ (does_bin .gtr 29 29 (.tmp 54) (.tmp 57) .u64 (IntKind.u64.wrap ((IntKind.u64.wrap ((p0.getD x5.1.toNat z_api_Kept).Round)) + 3)) (IntKind.u64.wrap (p3.Round)) (.bool (decide ((IntKind.u64.wrap ((IntKind.u64.wrap ((p0.getD x5.1.toNat z_api_Kept).Round)) + 3)) > (IntKind.u64.wrap (p3.Round))))) trivial trivial (bin_gtr _ _ _ _))), ⟨⟨rfl, rfl, rfl, trivial⟩, trivial, rfl⟩, rfl,
            Step.plain rfl (does_or 47 58 (((p0.getD x5.1.toNat z_api_Kept).From) != p3.From) (decide ((IntKind.u64.wrap ((IntKind.u64.wrap ((p0.getD x5.1.toNat z_api_Kept).Round)) + 3)) > (IntKind.u64.wrap (p3.Round))))), ⟨⟨rfl, rfl, trivial⟩, trivial, rfl⟩, rfl, rfl⟩ rfl ?_
          obtain ⟨v10, hv10, H⟩ := lt_of H
          refine aw_cov (cov_prune (s1 := ⟨[(0, (e_s_api_Kept p0)), (5, (.ptr 0 0 [])), (7, (.ptr 2 0 [])), (9, (.ptr 4 0 [])), (11, (.own 5)), (12, (.int .i64 x5.1)), (59, (.bool v10))], [(0, some (.var (e_a8_u32 p1))), (2, some (.var (e_api_Kept p3))), (4, some (.var (e_a8_u32 (fun _ => 0)))), (5, some (.arr 38 x5.2.length fun j => (e_api_Kept (x5.2.getD j z_api_Kept))))], 6⟩) ⟨rfl, rfl, rfl, rfl, rfl, rfl, (by subst hv10; rfl), trivial⟩ ⟨rfl, rfl, rfl, rfl, trivial⟩ (Nat.le_refl _)) ?_
          refine aw_cond rfl (fun hc => ?_) (fun hc => ?_)
          · replace H := ite_t hc H
            obtain ⟨h11, H⟩ := ib_of H
            obtain ⟨h12, H⟩ := fit_of H
            refine aw_region1 (es := [_, _, _, _, _, _, _, _]) ⟨Step.plain rfl (does_move (.tmp 11) (.own 5) trivial), ⟨⟨rfl, trivial⟩, trivial, rfl⟩, rfl,
              Step.plain rfl (does_move (.tmp 0) (e_s_api_Kept p0) trivial), ⟨⟨rfl, trivial⟩, trivial, rfl⟩, rfl,
              Step.plain rfl (does_move (.tmp 12) (.int .i64 x5.1) trivial), ⟨⟨rfl, trivial⟩, trivial, rfl⟩, rfl,
              Step.plain rfl (does_indexAddrs 22 38 p0.length 61 (fun j => (e_api_Kept (p0.getD j z_api_Kept))) (.tmp 62) .i64 x5.1 el22 trivial h11.1 h11.2), ⟨⟨rfl, rfl, trivial⟩, trivial, rfl⟩, rfl,
              Step.plain rfl (does_loadc 36 63 (e_api_Kept (p0.getD x5.1.toNat z_api_Kept)) ty36), ⟨⟨rfl, trivial⟩, trivial, rfl⟩, rfl,
              Step.plain rfl (does_buildSl 22 1 38 (e_api_Kept z_api_Kept) (fun j => (e_api_Kept (([p0.getD x5.1.toNat z_api_Kept] : _root_.List api_Kept).getD j z_api_Kept))) #[(0, (.tmp 64))] [(0, (.tmp 64))] [(0, (e_api_Kept (p0.getD x5.1.toNat z_api_Kept)))] rfl so22 (by decide) ⟨⟨rfl, trivial⟩, trivial⟩ ⟨⟨Nat.le_of_ble_eq_true rfl, rfl, rfl⟩, trivial⟩ (fun j h => match j, h with | 0, _ => rfl | k + 1, h => absurd h (by omega))), ⟨⟨rfl, trivial⟩, trivial, rfl⟩, rfl,
              Step.plain rfl (does_appendL e_api_Kept z_api_Kept x5.2 ([p0.getD x5.1.toNat z_api_Kept] : _root_.List api_Kept) 22 38 352 5 6 60 65 ap22 h12), ⟨⟨rfl, rfl, trivial⟩, ⟨rfl, trivial⟩, rfl⟩, rfl,
              Step.plain rfl (does_assign (.tmp 66) (.own 6) trivial), ⟨⟨rfl, trivial⟩, trivial, rfl⟩, rfl, rfl⟩ ?_
            refine nx_blk ?_
            exact nx_join ((x5.2 ++ ([p0.getD x5.1.toNat z_api_Kept] : _root_.List api_Kept))) H (cov_of (fun i => match i with | 0 => 0 | 2 => 2 | 4 => 4 | 5 => 6 | k => k) ⟨⟨_, rfl, ⟨rfl, (d_s_api_Kept _).plain⟩⟩, ⟨_, rfl, ⟨rfl, Nat.le_of_ble_eq_true rfl⟩⟩, ⟨_, rfl, ⟨rfl, Nat.le_of_ble_eq_true rfl⟩⟩, ⟨_, rfl, ⟨rfl, Nat.le_of_ble_eq_true rfl⟩⟩, ⟨_, rfl, ⟨rfl, Nat.le_of_ble_eq_true rfl⟩⟩, ⟨_, rfl, ⟨rfl, trivial⟩⟩, trivial⟩ ⟨⟨Nat.le_of_ble_eq_true rfl, _, _, rfl, rfl, .inl ⟨rfl, (d_a8_u32 _).plain⟩⟩, ⟨Nat.le_of_ble_eq_true rfl, _, _, rfl, rfl, .inl ⟨rfl, (d_api_Kept _).plain⟩⟩, ⟨Nat.le_of_ble_eq_true rfl, _, _, rfl, rfl, .inl ⟨rfl, (d_a8_u32 _).plain⟩⟩, ⟨Nat.le_of_ble_eq_true rfl, _, _, rfl, rfl, ⟨rfl, rfl, fun _ => .inl ⟨rfl, (d_api_Kept _).plain⟩⟩⟩, trivial⟩ rfl)
          · replace H := ite_f hc H
            refine aw_skip ?_
            refine nx_blk ?_
            exact nx_join (x5.2) H (cov_of (fun i => match i with | 0 => 0 | 2 => 2 | 4 => 4 | 5 => 5 | k => k) ⟨⟨_, rfl, ⟨rfl, (d_s_api_Kept _).plain⟩⟩, ⟨_, rfl, ⟨rfl, Nat.le_of_ble_eq_true rfl⟩⟩, ⟨_, rfl, ⟨rfl, Nat.le_of_ble_eq_true rfl⟩⟩, ⟨_, rfl, ⟨rfl, Nat.le_of_ble_eq_true rfl⟩⟩, ⟨_, rfl, ⟨rfl, Nat.le_of_ble_eq_true rfl⟩⟩, ⟨_, rfl, ⟨rfl, trivial⟩⟩, trivial⟩ ⟨⟨Nat.le_of_ble_eq_true rfl, _, _, rfl, rfl, .inl ⟨rfl, (d_a8_u32 _).plain⟩⟩, ⟨Nat.le_of_ble_eq_true rfl, _, _, rfl, rfl, .inl ⟨rfl, (d_api_Kept _).plain⟩⟩, ⟨Nat.le_of_ble_eq_true rfl, _, _, rfl, rfl, .inl ⟨rfl, (d_a8_u32 _).plain⟩⟩, ⟨Nat.le_of_ble_eq_true rfl, _, _, rfl, rfl, ⟨rfl, rfl, fun _ => .inl ⟨rfl, (d_api_Kept _).plain⟩⟩⟩, trivial⟩ rfl)
      · replace H := ite_f hc H
        refine aw_exit ?_
        refine ex_then ?_
        refine ex_then ?_
        refine ex_here ?_
        exact nx_ljoin (x5.2) H hsn6 (cov_prune ⟨rfl, rfl, rfl, rfl, trivial⟩ ⟨rfl, rfl, rfl, rfl, trivial⟩ (Nat.le_of_ble_eq_true rfl))

theorem kept_Get_1_spec (p0 : api_Kept) (q0 : Int) (q1 : Int) (r : Bool) (H : kept_Get_1 p0 q0 q1 = some r) : FSpec Try.prog 24 [(e_api_Kept p0), (.cptr (.int .i64 q0)), (.cptr (.int .u32 q1))] (.bool r) := by
  refine spec_of (fn := Try.f24) (args := [(e_api_Kept p0), (.cptr (.int .i64 q0)), (.cptr (.int .u32 q1))]) Try.func24 rfl (Nat.le_of_ble_eq_true rfl) ?_
  rintro ⟨G, w0, W, S, Sp⟩ hG
  cases hG
  unfold kept_Get_1 at H
  refine aw_region (es := [_, _]) ⟨Step.plain rfl (does_box 36 (.tmp 0) 0 (e_api_Kept p0) trivial rfl), ⟨⟨rfl, trivial⟩, trivial, rfl⟩, rfl,
    Step.plain rfl (does_assign (.const (.bool false)) (.bool false) (fun _ => rfl)), ⟨trivial, trivial, rfl⟩, rfl, rfl⟩ ?_
  refine aw_cov (cov_prune (s1 := ⟨[(1, (.cptr (.int .i64 q0))), (2, (.cptr (.int .u32 q1))), (3, (.ptr 0 0 []))], [(0, some (.var (e_api_Kept p0)))], 1⟩) ⟨rfl, rfl, rfl, trivial⟩ ⟨rfl, trivial⟩ (Nat.le_refl _)) ?_
  refine aw_region (es := [_, _, _, _, _, _, _, _, _, _, _]) ⟨Step.plain rfl (does_fieldAddr 36 0 0 3 0 0 [] (.var (e_api_Kept p0)) fl36_0), ⟨⟨rfl, trivial⟩, ⟨rfl, trivial⟩, rfl⟩, rfl,
    Step.plain rfl (does_load 3 5 0 (0 + 0) [0] (.var (e_api_Kept p0)) (.int .i64 p0.From) ⟨rfl, Nat.le_of_ble_eq_true rfl, trivial⟩ rfl rfl ty3), ⟨⟨rfl, trivial⟩, ⟨rfl, trivial⟩, rfl⟩, rfl,
    Step.plain rfl (does_loadc 3 1 (.int .i64 q0) ty3), ⟨⟨rfl, trivial⟩, trivial, rfl⟩, rfl,
    Step.plain rfl (does_bin .eql 3 3 (.tmp 6) (.tmp 7) .i64 p0.From q0 (.bool (p0.From == q0)) trivial trivial (bin_eql _ _ _ _)), ⟨⟨rfl, rfl, trivial⟩, trivial, rfl⟩, rfl,
    Step.plain rfl (does_move (.tmp 8) (.bool (p0.From == q0)) trivial), ⟨⟨rfl, trivial⟩, trivial, rfl⟩, rfl,
    Step.guarded rfl rfl rfl rfl (fun hc => does_fieldAddr 36 1 1 3 0 0 [] (.var (e_api_Kept p0)) fl36_1), ⟨⟨rfl, rfl, trivial⟩, ⟨rfl, trivial⟩, rfl⟩, rfl,
    Step.guarded rfl rfl rfl rfl (fun hc => Does.strip (n' := [(10, (.opt (p0.From == q0) (.ptr 0 (0 + 1) [1])))]) (n := [(10, (.ptr 0 (0 + 1) [1]))]) ⟨(.opt _ _ hc), trivial⟩ (does_load 23 10 0 (0 + 1) [1] (.var (e_api_Kept p0)) (.int .u32 p0.Round) ⟨rfl, Nat.le_of_ble_eq_true rfl, trivial⟩ rfl rfl ty23)), ⟨⟨rfl, rfl, trivial⟩, ⟨rfl, trivial⟩, rfl⟩, rfl,
    Step.guarded rfl rfl rfl rfl (fun hc => does_loadc 23 2 (.int .u32 q1) ty23), ⟨⟨rfl, rfl, trivial⟩, trivial, rfl⟩, rfl,
    Step.guarded rfl rfl rfl rfl (fun hc => Does.strip (n' := [(11, (.opt (p0.From == q0) (.int .u32 p0.Round))), (12, (.opt (p0.From == q0) (.int .u32 q1)))]) (n := [(11, (.int .u32 p0.Round)), (12, (.int .u32 q1))]) ⟨(.opt _ _ hc), (.opt _ _ hc), trivial⟩ (does_bin .eql 23 23 (.tmp 11) (.tmp 12) .u32 p0.Round q1 (.bool (p0.Round == q1)) trivial trivial (bin_eql _ _ _ _))), ⟨⟨rfl, rfl, rfl, trivial⟩, trivial, rfl⟩, rfl,
    Step.plain rfl (does_and 9 13 (p0.From == q0) (p0.Round == q1)), ⟨⟨rfl, rfl, trivial⟩, trivial, rfl⟩, rfl,
    Step.plain rfl (does_assign (.tmp 14) (.bool ((p0.From == q0) && (p0.Round == q1))) trivial), ⟨⟨rfl, trivial⟩, trivial, rfl⟩, rfl, rfl⟩ ?_
  refine aw_cov (cov_prune (s1 := ⟨[(4, (.bool ((p0.From == q0) && (p0.Round == q1))))], [], 1⟩) ⟨rfl, trivial⟩ trivial (Nat.le_refl _)) ?_
  refine aw_ret ?_
  exact fun a w hr => ⟨_, [(.bool ((p0.From == q0) && (p0.Round == q1)))], hr, ⟨⟨_, rfl, .data (.bool ((p0.From == q0) && (p0.Round == q1))) trivial⟩, trivial⟩, by decide, by cases H; rfl⟩

theorem kept_Get_spec (p0 : (_root_.List api_Kept)) (p1 : Int) (p2 : Int) (r : (Nat → (Nat → api_Entry)) × Bool) (H : kept_Get p0 p1 p2 = some r) : FSpec Try.prog 9 [(e_s_api_Kept p0), (.int .i64 p1), (.int .u32 p2)] (resV [(e_a3_a2_api_Entry r.1), (.bool r.2)]) := by
  refine spec_of (fn := Try.f9) (args := [(e_s_api_Kept p0), (.int .i64 p1), (.int .u32 p2)]) Try.func9 rfl (Nat.le_of_ble_eq_true rfl) ?_
  rintro ⟨G, w0, W, S, Sp⟩ hG
  cases hG
  unfold kept_Get at H
  refine aw_region (es := [_, _, _, _]) ⟨Step.plain rfl (does_box 3 (.tmp 1) 0 (.int .i64 p1) trivial rfl), ⟨⟨rfl, trivial⟩, trivial, rfl⟩, rfl,
    Step.plain rfl (does_box 23 (.tmp 2) 1 (.int .u32 p2) trivial rfl), ⟨⟨rfl, trivial⟩, trivial, rfl⟩, rfl,
    Step.plain rfl (does_alloc 34 2 (e_a3_a2_api_Entry (fun _ => (fun _ => z_api_Entry))) zr34), ⟨trivial, trivial, rfl⟩, rfl,
    Step.plain rfl (does_assign (.const (.bool false)) (.bool false) (fun _ => rfl)), ⟨trivial, trivial, rfl⟩, rfl, rfl⟩ ?_
  refine aw_cov (cov_prune (s1 := ⟨[(0, (e_s_api_Kept p0)), (4, (.ptr 0 0 [])), (5, (.ptr 1 0 [])), (6, (.ptr 2 0 []))], [(0, some (.var (.int .i64 p1))), (1, some (.var (.int .u32 p2))), (2, some (.var (e_a3_a2_api_Entry (fun _ => (fun _ => z_api_Entry)))))], 3⟩) ⟨rfl, rfl, rfl, rfl, trivial⟩ ⟨rfl, rfl, rfl, trivial⟩ (Nat.le_refl _)) ?_
  obtain ⟨v1, h2, H⟩ := bnd H
  refine aw_region (es := [_, _, _, _]) ⟨Step.plain rfl (does_move (.tmp 0) (e_s_api_Kept p0) trivial), ⟨⟨rfl, trivial⟩, trivial, rfl⟩, rfl,
    Step.plain rfl (does_makeFunc 24 [(.tmp 4), (.tmp 5)] [(.ptr 0 0 []), (.ptr 1 0 [])] #[(.tmp 4), (.tmp 5)] rfl ⟨trivial, trivial, trivial⟩), ⟨⟨rfl, rfl, trivial⟩, trivial, rfl⟩, rfl,
    Step.plain rfl (does_call 23 0 (fun _ => .any) (.func 23) [(.tmp 9), (.tmp 10)] [(e_s_api_Kept p0), (.fn 24 2 (fun j => ([(.ptr 0 0 []), (.ptr 1 0 [])] : _root_.List V).getD j (.bool false)))] [(0, (.var (.int .i64 p1))), (1, (.var (.int .u32 p2)))] true [(e_s_api_Kept p0), (.fn 24 2 (fun j => ([.cptr (.int .i64 p1), .cptr (.int .u32 p2)] : _root_.List V).getD j (.bool false)))] (.int .i64 v1) _ _ rfl fo23 rfl ⟨trivial, trivial, trivial⟩ ⟨.data _ (d_s_api_Kept p0), .fn _ _ _ _ (fun j hj => match j, hj with | 0, _ => .ptr 0 0 [] (.var (.int .i64 p1)) (.int .i64 p1) (.head _) trivial rfl rfl trivial | 1, _ => .ptr 1 0 [] (.var (.int .u32 p2)) (.int .u32 p2) (.tail _ (.head _)) trivial rfl rfl trivial | k + 2, hj => absurd hj (by omega)), trivial⟩ (slices_IndexFunc_api_Kept_api_Kept_spec p0 (fun z0 => kept_Get_1 z0 p1 p2) 24 2 (fun j => ([.cptr (.int .i64 p1), .cptr (.int .u32 p2)] : _root_.List V).getD j (.bool false)) fo24 (fun j => match j with | 0 => .inr ⟨(.int .i64 p1), trivial, rfl⟩ | 1 => .inr ⟨(.int .u32 p2), trivial, rfl⟩ | _ + 2 => .inl trivial) (fun z0 r h => kept_Get_1_spec z0 p1 p2 r h) _ h2) trivial), ⟨⟨rfl, rfl, trivial⟩, ⟨rfl, rfl, trivial⟩, rfl⟩, rfl,
    Step.plain rfl (does_assign (.tmp 11) (.int .i64 v1) trivial), ⟨⟨rfl, trivial⟩, trivial, rfl⟩, rfl, rfl⟩ ?_
  refine aw_cov (cov_prune (s1 := ⟨[(0, (e_s_api_Kept p0)), (6, (.ptr 2 0 [])), (8, (.int .i64 v1))], [(2, some (.var (e_a3_a2_api_Entry (fun _ => (fun _ => z_api_Entry)))))], 3⟩) ⟨rfl, rfl, rfl, trivial⟩ ⟨rfl, trivial⟩ (Nat.le_refl _)) ?_
  refine aw_seq ?_
  refine aw_region (es := [_, _]) ⟨Step.plain rfl (does_move (.tmp 8) (.int .i64 v1) trivial), ⟨⟨rfl, trivial⟩, trivial, rfl⟩, rfl,
    Step.plain rfl (does_bin .lss 3 3 (.tmp 12) (.const (.int .i64 0)) .i64 v1 0 (.bool (decide (v1 < 0))) trivial (fun _ => rfl) (bin_lss _ _ _ _)), ⟨⟨rfl, trivial⟩, trivial, rfl⟩, rfl, rfl⟩ ?_
  refine aw_cov (cov_prune (s1 := ⟨[(0, (e_s_api_Kept p0)), (6, (.ptr 2 0 [])), (8, (.int .i64 v1)), (13, (.bool (decide (v1 < 0))))], [(2, some (.var (e_a3_a2_api_Entry (fun _ => (fun _ => z_api_Entry)))))], 3⟩) ⟨rfl, rfl, rfl, rfl, trivial⟩ ⟨rfl, trivial⟩ (Nat.le_refl _)) ?_
  refine aw_cond rfl (fun hc => ?_) (fun hc => ?_)
  · replace H := ite_t hc H
    refine aw_region (es := [_, _, _]) ⟨Step.plain rfl (does_buildT 34 #[] [] [] (.ar 3 12) (fun j => (e_a2_api_Entry ((fun _ => (fun _ => z_api_Entry)) j))) (fun j => (e_a2_api_Entry ((aset (fun _ => (fun _ => z_api_Entry)) []) j))) rfl bo34 trivial trivial (setAll_map e_a2_api_Entry [] _)), ⟨trivial, trivial, rfl⟩, rfl,
      Step.plain rfl (does_store 34 6 (.tmp 14) 2 0 [] (.var (e_a3_a2_api_Entry (fun _ => (fun _ => z_api_Entry)))) (.var (e_a3_a2_api_Entry (aset (fun _ => (fun _ => z_api_Entry)) []))) (e_a3_a2_api_Entry (aset (fun _ => (fun _ => z_api_Entry)) [])) true trivial rfl trivial rfl rfl rfl ty34), ⟨⟨rfl, rfl, trivial⟩, ⟨rfl, trivial⟩, rfl⟩, rfl,
      Step.plain rfl (does_assign (.const (.bool false)) (.bool false) (fun _ => rfl)), ⟨trivial, trivial, rfl⟩, rfl, rfl⟩ ?_
    refine aw_cov (cov_prune (s1 := ⟨[(6, (.ptr 2 0 [])), (7, (.bool false))], [(2, some (.var (e_a3_a2_api_Entry (aset (fun _ => (fun _ => z_api_Entry)) []))))], 3⟩) ⟨rfl, rfl, trivial⟩ ⟨rfl, trivial⟩ (Nat.le_refl _)) ?_
    refine aw_ret ?_
    refine rt_then ?_
    exact fun a w hr => ⟨_, [(e_a3_a2_api_Entry (aset (fun _ => (fun _ => z_api_Entry)) [])), (.bool false)], hr, ⟨⟨2, _, rfl, rfl, .data _ (d_a3_a2_api_Entry (aset (fun _ => (fun _ => z_api_Entry)) [])), ty34⟩, ⟨_, rfl, .data (.bool false) trivial⟩, trivial⟩, by decide, by cases H; rfl⟩
  · replace H := ite_f hc H
    refine aw_skip ?_
    refine nx_seq ?_
    obtain ⟨h3, H⟩ := ib_of H
    refine aw_region (es := [_, _, _, _, _, _, _]) ⟨Step.plain rfl (does_move (.tmp 0) (e_s_api_Kept p0) trivial), ⟨⟨rfl, trivial⟩, trivial, rfl⟩, rfl,
      Step.plain rfl (does_move (.tmp 8) (.int .i64 v1) trivial), ⟨⟨rfl, trivial⟩, trivial, rfl⟩, rfl,
      Step.plain rfl (does_indexAddrs 22 38 p0.length 15 (fun j => (e_api_Kept (p0.getD j z_api_Kept))) (.tmp 16) .i64 v1 el22 trivial h3.1 h3.2), ⟨⟨rfl, rfl, trivial⟩, trivial, rfl⟩, rfl,
      Step.plain rfl (does_fieldAddrc 36 2 2 17 (e_api_Kept (p0.getD v1.toNat z_api_Kept)) fl36_2 rfl (Nat.le_of_ble_eq_true rfl) rfl), ⟨⟨rfl, trivial⟩, trivial, rfl⟩, rfl,
      Step.plain rfl (does_loadc 34 18 (e_a3_a2_api_Entry ((p0.getD v1.toNat z_api_Kept).Frame)) ty34), ⟨⟨rfl, trivial⟩, trivial, rfl⟩, rfl,
      Step.plain rfl (does_store 34 6 (.tmp 19) 2 0 [] (.var (e_a3_a2_api_Entry (fun _ => (fun _ => z_api_Entry)))) (.var (e_a3_a2_api_Entry ((p0.getD v1.toNat z_api_Kept).Frame))) (e_a3_a2_api_Entry ((p0.getD v1.toNat z_api_Kept).Frame)) true trivial rfl trivial rfl rfl rfl ty34), ⟨⟨rfl, rfl, trivial⟩, ⟨rfl, trivial⟩, rfl⟩, rfl,
      Step.plain rfl (does_assign (.const (.bool true)) (.bool true) (fun _ => rfl)), ⟨trivial, trivial, rfl⟩, rfl, rfl⟩ ?_
    refine aw_cov (cov_prune (s1 := ⟨[(6, (.ptr 2 0 [])), (7, (.bool true))], [(2, some (.var (e_a3_a2_api_Entry ((p0.getD v1.toNat z_api_Kept).Frame))))], 3⟩) ⟨rfl, rfl, trivial⟩ ⟨rfl, trivial⟩ (Nat.le_refl _)) ?_
    refine aw_ret ?_
    exact fun a w hr => ⟨_, [(e_a3_a2_api_Entry ((p0.getD v1.toNat z_api_Kept).Frame)), (.bool true)], hr, ⟨⟨2, _, rfl, rfl, .data _ (d_a3_a2_api_Entry ((p0.getD v1.toNat z_api_Kept).Frame)), ty34⟩, ⟨_, rfl, .data (.bool true) trivial⟩, trivial⟩, by decide, by cases H; rfl⟩
end Go.Proofs.Ytbkofjefhnnmlaa
