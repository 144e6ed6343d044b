/- Printed by gen.py. Conditions: none. -/
import Derived.Test.YtpcpfcijdliicaaFact
import Derived.KernelRfl
set_option linter.unusedVariables false
set_option maxRecDepth 100000
namespace Go.Proofs.Ytpcpfcijdliicaa
open Go.Eng
set_option maxHeartbeats 1600000
theorem slices_Clone_api_Member_api_Member_spec (p0 : (_root_.List api_Member)) (r : (_root_.List api_Member)) (H : slices_Clone_api_Member_api_Member p0 = some r) : FSpecO Try.prog 20 [(e_s_api_Member p0)] [] 0 (.own 0) [(0, some (.arr 3 r.length fun j => (e_api_Member (r.getD j z_api_Member))))] 1 := by
  refine specO_of (fn := Try.f20) (args := [(e_s_api_Member p0)]) Try.func20 rfl (Nat.le_of_ble_eq_true rfl) ?_
  rintro ⟨G, w0, W, S, Sp⟩ hG
  cases hG
  unfold slices_Clone_api_Member_api_Member at H
  refine aw_region (es := [_]) ⟨Step.plain rfl (does_nil false 0 3 (fun j => (e_api_Member (([] : _root_.List api_Member).getD j z_api_Member)))), ⟨trivial, trivial, rfl⟩, rfl, rfl⟩ ?_
  refine aw_cov (cov_prune (s1 := ⟨[(0, (e_s_api_Member p0))], [], 1⟩) ⟨rfl, trivial⟩ trivial (Nat.le_refl _)) ?_
  refine aw_seq ?_
  refine aw_region (es := [_, _]) ⟨Step.plain rfl (does_move (.tmp 0) (e_s_api_Member p0) trivial), ⟨⟨rfl, trivial⟩, trivial, rfl⟩, rfl,
    Step.plain rfl (does_eqnil 22 35 22 3 3 p0.length (fun j => (e_api_Member (p0.getD j z_api_Member))) us22), ⟨⟨rfl, trivial⟩, trivial, rfl⟩, rfl, rfl⟩ ?_
  refine aw_cov (cov_prune (s1 := ⟨[(0, (e_s_api_Member p0)), (4, (.nilq p0.length))], [], 1⟩) ⟨rfl, rfl, trivial⟩ trivial (Nat.le_refl _)) ?_
  obtain ⟨H1, H2⟩ := nilq_of H
  clear H
  refine aw_condq rfl (fun hc => ?_) ?_
  · have H := H1 hc
    refine aw_region (es := [_]) ⟨Step.plain rfl (does_nil false 1 3 (fun j => (e_api_Member (([] : _root_.List api_Member).getD j z_api_Member)))), ⟨trivial, trivial, rfl⟩, rfl, rfl⟩ ?_
    refine aw_cov (cov_prune (s1 := ⟨[(2, (.own 1))], [(1, some (.arr 3 ([] : _root_.List api_Member).length fun j => (e_api_Member (([] : _root_.List api_Member).getD j z_api_Member))))], 2⟩) ⟨rfl, trivial⟩ ⟨rfl, trivial⟩ (Nat.le_refl _)) ?_
    refine aw_ret ?_
    refine rt_then ?_
    exact fun a w hr => ⟨_, [(.own 0)], reach_of hr (cov_to (s1 := ⟨[(2, (.own 0))], [(0, some (.arr 3 ([] : _root_.List api_Member).length fun j => (e_api_Member (([] : _root_.List api_Member).getD j z_api_Member))))], 1⟩) (fun i => match i with | 0 => 1 | k => k) [] ⟨⟨_, rfl, .own 0 _ _ (Nat.le_of_ble_eq_true rfl) rfl rfl (Box.like_refl _)⟩, trivial⟩ ⟨⟨Nat.le_of_ble_eq_true rfl, _, _, rfl, rfl, boxTo_arr (fun _ => (d_api_Member _))⟩, trivial⟩ rfl rfl), ⟨rfl, trivial⟩, by decide, by cases H; rfl, by cases H; exact ⟨rfl, trivial⟩, Nat.le_of_ble_eq_true rfl⟩
  · have H := H2
    refine aw_skip ?_
    refine nx_seq ?_
    obtain ⟨h1, H⟩ := fit_of H
    refine aw_region (es := [_, _, _, _]) ⟨Step.plain rfl (does_buildOwn 22 0 3 1 (e_api_Member z_api_Member) (fun j => (e_api_Member (([] : _root_.List api_Member).getD j z_api_Member))) #[] [] [] rfl so22 (by decide) trivial trivial (fun j h => match j, h with  | k + 0, h => absurd h (by omega))), ⟨trivial, trivial, rfl⟩, rfl,
      Step.plain rfl (does_move (.tmp 0) (e_s_api_Member p0) trivial), ⟨⟨rfl, trivial⟩, trivial, rfl⟩, rfl,
      Step.plain rfl (does_appendL e_api_Member z_api_Member ([] : _root_.List api_Member) p0 22 3 24 1 2 5 6 ap22 h1), ⟨⟨rfl, rfl, trivial⟩, ⟨rfl, trivial⟩, rfl⟩, rfl,
      Step.plain rfl (does_assign (.tmp 7) (.own 2) trivial), ⟨⟨rfl, trivial⟩, trivial, rfl⟩, rfl, rfl⟩ ?_
    refine aw_cov (cov_prune (s1 := ⟨[(2, (.own 2))], [(2, some (.arr 3 (([] : _root_.List api_Member) ++ p0).length fun j => (e_api_Member ((([] : _root_.List api_Member) ++ p0).getD j z_api_Member))))], 3⟩) ⟨rfl, trivial⟩ ⟨rfl, trivial⟩ (Nat.le_refl _)) ?_
    refine aw_ret ?_
    exact fun a w hr => ⟨_, [(.own 0)], reach_of hr (cov_to (s1 := ⟨[(2, (.own 0))], [(0, some (.arr 3 (([] : _root_.List api_Member) ++ p0).length fun j => (e_api_Member ((([] : _root_.List api_Member) ++ p0).getD j z_api_Member))))], 1⟩) (fun i => match i with | 0 => 2 | k => k) [] ⟨⟨_, rfl, .own 0 _ _ (Nat.le_of_ble_eq_true rfl) rfl rfl (Box.like_refl _)⟩, trivial⟩ ⟨⟨Nat.le_of_ble_eq_true rfl, _, _, rfl, rfl, boxTo_arr (fun _ => (d_api_Member _))⟩, trivial⟩ rfl rfl), ⟨rfl, trivial⟩, by decide, by cases H; rfl, by cases H; exact ⟨rfl, trivial⟩, Nat.le_of_ble_eq_true rfl⟩

theorem slices_Clone_api_Member_api_Member_data (p0 : (_root_.List api_Member)) (r : (_root_.List api_Member)) (H : slices_Clone_api_Member_api_Member p0 = some r) : FSpec Try.prog 20 [(e_s_api_Member p0)] (e_s_api_Member r) :=
  FSpecO.toData (fz := [0]) (slices_Clone_api_Member_api_Member_spec p0 r H) (d_s_api_Member r) (.frz 0 _ _ _ rfl (fun _ => (d_api_Member _)) (by decide))

theorem slices_IndexFunc_api_Member_api_Member_spec (p0 : (_root_.List api_Member)) (p1 : (api_Member → Option (Bool))) (k1 n1 : Nat) (c1 : Nat → V) (o1 : FnOk Try.prog k1) (h1 : ∀ j, (c1 j).Cap) (g1 : ∀ (x0 : api_Member) (r : Bool), p1 x0 = some r → FSpec Try.prog k1 ([(e_api_Member x0)] ++ (List.range n1).map c1) (.bool r)) (r : Int) (H : slices_IndexFunc_api_Member_api_Member p0 p1 = some r) : FSpec Try.prog 21 [(e_s_api_Member p0), (.fn k1 n1 c1)] (.int .i64 r) := by
  refine spec_of (fn := Try.f21) (args := [(e_s_api_Member p0), (.fn k1 n1 c1)]) Try.func21 rfl (Nat.le_of_ble_eq_true rfl) ?_
  rintro ⟨G, w0, W, S, Sp⟩ hG
  cases hG
  unfold slices_IndexFunc_api_Member_api_Member at H
  refine aw_region (es := [_]) ⟨Step.plain rfl (does_assign (.const (.int .i64 0)) (.int .i64 0) (fun _ => rfl)), ⟨trivial, trivial, rfl⟩, rfl, rfl⟩ ?_
  refine aw_cov (cov_prune (s1 := ⟨[(0, (e_s_api_Member p0)), (1, (.fn k1 n1 c1))], [], 0⟩) ⟨rfl, rfl, trivial⟩ trivial (Nat.le_refl _)) ?_
  refine aw_seq ?_
  refine aw_region (es := [_, _, _]) ⟨Step.plain rfl (does_move (.tmp 0) (e_s_api_Member p0) trivial), ⟨⟨rfl, trivial⟩, trivial, rfl⟩, rfl,
    Step.plain rfl (does_lens 22 3 p0.length 6 (fun j => (e_api_Member (p0.getD j z_api_Member))) el22), ⟨⟨rfl, trivial⟩, trivial, rfl⟩, rfl,
    Step.plain rfl (does_move (.const (.int .i64 0)) (.int .i64 0) (fun _ => rfl)), ⟨trivial, trivial, rfl⟩, rfl, rfl⟩ ?_
  refine aw_cov (cov_prune (s1 := ⟨[(0, (e_s_api_Member p0)), (1, (.fn k1 n1 c1)), (7, (.int .i64 (p0.length : Int))), (8, (.int .i64 0))], [], 0⟩) ⟨rfl, rfl, rfl, rfl, trivial⟩ trivial (Nat.le_refl _)) ?_
  obtain ⟨wn2, hwn2, Hrn2⟩ := bnd H
  refine aw_meet (fun y6 : Unit => (⟨[], [], 0⟩ : St)) (fun y6 => Fl.nx y6 = wn2) (fun y6 hy => ?_) (aw_block (aw_runs (fun x1 : Int => (⟨[(0, (e_s_api_Member p0)), (1, (.fn k1 n1 c1)), (7, (.int .i64 (p0.length : Int))), (8, (.int .i64 x1))], [], 0⟩ : St)) hwn2 (cov_prune ⟨rfl, rfl, rfl, rfl, trivial⟩ trivial (Nat.le_of_ble_eq_true rfl)) (fun x1 st H hsn2 => ?_)))
  · have H := nx_of hy Hrn2
    refine nx_seq ?_
    refine aw_region (es := [_]) ⟨Step.plain rfl (does_assign (.const (.int .i64 (-1))) (.int .i64 (-1)) (fun _ => rfl)), ⟨trivial, trivial, rfl⟩, rfl, rfl⟩ ?_
    refine aw_cov (cov_prune (s1 := ⟨[(4, (.int .i64 (-1)))], [], 0⟩) ⟨rfl, trivial⟩ trivial (Nat.le_refl _)) ?_
    refine aw_ret ?_
    exact fun a w hr => ⟨_, [(.int .i64 (-1))], hr, ⟨⟨_, rfl, .data (.int .i64 (-1)) trivial⟩, trivial⟩, by decide, by cases H; rfl⟩
  · refine aw_region (es := [_]) ⟨Step.plain rfl (does_bin .lss 3 3 (.tmp 8) (.tmp 7) .i64 x1 (p0.length : Int) (.bool (decide (x1 < (p0.length : Int)))) trivial trivial (bin_lss _ _ _ _)), ⟨⟨rfl, rfl, trivial⟩, trivial, rfl⟩, rfl, rfl⟩ ?_
    refine aw_cov (cov_prune (s1 := ⟨[(0, (e_s_api_Member p0)), (1, (.fn k1 n1 c1)), (7, (.int .i64 (p0.length : Int))), (8, (.int .i64 x1)), (9, (.bool (decide (x1 < (p0.length : Int)))))], [], 0⟩) ⟨rfl, rfl, rfl, rfl, rfl, trivial⟩ trivial (Nat.le_refl _)) ?_
    refine aw_seq ?_
    refine aw_cond rfl (fun hc => ?_) (fun hc => ?_)
    · replace H := ite_t hc H
      refine aw_skip ?_
      refine nx_seq ?_
      refine aw_seq ?_
      refine aw_block ?_
      refine aw_region (es := [_, _]) ⟨Step.plain rfl (does_move (.tmp 8) (.int .i64 x1) trivial), ⟨⟨rfl, trivial⟩, trivial, rfl⟩, rfl,
        Step.plain rfl (does_assign (.tmp 10) (.int .i64 x1) trivial), ⟨⟨rfl, trivial⟩, trivial, rfl⟩, rfl, rfl⟩ ?_
      refine aw_cov (cov_prune (s1 := ⟨[(0, (e_s_api_Member p0)), (1, (.fn k1 n1 c1)), (7, (.int .i64 (p0.length : Int))), (8, (.int .i64 x1)), (5, (.int .i64 x1))], [], 0⟩) ⟨rfl, rfl, rfl, rfl, rfl, trivial⟩ trivial (Nat.le_refl _)) ?_
      obtain ⟨h3, H⟩ := ib_of H
      obtain ⟨v4, h5, H⟩ := bnd H
      refine aw_region (es := [_, _, _, _, _, _]) ⟨Step.plain rfl (does_move (.tmp 1) (.fn k1 n1 c1) trivial), ⟨⟨rfl, trivial⟩, trivial, rfl⟩, rfl,
        Step.plain rfl (does_move (.tmp 0) (e_s_api_Member p0) trivial), ⟨⟨rfl, trivial⟩, trivial, rfl⟩, rfl,
        Step.plain rfl (does_move (.tmp 5) (.int .i64 x1) trivial), ⟨⟨rfl, trivial⟩, trivial, rfl⟩, rfl,
        Step.plain rfl (does_indexAddrs 22 3 p0.length 12 (fun j => (e_api_Member (p0.getD j z_api_Member))) (.tmp 13) .i64 x1 el22 trivial h3.1 h3.2), ⟨⟨rfl, rfl, trivial⟩, trivial, rfl⟩, rfl,
        Step.plain rfl (does_loadc 35 14 (e_api_Member (p0.getD x1.toNat z_api_Member)) ty35), ⟨⟨rfl, trivial⟩, trivial, rfl⟩, rfl,
        Step.plain rfl (does_callf k1 n1 c1 11 [(.tmp 15)] [(e_api_Member (p0.getD x1.toNat z_api_Member))] [(e_api_Member (p0.getD x1.toNat z_api_Member))] [] true (.bool v4) _ _ rfl o1 ⟨trivial, trivial⟩ ⟨.data _ (d_api_Member (p0.getD x1.toNat z_api_Member)), trivial⟩ h1 (g1 (p0.getD x1.toNat z_api_Member) _ h5) trivial), ⟨⟨rfl, rfl, trivial⟩, trivial, rfl⟩, rfl, rfl⟩ ?_
      refine aw_cov (cov_prune (s1 := ⟨[(0, (e_s_api_Member p0)), (1, (.fn k1 n1 c1)), (7, (.int .i64 (p0.length : Int))), (8, (.int .i64 x1)), (5, (.int .i64 x1)), (16, (.bool v4))], [], 0⟩) ⟨rfl, rfl, rfl, rfl, rfl, rfl, trivial⟩ trivial (Nat.le_refl _)) ?_
      refine aw_cond rfl (fun hc => ?_) (fun hc => ?_)
      · replace H := ite_t hc H
        refine aw_region (es := [_, _]) ⟨Step.plain rfl (does_move (.tmp 5) (.int .i64 x1) trivial), ⟨⟨rfl, trivial⟩, trivial, rfl⟩, rfl,
          Step.plain rfl (does_assign (.tmp 17) (.int .i64 x1) trivial), ⟨⟨rfl, trivial⟩, trivial, rfl⟩, rfl, rfl⟩ ?_
        refine aw_cov (cov_prune (s1 := ⟨[(4, (.int .i64 x1))], [], 0⟩) ⟨rfl, trivial⟩ trivial (Nat.le_refl _)) ?_
        refine aw_ret ?_
        replace H := rt_of H hsn2 Hrn2
        refine rt_blk ?_
        refine rt_then ?_
        refine rt_then ?_
        refine rt_blk ?_
        refine rt_then ?_
        refine rt_then ?_
        exact fun a w hr => ⟨_, [(.int .i64 x1)], hr, ⟨⟨_, rfl, .data (.int .i64 x1) trivial⟩, trivial⟩, by decide, by cases H; rfl⟩
      · replace H := ite_f hc H
        refine aw_skip ?_
        refine nx_blk ?_
        refine nx_seq ?_
        refine aw_region1 (es := [_, _]) ⟨Step.plain rfl (does_bin .add 3 3 (.tmp 8) (.const (.int .i64 1)) .i64 x1 1 (.int .i64 (IntKind.i64.wrap (x1 + 1))) trivial (fun _ => rfl) (bin_add _ _ _ _)), ⟨⟨rfl, trivial⟩, trivial, rfl⟩, rfl,
          Step.plain rfl (does_move (.tmp 18) (.int .i64 (IntKind.i64.wrap (x1 + 1))) trivial), ⟨⟨rfl, trivial⟩, trivial, rfl⟩, rfl, rfl⟩ ?_
        exact nx_loop ((IntKind.i64.wrap (x1 + 1))) H (cov_prune ⟨rfl, rfl, rfl, rfl, trivial⟩ trivial (Nat.le_of_ble_eq_true rfl))
    · replace H := ite_f hc H
      refine aw_exit ?_
      refine ex_then ?_
      refine ex_then ?_
      refine ex_here ?_
      exact nx_ljoin () H hsn2 (cov_prune trivial trivial (Nat.le_of_ble_eq_true rfl))

theorem cmp_isNaN_int_spec (p0 : Int) (r : Bool) (H : cmp_isNaN_int p0 = some r) : FSpec Try.prog 42 [(.int .i64 p0)] (.bool r) := by
  refine spec_of (fn := Try.f42) (args := [(.int .i64 p0)]) Try.func42 rfl (Nat.le_of_ble_eq_true rfl) ?_
  rintro ⟨G, w0, W, S, Sp⟩ hG
  cases hG
  unfold cmp_isNaN_int at H
  refine aw_region (es := [_]) ⟨Step.plain rfl (does_assign (.const (.bool false)) (.bool false) (fun _ => rfl)), ⟨trivial, trivial, rfl⟩, rfl, rfl⟩ ?_
  refine aw_cov (cov_prune (s1 := ⟨[(0, (.int .i64 p0))], [], 0⟩) ⟨rfl, trivial⟩ trivial (Nat.le_refl _)) ?_
  refine aw_region (es := [_, _, _, _]) ⟨Step.plain rfl (does_move (.tmp 0) (.int .i64 p0) trivial), ⟨⟨rfl, trivial⟩, trivial, rfl⟩, rfl,
    Step.plain rfl (does_move (.tmp 0) (.int .i64 p0) trivial), ⟨⟨rfl, trivial⟩, trivial, rfl⟩, rfl,
    Step.plain rfl (does_bin .neq 3 3 (.tmp 3) (.tmp 4) .i64 p0 p0 (.bool (p0 != p0)) trivial trivial (bin_neq _ _ _ _)), ⟨⟨rfl, rfl, trivial⟩, trivial, rfl⟩, rfl,
    Step.plain rfl (does_assign (.tmp 5) (.bool (p0 != p0)) trivial), ⟨⟨rfl, trivial⟩, trivial, rfl⟩, rfl, rfl⟩ ?_
  refine aw_cov (cov_prune (s1 := ⟨[(2, (.bool (p0 != p0)))], [], 0⟩) ⟨rfl, trivial⟩ trivial (Nat.le_refl _)) ?_
  refine aw_ret ?_
  exact fun a w hr => ⟨_, [(.bool (p0 != p0))], hr, ⟨⟨_, rfl, .data (.bool (p0 != p0)) trivial⟩, trivial⟩, by decide, by cases H; rfl⟩

theorem cmp_Compare_int_spec (p0 : Int) (p1 : Int) (r : Int) (H : cmp_Compare_int p0 p1 = some r) : FSpec Try.prog 38 [(.int .i64 p0), (.int .i64 p1)] (.int .i64 r) := by
  refine spec_of (fn := Try.f38) (args := [(.int .i64 p0), (.int .i64 p1)]) Try.func38 rfl (Nat.le_of_ble_eq_true rfl) ?_
  rintro ⟨G, w0, W, S, Sp⟩ hG
  cases hG
  unfold cmp_Compare_int at H
  refine aw_region (es := [_]) ⟨Step.plain rfl (does_assign (.const (.int .i64 0)) (.int .i64 0) (fun _ => rfl)), ⟨trivial, trivial, rfl⟩, rfl, rfl⟩ ?_
  refine aw_cov (cov_prune (s1 := ⟨[(0, (.int .i64 p0)), (1, (.int .i64 p1))], [], 0⟩) ⟨rfl, rfl, trivial⟩ trivial (Nat.le_refl _)) ?_
  obtain ⟨v1, h2, H⟩ := bnd H
  refine aw_region (es := [_, _, _]) ⟨Step.plain rfl (does_move (.tmp 0) (.int .i64 p0) trivial), ⟨⟨rfl, trivial⟩, trivial, rfl⟩, rfl,
    Step.plain rfl (does_call 42 0 (fun _ => .any) (.func 42) [(.tmp 7)] [(.int .i64 p0)] [] true [(.int .i64 p0)] (.bool v1) _ _ rfl fo42 rfl ⟨trivial, trivial⟩ ⟨.data _ trivial, trivial⟩ (cmp_isNaN_int_spec p0 _ h2) trivial), ⟨⟨rfl, trivial⟩, trivial, rfl⟩, rfl,
    Step.plain rfl (does_assign (.tmp 8) (.bool v1) trivial), ⟨⟨rfl, trivial⟩, trivial, rfl⟩, rfl, rfl⟩ ?_
  refine aw_cov (cov_prune (s1 := ⟨[(0, (.int .i64 p0)), (1, (.int .i64 p1)), (5, (.bool v1))], [], 0⟩) ⟨rfl, rfl, rfl, trivial⟩ trivial (Nat.le_refl _)) ?_
  obtain ⟨v3, h4, H⟩ := bnd H
  refine aw_region (es := [_, _, _]) ⟨Step.plain rfl (does_move (.tmp 1) (.int .i64 p1) trivial), ⟨⟨rfl, trivial⟩, trivial, rfl⟩, rfl,
    Step.plain rfl (does_call 42 0 (fun _ => .any) (.func 42) [(.tmp 9)] [(.int .i64 p1)] [] true [(.int .i64 p1)] (.bool v3) _ _ rfl fo42 rfl ⟨trivial, trivial⟩ ⟨.data _ trivial, trivial⟩ (cmp_isNaN_int_spec p1 _ h4) trivial), ⟨⟨rfl, trivial⟩, trivial, rfl⟩, rfl,
    Step.plain rfl (does_assign (.tmp 10) (.bool v3) trivial), ⟨⟨rfl, trivial⟩, trivial, rfl⟩, rfl, rfl⟩ ?_
  refine aw_cov (cov_prune (s1 := ⟨[(0, (.int .i64 p0)), (1, (.int .i64 p1)), (5, (.bool v1)), (6, (.bool v3))], [], 0⟩) ⟨rfl, rfl, rfl, rfl, trivial⟩ trivial (Nat.le_refl _)) ?_
  refine aw_seq ?_
  refine aw_region (es := [_]) ⟨Step.plain rfl (does_move (.tmp 5) (.bool v1) trivial), ⟨⟨rfl, trivial⟩, trivial, rfl⟩, rfl, rfl⟩ ?_
  refine aw_cov (cov_prune (s1 := ⟨[(0, (.int .i64 p0)), (1, (.int .i64 p1)), (6, (.bool v3)), (11, (.bool v1))], [], 0⟩) ⟨rfl, rfl, rfl, rfl, trivial⟩ trivial (Nat.le_refl _)) ?_
  refine aw_cond rfl (fun hc => ?_) (fun hc => ?_)
  · replace H := ite_t hc H
    refine aw_seq ?_
    refine aw_region (es := [_]) ⟨Step.plain rfl (does_move (.tmp 6) (.bool v3) trivial), ⟨⟨rfl, trivial⟩, trivial, rfl⟩, rfl, rfl⟩ ?_
    refine aw_cov (cov_prune (s1 := ⟨[(12, (.bool v3))], [], 0⟩) ⟨rfl, trivial⟩ trivial (Nat.le_refl _)) ?_
    refine aw_cond rfl (fun hc => ?_) (fun hc => ?_)
    · replace H := ite_t hc H
      refine aw_region (es := [_]) ⟨Step.plain rfl (does_assign (.const (.int .i64 0)) (.int .i64 0) (fun _ => rfl)), ⟨trivial, trivial, rfl⟩, rfl, rfl⟩ ?_
      refine aw_cov (cov_prune (s1 := ⟨[(4, (.int .i64 0))], [], 0⟩) ⟨rfl, trivial⟩ trivial (Nat.le_refl _)) ?_
      refine aw_ret ?_
      refine rt_then ?_
      refine rt_then ?_
      exact fun a w hr => ⟨_, [(.int .i64 0)], hr, ⟨⟨_, rfl, .data (.int .i64 0) trivial⟩, trivial⟩, by decide, by cases H; rfl⟩
    · replace H := ite_f hc H
      refine aw_skip ?_
      refine nx_seq ?_
      refine aw_region (es := [_]) ⟨Step.plain rfl (does_assign (.const (.int .i64 (-1))) (.int .i64 (-1)) (fun _ => rfl)), ⟨trivial, trivial, rfl⟩, rfl, rfl⟩ ?_
      refine aw_cov (cov_prune (s1 := ⟨[(4, (.int .i64 (-1)))], [], 0⟩) ⟨rfl, trivial⟩ trivial (Nat.le_refl _)) ?_
      refine aw_ret ?_
      refine rt_then ?_
      exact fun a w hr => ⟨_, [(.int .i64 (-1))], hr, ⟨⟨_, rfl, .data (.int .i64 (-1)) trivial⟩, trivial⟩, by decide, by cases H; rfl⟩
  · replace H := ite_f hc H
    refine aw_skip ?_
    refine nx_seq ?_
    refine aw_seq ?_
    refine aw_region (es := [_]) ⟨Step.plain rfl (does_move (.tmp 6) (.bool v3) trivial), ⟨⟨rfl, trivial⟩, trivial, rfl⟩, rfl, rfl⟩ ?_
    refine aw_cov (cov_prune (s1 := ⟨[(0, (.int .i64 p0)), (1, (.int .i64 p1)), (13, (.bool v3))], [], 0⟩) ⟨rfl, rfl, rfl, trivial⟩ trivial (Nat.le_refl _)) ?_
    refine aw_cond rfl (fun hc => ?_) (fun hc => ?_)
    · replace H := ite_t hc H
      refine aw_region (es := [_]) ⟨Step.plain rfl (does_assign (.const (.int .i64 1)) (.int .i64 1) (fun _ => rfl)), ⟨trivial, trivial, rfl⟩, rfl, rfl⟩ ?_
      refine aw_cov (cov_prune (s1 := ⟨[(4, (.int .i64 1))], [], 0⟩) ⟨rfl, trivial⟩ trivial (Nat.le_refl _)) ?_
      refine aw_ret ?_
      refine rt_then ?_
      exact fun a w hr => ⟨_, [(.int .i64 1)], hr, ⟨⟨_, rfl, .data (.int .i64 1) trivial⟩, trivial⟩, by decide, by cases H; rfl⟩
    · replace H := ite_f hc H
      refine aw_skip ?_
      refine nx_seq ?_
      refine aw_seq ?_
      refine aw_region (es := [_, _, _]) ⟨Step.plain rfl (does_move (.tmp 0) (.int .i64 p0) trivial), ⟨⟨rfl, trivial⟩, trivial, rfl⟩, rfl,
        Step.plain rfl (does_move (.tmp 1) (.int .i64 p1) trivial), ⟨⟨rfl, trivial⟩, trivial, rfl⟩, rfl,
        Step.plain rfl (does_bin .lss 3 3 (.tmp 14) (.tmp 15) .i64 p0 p1 (.bool (decide (p0 < p1))) trivial trivial (bin_lss _ _ _ _)), ⟨⟨rfl, rfl, trivial⟩, trivial, rfl⟩, rfl, rfl⟩ ?_
      refine aw_cov (cov_prune (s1 := ⟨[(0, (.int .i64 p0)), (1, (.int .i64 p1)), (16, (.bool (decide (p0 < p1))))], [], 0⟩) ⟨rfl, rfl, rfl, trivial⟩ trivial (Nat.le_refl _)) ?_
      refine aw_cond rfl (fun hc => ?_) (fun hc => ?_)
      · replace H := ite_t hc H
        refine aw_region (es := [_]) ⟨Step.plain rfl (does_assign (.const (.int .i64 (-1))) (.int .i64 (-1)) (fun _ => rfl)), ⟨trivial, trivial, rfl⟩, rfl, rfl⟩ ?_
        refine aw_cov (cov_prune (s1 := ⟨[(4, (.int .i64 (-1)))], [], 0⟩) ⟨rfl, trivial⟩ trivial (Nat.le_refl _)) ?_
        refine aw_ret ?_
        refine rt_then ?_
        exact fun a w hr => ⟨_, [(.int .i64 (-1))], hr, ⟨⟨_, rfl, .data (.int .i64 (-1)) trivial⟩, trivial⟩, by decide, by cases H; rfl⟩
      · replace H := ite_f hc H
        refine aw_skip ?_
        refine nx_seq ?_
        refine aw_seq ?_
        refine aw_region (es := [_, _, _]) ⟨Step.plain rfl (does_move (.tmp 0) (.int .i64 p0) trivial), ⟨⟨rfl, trivial⟩, trivial, rfl⟩, rfl,
          Step.plain rfl (does_move (.tmp 1) (.int .i64 p1) trivial), ⟨⟨rfl, trivial⟩, trivial, rfl⟩, rfl,
          Step.plain rfl (does_bin .gtr 3 3 (.tmp 17) (.tmp 18) .i64 p0 p1 (.bool (decide (p0 > p1))) trivial trivial (bin_gtr _ _ _ _)), ⟨⟨rfl, rfl, trivial⟩, trivial, rfl⟩, rfl, rfl⟩ ?_
        refine aw_cov (cov_prune (s1 := ⟨[(19, (.bool (decide (p0 > p1))))], [], 0⟩) ⟨rfl, trivial⟩ trivial (Nat.le_refl _)) ?_
        refine aw_cond rfl (fun hc => ?_) (fun hc => ?_)
        · replace H := ite_t hc H
          refine aw_region (es := [_]) ⟨Step.plain rfl (does_assign (.const (.int .i64 1)) (.int .i64 1) (fun _ => rfl)), ⟨trivial, trivial, rfl⟩, rfl, rfl⟩ ?_
          refine aw_cov (cov_prune (s1 := ⟨[(4, (.int .i64 1))], [], 0⟩) ⟨rfl, trivial⟩ trivial (Nat.le_refl _)) ?_
          refine aw_ret ?_
          refine rt_then ?_
          exact fun a w hr => ⟨_, [(.int .i64 1)], hr, ⟨⟨_, rfl, .data (.int .i64 1) trivial⟩, trivial⟩, by decide, by cases H; rfl⟩
        · replace H := ite_f hc H
          refine aw_skip ?_
          refine nx_seq ?_
          refine aw_region (es := [_]) ⟨Step.plain rfl (does_assign (.const (.int .i64 0)) (.int .i64 0) (fun _ => rfl)), ⟨trivial, trivial, rfl⟩, rfl, rfl⟩ ?_
          refine aw_cov (cov_prune (s1 := ⟨[(4, (.int .i64 0))], [], 0⟩) ⟨rfl, trivial⟩ trivial (Nat.le_refl _)) ?_
          refine aw_ret ?_
          exact fun a w hr => ⟨_, [(.int .i64 0)], hr, ⟨⟨_, rfl, .data (.int .i64 0) trivial⟩, trivial⟩, by decide, by cases H; rfl⟩

theorem cmp_isNaN_uint64_spec (p0 : Int) (r : Bool) (H : cmp_isNaN_uint64 p0 = some r) : FSpec Try.prog 43 [(.int .u64 p0)] (.bool r) := by
  refine spec_of (fn := Try.f43) (args := [(.int .u64 p0)]) Try.func43 rfl (Nat.le_of_ble_eq_true rfl) ?_
  rintro ⟨G, w0, W, S, Sp⟩ hG
  cases hG
  unfold cmp_isNaN_uint64 at H
  refine aw_region (es := [_]) ⟨Step.plain rfl (does_assign (.const (.bool false)) (.bool false) (fun _ => rfl)), ⟨trivial, trivial, rfl⟩, rfl, rfl⟩ ?_
  refine aw_cov (cov_prune (s1 := ⟨[(0, (.int .u64 p0))], [], 0⟩) ⟨rfl, trivial⟩ trivial (Nat.le_refl _)) ?_
  refine aw_region (es := [_, _, _, _]) ⟨Step.plain rfl (does_move (.tmp 0) (.int .u64 p0) trivial), ⟨⟨rfl, trivial⟩, trivial, rfl⟩, rfl,
    Step.plain rfl (does_move (.tmp 0) (.int .u64 p0) trivial), ⟨⟨rfl, trivial⟩, trivial, rfl⟩, rfl,
    Step.plain rfl (does_bin .neq 23 23 (.tmp 3) (.tmp 4) .u64 p0 p0 (.bool (p0 != p0)) trivial trivial (bin_neq _ _ _ _)), ⟨⟨rfl, rfl, trivial⟩, trivial, rfl⟩, rfl,
    Step.plain rfl (does_assign (.tmp 5) (.bool (p0 != p0)) trivial), ⟨⟨rfl, trivial⟩, trivial, rfl⟩, rfl, rfl⟩ ?_
  refine aw_cov (cov_prune (s1 := ⟨[(2, (.bool (p0 != p0)))], [], 0⟩) ⟨rfl, trivial⟩ trivial (Nat.le_refl _)) ?_
  refine aw_ret ?_
  exact fun a w hr => ⟨_, [(.bool (p0 != p0))], hr, ⟨⟨_, rfl, .data (.bool (p0 != p0)) trivial⟩, trivial⟩, by decide, by cases H; rfl⟩

theorem cmp_Compare_uint64_spec (p0 : Int) (p1 : Int) (r : Int) (H : cmp_Compare_uint64 p0 p1 = some r) : FSpec Try.prog 39 [(.int .u64 p0), (.int .u64 p1)] (.int .i64 r) := by
  refine spec_of (fn := Try.f39) (args := [(.int .u64 p0), (.int .u64 p1)]) Try.func39 rfl (Nat.le_of_ble_eq_true rfl) ?_
  rintro ⟨G, w0, W, S, Sp⟩ hG
  cases hG
  unfold cmp_Compare_uint64 at H
  refine aw_region (es := [_]) ⟨Step.plain rfl (does_assign (.const (.int .i64 0)) (.int .i64 0) (fun _ => rfl)), ⟨trivial, trivial, rfl⟩, rfl, rfl⟩ ?_
  refine aw_cov (cov_prune (s1 := ⟨[(0, (.int .u64 p0)), (1, (.int .u64 p1))], [], 0⟩) ⟨rfl, rfl, trivial⟩ trivial (Nat.le_refl _)) ?_
  obtain ⟨v1, h2, H⟩ := bnd H
  refine aw_region (es := [_, _, _]) ⟨Step.plain rfl (does_move (.tmp 0) (.int .u64 p0) trivial), ⟨⟨rfl, trivial⟩, trivial, rfl⟩, rfl,
    Step.plain rfl (does_call 43 0 (fun _ => .any) (.func 43) [(.tmp 7)] [(.int .u64 p0)] [] true [(.int .u64 p0)] (.bool v1) _ _ rfl fo43 rfl ⟨trivial, trivial⟩ ⟨.data _ trivial, trivial⟩ (cmp_isNaN_uint64_spec p0 _ h2) trivial), ⟨⟨rfl, trivial⟩, trivial, rfl⟩, rfl,
    Step.plain rfl (does_assign (.tmp 8) (.bool v1) trivial), ⟨⟨rfl, trivial⟩, trivial, rfl⟩, rfl, rfl⟩ ?_
  refine aw_cov (cov_prune (s1 := ⟨[(0, (.int .u64 p0)), (1, (.int .u64 p1)), (5, (.bool v1))], [], 0⟩) ⟨rfl, rfl, rfl, trivial⟩ trivial (Nat.le_refl _)) ?_
  obtain ⟨v3, h4, H⟩ := bnd H
  refine aw_region (es := [_, _, _]) ⟨Step.plain rfl (does_move (.tmp 1) (.int .u64 p1) trivial), ⟨⟨rfl, trivial⟩, trivial, rfl⟩, rfl,
    Step.plain rfl (does_call 43 0 (fun _ => .any) (.func 43) [(.tmp 9)] [(.int .u64 p1)] [] true [(.int .u64 p1)] (.bool v3) _ _ rfl fo43 rfl ⟨trivial, trivial⟩ ⟨.data _ trivial, trivial⟩ (cmp_isNaN_uint64_spec p1 _ h4) trivial), ⟨⟨rfl, trivial⟩, trivial, rfl⟩, rfl,
    Step.plain rfl (does_assign (.tmp 10) (.bool v3) trivial), ⟨⟨rfl, trivial⟩, trivial, rfl⟩, rfl, rfl⟩ ?_
  refine aw_cov (cov_prune (s1 := ⟨[(0, (.int .u64 p0)), (1, (.int .u64 p1)), (5, (.bool v1)), (6, (.bool v3))], [], 0⟩) ⟨rfl, rfl, rfl, rfl, trivial⟩ trivial (Nat.le_refl _)) ?_
  refine aw_seq ?_
  refine aw_region (es := [_]) ⟨Step.plain rfl (does_move (.tmp 5) (.bool v1) trivial), ⟨⟨rfl, trivial⟩, trivial, rfl⟩, rfl, rfl⟩ ?_
  refine aw_cov (cov_prune (s1 := ⟨[(0, (.int .u64 p0)), (1, (.int .u64 p1)), (6, (.bool v3)), (11, (.bool v1))], [], 0⟩) ⟨rfl, rfl, rfl, rfl, trivial⟩ trivial (Nat.le_refl _)) ?_
  refine aw_cond rfl (fun hc => ?_) (fun hc => ?_)
  · replace H := ite_t hc H
    refine aw_seq ?_
    refine aw_region (es := [_]) ⟨Step.plain rfl (does_move (.tmp 6) (.bool v3) trivial), ⟨⟨rfl, trivial⟩, trivial, rfl⟩, rfl, rfl⟩ ?_
    refine aw_cov (cov_prune (s1 := ⟨[(12, (.bool v3))], [], 0⟩) ⟨rfl, trivial⟩ trivial (Nat.le_refl _)) ?_
    refine aw_cond rfl (fun hc => ?_) (fun hc => ?_)
    · replace H := ite_t hc H
      refine aw_region (es := [_]) ⟨Step.plain rfl (does_assign (.const (.int .i64 0)) (.int .i64 0) (fun _ => rfl)), ⟨trivial, trivial, rfl⟩, rfl, rfl⟩ ?_
      refine aw_cov (cov_prune (s1 := ⟨[(4, (.int .i64 0))], [], 0⟩) ⟨rfl, trivial⟩ trivial (Nat.le_refl _)) ?_
      refine aw_ret ?_
      refine rt_then ?_
      refine rt_then ?_
      exact fun a w hr => ⟨_, [(.int .i64 0)], hr, ⟨⟨_, rfl, .data (.int .i64 0) trivial⟩, trivial⟩, by decide, by cases H; rfl⟩
    · replace H := ite_f hc H
      refine aw_skip ?_
      refine nx_seq ?_
      refine aw_region (es := [_]) ⟨Step.plain rfl (does_assign (.const (.int .i64 (-1))) (.int .i64 (-1)) (fun _ => rfl)), ⟨trivial, trivial, rfl⟩, rfl, rfl⟩ ?_
      refine aw_cov (cov_prune (s1 := ⟨[(4, (.int .i64 (-1)))], [], 0⟩) ⟨rfl, trivial⟩ trivial (Nat.le_refl _)) ?_
      refine aw_ret ?_
      refine rt_then ?_
      exact fun a w hr => ⟨_, [(.int .i64 (-1))], hr, ⟨⟨_, rfl, .data (.int .i64 (-1)) trivial⟩, trivial⟩, by decide, by cases H; rfl⟩
  · replace H := ite_f hc H
    refine aw_skip ?_
    refine nx_seq ?_
    refine aw_seq ?_
    refine aw_region (es := [_]) ⟨Step.plain rfl (does_move (.tmp 6) (.bool v3) trivial), ⟨⟨rfl, trivial⟩, trivial, rfl⟩, rfl, rfl⟩ ?_
    refine aw_cov (cov_prune (s1 := ⟨[(0, (.int .u64 p0)), (1, (.int .u64 p1)), (13, (.bool v3))], [], 0⟩) ⟨rfl, rfl, rfl, trivial⟩ trivial (Nat.le_refl _)) ?_
    refine aw_cond rfl (fun hc => ?_) (fun hc => ?_)
    · replace H := ite_t hc H
      refine aw_region (es := [_]) ⟨Step.plain rfl (does_assign (.const (.int .i64 1)) (.int .i64 1) (fun _ => rfl)), ⟨trivial, trivial, rfl⟩, rfl, rfl⟩ ?_
      refine aw_cov (cov_prune (s1 := ⟨[(4, (.int .i64 1))], [], 0⟩) ⟨rfl, trivial⟩ trivial (Nat.le_refl _)) ?_
      refine aw_ret ?_
      refine rt_then ?_
      exact fun a w hr => ⟨_, [(.int .i64 1)], hr, ⟨⟨_, rfl, .data (.int .i64 1) trivial⟩, trivial⟩, by decide, by cases H; rfl⟩
    · replace H := ite_f hc H
      refine aw_skip ?_
      refine nx_seq ?_
      refine aw_seq ?_
      refine aw_region (es := [_, _, _]) ⟨Step.plain rfl (does_move (.tmp 0) (.int .u64 p0) trivial), ⟨⟨rfl, trivial⟩, trivial, rfl⟩, rfl,
        Step.plain rfl (does_move (.tmp 1) (.int .u64 p1) trivial), ⟨⟨rfl, trivial⟩, trivial, rfl⟩, rfl,
        Step.plain rfl (does_bin .lss 23 23 (.tmp 14) (.tmp 15) .u64 p0 p1 (.bool (decide (p0 < p1))) trivial trivial (bin_lss _ _ _ _)), ⟨⟨rfl, rfl, trivial⟩, trivial, rfl⟩, rfl, rfl⟩ ?_
      refine aw_cov (cov_prune (s1 := ⟨[(0, (.int .u64 p0)), (1, (.int .u64 p1)), (16, (.bool (decide (p0 < p1))))], [], 0⟩) ⟨rfl, rfl, rfl, trivial⟩ trivial (Nat.le_refl _)) ?_
      refine aw_cond rfl (fun hc => ?_) (fun hc => ?_)
      · replace H := ite_t hc H
        refine aw_region (es := [_]) ⟨Step.plain rfl (does_assign (.const (.int .i64 (-1))) (.int .i64 (-1)) (fun _ => rfl)), ⟨trivial, trivial, rfl⟩, rfl, rfl⟩ ?_
        refine aw_cov (cov_prune (s1 := ⟨[(4, (.int .i64 (-1)))], [], 0⟩) ⟨rfl, trivial⟩ trivial (Nat.le_refl _)) ?_
        refine aw_ret ?_
        refine rt_then ?_
        exact fun a w hr => ⟨_, [(.int .i64 (-1))], hr, ⟨⟨_, rfl, .data (.int .i64 (-1)) trivial⟩, trivial⟩, by decide, by cases H; rfl⟩
      · replace H := ite_f hc H
        refine aw_skip ?_
        refine nx_seq ?_
        refine aw_seq ?_
        refine aw_region (es := [_, _, _]) ⟨Step.plain rfl (does_move (.tmp 0) (.int .u64 p0) trivial), ⟨⟨rfl, trivial⟩, trivial, rfl⟩, rfl,
          Step.plain rfl (does_move (.tmp 1) (.int .u64 p1) trivial), ⟨⟨rfl, trivial⟩, trivial, rfl⟩, rfl,
          Step.plain rfl (does_bin .gtr 23 23 (.tmp 17) (.tmp 18) .u64 p0 p1 (.bool (decide (p0 > p1))) trivial trivial (bin_gtr _ _ _ _)), ⟨⟨rfl, rfl, trivial⟩, trivial, rfl⟩, rfl, rfl⟩ ?_
        refine aw_cov (cov_prune (s1 := ⟨[(19, (.bool (decide (p0 > p1))))], [], 0⟩) ⟨rfl, trivial⟩ trivial (Nat.le_refl _)) ?_
        refine aw_cond rfl (fun hc => ?_) (fun hc => ?_)
        · replace H := ite_t hc H
          refine aw_region (es := [_]) ⟨Step.plain rfl (does_assign (.const (.int .i64 1)) (.int .i64 1) (fun _ => rfl)), ⟨trivial, trivial, rfl⟩, rfl, rfl⟩ ?_
          refine aw_cov (cov_prune (s1 := ⟨[(4, (.int .i64 1))], [], 0⟩) ⟨rfl, trivial⟩ trivial (Nat.le_refl _)) ?_
          refine aw_ret ?_
          refine rt_then ?_
          exact fun a w hr => ⟨_, [(.int .i64 1)], hr, ⟨⟨_, rfl, .data (.int .i64 1) trivial⟩, trivial⟩, by decide, by cases H; rfl⟩
        · replace H := ite_f hc H
          refine aw_skip ?_
          refine nx_seq ?_
          refine aw_region (es := [_]) ⟨Step.plain rfl (does_assign (.const (.int .i64 0)) (.int .i64 0) (fun _ => rfl)), ⟨trivial, trivial, rfl⟩, rfl, rfl⟩ ?_
          refine aw_cov (cov_prune (s1 := ⟨[(4, (.int .i64 0))], [], 0⟩) ⟨rfl, trivial⟩ trivial (Nat.le_refl _)) ?_
          refine aw_ret ?_
          exact fun a w hr => ⟨_, [(.int .i64 0)], hr, ⟨⟨_, rfl, .data (.int .i64 0) trivial⟩, trivial⟩, by decide, by cases H; rfl⟩

theorem cmp_Or_int_spec (p0 : (_root_.List Int)) (r : Int) (H : cmp_Or_int p0 = some r) : FSpec Try.prog 37 [(e_s_i64 p0)] (.int .i64 r) := by
  refine spec_of (fn := Try.f37) (args := [(e_s_i64 p0)]) Try.func37 rfl (Nat.le_of_ble_eq_true rfl) ?_
  rintro ⟨G, w0, W, S, Sp⟩ hG
  cases hG
  unfold cmp_Or_int at H
  refine aw_region (es := [_]) ⟨Step.plain rfl (does_assign (.const (.int .i64 0)) (.int .i64 0) (fun _ => rfl)), ⟨trivial, trivial, rfl⟩, rfl, rfl⟩ ?_
  refine aw_cov (cov_prune (s1 := ⟨[(0, (e_s_i64 p0))], [], 0⟩) ⟨rfl, trivial⟩ trivial (Nat.le_refl _)) ?_
  refine aw_region (es := [_]) ⟨Step.plain rfl (does_assign (.const (.int .i64 0)) (.int .i64 0) (fun _ => rfl)), ⟨trivial, trivial, rfl⟩, rfl, rfl⟩ ?_
  refine aw_cov (cov_prune (s1 := ⟨[(0, (e_s_i64 p0)), (3, (.int .i64 0))], [], 0⟩) ⟨rfl, rfl, trivial⟩ trivial (Nat.le_refl _)) ?_
  refine aw_seq ?_
  refine aw_region (es := [_, _, _]) ⟨Step.plain rfl (does_move (.tmp 0) (e_s_i64 p0) trivial), ⟨⟨rfl, trivial⟩, trivial, rfl⟩, rfl,
    Step.plain rfl (does_lens 60 1 p0.length 6 (fun j => (.int .i64 (p0.getD j 0))) el60), ⟨⟨rfl, trivial⟩, trivial, rfl⟩, rfl,
    Step.plain rfl (does_move (.const (.int .i64 0)) (.int .i64 0) (fun _ => rfl)), ⟨trivial, trivial, rfl⟩, rfl, rfl⟩ ?_
  refine aw_cov (cov_prune (s1 := ⟨[(3, (.int .i64 0)), (6, (e_s_i64 p0)), (7, (.int .i64 (p0.length : Int))), (8, (.int .i64 0))], [], 0⟩) ⟨rfl, rfl, rfl, rfl, trivial⟩ trivial (Nat.le_refl _)) ?_
  obtain ⟨wn2, hwn2, Hrn2⟩ := bnd H
  refine aw_meet (fun y4 : Unit => (⟨[(3, (.int .i64 0))], [], 0⟩ : St)) (fun y4 => Fl.nx y4 = wn2) (fun y4 hy => ?_) (aw_block (aw_runs (fun x1 : Int => (⟨[(3, (.int .i64 0)), (6, (e_s_i64 p0)), (7, (.int .i64 (p0.length : Int))), (8, (.int .i64 x1))], [], 0⟩ : St)) hwn2 (cov_prune ⟨rfl, rfl, rfl, rfl, trivial⟩ trivial (Nat.le_of_ble_eq_true rfl)) (fun x1 st H hsn2 => ?_)))
  · have H := nx_of hy Hrn2
    refine nx_seq ?_
    refine aw_region (es := [_, _]) ⟨Step.plain rfl (does_move (.tmp 3) (.int .i64 0) trivial), ⟨⟨rfl, trivial⟩, trivial, rfl⟩, rfl,
      Step.plain rfl (does_assign (.tmp 17) (.int .i64 0) trivial), ⟨⟨rfl, trivial⟩, trivial, rfl⟩, rfl, rfl⟩ ?_
    refine aw_cov (cov_prune (s1 := ⟨[(2, (.int .i64 0))], [], 0⟩) ⟨rfl, trivial⟩ trivial (Nat.le_refl _)) ?_
    refine aw_ret ?_
    exact fun a w hr => ⟨_, [(.int .i64 0)], hr, ⟨⟨_, rfl, .data (.int .i64 0) trivial⟩, trivial⟩, by decide, by cases H; rfl⟩
  · refine aw_region (es := [_]) ⟨Step.plain rfl (does_bin .lss 3 3 (.tmp 8) (.tmp 7) .i64 x1 (p0.length : Int) (.bool (decide (x1 < (p0.length : Int)))) trivial trivial (bin_lss _ _ _ _)), ⟨⟨rfl, rfl, trivial⟩, trivial, rfl⟩, rfl, rfl⟩ ?_
    refine aw_cov (cov_prune (s1 := ⟨[(3, (.int .i64 0)), (6, (e_s_i64 p0)), (7, (.int .i64 (p0.length : Int))), (8, (.int .i64 x1)), (9, (.bool (decide (x1 < (p0.length : Int)))))], [], 0⟩) ⟨rfl, rfl, rfl, rfl, rfl, trivial⟩ trivial (Nat.le_refl _)) ?_
    refine aw_seq ?_
    refine aw_cond rfl (fun hc => ?_) (fun hc => ?_)
    · replace H := ite_t hc H
      refine aw_skip ?_
      refine nx_seq ?_
      refine aw_seq ?_
      refine aw_block ?_
      obtain ⟨h3, H⟩ := ib_of H
      refine aw_region (es := [_, _, _]) ⟨Step.plain rfl (does_indexAddrs 60 1 p0.length 6 (fun j => (.int .i64 (p0.getD j 0))) (.tmp 8) .i64 x1 el60 trivial h3.1 h3.2), ⟨⟨rfl, rfl, trivial⟩, trivial, rfl⟩, rfl,
        Step.plain rfl (does_loadc 3 10 (.int .i64 (p0.getD x1.toNat 0)) ty3), ⟨⟨rfl, trivial⟩, trivial, rfl⟩, rfl,
        Step.plain rfl (does_assign (.tmp 11) (.int .i64 (p0.getD x1.toNat 0)) trivial), ⟨⟨rfl, trivial⟩, trivial, rfl⟩, rfl, rfl⟩ ?_
      refine aw_cov (cov_prune (s1 := ⟨[(3, (.int .i64 0)), (6, (e_s_i64 p0)), (7, (.int .i64 (p0.length : Int))), (8, (.int .i64 x1)), (5, (.int .i64 (p0.getD x1.toNat 0)))], [], 0⟩) ⟨rfl, rfl, rfl, rfl, rfl, trivial⟩ trivial (Nat.le_refl _)) ?_
      refine aw_region (es := [_, _, _]) ⟨Step.plain rfl (does_move (.tmp 5) (.int .i64 (p0.getD x1.toNat 0)) trivial), ⟨⟨rfl, trivial⟩, trivial, rfl⟩, rfl,
        Step.plain rfl (does_move (.tmp 3) (.int .i64 0) trivial), ⟨⟨rfl, trivial⟩, trivial, rfl⟩, rfl,
        Step.plain rfl (does_bin .neq 3 3 (.tmp 12) (.tmp 13) .i64 (p0.getD x1.toNat 0) 0 (.bool ((p0.getD x1.toNat 0) != 0)) trivial trivial (bin_neq _ _ _ _)), ⟨⟨rfl, rfl, trivial⟩, trivial, rfl⟩, rfl, rfl⟩ ?_
      refine aw_cov (cov_prune (s1 := ⟨[(3, (.int .i64 0)), (6, (e_s_i64 p0)), (7, (.int .i64 (p0.length : Int))), (8, (.int .i64 x1)), (5, (.int .i64 (p0.getD x1.toNat 0))), (14, (.bool ((p0.getD x1.toNat 0) != 0)))], [], 0⟩) ⟨rfl, rfl, rfl, rfl, rfl, rfl, trivial⟩ trivial (Nat.le_refl _)) ?_
      refine aw_cond rfl (fun hc => ?_) (fun hc => ?_)
      · replace H := ite_t hc H
        refine aw_region (es := [_, _]) ⟨Step.plain rfl (does_move (.tmp 5) (.int .i64 (p0.getD x1.toNat 0)) trivial), ⟨⟨rfl, trivial⟩, trivial, rfl⟩, rfl,
          Step.plain rfl (does_assign (.tmp 15) (.int .i64 (p0.getD x1.toNat 0)) trivial), ⟨⟨rfl, trivial⟩, trivial, rfl⟩, rfl, rfl⟩ ?_
        refine aw_cov (cov_prune (s1 := ⟨[(2, (.int .i64 (p0.getD x1.toNat 0)))], [], 0⟩) ⟨rfl, trivial⟩ trivial (Nat.le_refl _)) ?_
        refine aw_ret ?_
        replace H := rt_of H hsn2 Hrn2
        refine rt_blk ?_
        refine rt_then ?_
        refine rt_then ?_
        refine rt_blk ?_
        refine rt_then ?_
        refine rt_then ?_
        exact fun a w hr => ⟨_, [(.int .i64 (p0.getD x1.toNat 0))], hr, ⟨⟨_, rfl, .data (.int .i64 (p0.getD x1.toNat 0)) trivial⟩, trivial⟩, by decide, by cases H; rfl⟩
      · replace H := ite_f hc H
        refine aw_skip ?_
        refine nx_blk ?_
        refine nx_seq ?_
        refine aw_region1 (es := [_, _]) ⟨Step.plain rfl (does_bin .add 3 3 (.tmp 8) (.const (.int .i64 1)) .i64 x1 1 (.int .i64 (IntKind.i64.wrap (x1 + 1))) trivial (fun _ => rfl) (bin_add _ _ _ _)), ⟨⟨rfl, trivial⟩, trivial, rfl⟩, rfl,
          Step.plain rfl (does_move (.tmp 16) (.int .i64 (IntKind.i64.wrap (x1 + 1))) trivial), ⟨⟨rfl, trivial⟩, trivial, rfl⟩, rfl, rfl⟩ ?_
        exact nx_loop ((IntKind.i64.wrap (x1 + 1))) H (cov_prune ⟨rfl, rfl, rfl, rfl, trivial⟩ trivial (Nat.le_of_ble_eq_true rfl))
    · replace H := ite_f hc H
      refine aw_exit ?_
      refine ex_then ?_
      refine ex_then ?_
      refine ex_here ?_
      exact nx_ljoin () H hsn2 (cov_prune ⟨rfl, trivial⟩ trivial (Nat.le_of_ble_eq_true rfl))

theorem group_compare_spec (p0 : api_Member) (p1 : api_Member) (r : Int) (H : group_compare p0 p1 = some r) : FSpec Try.prog 29 [(e_api_Member p0), (e_api_Member p1)] (.int .i64 r) := by
  refine spec_of (fn := Try.f29) (args := [(e_api_Member p0), (e_api_Member p1)]) Try.func29 rfl (Nat.le_of_ble_eq_true rfl) ?_
  rintro ⟨G, w0, W, S, Sp⟩ hG
  cases hG
  unfold group_compare at H
  refine aw_region (es := [_, _, _]) ⟨Step.plain rfl (does_box 35 (.tmp 0) 0 (e_api_Member p0) trivial rfl), ⟨⟨rfl, trivial⟩, trivial, rfl⟩, rfl,
    Step.plain rfl (does_box 35 (.tmp 1) 1 (e_api_Member p1) trivial rfl), ⟨⟨rfl, trivial⟩, trivial, rfl⟩, rfl,
    Step.plain rfl (does_assign (.const (.int .i64 0)) (.int .i64 0) (fun _ => rfl)), ⟨trivial, trivial, rfl⟩, rfl, rfl⟩ ?_
  refine aw_cov (cov_prune (s1 := ⟨[(2, (.ptr 0 0 [])), (3, (.ptr 1 0 []))], [(0, some (.var (e_api_Member p0))), (1, some (.var (e_api_Member p1)))], 2⟩) ⟨rfl, rfl, trivial⟩ ⟨rfl, rfl, trivial⟩ (Nat.le_refl _)) ?_
  obtain ⟨v1, h2, H⟩ := bnd H
  obtain ⟨v3, h4, H⟩ := bnd H
  obtain ⟨v5, h6, H⟩ := bnd H
  obtain ⟨v7, h8, H⟩ := bnd H
  refine aw_draw (es := [_, _, _, _, _, _, _, _, _, _, _, _, _, _, _, _, _, _]) (mixed) ⟨Step.plain rfl (does_fieldAddr 35 0 0 2 0 0 [] (.var (e_api_Member p0)) fl35_0), ⟨⟨rfl, trivial⟩, ⟨rfl, trivial⟩, rfl⟩, rfl,
    Step.plain rfl (does_load 3 5 0 (0 + 0) [0] (.var (e_api_Member p0)) (.int .i64 p0.Group) ⟨rfl, Nat.le_of_ble_eq_true rfl, trivial⟩ rfl rfl ty3), ⟨⟨rfl, trivial⟩, ⟨rfl, trivial⟩, rfl⟩, rfl,
    Step.plain rfl (does_fieldAddr 35 0 0 3 1 0 [] (.var (e_api_Member p1)) fl35_0), ⟨⟨rfl, trivial⟩, ⟨rfl, trivial⟩, rfl⟩, rfl,
    Step.plain rfl (does_load 3 7 1 (0 + 0) [0] (.var (e_api_Member p1)) (.int .i64 p1.Group) ⟨rfl, Nat.le_of_ble_eq_true rfl, trivial⟩ rfl rfl ty3), ⟨⟨rfl, trivial⟩, ⟨rfl, trivial⟩, rfl⟩, rfl,
    Step.plain rfl (does_call 38 0 (fun _ => .any) (.func 38) [(.tmp 6), (.tmp 8)] [(.int .i64 p0.Group), (.int .i64 p1.Group)] [] true [(.int .i64 p0.Group), (.int .i64 p1.Group)] (.int .i64 v1) _ _ rfl fo38 rfl ⟨trivial, trivial, trivial⟩ ⟨.data _ trivial, .data _ trivial, trivial⟩ (cmp_Compare_int_spec p0.Group p1.Group _ h2) trivial), ⟨⟨rfl, rfl, trivial⟩, trivial, rfl⟩, rfl,
    Step.plain rfl (does_fieldAddr 35 1 1 2 0 0 [] (.var (e_api_Member p0)) fl35_1), ⟨⟨rfl, trivial⟩, ⟨rfl, trivial⟩, rfl⟩, rfl,
    Step.plain rfl (does_load 3 10 0 (0 + 1) [1] (.var (e_api_Member p0)) (.int .i64 p0.Daemon) ⟨rfl, Nat.le_of_ble_eq_true rfl, trivial⟩ rfl rfl ty3), ⟨⟨rfl, trivial⟩, ⟨rfl, trivial⟩, rfl⟩, rfl,
    Step.plain rfl (does_fieldAddr 35 1 1 3 1 0 [] (.var (e_api_Member p1)) fl35_1), ⟨⟨rfl, trivial⟩, ⟨rfl, trivial⟩, rfl⟩, rfl,
    Step.plain rfl (does_load 3 12 1 (0 + 1) [1] (.var (e_api_Member p1)) (.int .i64 p1.Daemon) ⟨rfl, Nat.le_of_ble_eq_true rfl, trivial⟩ rfl rfl ty3), ⟨⟨rfl, trivial⟩, ⟨rfl, trivial⟩, rfl⟩, rfl,
    Step.plain rfl (does_call 38 0 (fun _ => .any) (.func 38) [(.tmp 11), (.tmp 13)] [(.int .i64 p0.Daemon), (.int .i64 p1.Daemon)] [] true [(.int .i64 p0.Daemon), (.int .i64 p1.Daemon)] (.int .i64 v3) _ _ rfl fo38 rfl ⟨trivial, trivial, trivial⟩ ⟨.data _ trivial, .data _ trivial, trivial⟩ (cmp_Compare_int_spec p0.Daemon p1.Daemon _ h4) trivial), ⟨⟨rfl, rfl, trivial⟩, trivial, rfl⟩, rfl,
    Step.plain rfl (does_fieldAddr 35 2 2 2 0 0 [] (.var (e_api_Member p0)) fl35_2), ⟨⟨rfl, trivial⟩, ⟨rfl, trivial⟩, rfl⟩, rfl,
    Step.plain rfl (does_load 23 15 0 (0 + 2) [2] (.var (e_api_Member p0)) (.int .u64 p0.Session) ⟨rfl, Nat.le_of_ble_eq_true rfl, trivial⟩ rfl rfl ty23), ⟨⟨rfl, trivial⟩, ⟨rfl, trivial⟩, rfl⟩, rfl,
    Step.plain rfl (does_fieldAddr 35 2 2 3 1 0 [] (.var (e_api_Member p1)) fl35_2), ⟨⟨rfl, trivial⟩, ⟨rfl, trivial⟩, rfl⟩, rfl,
    Step.plain rfl (does_load 23 17 1 (0 + 2) [2] (.var (e_api_Member p1)) (.int .u64 p1.Session) ⟨rfl, Nat.le_of_ble_eq_true rfl, trivial⟩ rfl rfl ty23), ⟨⟨rfl, trivial⟩, ⟨rfl, trivial⟩, rfl⟩, rfl,
    Step.plain rfl (does_call 39 0 (fun _ => .any) (.func 39) [(.tmp 16), (.tmp 18)] [(.int .u64 p0.Session), (.int .u64 p1.Session)] [] true [(.int .u64 p0.Session), (.int .u64 p1.Session)] (.int .i64 v5) _ _ rfl fo39 rfl ⟨trivial, trivial, trivial⟩ ⟨.data _ trivial, .data _ trivial, trivial⟩ (cmp_Compare_uint64_spec p0.Session p1.Session _ h6) trivial), ⟨⟨rfl, rfl, trivial⟩, trivial, rfl⟩, rfl,
    Step.plain rfl (does_buildSl 60 3 1 (.int .i64 0) (fun j => (.int .i64 (([v1, v3, v5] : _root_.List Int).getD j 0))) #[(0, (.tmp 9)), (1, (.tmp 14)), (2, (.tmp 19))] [(0, (.tmp 9)), (1, (.tmp 14)), (2, (.tmp 19))] [(0, (.int .i64 v1)), (1, (.int .i64 v3)), (2, (.int .i64 v5))] rfl so60 (by decide) ⟨⟨rfl, trivial⟩, ⟨rfl, trivial⟩, ⟨rfl, trivial⟩, trivial⟩ ⟨⟨Nat.le_of_ble_eq_true rfl, rfl, rfl⟩, ⟨Nat.le_of_ble_eq_true rfl, rfl, rfl⟩, ⟨Nat.le_of_ble_eq_true rfl, rfl, rfl⟩, trivial⟩ (fun j h => match j, h with | 0, _ => rfl | 1, _ => rfl | 2, _ => rfl | k + 3, h => absurd h (by omega))), ⟨⟨rfl, rfl, rfl, trivial⟩, trivial, rfl⟩, rfl,
    Step.plain rfl (does_call 37 0 (fun _ => .any) (.func 37) [(.tmp 20)] [(e_s_i64 ([v1, v3, v5] : _root_.List Int))] [] true [(e_s_i64 ([v1, v3, v5] : _root_.List Int))] (.int .i64 v7) _ _ rfl fo37 rfl ⟨trivial, trivial⟩ ⟨.data _ (d_s_i64 ([v1, v3, v5] : _root_.List Int)), trivial⟩ (cmp_Or_int_spec ([v1, v3, v5] : _root_.List Int) _ h8) trivial), ⟨⟨rfl, trivial⟩, trivial, rfl⟩, rfl,
    Step.plain rfl (does_assign (.tmp 21) (.int .i64 v7) trivial), ⟨⟨rfl, trivial⟩, trivial, rfl⟩, rfl, rfl⟩ rfl ?_
  refine aw_cov (cov_prune (s1 := ⟨[(4, (.int .i64 v7))], [], 2⟩) ⟨rfl, trivial⟩ trivial (Nat.le_refl _)) ?_
  refine aw_ret ?_
  exact fun a w hr => ⟨_, [(.int .i64 v7)], hr, ⟨⟨_, rfl, .data (.int .i64 v7) trivial⟩, trivial⟩, by decide, by cases H; rfl⟩

theorem group_Less_spec (p0 : api_Member) (p1 : api_Member) (r : Bool) (H : group_Less p0 p1 = some r) : FSpec Try.prog 9 [(e_api_Member p0), (e_api_Member p1)] (.bool r) := by
  refine spec_of (fn := Try.f9) (args := [(e_api_Member p0), (e_api_Member p1)]) Try.func9 rfl (Nat.le_of_ble_eq_true rfl) ?_
  rintro ⟨G, w0, W, S, Sp⟩ hG
  cases hG
  unfold group_Less at H
  refine aw_region (es := [_, _, _]) ⟨Step.plain rfl (does_box 35 (.tmp 0) 0 (e_api_Member p0) trivial rfl), ⟨⟨rfl, trivial⟩, trivial, rfl⟩, rfl,
    Step.plain rfl (does_box 35 (.tmp 1) 1 (e_api_Member p1) trivial rfl), ⟨⟨rfl, trivial⟩, trivial, rfl⟩, rfl,
    Step.plain rfl (does_assign (.const (.bool false)) (.bool false) (fun _ => rfl)), ⟨trivial, trivial, rfl⟩, rfl, rfl⟩ ?_
  refine aw_cov (cov_prune (s1 := ⟨[(2, (.ptr 0 0 [])), (3, (.ptr 1 0 []))], [(0, some (.var (e_api_Member p0))), (1, some (.var (e_api_Member p1)))], 2⟩) ⟨rfl, rfl, trivial⟩ ⟨rfl, rfl, trivial⟩ (Nat.le_refl _)) ?_
  obtain ⟨v1, h2, H⟩ := bnd H
  refine aw_region (es := [_, _, _, _, _]) ⟨Step.plain rfl (does_load 35 2 0 0 [] (.var (e_api_Member p0)) (e_api_Member p0) trivial rfl rfl ty35), ⟨⟨rfl, trivial⟩, ⟨rfl, trivial⟩, rfl⟩, rfl,
    Step.plain rfl (does_load 35 3 1 0 [] (.var (e_api_Member p1)) (e_api_Member p1) trivial rfl rfl ty35), ⟨⟨rfl, trivial⟩, ⟨rfl, trivial⟩, rfl⟩, rfl,
    Step.plain rfl (does_call 29 0 (fun _ => .any) (.func 29) [(.tmp 5), (.tmp 6)] [(e_api_Member p0), (e_api_Member p1)] [] true [(e_api_Member p0), (e_api_Member p1)] (.int .i64 v1) _ _ rfl fo29 rfl ⟨trivial, trivial, trivial⟩ ⟨.data _ (d_api_Member p0), .data _ (d_api_Member p1), trivial⟩ (group_compare_spec p0 p1 _ h2) trivial), ⟨⟨rfl, rfl, trivial⟩, trivial, rfl⟩, rfl,
    Step.plain rfl (does_bin .lss 3 3 (.tmp 7) (.const (.int .i64 0)) .i64 v1 0 (.bool (decide (v1 < 0))) trivial (fun _ => rfl) (bin_lss _ _ _ _)), ⟨⟨rfl, trivial⟩, trivial, rfl⟩, rfl,
    Step.plain rfl (does_assign (.tmp 8) (.bool (decide (v1 < 0))) trivial), ⟨⟨rfl, trivial⟩, trivial, rfl⟩, rfl, rfl⟩ ?_
  refine aw_cov (cov_prune (s1 := ⟨[(4, (.bool (decide (v1 < 0))))], [], 2⟩) ⟨rfl, trivial⟩ trivial (Nat.le_refl _)) ?_
  refine aw_ret ?_
  exact fun a w hr => ⟨_, [(.bool (decide (v1 < 0)))], hr, ⟨⟨_, rfl, .data (.bool (decide (v1 < 0))) trivial⟩, trivial⟩, by decide, by cases H; rfl⟩

theorem group_Apply_1_spec (p0 : api_Member) (q0 : api_Member) (r : Bool) (H : group_Apply_1 p0 q0 = some r) : FSpec Try.prog 22 [(e_api_Member p0), (.cptr (e_api_Member q0))] (.bool r) := by
  refine spec_of (fn := Try.f22) (args := [(e_api_Member p0), (.cptr (e_api_Member q0))]) Try.func22 rfl (Nat.le_of_ble_eq_true rfl) ?_
  rintro ⟨G, w0, W, S, Sp⟩ hG
  cases hG
  unfold group_Apply_1 at H
  refine aw_region (es := [_, _]) ⟨Step.plain rfl (does_box 35 (.tmp 0) 0 (e_api_Member p0) trivial rfl), ⟨⟨rfl, trivial⟩, trivial, rfl⟩, rfl,
    Step.plain rfl (does_assign (.const (.bool false)) (.bool false) (fun _ => rfl)), ⟨trivial, trivial, rfl⟩, rfl, rfl⟩ ?_
  refine aw_cov (cov_prune (s1 := ⟨[(1, (.cptr (e_api_Member q0))), (2, (.ptr 0 0 []))], [(0, some (.var (e_api_Member p0)))], 1⟩) ⟨rfl, rfl, trivial⟩ ⟨rfl, trivial⟩ (Nat.le_refl _)) ?_
  obtain ⟨v1, h2, H⟩ := bnd H
  refine aw_region (es := [_, _, _, _, _]) ⟨Step.plain rfl (does_load 35 2 0 0 [] (.var (e_api_Member p0)) (e_api_Member p0) trivial rfl rfl ty35), ⟨⟨rfl, trivial⟩, ⟨rfl, trivial⟩, rfl⟩, rfl,
    Step.plain rfl (does_loadc 35 1 (e_api_Member q0) ty35), ⟨⟨rfl, trivial⟩, trivial, rfl⟩, rfl,
    Step.plain rfl (does_call 9 0 (fun _ => .any) (.func 9) [(.tmp 4), (.tmp 5)] [(e_api_Member p0), (e_api_Member q0)] [] true [(e_api_Member p0), (e_api_Member q0)] (.bool v1) _ _ rfl fo9 rfl ⟨trivial, trivial, trivial⟩ ⟨.data _ (d_api_Member p0), .data _ (d_api_Member q0), trivial⟩ (group_Less_spec p0 q0 _ h2) trivial), ⟨⟨rfl, rfl, trivial⟩, trivial, rfl⟩, rfl,
    Step.plain rfl (does_not 4 (.tmp 6) v1 trivial), ⟨⟨rfl, trivial⟩, trivial, rfl⟩, rfl,
    Step.plain rfl (does_assign (.tmp 7) (.bool (!v1)) trivial), ⟨⟨rfl, trivial⟩, trivial, rfl⟩, rfl, rfl⟩ ?_
  refine aw_cov (cov_prune (s1 := ⟨[(3, (.bool (!v1)))], [], 1⟩) ⟨rfl, trivial⟩ trivial (Nat.le_refl _)) ?_
  refine aw_ret ?_
  exact fun a w hr => ⟨_, [(.bool (!v1))], hr, ⟨⟨_, rfl, .data (.bool (!v1)) trivial⟩, trivial⟩, by decide, by cases H; rfl⟩

theorem slices_Index_api_Member_api_Member_spec (p0 : (_root_.List api_Member)) (p1 : api_Member) (r : Int) (H : slices_Index_api_Member_api_Member p0 p1 = some r) : FSpec Try.prog 34 [(e_s_api_Member p0), (e_api_Member p1)] (.int .i64 r) := by
  refine spec_of (fn := Try.f34) (args := [(e_s_api_Member p0), (e_api_Member p1)]) Try.func34 rfl (Nat.le_of_ble_eq_true rfl) ?_
  rintro ⟨G, w0, W, S, Sp⟩ hG
  cases hG
  unfold slices_Index_api_Member_api_Member at H
  refine aw_region (es := [_, _]) ⟨Step.plain rfl (does_box 35 (.tmp 1) 0 (e_api_Member p1) trivial rfl), ⟨⟨rfl, trivial⟩, trivial, rfl⟩, rfl,
    Step.plain rfl (does_assign (.const (.int .i64 0)) (.int .i64 0) (fun _ => rfl)), ⟨trivial, trivial, rfl⟩, rfl, rfl⟩ ?_
  refine aw_cov (cov_prune (s1 := ⟨[(0, (e_s_api_Member p0)), (3, (.ptr 0 0 []))], [(0, some (.var (e_api_Member p1)))], 1⟩) ⟨rfl, rfl, trivial⟩ ⟨rfl, trivial⟩ (Nat.le_refl _)) ?_
  refine aw_seq ?_
  refine aw_region (es := [_, _, _]) ⟨Step.plain rfl (does_move (.tmp 0) (e_s_api_Member p0) trivial), ⟨⟨rfl, trivial⟩, trivial, rfl⟩, rfl,
    Step.plain rfl (does_lens 22 3 p0.length 6 (fun j => (e_api_Member (p0.getD j z_api_Member))) el22), ⟨⟨rfl, trivial⟩, trivial, rfl⟩, rfl,
    Step.plain rfl (does_move (.const (.int .i64 0)) (.int .i64 0) (fun _ => rfl)), ⟨trivial, trivial, rfl⟩, rfl, rfl⟩ ?_
  refine aw_cov (cov_prune (s1 := ⟨[(0, (e_s_api_Member p0)), (3, (.ptr 0 0 [])), (7, (.int .i64 (p0.length : Int))), (8, (.int .i64 0))], [(0, some (.var (e_api_Member p1)))], 1⟩) ⟨rfl, rfl, rfl, rfl, trivial⟩ ⟨rfl, trivial⟩ (Nat.le_refl _)) ?_
  obtain ⟨wn2, hwn2, Hrn2⟩ := bnd H
  refine aw_meet (fun y4 : Unit => (⟨[], [], 1⟩ : St)) (fun y4 => Fl.nx y4 = wn2) (fun y4 hy => ?_) (aw_block (aw_runs (fun x1 : Int => (⟨[(0, (e_s_api_Member p0)), (3, (.ptr 0 0 [])), (7, (.int .i64 (p0.length : Int))), (8, (.int .i64 x1))], [(0, some (.var (e_api_Member p1)))], 1⟩ : St)) hwn2 (cov_prune ⟨rfl, rfl, rfl, rfl, trivial⟩ ⟨rfl, trivial⟩ (Nat.le_of_ble_eq_true rfl)) (fun x1 st H hsn2 => ?_)))
  · have H := nx_of hy Hrn2
    refine nx_seq ?_
    refine aw_region (es := [_]) ⟨Step.plain rfl (does_assign (.const (.int .i64 (-1))) (.int .i64 (-1)) (fun _ => rfl)), ⟨trivial, trivial, rfl⟩, rfl, rfl⟩ ?_
    refine aw_cov (cov_prune (s1 := ⟨[(4, (.int .i64 (-1)))], [], 1⟩) ⟨rfl, trivial⟩ trivial (Nat.le_refl _)) ?_
    refine aw_ret ?_
    exact fun a w hr => ⟨_, [(.int .i64 (-1))], hr, ⟨⟨_, rfl, .data (.int .i64 (-1)) trivial⟩, trivial⟩, by decide, by cases H; rfl⟩
  · refine aw_region (es := [_]) ⟨Step.plain rfl (does_bin .lss 3 3 (.tmp 8) (.tmp 7) .i64 x1 (p0.length : Int) (.bool (decide (x1 < (p0.length : Int)))) trivial trivial (bin_lss _ _ _ _)), ⟨⟨rfl, rfl, trivial⟩, trivial, rfl⟩, rfl, rfl⟩ ?_
    refine aw_cov (cov_prune (s1 := ⟨[(0, (e_s_api_Member p0)), (3, (.ptr 0 0 [])), (7, (.int .i64 (p0.length : Int))), (8, (.int .i64 x1)), (9, (.bool (decide (x1 < (p0.length : Int)))))], [(0, some (.var (e_api_Member p1)))], 1⟩) ⟨rfl, rfl, rfl, rfl, rfl, trivial⟩ ⟨rfl, trivial⟩ (Nat.le_refl _)) ?_
    refine aw_seq ?_
    refine aw_cond rfl (fun hc => ?_) (fun hc => ?_)
    · replace H := ite_t hc H
      refine aw_skip ?_
      refine nx_seq ?_
      refine aw_seq ?_
      refine aw_block ?_
      refine aw_region (es := [_, _]) ⟨Step.plain rfl (does_move (.tmp 8) (.int .i64 x1) trivial), ⟨⟨rfl, trivial⟩, trivial, rfl⟩, rfl,
        Step.plain rfl (does_assign (.tmp 10) (.int .i64 x1) trivial), ⟨⟨rfl, trivial⟩, trivial, rfl⟩, rfl, rfl⟩ ?_
      refine aw_cov (cov_prune (s1 := ⟨[(0, (e_s_api_Member p0)), (3, (.ptr 0 0 [])), (7, (.int .i64 (p0.length : Int))), (8, (.int .i64 x1)), (5, (.int .i64 x1))], [(0, some (.var (e_api_Member p1)))], 1⟩) ⟨rfl, rfl, rfl, rfl, rfl, trivial⟩ ⟨rfl, trivial⟩ (Nat.le_refl _)) ?_
      obtain ⟨h3, H⟩ := ib_of H
      refine aw_draw (es := [_, _, _, _, _, _]) (mixed) ⟨Step.plain rfl (does_load 35 3 0 0 [] (.var (e_api_Member p1)) (e_api_Member p1) trivial rfl rfl ty35), ⟨⟨rfl, trivial⟩, ⟨rfl, trivial⟩, rfl⟩, rfl,
        Step.plain rfl (does_move (.tmp 0) (e_s_api_Member p0) trivial), ⟨⟨rfl, trivial⟩, trivial, rfl⟩, rfl,
        Step.plain rfl (does_move (.tmp 5) (.int .i64 x1) trivial), ⟨⟨rfl, trivial⟩, trivial, rfl⟩, rfl,
        Step.plain rfl (does_indexAddrs 22 3 p0.length 12 (fun j => (e_api_Member (p0.getD j z_api_Member))) (.tmp 13) .i64 x1 el22 trivial h3.1 h3.2), ⟨⟨rfl, rfl, trivial⟩, trivial, rfl⟩, rfl,
        Step.plain rfl (does_loadc 35 14 (e_api_Member (p0.getD x1.toNat z_api_Member)) ty35), ⟨⟨rfl, trivial⟩, trivial, rfl⟩, rfl,
        Step.plain rfl (does_eqT false 35 35 (.tmp 11) (.tmp 15) (e_api_Member p1) (e_api_Member (p0.getD x1.toNat z_api_Member)) (e_api_Member z_api_Member) (b_api_Member p1 (p0.getD x1.toNat z_api_Member)) rfl rfl trivial trivial eg35 sh35 (al_api_Member _ _) (al_api_Member _ _) (q_api_Member _ _)), ⟨⟨rfl, rfl, trivial⟩, trivial, rfl⟩, rfl, rfl⟩ rfl ?_
      refine aw_cov (cov_prune (s1 := ⟨[(0, (e_s_api_Member p0)), (3, (.ptr 0 0 [])), (7, (.int .i64 (p0.length : Int))), (8, (.int .i64 x1)), (5, (.int .i64 x1)), (16, (.bool (b_api_Member p1 (p0.getD x1.toNat z_api_Member))))], [(0, some (.var (e_api_Member p1)))], 1⟩) ⟨rfl, rfl, rfl, rfl, rfl, rfl, trivial⟩ ⟨rfl, trivial⟩ (Nat.le_refl _)) ?_
      refine aw_cond rfl (fun hc => ?_) (fun hc => ?_)
      · replace H := ite_t hc H
        refine aw_region (es := [_, _]) ⟨Step.plain rfl (does_move (.tmp 5) (.int .i64 x1) trivial), ⟨⟨rfl, trivial⟩, trivial, rfl⟩, rfl,
          Step.plain rfl (does_assign (.tmp 17) (.int .i64 x1) trivial), ⟨⟨rfl, trivial⟩, trivial, rfl⟩, rfl, rfl⟩ ?_
        refine aw_cov (cov_prune (s1 := ⟨[(4, (.int .i64 x1))], [], 1⟩) ⟨rfl, trivial⟩ trivial (Nat.le_refl _)) ?_
        refine aw_ret ?_
        replace H := rt_of H hsn2 Hrn2
        refine rt_blk ?_
        refine rt_then ?_
        refine rt_then ?_
        refine rt_blk ?_
        refine rt_then ?_
        refine rt_then ?_
        exact fun a w hr => ⟨_, [(.int .i64 x1)], hr, ⟨⟨_, rfl, .data (.int .i64 x1) trivial⟩, trivial⟩, by decide, by cases H; rfl⟩
      · replace H := ite_f hc H
        refine aw_skip ?_
        refine nx_blk ?_
        refine nx_seq ?_
        refine aw_region1 (es := [_, _]) ⟨Step.plain rfl (does_bin .add 3 3 (.tmp 8) (.const (.int .i64 1)) .i64 x1 1 (.int .i64 (IntKind.i64.wrap (x1 + 1))) trivial (fun _ => rfl) (bin_add _ _ _ _)), ⟨⟨rfl, trivial⟩, trivial, rfl⟩, rfl,
          Step.plain rfl (does_move (.tmp 18) (.int .i64 (IntKind.i64.wrap (x1 + 1))) trivial), ⟨⟨rfl, trivial⟩, trivial, rfl⟩, rfl, rfl⟩ ?_
        exact nx_loop ((IntKind.i64.wrap (x1 + 1))) H (cov_prune ⟨rfl, rfl, rfl, rfl, trivial⟩ ⟨rfl, trivial⟩ (Nat.le_of_ble_eq_true rfl))
    · replace H := ite_f hc H
      refine aw_exit ?_
      refine ex_then ?_
      refine ex_then ?_
      refine ex_here ?_
      exact nx_ljoin () H hsn2 (cov_prune trivial trivial (Nat.le_of_ble_eq_true rfl))

theorem slices_Contains_api_Member_api_Member_spec (p0 : (_root_.List api_Member)) (p1 : api_Member) (r : Bool) (H : slices_Contains_api_Member_api_Member p0 p1 = some r) : FSpec Try.prog 23 [(e_s_api_Member p0), (e_api_Member p1)] (.bool r) := by
  refine spec_of (fn := Try.f23) (args := [(e_s_api_Member p0), (e_api_Member p1)]) Try.func23 rfl (Nat.le_of_ble_eq_true rfl) ?_
  rintro ⟨G, w0, W, S, Sp⟩ hG
  cases hG
  unfold slices_Contains_api_Member_api_Member at H
  refine aw_region (es := [_, _]) ⟨Step.plain rfl (does_box 35 (.tmp 1) 0 (e_api_Member p1) trivial rfl), ⟨⟨rfl, trivial⟩, trivial, rfl⟩, rfl,
    Step.plain rfl (does_assign (.const (.bool false)) (.bool false) (fun _ => rfl)), ⟨trivial, trivial, rfl⟩, rfl, rfl⟩ ?_
  refine aw_cov (cov_prune (s1 := ⟨[(0, (e_s_api_Member p0)), (3, (.ptr 0 0 []))], [(0, some (.var (e_api_Member p1)))], 1⟩) ⟨rfl, rfl, trivial⟩ ⟨rfl, trivial⟩ (Nat.le_refl _)) ?_
  obtain ⟨v1, h2, H⟩ := bnd H
  refine aw_region (es := [_, _, _, _, _]) ⟨Step.plain rfl (does_move (.tmp 0) (e_s_api_Member p0) trivial), ⟨⟨rfl, trivial⟩, trivial, rfl⟩, rfl,
    Step.plain rfl (does_load 35 3 0 0 [] (.var (e_api_Member p1)) (e_api_Member p1) trivial rfl rfl ty35), ⟨⟨rfl, trivial⟩, ⟨rfl, trivial⟩, rfl⟩, rfl,
    Step.plain rfl (does_call 34 0 (fun _ => .any) (.func 34) [(.tmp 5), (.tmp 6)] [(e_s_api_Member p0), (e_api_Member p1)] [] true [(e_s_api_Member p0), (e_api_Member p1)] (.int .i64 v1) _ _ rfl fo34 rfl ⟨trivial, trivial, trivial⟩ ⟨.data _ (d_s_api_Member p0), .data _ (d_api_Member p1), trivial⟩ (slices_Index_api_Member_api_Member_spec p0 p1 _ h2) trivial), ⟨⟨rfl, rfl, trivial⟩, trivial, rfl⟩, rfl,
    Step.plain rfl (does_bin .geq 3 3 (.tmp 7) (.const (.int .i64 0)) .i64 v1 0 (.bool (decide (v1 ≥ 0))) trivial (fun _ => rfl) (bin_geq _ _ _ _)), ⟨⟨rfl, trivial⟩, trivial, rfl⟩, rfl,
    Step.plain rfl (does_assign (.tmp 8) (.bool (decide (v1 ≥ 0))) trivial), ⟨⟨rfl, trivial⟩, trivial, rfl⟩, rfl, rfl⟩ ?_
  refine aw_cov (cov_prune (s1 := ⟨[(4, (.bool (decide (v1 ≥ 0))))], [], 1⟩) ⟨rfl, trivial⟩ trivial (Nat.le_refl _)) ?_
  refine aw_ret ?_
  exact fun a w hr => ⟨_, [(.bool (decide (v1 ≥ 0)))], hr, ⟨⟨_, rfl, .data (.bool (decide (v1 ≥ 0))) trivial⟩, trivial⟩, by decide, by cases H; rfl⟩

theorem group_right_spec (p0 : api_Member) (r : Bool) (H : group_right p0 = some r) : FSpec Try.prog 24 [(e_api_Member p0)] (.bool r) := by
  refine spec_of (fn := Try.f24) (args := [(e_api_Member p0)]) Try.func24 rfl (Nat.le_of_ble_eq_true rfl) ?_
  rintro ⟨G, w0, W, S, Sp⟩ hG
  cases hG
  unfold group_right at H
  refine aw_region (es := [_, _]) ⟨Step.plain rfl (does_box 35 (.tmp 0) 0 (e_api_Member p0) trivial rfl), ⟨⟨rfl, trivial⟩, trivial, rfl⟩, rfl,
    Step.plain rfl (does_assign (.const (.bool false)) (.bool false) (fun _ => rfl)), ⟨trivial, trivial, rfl⟩, rfl, rfl⟩ ?_
  refine aw_cov (cov_prune (s1 := ⟨[(1, (.ptr 0 0 []))], [(0, some (.var (e_api_Member p0)))], 1⟩) ⟨rfl, trivial⟩ ⟨rfl, trivial⟩ (Nat.le_refl _)) ?_
  refine aw_region (es := [_, _, _, _, _, _, _, _, _, _, _, _, _, _, _, _, _, _, _, _, _, _, _, _]) ⟨Step.plain rfl (does_fieldAddr 35 0 0 1 0 0 [] (.var (e_api_Member p0)) fl35_0), ⟨⟨rfl, trivial⟩, ⟨rfl, trivial⟩, rfl⟩, rfl,
    Step.plain rfl (does_load 3 3 0 (0 + 0) [0] (.var (e_api_Member p0)) (.int .i64 p0.Group) ⟨rfl, Nat.le_of_ble_eq_true rfl, trivial⟩ rfl rfl ty3), ⟨⟨rfl, trivial⟩, ⟨rfl, trivial⟩, rfl⟩, rfl,
    Step.plain rfl (does_bin .geq 3 3 (.tmp 4) (.const (.int .i64 0)) .i64 p0.Group 0 (.bool (decide (p0.Group ≥ 0))) trivial (fun _ => rfl) (bin_geq _ _ _ _)), ⟨⟨rfl, trivial⟩, trivial, rfl⟩, rfl,
    Step.plain rfl (does_move (.tmp 5) (.bool (decide (p0.Group ≥ 0))) trivial), ⟨⟨rfl, trivial⟩, trivial, rfl⟩, rfl,
    Step.guarded rfl rfl rfl rfl (fun hc => does_fieldAddr 35 0 0 1 0 0 [] (.var (e_api_Member p0)) fl35_0), ⟨⟨rfl, rfl, trivial⟩, ⟨rfl, trivial⟩, rfl⟩, rfl,
    Step.guarded rfl rfl rfl rfl (fun hc => Does.strip (n' := [(7, (.opt (decide (p0.Group ≥ 0)) (.ptr 0 (0 + 0) [0])))]) (n := [(7, (.ptr 0 (0 + 0) [0]))]) ⟨(.opt _ _ hc), trivial⟩ (does_load 3 7 0 (0 + 0) [0] (.var (e_api_Member p0)) (.int .i64 p0.Group) ⟨rfl, Nat.le_of_ble_eq_true rfl, trivial⟩ rfl rfl ty3)), ⟨⟨rfl, rfl, trivial⟩, ⟨rfl, trivial⟩, rfl⟩, rfl,
    Step.guarded rfl rfl rfl rfl (fun hc => Does.strip (n' := [(8, (.opt (decide (p0.Group ≥ 0)) (.int .i64 p0.Group)))]) (n := [(8, (.int .i64 p0.Group))]) ⟨(.opt _ _ hc), trivial⟩ (does_bin .lss 3 3 (.tmp 8) (.const (.int .i64 8)) .i64 p0.Group 8 (.bool (decide (p0.Group < 8))) trivial (fun _ => rfl) (bin_lss _ _ _ _))), ⟨⟨rfl, rfl, trivial⟩, trivial, rfl⟩, rfl,
    Step.plain rfl (does_and 6 9 (decide (p0.Group ≥ 0)) (decide (p0.Group < 8))), ⟨⟨rfl, rfl, trivial⟩, trivial, rfl⟩, rfl,
    Step.plain rfl (does_move (.tmp 10) (.bool ((decide (p0.Group ≥ 0)) && (decide (p0.Group < 8)))) trivial), ⟨⟨rfl, trivial⟩, trivial, rfl⟩, rfl,
    Step.guarded rfl rfl rfl rfl (fun hc => does_fieldAddr 35 1 1 1 0 0 [] (.var (e_api_Member p0)) fl35_1), ⟨⟨rfl, rfl, trivial⟩, ⟨rfl, trivial⟩, rfl⟩, rfl,
    Step.guarded rfl rfl rfl rfl (fun hc => Does.strip (n' := [(12, (.opt ((decide (p0.Group ≥ 0)) && (decide (p0.Group < 8))) (.ptr 0 (0 + 1) [1])))]) (n := [(12, (.ptr 0 (0 + 1) [1]))]) ⟨(.opt _ _ hc), trivial⟩ (does_load 3 12 0 (0 + 1) [1] (.var (e_api_Member p0)) (.int .i64 p0.Daemon) ⟨rfl, Nat.le_of_ble_eq_true rfl, trivial⟩ rfl rfl ty3)), ⟨⟨rfl, rfl, trivial⟩, ⟨rfl, trivial⟩, rfl⟩, rfl,
    Step.guarded rfl rfl rfl rfl (fun hc => Does.strip (n' := [(13, (.opt ((decide (p0.Group ≥ 0)) && (decide (p0.Group < 8))) (.int .i64 p0.Daemon)))]) (n := [(13, (.int .i64 p0.Daemon))]) ⟨(.opt _ _ hc), trivial⟩ (does_bin .geq 3 3 (.tmp 13) (.const (.int .i64 0)) .i64 p0.Daemon 0 (.bool (decide (p0.Daemon ≥ 0))) trivial (fun _ => rfl) (bin_geq _ _ _ _))), ⟨⟨rfl, rfl, trivial⟩, trivial, rfl⟩, rfl,
    Step.plain rfl (does_and 11 14 ((decide (p0.Group ≥ 0)) && (decide (p0.Group < 8))) (decide (p0.Daemon ≥ 0))), ⟨⟨rfl, rfl, trivial⟩, trivial, rfl⟩, rfl,
    Step.plain rfl (does_move (.tmp 15) (.bool (((decide (p0.Group ≥ 0)) && (decide (p0.Group < 8))) && (decide (p0.Daemon ≥ 0)))) trivial), ⟨⟨rfl, trivial⟩, trivial, rfl⟩, rfl,
    Step.guarded rfl rfl rfl rfl (fun hc => does_fieldAddr 35 1 1 1 0 0 [] (.var (e_api_Member p0)) fl35_1), ⟨⟨rfl, rfl, trivial⟩, ⟨rfl, trivial⟩, rfl⟩, rfl,
    Step.guarded rfl rfl rfl rfl (fun hc => Does.strip (n' := [(17, (.opt (((decide (p0.Group ≥ 0)) && (decide (p0.Group < 8))) && (decide (p0.Daemon ≥ 0))) (.ptr 0 (0 + 1) [1])))]) (n := [(17, (.ptr 0 (0 + 1) [1]))]) ⟨(.opt _ _ hc), trivial⟩ (does_load 3 17 0 (0 + 1) [1] (.var (e_api_Member p0)) (.int .i64 p0.Daemon) ⟨rfl, Nat.le_of_ble_eq_true rfl, trivial⟩ rfl rfl ty3)), ⟨⟨rfl, rfl, trivial⟩, ⟨rfl, trivial⟩, rfl⟩, rfl,
    Step.guarded rfl rfl rfl rfl (fun hc => Does.strip (n' := [(18, (.opt (((decide (p0.Group ≥ 0)) && (decide (p0.Group < 8))) && (decide (p0.Daemon ≥ 0))) (.int .i64 p0.Daemon)))]) (n := [(18, (.int .i64 p0.Daemon))]) ⟨(.opt _ _ hc), trivial⟩ (does_bin .lss 3 3 (.tmp 18) (.const (.int .i64 8)) .i64 p0.Daemon 8 (.bool (decide (p0.Daemon < 8))) trivial (fun _ => rfl) (bin_lss _ _ _ _))), ⟨⟨rfl, rfl, trivial⟩, trivial, rfl⟩, rfl,
    Step.plain rfl (does_and 16 19 (((decide (p0.Group ≥ 0)) && (decide (p0.Group < 8))) && (decide (p0.Daemon ≥ 0))) (decide (p0.Daemon < 8))), ⟨⟨rfl, rfl, trivial⟩, trivial, rfl⟩, rfl,
    Step.plain rfl (does_move (.tmp 20) (.bool ((((decide (p0.Group ≥ 0)) && (decide (p0.Group < 8))) && (decide (p0.Daemon ≥ 0))) && (decide (p0.Daemon < 8)))) trivial), ⟨⟨rfl, trivial⟩, trivial, rfl⟩, rfl,
    Step.guarded rfl rfl rfl rfl (fun hc => does_fieldAddr 35 2 2 1 0 0 [] (.var (e_api_Member p0)) fl35_2), ⟨⟨rfl, rfl, trivial⟩, ⟨rfl, trivial⟩, rfl⟩, rfl,
    Step.guarded rfl rfl rfl rfl (fun hc => Does.strip (n' := [(22, (.opt ((((decide (p0.Group ≥ 0)) && (decide (p0.Group < 8))) && (decide (p0.Daemon ≥ 0))) && (decide (p0.Daemon < 8))) (.ptr 0 (0 + 2) [2])))]) (n := [(22, (.ptr 0 (0 + 2) [2]))]) ⟨(.opt _ _ hc), trivial⟩ (does_load 23 22 0 (0 + 2) [2] (.var (e_api_Member p0)) (.int .u64 p0.Session) ⟨rfl, Nat.le_of_ble_eq_true rfl, trivial⟩ rfl rfl ty23)), ⟨⟨rfl, rfl, trivial⟩, ⟨rfl, trivial⟩, rfl⟩, rfl,
    Step.guarded rfl rfl rfl rfl (fun hc => Does.strip (n' := [(23, (.opt ((((decide (p0.Group ≥ 0)) && (decide (p0.Group < 8))) && (decide (p0.Daemon ≥ 0))) && (decide (p0.Daemon < 8))) (.int .u64 p0.Session)))]) (n := [(23, (.int .u64 p0.Session))]) ⟨(.opt _ _ hc), trivial⟩ (does_bin .leq 23 23 (.tmp 23) (.const (.int .u64 65535)) .u64 p0.Session 65535 (.bool (decide (p0.Session ≤ 65535))) trivial (fun _ => rfl) (bin_leq _ _ _ _))), ⟨⟨rfl, rfl, trivial⟩, trivial, rfl⟩, rfl,
    Step.plain rfl (does_and 21 24 ((((decide (p0.Group ≥ 0)) && (decide (p0.Group < 8))) && (decide (p0.Daemon ≥ 0))) && (decide (p0.Daemon < 8))) (decide (p0.Session ≤ 65535))), ⟨⟨rfl, rfl, trivial⟩, trivial, rfl⟩, rfl,
    Step.plain rfl (does_assign (.tmp 25) (.bool (((((decide (p0.Group ≥ 0)) && (decide (p0.Group < 8))) && (decide (p0.Daemon ≥ 0))) && (decide (p0.Daemon < 8))) && (decide (p0.Session ≤ 65535)))) trivial), ⟨⟨rfl, trivial⟩, trivial, rfl⟩, rfl, rfl⟩ ?_
  obtain ⟨v1, hv1, H⟩ := lt_of H
  refine aw_cov (cov_prune (s1 := ⟨[(2, (.bool v1))], [], 1⟩) ⟨(by subst hv1; rfl), trivial⟩ trivial (Nat.le_refl _)) ?_
  refine aw_ret ?_
  exact fun a w hr => ⟨_, [(.bool v1)], hr, ⟨⟨_, rfl, .data (.bool v1) trivial⟩, trivial⟩, by decide, by cases H; rfl⟩

theorem slices_Insert_api_Member_api_Member_spec (p0 : (_root_.List api_Member)) (p1 : Int) (p2 : (_root_.List api_Member)) (r : (_root_.List api_Member)) (H : slices_Insert_api_Member_api_Member p0 p1 p2 = some r) : FSpecO Try.prog 25 [(.own 0), (.int .i64 p1), (e_s_api_Member p2)] [(0, some (.arr 3 p0.length fun j => (e_api_Member (p0.getD j z_api_Member))))] 1 (.own 0) [(0, some (.arr 3 r.length fun j => (e_api_Member (r.getD j z_api_Member))))] 1 := by
  refine specO_of (fn := Try.f25) (args := [(.own 0), (.int .i64 p1), (e_s_api_Member p2)]) Try.func25 rfl (Nat.le_of_ble_eq_true rfl) ?_
  rintro ⟨G, w0, W, S, Sp⟩ hG
  cases hG
  unfold slices_Insert_api_Member_api_Member at H
  refine aw_region (es := [_]) ⟨Step.plain rfl (does_nil false 1 3 (fun j => (e_api_Member (([] : _root_.List api_Member).getD j z_api_Member)))), ⟨trivial, trivial, rfl⟩, rfl, rfl⟩ ?_
  refine aw_cov (cov_prune (s1 := ⟨[(0, (.own 0)), (1, (.int .i64 p1)), (2, (e_s_api_Member p2))], [(0, some (.arr 3 p0.length fun j => (e_api_Member (p0.getD j z_api_Member))))], 2⟩) ⟨rfl, rfl, rfl, trivial⟩ ⟨rfl, trivial⟩ (Nat.le_refl _)) ?_
  obtain ⟨h1, H⟩ := sb_of H
  refine aw_region (es := [_, _, _]) ⟨Step.plain rfl (does_move (.tmp 0) (.own 0) trivial), ⟨⟨rfl, trivial⟩, trivial, rfl⟩, rfl,
    Step.plain rfl (does_move (.tmp 1) (.int .i64 p1) trivial), ⟨⟨rfl, trivial⟩, trivial, rfl⟩, rfl,
    Step.plain rfl (does_sliceo 22 3 p0.length 10 0 p1.toNat p0.length (fun j => (e_api_Member (p0.getD j z_api_Member))) (some ((.tmp 11), .i64, p1)) none _ _ el22 rfl rfl trivial trivial (Int.toNat_of_nonneg h1.1).symm rfl (by omega) (by omega)), ⟨⟨rfl, rfl, trivial⟩, ⟨rfl, trivial⟩, rfl⟩, rfl, rfl⟩ ?_
  refine aw_cov (cov_prune (s1 := ⟨[(0, (.own 0)), (1, (.int .i64 p1)), (2, (e_s_api_Member p2))], [(0, some (.arr 3 p0.length fun j => (e_api_Member (p0.getD j z_api_Member))))], 2⟩) ⟨rfl, rfl, rfl, trivial⟩ ⟨rfl, trivial⟩ (Nat.le_refl _)) ?_
  refine aw_region (es := [_, _, _]) ⟨Step.plain rfl (does_move (.tmp 2) (e_s_api_Member p2) trivial), ⟨⟨rfl, trivial⟩, trivial, rfl⟩, rfl,
    Step.plain rfl (does_lens 22 3 p2.length 13 (fun j => (e_api_Member (p2.getD j z_api_Member))) el22), ⟨⟨rfl, trivial⟩, trivial, rfl⟩, rfl,
    Step.plain rfl (does_assign (.tmp 14) (.int .i64 (p2.length : Int)) trivial), ⟨⟨rfl, trivial⟩, trivial, rfl⟩, rfl, rfl⟩ ?_
  refine aw_cov (cov_prune (s1 := ⟨[(0, (.own 0)), (1, (.int .i64 p1)), (2, (e_s_api_Member p2)), (7, (.int .i64 (p2.length : Int)))], [(0, some (.arr 3 p0.length fun j => (e_api_Member (p0.getD j z_api_Member))))], 2⟩) ⟨rfl, rfl, rfl, rfl, trivial⟩ ⟨rfl, trivial⟩ (Nat.le_refl _)) ?_
  refine aw_seq ?_
  refine aw_region (es := [_, _]) ⟨Step.plain rfl (does_move (.tmp 7) (.int .i64 (p2.length : Int)) trivial), ⟨⟨rfl, trivial⟩, trivial, rfl⟩, rfl,
    Step.plain rfl (does_bin .eql 3 3 (.tmp 15) (.const (.int .i64 0)) .i64 (p2.length : Int) 0 (.bool ((p2.length : Int) == 0)) trivial (fun _ => rfl) (bin_eql _ _ _ _)), ⟨⟨rfl, trivial⟩, trivial, rfl⟩, rfl, rfl⟩ ?_
  refine aw_cov (cov_prune (s1 := ⟨[(0, (.own 0)), (1, (.int .i64 p1)), (2, (e_s_api_Member p2)), (7, (.int .i64 (p2.length : Int))), (16, (.bool ((p2.length : Int) == 0)))], [(0, some (.arr 3 p0.length fun j => (e_api_Member (p0.getD j z_api_Member))))], 2⟩) ⟨rfl, rfl, rfl, rfl, rfl, trivial⟩ ⟨rfl, trivial⟩ (Nat.le_refl _)) ?_
  refine aw_cond rfl (fun hc => ?_) (fun hc => ?_)
  · replace H := ite_t hc H
    refine aw_region (es := [_, _]) ⟨Step.plain rfl (does_move (.tmp 0) (.own 0) trivial), ⟨⟨rfl, trivial⟩, trivial, rfl⟩, rfl,
      Step.plain rfl (does_assign (.tmp 17) (.own 0) trivial), ⟨⟨rfl, trivial⟩, trivial, rfl⟩, rfl, rfl⟩ ?_
    refine aw_cov (cov_prune (s1 := ⟨[(6, (.own 0))], [(0, some (.arr 3 p0.length fun j => (e_api_Member (p0.getD j z_api_Member))))], 2⟩) ⟨rfl, trivial⟩ ⟨rfl, trivial⟩ (Nat.le_refl _)) ?_
    refine aw_ret ?_
    refine rt_then ?_
    exact fun a w hr => ⟨_, [(.own 0)], reach_of hr (cov_to (s1 := ⟨[(6, (.own 0))], [(0, some (.arr 3 p0.length fun j => (e_api_Member (p0.getD j z_api_Member))))], 1⟩) (fun i => match i with | 0 => 0 | k => k) [] ⟨⟨_, rfl, .own 0 _ _ (Nat.le_of_ble_eq_true rfl) rfl rfl (Box.like_refl _)⟩, trivial⟩ ⟨⟨Nat.le_of_ble_eq_true rfl, _, _, rfl, rfl, boxTo_arr (fun _ => (d_api_Member _))⟩, trivial⟩ rfl rfl), ⟨rfl, trivial⟩, by decide, by cases H; rfl, by cases H; exact ⟨rfl, trivial⟩, Nat.le_of_ble_eq_true rfl⟩
  · replace H := ite_f hc H
    refine aw_skip ?_
    refine nx_seq ?_
    refine aw_region (es := [_, _, _]) ⟨Step.plain rfl (does_move (.tmp 0) (.own 0) trivial), ⟨⟨rfl, trivial⟩, trivial, rfl⟩, rfl,
      Step.plain rfl (does_leno 22 3 p0.length 18 0 (fun j => (e_api_Member (p0.getD j z_api_Member))) el22), ⟨⟨rfl, trivial⟩, ⟨rfl, trivial⟩, rfl⟩, rfl,
      Step.plain rfl (does_assign (.tmp 19) (.int .i64 (p0.length : Int)) trivial), ⟨⟨rfl, trivial⟩, trivial, rfl⟩, rfl, rfl⟩ ?_
    refine aw_cov (cov_prune (s1 := ⟨[(0, (.own 0)), (1, (.int .i64 p1)), (2, (e_s_api_Member p2)), (7, (.int .i64 (p2.length : Int))), (8, (.int .i64 (p0.length : Int)))], [(0, some (.arr 3 p0.length fun j => (e_api_Member (p0.getD j z_api_Member))))], 2⟩) ⟨rfl, rfl, rfl, rfl, rfl, trivial⟩ ⟨rfl, trivial⟩ (Nat.le_refl _)) ?_
    refine aw_seq ?_
    refine aw_region (es := [_, _, _]) ⟨Step.plain rfl (does_move (.tmp 1) (.int .i64 p1) trivial), ⟨⟨rfl, trivial⟩, trivial, rfl⟩, rfl,
      Step.plain rfl (does_move (.tmp 8) (.int .i64 (p0.length : Int)) trivial), ⟨⟨rfl, trivial⟩, trivial, rfl⟩, rfl,
      Step.plain rfl (does_bin .eql 3 3 (.tmp 20) (.tmp 21) .i64 p1 (p0.length : Int) (.bool (p1 == (p0.length : Int))) trivial trivial (bin_eql _ _ _ _)), ⟨⟨rfl, rfl, trivial⟩, trivial, rfl⟩, rfl, rfl⟩ ?_
    refine aw_cov (cov_prune (s1 := ⟨[(0, (.own 0)), (1, (.int .i64 p1)), (2, (e_s_api_Member p2)), (7, (.int .i64 (p2.length : Int))), (8, (.int .i64 (p0.length : Int))), (22, (.bool (p1 == (p0.length : Int))))], [(0, some (.arr 3 p0.length fun j => (e_api_Member (p0.getD j z_api_Member))))], 2⟩) ⟨rfl, rfl, rfl, rfl, rfl, rfl, trivial⟩ ⟨rfl, trivial⟩ (Nat.le_refl _)) ?_
    refine aw_cond rfl (fun hc => ?_) (fun hc => ?_)
    · replace H := ite_t hc H
      obtain ⟨h2, H⟩ := fit_of H
      refine aw_region (es := [_, _, _, _]) ⟨Step.plain rfl (does_move (.tmp 0) (.own 0) trivial), ⟨⟨rfl, trivial⟩, trivial, rfl⟩, rfl,
        Step.plain rfl (does_move (.tmp 2) (e_s_api_Member p2) trivial), ⟨⟨rfl, trivial⟩, trivial, rfl⟩, rfl,
        Step.plain rfl (does_appendL e_api_Member z_api_Member p0 p2 22 3 24 0 2 23 24 ap22 h2), ⟨⟨rfl, rfl, trivial⟩, ⟨rfl, trivial⟩, rfl⟩, rfl,
        Step.plain rfl (does_assign (.tmp 25) (.own 2) trivial), ⟨⟨rfl, trivial⟩, trivial, rfl⟩, rfl, rfl⟩ ?_
      refine aw_cov (cov_prune (s1 := ⟨[(6, (.own 2))], [(2, some (.arr 3 (p0 ++ p2).length fun j => (e_api_Member ((p0 ++ p2).getD j z_api_Member))))], 3⟩) ⟨rfl, trivial⟩ ⟨rfl, trivial⟩ (Nat.le_refl _)) ?_
      refine aw_ret ?_
      refine rt_then ?_
      exact fun a w hr => ⟨_, [(.own 0)], reach_of hr (cov_to (s1 := ⟨[(6, (.own 0))], [(0, some (.arr 3 (p0 ++ p2).length fun j => (e_api_Member ((p0 ++ p2).getD j z_api_Member))))], 1⟩) (fun i => match i with | 0 => 2 | k => k) [] ⟨⟨_, rfl, .own 0 _ _ (Nat.le_of_ble_eq_true rfl) rfl rfl (Box.like_refl _)⟩, trivial⟩ ⟨⟨Nat.le_of_ble_eq_true rfl, _, _, rfl, rfl, boxTo_arr (fun _ => (d_api_Member _))⟩, trivial⟩ rfl rfl), ⟨rfl, trivial⟩, by decide, by cases H; rfl, by cases H; exact ⟨rfl, trivial⟩, Nat.le_of_ble_eq_true rfl⟩
    · replace H := ite_f hc H
      refine aw_skip ?_
      refine nx_seq ?_
      refine aw_seq ?_
      refine aw_region (es := [_, _, _, _, _, _]) ⟨Step.plain rfl (does_move (.tmp 8) (.int .i64 (p0.length : Int)) trivial), ⟨⟨rfl, trivial⟩, trivial, rfl⟩, rfl,
        Step.plain rfl (does_move (.tmp 7) (.int .i64 (p2.length : Int)) trivial), ⟨⟨rfl, trivial⟩, trivial, rfl⟩, rfl,
        Step.plain rfl (does_bin .add 3 3 (.tmp 26) (.tmp 27) .i64 (p0.length : Int) (p2.length : Int) (.int .i64 (IntKind.i64.wrap ((p0.length : Int) + (p2.length : Int)))) trivial trivial (bin_add _ _ _ _)), ⟨⟨rfl, rfl, trivial⟩, trivial, rfl⟩, rfl,
        Step.plain rfl (does_move (.tmp 0) (.own 0) trivial), ⟨⟨rfl, trivial⟩, trivial, rfl⟩, rfl,
        Step.plain rfl (does_capo 22 3 p0.length 29 0 (fun j => (e_api_Member (p0.getD j z_api_Member))) el22), ⟨⟨rfl, trivial⟩, ⟨rfl, trivial⟩, rfl⟩, rfl,
        Step.plain rfl (does_gtcap 3 3 30 0 3 p0.length (fun j => (e_api_Member (p0.getD j z_api_Member))) (.tmp 28) (IntKind.i64.wrap ((p0.length : Int) + (p2.length : Int))) trivial), ⟨⟨rfl, rfl, trivial⟩, ⟨rfl, trivial⟩, rfl⟩, rfl, rfl⟩ ?_
      refine aw_cov (cov_prune (s1 := ⟨[(0, (.own 0)), (1, (.int .i64 p1)), (2, (e_s_api_Member p2)), (7, (.int .i64 (p2.length : Int))), (8, (.int .i64 (p0.length : Int))), (31, (V.capq 0 (IntKind.i64.wrap ((p0.length : Int) + (p2.length : Int)))))], [(0, some (.arr 3 p0.length fun j => (e_api_Member (p0.getD j z_api_Member))))], 2⟩) ⟨rfl, rfl, rfl, rfl, rfl, rfl, trivial⟩ ⟨rfl, trivial⟩ (Nat.le_refl _)) ?_
      obtain ⟨H1, H2⟩ := bth_of H
      clear H
      refine aw_condcap (es := 3) (n := p0.length) (f := (fun j => (e_api_Member (p0.getD j z_api_Member)))) rfl rfl ?_ ?_
      · have H := H1
        obtain ⟨h3, H⟩ := sb_of H
        obtain ⟨h4, H⟩ := inb_of H
        obtain ⟨h5, H⟩ := vz_of H
        refine aw_region (es := [_, _, _, _, _, _, _, _, _, _]) ⟨Step.plain rfl (does_move (.tmp 0) (.own 0) trivial), ⟨⟨rfl, trivial⟩, trivial, rfl⟩, rfl,
          Step.plain rfl (does_move (.tmp 1) (.int .i64 p1) trivial), ⟨⟨rfl, trivial⟩, trivial, rfl⟩, rfl,
          Step.plain rfl (does_sliceo 22 3 p0.length 32 0 0 p1.toNat (fun j => (e_api_Member (p0.getD j z_api_Member))) none (some ((.tmp 33), .i64, p1)) _ _ el22 rfl rfl trivial trivial rfl (Int.toNat_of_nonneg (Int.le_trans h3.1 h3.2.1)).symm (by omega) (by omega)), ⟨⟨rfl, rfl, trivial⟩, ⟨rfl, trivial⟩, rfl⟩, rfl,
          Step.plain rfl (does_move (.tmp 8) (.int .i64 (p0.length : Int)) trivial), ⟨⟨rfl, trivial⟩, trivial, rfl⟩, rfl,
          Step.plain rfl (does_move (.tmp 7) (.int .i64 (p2.length : Int)) trivial), ⟨⟨rfl, trivial⟩, trivial, rfl⟩, rfl,
          Step.plain rfl (does_bin .add 3 3 (.tmp 35) (.tmp 36) .i64 (p0.length : Int) (p2.length : Int) (.int .i64 (IntKind.i64.wrap ((p0.length : Int) + (p2.length : Int)))) trivial trivial (bin_add _ _ _ _)), ⟨⟨rfl, rfl, trivial⟩, trivial, rfl⟩, rfl,
          Step.plain rfl (does_move (.tmp 1) (.int .i64 p1) trivial), ⟨⟨rfl, trivial⟩, trivial, rfl⟩, rfl,
          Step.plain rfl (does_bin .sub 3 3 (.tmp 37) (.tmp 38) .i64 (IntKind.i64.wrap ((p0.length : Int) + (p2.length : Int))) p1 (.int .i64 (IntKind.i64.wrap ((IntKind.i64.wrap ((p0.length : Int) + (p2.length : Int))) - p1))) trivial trivial (bin_sub _ _ _ _)), ⟨⟨rfl, rfl, trivial⟩, trivial, rfl⟩, rfl,
          Step.plain rfl (does_appendVZ e_api_Member z_api_Member p0 22 3 3 24 0 2 34 31 (p1.toNat - 0) (.tmp 39) .i64 .i64 (IntKind.i64.wrap ((IntKind.i64.wrap ((p0.length : Int) + (p2.length : Int))) - p1)) (IntKind.i64.wrap ((p0.length : Int) + (p2.length : Int))) so22 ap22 ui3 trivial h4 h5), ⟨⟨rfl, rfl, rfl, trivial⟩, ⟨rfl, trivial⟩, rfl⟩, rfl,
          Step.plain rfl (does_assign (.tmp 40) (.own 2) trivial), ⟨⟨rfl, trivial⟩, trivial, rfl⟩, rfl, rfl⟩ ?_
        obtain ⟨v6, hv6, H⟩ := lt_of H
        refine aw_cov (cov_prune (s1 := ⟨[(0, (.own 0)), (1, (.int .i64 p1)), (2, (e_s_api_Member p2)), (7, (.int .i64 (p2.length : Int))), (9, (.own 2)), (31, (V.capgt 0 (IntKind.i64.wrap ((p0.length : Int) + (p2.length : Int)))))], [(0, some (.arr 3 p0.length fun j => (e_api_Member (p0.getD j z_api_Member)))), (2, some (.arr 3 v6.length fun j => (e_api_Member (v6.getD j z_api_Member))))], 3⟩) ⟨rfl, rfl, rfl, rfl, rfl, rfl, trivial⟩ ⟨rfl, (by subst hv6; rfl), trivial⟩ (Nat.le_refl _)) ?_
        obtain ⟨h7, H⟩ := sb_of H
        obtain ⟨h8, H⟩ := inb_of H
        refine aw_region (es := [_, _, _, _, _]) ⟨Step.plain rfl (does_move (.tmp 9) (.own 2) trivial), ⟨⟨rfl, trivial⟩, trivial, rfl⟩, rfl,
          Step.plain rfl (does_move (.tmp 1) (.int .i64 p1) trivial), ⟨⟨rfl, trivial⟩, trivial, rfl⟩, rfl,
          Step.plain rfl (does_sliceo 22 3 v6.length 41 2 p1.toNat v6.length (fun j => (e_api_Member (v6.getD j z_api_Member))) (some ((.tmp 42), .i64, p1)) none _ _ el22 rfl rfl trivial trivial (Int.toNat_of_nonneg h7.1).symm rfl (by omega) (by omega)), ⟨⟨rfl, rfl, trivial⟩, ⟨rfl, trivial⟩, rfl⟩, rfl,
          Step.plain rfl (does_move (.tmp 2) (e_s_api_Member p2) trivial), ⟨⟨rfl, trivial⟩, trivial, rfl⟩, rfl,
          Step.plain rfl (does_copyL e_api_Member z_api_Member v6 p2 22 22 3 43 44 2 p1.toNat (v6.length - p1.toNat) el22 (by decide) h8), ⟨⟨rfl, rfl, trivial⟩, ⟨rfl, trivial⟩, rfl⟩, rfl, rfl⟩ ?_
        refine aw_cov (cov_prune (s1 := ⟨[(0, (.own 0)), (1, (.int .i64 p1)), (7, (.int .i64 (p2.length : Int))), (9, (.own 2)), (31, (V.capgt 0 (IntKind.i64.wrap ((p0.length : Int) + (p2.length : Int)))))], [(0, some (.arr 3 p0.length fun j => (e_api_Member (p0.getD j z_api_Member)))), (2, some (.arr 3 (ovl v6 p1.toNat (p2.take (v6.length - p1.toNat))).length fun j => (e_api_Member ((ovl v6 p1.toNat (p2.take (v6.length - p1.toNat))).getD j z_api_Member))))], 3⟩) ⟨rfl, rfl, rfl, rfl, rfl, trivial⟩ ⟨rfl, rfl, trivial⟩ (Nat.le_refl _)) ?_
        obtain ⟨h10, H⟩ := sb_of H
        obtain ⟨h11, H⟩ := sb_of H
        obtain ⟨h12, H⟩ := inb_of H
        obtain ⟨h13, H⟩ := inb_of H
        refine aw_draw (es := [_, _, _, _, _, _, _, _, _]) (mixed) ⟨Step.plain rfl (does_move (.tmp 9) (.own 2) trivial), ⟨⟨rfl, trivial⟩, trivial, rfl⟩, rfl,
          Step.plain rfl (does_move (.tmp 1) (.int .i64 p1) trivial), ⟨⟨rfl, trivial⟩, trivial, rfl⟩, rfl,
          Step.plain rfl (does_move (.tmp 7) (.int .i64 (p2.length : Int)) trivial), ⟨⟨rfl, trivial⟩, trivial, rfl⟩, rfl,
          Step.plain rfl (does_bin .add 3 3 (.tmp 47) (.tmp 48) .i64 p1 (p2.length : Int) (.int .i64 (IntKind.i64.wrap (p1 + (p2.length : Int)))) trivial trivial (bin_add _ _ _ _)), ⟨⟨rfl, rfl, trivial⟩, trivial, rfl⟩, rfl,
          Step.plain rfl (does_sliceo 22 3 (ovl v6 p1.toNat (p2.take (v6.length - p1.toNat))).length 46 2 ((IntKind.i64.wrap (p1 + (p2.length : Int))).toNat) ((ovl v6 p1.toNat (p2.take (v6.length - p1.toNat))).length) (fun j => (e_api_Member ((ovl v6 p1.toNat (p2.take (v6.length - p1.toNat))).getD j z_api_Member))) (some ((.tmp 49), .i64, (IntKind.i64.wrap (p1 + (p2.length : Int))))) none _ _ el22 rfl rfl trivial trivial (Int.toNat_of_nonneg h10.1).symm rfl (by omega) (by omega)), ⟨⟨rfl, rfl, trivial⟩, ⟨rfl, trivial⟩, rfl⟩, rfl,
          Step.plain rfl (does_move (.tmp 0) (.own 0) trivial), ⟨⟨rfl, trivial⟩, trivial, rfl⟩, rfl,
          Step.plain rfl (does_move (.tmp 1) (.int .i64 p1) trivial), ⟨⟨rfl, trivial⟩, trivial, rfl⟩, rfl,
          Step.plain rfl (does_sliceo 22 3 p0.length 51 0 p1.toNat p0.length (fun j => (e_api_Member (p0.getD j z_api_Member))) (some ((.tmp 52), .i64, p1)) none _ _ el22 rfl rfl trivial trivial (Int.toNat_of_nonneg h11.1).symm rfl (by omega) (by omega)), ⟨⟨rfl, rfl, trivial⟩, ⟨rfl, trivial⟩, rfl⟩, rfl,
          Step.plain rfl (does_copyB e_api_Member z_api_Member (ovl v6 p1.toNat (p2.take (v6.length - p1.toNat))) p0 22 22 3 50 53 2 0 ((IntKind.i64.wrap (p1 + (p2.length : Int))).toNat) (((ovl v6 p1.toNat (p2.take (v6.length - p1.toNat))).length) - ((IntKind.i64.wrap (p1 + (p2.length : Int))).toNat)) p1.toNat (p0.length - p1.toNat) el22 (by decide) h12 h13), ⟨⟨rfl, rfl, trivial⟩, ⟨rfl, rfl, trivial⟩, rfl⟩, rfl, rfl⟩ rfl ?_
        obtain ⟨v14, hv14, H⟩ := lt_of H
        refine aw_cov (cov_prune (s1 := ⟨[(9, (.own 2))], [(2, some (.arr 3 v14.length fun j => (e_api_Member (v14.getD j z_api_Member))))], 3⟩) ⟨rfl, trivial⟩ ⟨(by subst hv14; rfl), trivial⟩ (Nat.le_refl _)) ?_
        refine aw_region (es := [_, _]) ⟨Step.plain rfl (does_move (.tmp 9) (.own 2) trivial), ⟨⟨rfl, trivial⟩, trivial, rfl⟩, rfl,
          Step.plain rfl (does_assign (.tmp 55) (.own 2) trivial), ⟨⟨rfl, trivial⟩, trivial, rfl⟩, rfl, rfl⟩ ?_
        refine aw_cov (cov_prune (s1 := ⟨[(6, (.own 2))], [(2, some (.arr 3 v14.length fun j => (e_api_Member (v14.getD j z_api_Member))))], 3⟩) ⟨rfl, trivial⟩ ⟨rfl, trivial⟩ (Nat.le_refl _)) ?_
        refine aw_ret ?_
        refine rt_then ?_
        exact fun a w hr => ⟨_, [(.own 0)], reach_of hr (cov_to (s1 := ⟨[(6, (.own 0))], [(0, some (.arr 3 v14.length fun j => (e_api_Member (v14.getD j z_api_Member))))], 1⟩) (fun i => match i with | 0 => 2 | k => k) [] ⟨⟨_, rfl, .own 0 _ _ (Nat.le_of_ble_eq_true rfl) rfl rfl (Box.like_refl _)⟩, trivial⟩ ⟨⟨Nat.le_of_ble_eq_true rfl, _, _, rfl, rfl, boxTo_arr (fun _ => (d_api_Member _))⟩, trivial⟩ rfl rfl), ⟨rfl, trivial⟩, by decide, by cases H; rfl, by cases H; exact ⟨rfl, trivial⟩, Nat.le_of_ble_eq_true rfl⟩
      · have H := H2
        refine aw_skip ?_
        refine nx_seq ?_
        obtain ⟨h15, H⟩ := ile_of H
        refine aw_region (es := [_, _, _, _, _, _]) ⟨Step.plain rfl (does_move (.tmp 0) (.own 0) trivial), ⟨⟨rfl, trivial⟩, trivial, rfl⟩, rfl,
          Step.plain rfl (does_move (.tmp 8) (.int .i64 (p0.length : Int)) trivial), ⟨⟨rfl, trivial⟩, trivial, rfl⟩, rfl,
          Step.plain rfl (does_move (.tmp 7) (.int .i64 (p2.length : Int)) trivial), ⟨⟨rfl, trivial⟩, trivial, rfl⟩, rfl,
          Step.plain rfl (does_bin .add 3 3 (.tmp 57) (.tmp 58) .i64 (p0.length : Int) (p2.length : Int) (.int .i64 (IntKind.i64.wrap ((p0.length : Int) + (p2.length : Int)))) trivial trivial (bin_add _ _ _ _)), ⟨⟨rfl, rfl, trivial⟩, trivial, rfl⟩, rfl,
          Step.plain rfl (does_extL e_api_Member z_api_Member p0 22 3 56 0 2 31 true (.tmp 59) .i64 (IntKind.i64.wrap ((p0.length : Int) + (p2.length : Int))) el22 (fun h => nomatch h) trivial h15), ⟨⟨rfl, rfl, rfl, trivial⟩, ⟨rfl, trivial⟩, rfl⟩, rfl,
          Step.plain rfl (does_assign (.tmp 60) (.own 2) trivial), ⟨⟨rfl, trivial⟩, trivial, rfl⟩, rfl, rfl⟩ ?_
        refine aw_cov (cov_prune (s1 := ⟨[(1, (.int .i64 p1)), (2, (e_s_api_Member p2)), (7, (.int .i64 (p2.length : Int))), (8, (.int .i64 (p0.length : Int))), (0, (.own 2))], [(2, some (.arr 3 ((IntKind.i64.wrap ((p0.length : Int) + (p2.length : Int))).toNat) (extF e_api_Member z_api_Member p0 (hole true 3))))], 3⟩) ⟨rfl, rfl, rfl, rfl, rfl, trivial⟩ ⟨rfl, trivial⟩ (Nat.le_refl _)) ?_
        refine aw_seq ?_
        obtain ⟨h16, H⟩ := sb_of H
        obtain ⟨h17, H⟩ := inb_of H
        refine aw_region (es := [_, _, _, _, _, _, _, _]) ⟨Step.plain rfl (does_move (.tmp 2) (e_s_api_Member p2) trivial), ⟨⟨rfl, trivial⟩, trivial, rfl⟩, rfl,
          Step.plain rfl (does_move (.tmp 0) (.own 2) trivial), ⟨⟨rfl, trivial⟩, trivial, rfl⟩, rfl,
          Step.plain rfl (does_move (.tmp 1) (.int .i64 p1) trivial), ⟨⟨rfl, trivial⟩, trivial, rfl⟩, rfl,
          Step.plain rfl (does_move (.tmp 7) (.int .i64 (p2.length : Int)) trivial), ⟨⟨rfl, trivial⟩, trivial, rfl⟩, rfl,
          Step.plain rfl (does_bin .add 3 3 (.tmp 63) (.tmp 64) .i64 p1 (p2.length : Int) (.int .i64 (IntKind.i64.wrap (p1 + (p2.length : Int)))) trivial trivial (bin_add _ _ _ _)), ⟨⟨rfl, rfl, trivial⟩, trivial, rfl⟩, rfl,
          Step.plain rfl (does_sliceo 22 3 ((IntKind.i64.wrap ((p0.length : Int) + (p2.length : Int))).toNat) 62 2 ((IntKind.i64.wrap (p1 + (p2.length : Int))).toNat) ((IntKind.i64.wrap ((p0.length : Int) + (p2.length : Int))).toNat) (extF e_api_Member z_api_Member p0 (hole true 3)) (some ((.tmp 65), .i64, (IntKind.i64.wrap (p1 + (p2.length : Int))))) none _ _ el22 rfl rfl trivial trivial (Int.toNat_of_nonneg h16.1).symm rfl (by omega) (by omega)), ⟨⟨rfl, rfl, trivial⟩, ⟨rfl, trivial⟩, rfl⟩, rfl,
          Step.plain rfl (does_overlaps 35 22 3 61 66 2 ((IntKind.i64.wrap (p1 + (p2.length : Int))).toNat) (((IntKind.i64.wrap ((p0.length : Int) + (p2.length : Int))).toNat) - ((IntKind.i64.wrap (p1 + (p2.length : Int))).toNat)) p2.length ((IntKind.i64.wrap ((p0.length : Int) + (p2.length : Int))).toNat) (extF e_api_Member z_api_Member p0 (hole true 3)) (fun j => (e_api_Member (p2.getD j z_api_Member))) ov35 (by decide) h17 _), ⟨⟨rfl, rfl, trivial⟩, ⟨rfl, trivial⟩, rfl⟩, rfl,
          Step.plain rfl (does_not 4 (.tmp 67) false trivial), ⟨⟨rfl, trivial⟩, trivial, rfl⟩, rfl, rfl⟩ ?_
        refine aw_cov (cov_prune (s1 := ⟨[(1, (.int .i64 p1)), (2, (e_s_api_Member p2)), (7, (.int .i64 (p2.length : Int))), (8, (.int .i64 (p0.length : Int))), (0, (.own 2)), (68, (.bool (!false)))], [(2, some (.arr 3 ((IntKind.i64.wrap ((p0.length : Int) + (p2.length : Int))).toNat) (extF e_api_Member z_api_Member p0 (hole true 3))))], 3⟩) ⟨rfl, rfl, rfl, rfl, rfl, rfl, trivial⟩ ⟨rfl, trivial⟩ (Nat.le_refl _)) ?_
        refine aw_cond rfl (fun _ => ?_) (fun hc => absurd hc (by decide))
        obtain ⟨h18, H⟩ := sb_of H
        obtain ⟨h19, H⟩ := sb_of H
        obtain ⟨h20, H⟩ := cup_of H
        refine aw_draw (es := [_, _, _, _, _, _, _, _, _]) (mixed) ⟨Step.plain rfl (does_move (.tmp 0) (.own 2) trivial), ⟨⟨rfl, trivial⟩, trivial, rfl⟩, rfl,
          Step.plain rfl (does_move (.tmp 1) (.int .i64 p1) trivial), ⟨⟨rfl, trivial⟩, trivial, rfl⟩, rfl,
          Step.plain rfl (does_move (.tmp 7) (.int .i64 (p2.length : Int)) trivial), ⟨⟨rfl, trivial⟩, trivial, rfl⟩, rfl,
          Step.plain rfl (does_bin .add 3 3 (.tmp 70) (.tmp 71) .i64 p1 (p2.length : Int) (.int .i64 (IntKind.i64.wrap (p1 + (p2.length : Int)))) trivial trivial (bin_add _ _ _ _)), ⟨⟨rfl, rfl, trivial⟩, trivial, rfl⟩, rfl,
          Step.plain rfl (does_sliceo 22 3 ((IntKind.i64.wrap ((p0.length : Int) + (p2.length : Int))).toNat) 69 2 ((IntKind.i64.wrap (p1 + (p2.length : Int))).toNat) ((IntKind.i64.wrap ((p0.length : Int) + (p2.length : Int))).toNat) (extF e_api_Member z_api_Member p0 (hole true 3)) (some ((.tmp 72), .i64, (IntKind.i64.wrap (p1 + (p2.length : Int))))) none _ _ el22 rfl rfl trivial trivial (Int.toNat_of_nonneg h18.1).symm rfl (by omega) (by omega)), ⟨⟨rfl, rfl, trivial⟩, ⟨rfl, trivial⟩, rfl⟩, rfl,
          Step.plain rfl (does_move (.tmp 0) (.own 2) trivial), ⟨⟨rfl, trivial⟩, trivial, rfl⟩, rfl,
          Step.plain rfl (does_move (.tmp 1) (.int .i64 p1) trivial), ⟨⟨rfl, trivial⟩, trivial, rfl⟩, rfl,
          Step.plain rfl (does_sliceo 22 3 ((IntKind.i64.wrap ((p0.length : Int) + (p2.length : Int))).toNat) 74 2 p1.toNat ((IntKind.i64.wrap ((p0.length : Int) + (p2.length : Int))).toNat) (extF e_api_Member z_api_Member p0 (hole true 3)) (some ((.tmp 75), .i64, p1)) none _ _ el22 rfl rfl trivial trivial (Int.toNat_of_nonneg h19.1).symm rfl (by omega) (by omega)), ⟨⟨rfl, rfl, trivial⟩, ⟨rfl, trivial⟩, rfl⟩, rfl,
          Step.plain rfl (does_copyC e_api_Member z_api_Member p0 (hole true 3) 22 22 3 73 76 2 ((IntKind.i64.wrap ((p0.length : Int) + (p2.length : Int))).toNat) ((IntKind.i64.wrap (p1 + (p2.length : Int))).toNat) (((IntKind.i64.wrap ((p0.length : Int) + (p2.length : Int))).toNat) - ((IntKind.i64.wrap (p1 + (p2.length : Int))).toNat)) p1.toNat (((IntKind.i64.wrap ((p0.length : Int) + (p2.length : Int))).toNat) - p1.toNat) el22 (by decide) h20), ⟨⟨rfl, rfl, trivial⟩, ⟨rfl, trivial⟩, rfl⟩, rfl, rfl⟩ rfl ?_
        obtain ⟨v22, hv22, H⟩ := lt_of H
        refine aw_cov (cov_prune (s1 := ⟨[(1, (.int .i64 p1)), (2, (e_s_api_Member p2)), (0, (.own 2))], [(2, some (.arr 3 v22.length fun j => (e_api_Member (v22.getD j z_api_Member))))], 3⟩) ⟨rfl, rfl, rfl, trivial⟩ ⟨(by subst hv22; rfl), trivial⟩ (Nat.le_refl _)) ?_
        obtain ⟨h23, H⟩ := sb_of H
        obtain ⟨h24, H⟩ := inb_of H
        refine aw_region (es := [_, _, _, _, _]) ⟨Step.plain rfl (does_move (.tmp 0) (.own 2) trivial), ⟨⟨rfl, trivial⟩, trivial, rfl⟩, rfl,
          Step.plain rfl (does_move (.tmp 1) (.int .i64 p1) trivial), ⟨⟨rfl, trivial⟩, trivial, rfl⟩, rfl,
          Step.plain rfl (does_sliceo 22 3 v22.length 78 2 p1.toNat v22.length (fun j => (e_api_Member (v22.getD j z_api_Member))) (some ((.tmp 79), .i64, p1)) none _ _ el22 rfl rfl trivial trivial (Int.toNat_of_nonneg h23.1).symm rfl (by omega) (by omega)), ⟨⟨rfl, rfl, trivial⟩, ⟨rfl, trivial⟩, rfl⟩, rfl,
          Step.plain rfl (does_move (.tmp 2) (e_s_api_Member p2) trivial), ⟨⟨rfl, trivial⟩, trivial, rfl⟩, rfl,
          Step.plain rfl (does_copyL e_api_Member z_api_Member v22 p2 22 22 3 80 81 2 p1.toNat (v22.length - p1.toNat) el22 (by decide) h24), ⟨⟨rfl, rfl, trivial⟩, ⟨rfl, trivial⟩, rfl⟩, rfl, rfl⟩ ?_
        refine aw_cov (cov_prune (s1 := ⟨[(0, (.own 2))], [(2, some (.arr 3 (ovl v22 p1.toNat (p2.take (v22.length - p1.toNat))).length fun j => (e_api_Member ((ovl v22 p1.toNat (p2.take (v22.length - p1.toNat))).getD j z_api_Member))))], 3⟩) ⟨rfl, trivial⟩ ⟨rfl, trivial⟩ (Nat.le_refl _)) ?_
        refine aw_region (es := [_, _]) ⟨Step.plain rfl (does_move (.tmp 0) (.own 2) trivial), ⟨⟨rfl, trivial⟩, trivial, rfl⟩, rfl,
          Step.plain rfl (does_assign (.tmp 83) (.own 2) trivial), ⟨⟨rfl, trivial⟩, trivial, rfl⟩, rfl, rfl⟩ ?_
        refine aw_cov (cov_prune (s1 := ⟨[(6, (.own 2))], [(2, some (.arr 3 (ovl v22 p1.toNat (p2.take (v22.length - p1.toNat))).length fun j => (e_api_Member ((ovl v22 p1.toNat (p2.take (v22.length - p1.toNat))).getD j z_api_Member))))], 3⟩) ⟨rfl, trivial⟩ ⟨rfl, trivial⟩ (Nat.le_refl _)) ?_
        refine aw_ret ?_
        refine rt_then ?_
        exact fun a w hr => ⟨_, [(.own 0)], reach_of hr (cov_to (s1 := ⟨[(6, (.own 0))], [(0, some (.arr 3 (ovl v22 p1.toNat (p2.take (v22.length - p1.toNat))).length fun j => (e_api_Member ((ovl v22 p1.toNat (p2.take (v22.length - p1.toNat))).getD j z_api_Member))))], 1⟩) (fun i => match i with | 0 => 2 | k => k) [] ⟨⟨_, rfl, .own 0 _ _ (Nat.le_of_ble_eq_true rfl) rfl rfl (Box.like_refl _)⟩, trivial⟩ ⟨⟨Nat.le_of_ble_eq_true rfl, _, _, rfl, rfl, boxTo_arr (fun _ => (d_api_Member _))⟩, trivial⟩ rfl rfl), ⟨rfl, trivial⟩, by decide, by cases H; rfl, by cases H; exact ⟨rfl, trivial⟩, Nat.le_of_ble_eq_true rfl⟩

theorem slices_DeleteFunc_api_Member_api_Member_spec (p0 : (_root_.List api_Member)) (p1 : (api_Member → Option (Bool))) (k1 n1 : Nat) (c1 : Nat → V) (o1 : FnOk Try.prog k1) (h1 : ∀ j, (c1 j).Cap) (g1 : ∀ (x0 : api_Member) (r : Bool), p1 x0 = some r → FSpec Try.prog k1 ([(e_api_Member x0)] ++ (List.range n1).map c1) (.bool r)) (r : (_root_.List api_Member)) (H : slices_DeleteFunc_api_Member_api_Member p0 p1 = some r) : FSpecO Try.prog 26 [(.own 0), (.fn k1 n1 c1)] [(0, some (.arr 3 p0.length fun j => (e_api_Member (p0.getD j z_api_Member))))] 1 (.own 0) [(0, some (.arr 3 r.length fun j => (e_api_Member (r.getD j z_api_Member))))] 1 := by
  refine specO_of (fn := Try.f26) (args := [(.own 0), (.fn k1 n1 c1)]) Try.func26 rfl (Nat.le_of_ble_eq_true rfl) ?_
  rintro ⟨G, w0, W, S, Sp⟩ hG
  cases hG
  unfold slices_DeleteFunc_api_Member_api_Member at H
  refine aw_region (es := [_]) ⟨Step.plain rfl (does_nil false 1 3 (fun j => (e_api_Member (([] : _root_.List api_Member).getD j z_api_Member)))), ⟨trivial, trivial, rfl⟩, rfl, rfl⟩ ?_
  refine aw_cov (cov_prune (s1 := ⟨[(0, (.own 0)), (1, (.fn k1 n1 c1))], [(0, some (.arr 3 p0.length fun j => (e_api_Member (p0.getD j z_api_Member))))], 2⟩) ⟨rfl, rfl, trivial⟩ ⟨rfl, trivial⟩ (Nat.le_refl _)) ?_
  obtain ⟨v1, h2, H⟩ := bnd H
  refine aw_region (es := [_, _, _, _]) ⟨Step.plain rfl (does_move (.tmp 0) (.own 0) trivial), ⟨⟨rfl, trivial⟩, trivial, rfl⟩, rfl,
    Step.plain rfl (does_move (.tmp 1) (.fn k1 n1 c1) trivial), ⟨⟨rfl, trivial⟩, trivial, rfl⟩, rfl,
    Step.plain rfl (does_call 21 0 (fun _ => .any) (.func 21) [(.tmp 8), (.tmp 9)] [(.own 0), (.fn k1 n1 c1)] [(0, (.arr 3 p0.length fun j => (e_api_Member (p0.getD j z_api_Member))))] true [(e_s_api_Member p0), (.fn k1 n1 c1)] (.int .i64 v1) _ _ rfl fo21 rfl ⟨trivial, trivial, trivial⟩ ⟨.own 0 _ _ _ (.head _) rfl (fun _ => (d_api_Member _)), .fn _ _ _ _ (fun j _ => (h1 j).pass), trivial⟩ (slices_IndexFunc_api_Member_api_Member_spec p0 p1 k1 n1 c1 o1 h1 g1 _ h2) trivial), ⟨⟨rfl, rfl, trivial⟩, ⟨rfl, trivial⟩, rfl⟩, rfl,
    Step.plain rfl (does_assign (.tmp 10) (.int .i64 v1) trivial), ⟨⟨rfl, trivial⟩, trivial, rfl⟩, rfl, rfl⟩ ?_
  refine aw_cov (cov_prune (s1 := ⟨[(0, (.own 0)), (1, (.fn k1 n1 c1)), (5, (.int .i64 v1))], [(0, some (.arr 3 p0.length fun j => (e_api_Member (p0.getD j z_api_Member))))], 2⟩) ⟨rfl, rfl, rfl, trivial⟩ ⟨rfl, trivial⟩ (Nat.le_refl _)) ?_
  refine aw_seq ?_
  refine aw_region (es := [_, _]) ⟨Step.plain rfl (does_move (.tmp 5) (.int .i64 v1) trivial), ⟨⟨rfl, trivial⟩, trivial, rfl⟩, rfl,
    Step.plain rfl (does_bin .eql 3 3 (.tmp 11) (.const (.int .i64 (-1))) .i64 v1 (-1) (.bool (v1 == (-1))) trivial (fun _ => rfl) (bin_eql _ _ _ _)), ⟨⟨rfl, trivial⟩, trivial, rfl⟩, rfl, rfl⟩ ?_
  refine aw_cov (cov_prune (s1 := ⟨[(0, (.own 0)), (1, (.fn k1 n1 c1)), (5, (.int .i64 v1)), (12, (.bool (v1 == (-1))))], [(0, some (.arr 3 p0.length fun j => (e_api_Member (p0.getD j z_api_Member))))], 2⟩) ⟨rfl, rfl, rfl, rfl, trivial⟩ ⟨rfl, trivial⟩ (Nat.le_refl _)) ?_
  refine aw_cond rfl (fun hc => ?_) (fun hc => ?_)
  · replace H := ite_t hc H
    refine aw_region (es := [_, _]) ⟨Step.plain rfl (does_move (.tmp 0) (.own 0) trivial), ⟨⟨rfl, trivial⟩, trivial, rfl⟩, rfl,
      Step.plain rfl (does_assign (.tmp 13) (.own 0) trivial), ⟨⟨rfl, trivial⟩, trivial, rfl⟩, rfl, rfl⟩ ?_
    refine aw_cov (cov_prune (s1 := ⟨[(4, (.own 0))], [(0, some (.arr 3 p0.length fun j => (e_api_Member (p0.getD j z_api_Member))))], 2⟩) ⟨rfl, trivial⟩ ⟨rfl, trivial⟩ (Nat.le_refl _)) ?_
    refine aw_ret ?_
    refine rt_then ?_
    exact fun a w hr => ⟨_, [(.own 0)], reach_of hr (cov_to (s1 := ⟨[(4, (.own 0))], [(0, some (.arr 3 p0.length fun j => (e_api_Member (p0.getD j z_api_Member))))], 1⟩) (fun i => match i with | 0 => 0 | k => k) [] ⟨⟨_, rfl, .own 0 _ _ (Nat.le_of_ble_eq_true rfl) rfl rfl (Box.like_refl _)⟩, trivial⟩ ⟨⟨Nat.le_of_ble_eq_true rfl, _, _, rfl, rfl, boxTo_arr (fun _ => (d_api_Member _))⟩, trivial⟩ rfl rfl), ⟨rfl, trivial⟩, by decide, by cases H; rfl, by cases H; exact ⟨rfl, trivial⟩, Nat.le_of_ble_eq_true rfl⟩
  · replace H := ite_f hc H
    refine aw_skip ?_
    refine nx_seq ?_
    refine aw_seq ?_
    refine aw_region (es := [_, _, _]) ⟨Step.plain rfl (does_move (.tmp 5) (.int .i64 v1) trivial), ⟨⟨rfl, trivial⟩, trivial, rfl⟩, rfl,
      Step.plain rfl (does_bin .add 3 3 (.tmp 14) (.const (.int .i64 1)) .i64 v1 1 (.int .i64 (IntKind.i64.wrap (v1 + 1))) trivial (fun _ => rfl) (bin_add _ _ _ _)), ⟨⟨rfl, trivial⟩, trivial, rfl⟩, rfl,
      Step.plain rfl (does_assign (.tmp 15) (.int .i64 (IntKind.i64.wrap (v1 + 1))) trivial), ⟨⟨rfl, trivial⟩, trivial, rfl⟩, rfl, rfl⟩ ?_
    refine aw_cov (cov_prune (s1 := ⟨[(0, (.own 0)), (1, (.fn k1 n1 c1)), (5, (.int .i64 v1)), (6, (.int .i64 (IntKind.i64.wrap (v1 + 1))))], [(0, some (.arr 3 p0.length fun j => (e_api_Member (p0.getD j z_api_Member))))], 2⟩) ⟨rfl, rfl, rfl, rfl, trivial⟩ ⟨rfl, trivial⟩ (Nat.le_refl _)) ?_
    obtain ⟨wn4, hwn4, Hrn4⟩ := bnd H
    refine aw_meet (fun y11 : Int × _root_.List api_Member => (⟨[(0, (.own 0)), (5, (.int .i64 y11.1))], [(0, some (.arr 3 y11.2.length fun j => (e_api_Member (y11.2.getD j z_api_Member))))], 2⟩ : St)) (fun y11 => Fl.nx y11 = wn4) (fun y11 hy => ?_) (aw_block (aw_runs (fun x3 : Int × Int × _root_.List api_Member => (⟨[(0, (.own 0)), (1, (.fn k1 n1 c1)), (5, (.int .i64 x3.1)), (6, (.int .i64 x3.2.1))], [(0, some (.arr 3 x3.2.2.length fun j => (e_api_Member (x3.2.2.getD j z_api_Member))))], 2⟩ : St)) hwn4 (cov_prune ⟨rfl, rfl, rfl, rfl, trivial⟩ ⟨rfl, trivial⟩ (Nat.le_of_ble_eq_true rfl)) (fun x3 st H hsn4 => ?_)))
    · have H := nx_of hy Hrn4
      refine nx_seq ?_
      obtain ⟨h12, H⟩ := sb_of H
      obtain ⟨h13, H⟩ := inb_of H
      refine aw_region (es := [_, _, _, _]) ⟨Step.plain rfl (does_move (.tmp 0) (.own 0) trivial), ⟨⟨rfl, trivial⟩, trivial, rfl⟩, rfl,
        Step.plain rfl (does_move (.tmp 5) (.int .i64 y11.1) trivial), ⟨⟨rfl, trivial⟩, trivial, rfl⟩, rfl,
        Step.plain rfl (does_sliceo 22 3 y11.2.length 36 0 y11.1.toNat y11.2.length (fun j => (e_api_Member (y11.2.getD j z_api_Member))) (some ((.tmp 37), .i64, y11.1)) none _ _ el22 rfl rfl trivial trivial (Int.toNat_of_nonneg h12.1).symm rfl (by omega) (by omega)), ⟨⟨rfl, rfl, trivial⟩, ⟨rfl, trivial⟩, rfl⟩, rfl,
        Step.plain rfl (does_clearL e_api_Member z_api_Member y11.2 22 3 38 0 y11.1.toNat (y11.2.length - y11.1.toNat) so22 h13), ⟨⟨rfl, trivial⟩, ⟨rfl, trivial⟩, rfl⟩, rfl, rfl⟩ ?_
      refine aw_cov (cov_prune (s1 := ⟨[(0, (.own 0)), (5, (.int .i64 y11.1))], [(0, some (.arr 3 (clr y11.2 z_api_Member y11.1.toNat (y11.2.length - y11.1.toNat)).length fun j => (e_api_Member ((clr y11.2 z_api_Member y11.1.toNat (y11.2.length - y11.1.toNat)).getD j z_api_Member))))], 2⟩) ⟨rfl, rfl, trivial⟩ ⟨rfl, trivial⟩ (Nat.le_refl _)) ?_
      obtain ⟨h14, H⟩ := sb_of H
      refine aw_region (es := [_, _, _, _]) ⟨Step.plain rfl (does_move (.tmp 0) (.own 0) trivial), ⟨⟨rfl, trivial⟩, trivial, rfl⟩, rfl,
        Step.plain rfl (does_move (.tmp 5) (.int .i64 y11.1) trivial), ⟨⟨rfl, trivial⟩, trivial, rfl⟩, rfl,
        Step.plain rfl (does_sliceo 22 3 (clr y11.2 z_api_Member y11.1.toNat (y11.2.length - y11.1.toNat)).length 39 0 0 y11.1.toNat (fun j => (e_api_Member ((clr y11.2 z_api_Member y11.1.toNat (y11.2.length - y11.1.toNat)).getD j z_api_Member))) none (some ((.tmp 40), .i64, y11.1)) _ _ el22 rfl rfl trivial trivial rfl (Int.toNat_of_nonneg (Int.le_trans h14.1 h14.2.1)).symm (by omega) (by omega)), ⟨⟨rfl, rfl, trivial⟩, ⟨rfl, trivial⟩, rfl⟩, rfl,
        Step.plain rfl (does_assign (.tmp 41) (.view 0 0 (y11.1.toNat - 0)) trivial), ⟨⟨rfl, trivial⟩, trivial, rfl⟩, rfl, rfl⟩ ?_
      refine aw_cov (cov_prune (s1 := ⟨[(4, (.view 0 0 (y11.1.toNat - 0)))], [(0, some (.arr 3 (clr y11.2 z_api_Member y11.1.toNat (y11.2.length - y11.1.toNat)).length fun j => (e_api_Member ((clr y11.2 z_api_Member y11.1.toNat (y11.2.length - y11.1.toNat)).getD j z_api_Member))))], 2⟩) ⟨rfl, trivial⟩ ⟨rfl, trivial⟩ (Nat.le_refl _)) ?_
      refine aw_ret ?_
      obtain ⟨h15, H⟩ := inb_of H
      exact fun a w hr => ⟨_, [(.own 0)], reach_of hr (cov_to (s1 := ⟨[(4, (.own 0))], [(0, some (.arr 3 ((clr y11.2 z_api_Member y11.1.toNat (y11.2.length - y11.1.toNat)).take (y11.1.toNat - 0)).length fun j => (e_api_Member (((clr y11.2 z_api_Member y11.1.toNat (y11.2.length - y11.1.toNat)).take (y11.1.toNat - 0)).getD j z_api_Member))))], 1⟩) (fun i => match i with | 0 => 0 | k => k) [] ⟨⟨_, rfl, .shr 0 _ _ _ _ _ _ (Nat.le_of_ble_eq_true rfl) rfl rfl (len_take h15)⟩, trivial⟩ ⟨⟨Nat.le_of_ble_eq_true rfl, _, _, rfl, rfl, boxTo_take e_api_Member _ (fun _ => (d_api_Member _))⟩, trivial⟩ rfl rfl), ⟨rfl, trivial⟩, by decide, by cases H; rfl, by cases H; exact ⟨rfl, trivial⟩, Nat.le_of_ble_eq_true rfl⟩
    · refine aw_seq ?_
      refine aw_region (es := [_, _, _, _]) ⟨Step.plain rfl (does_move (.tmp 6) (.int .i64 x3.2.1) trivial), ⟨⟨rfl, trivial⟩, trivial, rfl⟩, rfl,
        Step.plain rfl (does_move (.tmp 0) (.own 0) trivial), ⟨⟨rfl, trivial⟩, trivial, rfl⟩, rfl,
        Step.plain rfl (does_leno 22 3 x3.2.2.length 17 0 (fun j => (e_api_Member (x3.2.2.getD j z_api_Member))) el22), ⟨⟨rfl, trivial⟩, ⟨rfl, trivial⟩, rfl⟩, rfl,
        Step.plain rfl (does_bin .lss 3 3 (.tmp 16) (.tmp 18) .i64 x3.2.1 (x3.2.2.length : Int) (.bool (decide (x3.2.1 < (x3.2.2.length : Int)))) trivial trivial (bin_lss _ _ _ _)), ⟨⟨rfl, rfl, trivial⟩, trivial, rfl⟩, rfl, rfl⟩ ?_
      refine aw_cov (cov_prune (s1 := ⟨[(0, (.own 0)), (1, (.fn k1 n1 c1)), (5, (.int .i64 x3.1)), (6, (.int .i64 x3.2.1)), (19, (.bool (decide (x3.2.1 < (x3.2.2.length : Int)))))], [(0, some (.arr 3 x3.2.2.length fun j => (e_api_Member (x3.2.2.getD j z_api_Member))))], 2⟩) ⟨rfl, rfl, rfl, rfl, rfl, trivial⟩ ⟨rfl, trivial⟩ (Nat.le_refl _)) ?_
      refine aw_cond rfl (fun hc => ?_) (fun hc => ?_)
      · replace H := ite_t hc H
        refine aw_skip ?_
        refine nx_seq ?_
        refine aw_seq ?_
        refine aw_jn (fun x10 : Int × _root_.List api_Member => (⟨[(0, (.own 0)), (1, (.fn k1 n1 c1)), (5, (.int .i64 x10.1)), (6, (.int .i64 x3.2.1))], [(0, some (.arr 3 x10.2.length fun j => (e_api_Member (x10.2.getD j z_api_Member))))], 3⟩ : St)) H (fun x10 H => ?_) (fun j5 H => ?_)
        · refine nx_seq ?_
          refine aw_region1 (es := [_, _, _]) ⟨Step.plain rfl (does_move (.tmp 6) (.int .i64 x3.2.1) trivial), ⟨⟨rfl, trivial⟩, trivial, rfl⟩, rfl,
            Step.plain rfl (does_bin .add 3 3 (.tmp 20) (.const (.int .i64 1)) .i64 x3.2.1 1 (.int .i64 (IntKind.i64.wrap (x3.2.1 + 1))) trivial (fun _ => rfl) (bin_add _ _ _ _)), ⟨⟨rfl, trivial⟩, trivial, rfl⟩, rfl,
            Step.plain rfl (does_assign (.tmp 21) (.int .i64 (IntKind.i64.wrap (x3.2.1 + 1))) trivial), ⟨⟨rfl, trivial⟩, trivial, rfl⟩, rfl, rfl⟩ ?_
          exact nx_loop (x10.1, (IntKind.i64.wrap (x3.2.1 + 1)), x10.2) H (cov_of (fun i => match i with | 0 => 0 | k => k) ⟨⟨_, rfl, ⟨rfl, Nat.le_of_ble_eq_true rfl⟩⟩, ⟨_, rfl, ⟨rfl, fun j => (h1 j).plain⟩⟩, ⟨_, rfl, ⟨rfl, trivial⟩⟩, ⟨_, rfl, ⟨rfl, trivial⟩⟩, trivial⟩ ⟨⟨Nat.le_of_ble_eq_true rfl, _, _, rfl, rfl, ⟨rfl, rfl, fun _ => .inl ⟨rfl, (d_api_Member _).plain⟩⟩⟩, trivial⟩ rfl)
        · refine aw_block ?_
          obtain ⟨h6, H⟩ := ib_of H
          refine aw_region (es := [_, _, _, _, _, _]) ⟨Step.plain rfl (does_move (.tmp 0) (.own 0) trivial), ⟨⟨rfl, trivial⟩, trivial, rfl⟩, rfl,
            Step.plain rfl (does_move (.tmp 6) (.int .i64 x3.2.1) trivial), ⟨⟨rfl, trivial⟩, trivial, rfl⟩, rfl,
            Step.plain rfl (does_indexAddro 22 3 x3.2.2.length 22 0 (fun j => (e_api_Member (x3.2.2.getD j z_api_Member))) (.tmp 23) .i64 x3.2.1 el22 trivial h6.1 h6.2), ⟨⟨rfl, rfl, trivial⟩, ⟨rfl, trivial⟩, rfl⟩, rfl,
            Step.plain rfl (does_load 35 24 0 (x3.2.1.toNat * 3) [x3.2.1.toNat] (.arr 3 x3.2.2.length fun j => (e_api_Member (x3.2.2.getD j z_api_Member))) (e_api_Member (x3.2.2.getD x3.2.1.toNat z_api_Member)) ⟨(ixl h6), trivial⟩ rfl rfl ty35), ⟨⟨rfl, trivial⟩, ⟨rfl, trivial⟩, rfl⟩, rfl,
            Step.plain rfl (does_alloc 35 2 (e_api_Member z_api_Member) zr35), ⟨trivial, trivial, rfl⟩, rfl,
            Step.plain rfl (does_store 35 7 (.tmp 25) 2 0 [] (.var (e_api_Member z_api_Member)) (.var (e_api_Member (x3.2.2.getD x3.2.1.toNat z_api_Member))) (e_api_Member (x3.2.2.getD x3.2.1.toNat z_api_Member)) true trivial rfl trivial rfl rfl rfl ty35), ⟨⟨rfl, rfl, trivial⟩, ⟨rfl, trivial⟩, rfl⟩, rfl, rfl⟩ ?_
          refine aw_cov (cov_prune (s1 := ⟨[(0, (.own 0)), (1, (.fn k1 n1 c1)), (5, (.int .i64 x3.1)), (6, (.int .i64 x3.2.1)), (7, (.ptr 2 0 []))], [(0, some (.arr 3 x3.2.2.length fun j => (e_api_Member (x3.2.2.getD j z_api_Member)))), (2, some (.var (e_api_Member (x3.2.2.getD x3.2.1.toNat z_api_Member))))], 3⟩) ⟨rfl, rfl, rfl, rfl, rfl, trivial⟩ ⟨rfl, rfl, trivial⟩ (Nat.le_refl _)) ?_
          obtain ⟨v7, h8, H⟩ := bnd H
          refine aw_region (es := [_, _, _, _]) ⟨Step.plain rfl (does_move (.tmp 1) (.fn k1 n1 c1) trivial), ⟨⟨rfl, trivial⟩, trivial, rfl⟩, rfl,
            Step.plain rfl (does_load 35 7 2 0 [] (.var (e_api_Member (x3.2.2.getD x3.2.1.toNat z_api_Member))) (e_api_Member (x3.2.2.getD x3.2.1.toNat z_api_Member)) trivial rfl rfl ty35), ⟨⟨rfl, trivial⟩, ⟨rfl, trivial⟩, rfl⟩, rfl,
            Step.plain rfl (does_callf k1 n1 c1 26 [(.tmp 27)] [(e_api_Member (x3.2.2.getD x3.2.1.toNat z_api_Member))] [(e_api_Member (x3.2.2.getD x3.2.1.toNat z_api_Member))] [] true (.bool v7) _ _ rfl o1 ⟨trivial, trivial⟩ ⟨.data _ (d_api_Member (x3.2.2.getD x3.2.1.toNat z_api_Member)), trivial⟩ h1 (g1 (x3.2.2.getD x3.2.1.toNat z_api_Member) _ h8) trivial), ⟨⟨rfl, rfl, trivial⟩, trivial, rfl⟩, rfl,
            Step.plain rfl (does_not 4 (.tmp 28) v7 trivial), ⟨⟨rfl, trivial⟩, trivial, rfl⟩, rfl, rfl⟩ ?_
          refine aw_cov (cov_prune (s1 := ⟨[(0, (.own 0)), (1, (.fn k1 n1 c1)), (5, (.int .i64 x3.1)), (6, (.int .i64 x3.2.1)), (7, (.ptr 2 0 [])), (29, (.bool (!v7)))], [(0, some (.arr 3 x3.2.2.length fun j => (e_api_Member (x3.2.2.getD j z_api_Member)))), (2, some (.var (e_api_Member (x3.2.2.getD x3.2.1.toNat z_api_Member))))], 3⟩) ⟨rfl, rfl, rfl, rfl, rfl, rfl, trivial⟩ ⟨rfl, rfl, trivial⟩ (Nat.le_refl _)) ?_
          refine aw_cond rfl (fun hc => ?_) (fun hc => ?_)
          · replace H := ite_t hc H
            obtain ⟨h9, H⟩ := ib_of H
            refine aw_region (es := [_, _, _, _, _]) ⟨Step.plain rfl (does_move (.tmp 0) (.own 0) trivial), ⟨⟨rfl, trivial⟩, trivial, rfl⟩, rfl,
              Step.plain rfl (does_move (.tmp 5) (.int .i64 x3.1) trivial), ⟨⟨rfl, trivial⟩, trivial, rfl⟩, rfl,
              Step.plain rfl (does_load 35 7 2 0 [] (.var (e_api_Member (x3.2.2.getD x3.2.1.toNat z_api_Member))) (e_api_Member (x3.2.2.getD x3.2.1.toNat z_api_Member)) trivial rfl rfl ty35), ⟨⟨rfl, trivial⟩, ⟨rfl, trivial⟩, rfl⟩, rfl,
              Step.plain rfl (does_indexAddro 22 3 x3.2.2.length 30 0 (fun j => (e_api_Member (x3.2.2.getD j z_api_Member))) (.tmp 31) .i64 x3.1 el22 trivial h9.1 h9.2), ⟨⟨rfl, rfl, trivial⟩, ⟨rfl, trivial⟩, rfl⟩, rfl,
              Step.plain rfl (does_store 35 33 (.tmp 32) 0 (x3.1.toNat * 3) [x3.1.toNat] (.arr 3 x3.2.2.length fun j => (e_api_Member (x3.2.2.getD j z_api_Member))) (.arr 3 (x3.2.2.set x3.1.toNat (x3.2.2.getD x3.2.1.toNat z_api_Member)).length fun j => (e_api_Member ((x3.2.2.set x3.1.toNat (x3.2.2.getD x3.2.1.toNat z_api_Member)).getD j z_api_Member))) (e_api_Member (x3.2.2.getD x3.2.1.toNat z_api_Member)) true trivial rfl ⟨(ixl h9), trivial⟩ rfl rfl (set_arr e_api_Member z_api_Member _ (ixl h9) rfl) ty35), ⟨⟨rfl, rfl, trivial⟩, ⟨rfl, trivial⟩, rfl⟩, rfl, rfl⟩ ?_
            refine aw_cov (cov_prune (s1 := ⟨[(0, (.own 0)), (1, (.fn k1 n1 c1)), (5, (.int .i64 x3.1)), (6, (.int .i64 x3.2.1))], [(0, some (.arr 3 (x3.2.2.set x3.1.toNat (x3.2.2.getD x3.2.1.toNat z_api_Member)).length fun j => (e_api_Member ((x3.2.2.set x3.1.toNat (x3.2.2.getD x3.2.1.toNat z_api_Member)).getD j z_api_Member))))], 3⟩) ⟨rfl, rfl, rfl, rfl, trivial⟩ ⟨rfl, trivial⟩ (Nat.le_refl _)) ?_
            refine aw_region1 (es := [_, _, _]) ⟨Step.plain rfl (does_move (.tmp 5) (.int .i64 x3.1) trivial), ⟨⟨rfl, trivial⟩, trivial, rfl⟩, rfl,
              Step.plain rfl (does_bin .add 3 3 (.tmp 34) (.const (.int .i64 1)) .i64 x3.1 1 (.int .i64 (IntKind.i64.wrap (x3.1 + 1))) trivial (fun _ => rfl) (bin_add _ _ _ _)), ⟨⟨rfl, trivial⟩, trivial, rfl⟩, rfl,
              Step.plain rfl (does_assign (.tmp 35) (.int .i64 (IntKind.i64.wrap (x3.1 + 1))) trivial), ⟨⟨rfl, trivial⟩, trivial, rfl⟩, rfl, rfl⟩ ?_
            refine nx_blk ?_
            exact nx_join ((IntKind.i64.wrap (x3.1 + 1)), x3.2.2.set x3.1.toNat (x3.2.2.getD x3.2.1.toNat z_api_Member)) H (cov_prune ⟨rfl, rfl, rfl, rfl, trivial⟩ ⟨rfl, trivial⟩ (Nat.le_of_ble_eq_true rfl))
          · replace H := ite_f hc H
            refine aw_skip ?_
            refine nx_blk ?_
            exact nx_join (x3.1, x3.2.2) H (cov_prune ⟨rfl, rfl, rfl, rfl, trivial⟩ ⟨rfl, trivial⟩ (Nat.le_of_ble_eq_true rfl))
      · replace H := ite_f hc H
        refine aw_exit ?_
        refine ex_then ?_
        refine ex_then ?_
        refine ex_here ?_
        exact nx_ljoin (x3.1, x3.2.2) H hsn4 (cov_prune ⟨rfl, rfl, trivial⟩ ⟨rfl, trivial⟩ (Nat.le_of_ble_eq_true rfl))

theorem group_Apply_2_spec (p0 : api_Member) (q0 : api_Member) (r : Bool) (H : group_Apply_2 p0 q0 = some r) : FSpec Try.prog 27 [(e_api_Member p0), (.cptr (e_api_Member q0))] (.bool r) := by
  refine spec_of (fn := Try.f27) (args := [(e_api_Member p0), (.cptr (e_api_Member q0))]) Try.func27 rfl (Nat.le_of_ble_eq_true rfl) ?_
  rintro ⟨G, w0, W, S, Sp⟩ hG
  cases hG
  unfold group_Apply_2 at H
  refine aw_region (es := [_, _]) ⟨Step.plain rfl (does_box 35 (.tmp 0) 0 (e_api_Member p0) trivial rfl), ⟨⟨rfl, trivial⟩, trivial, rfl⟩, rfl,
    Step.plain rfl (does_assign (.const (.bool false)) (.bool false) (fun _ => rfl)), ⟨trivial, trivial, rfl⟩, rfl, rfl⟩ ?_
  refine aw_cov (cov_prune (s1 := ⟨[(1, (.cptr (e_api_Member q0))), (2, (.ptr 0 0 []))], [(0, some (.var (e_api_Member p0)))], 1⟩) ⟨rfl, rfl, trivial⟩ ⟨rfl, trivial⟩ (Nat.le_refl _)) ?_
  refine aw_region (es := [_, _, _, _]) ⟨Step.plain rfl (does_load 35 2 0 0 [] (.var (e_api_Member p0)) (e_api_Member p0) trivial rfl rfl ty35), ⟨⟨rfl, trivial⟩, ⟨rfl, trivial⟩, rfl⟩, rfl,
    Step.plain rfl (does_loadc 35 1 (e_api_Member q0) ty35), ⟨⟨rfl, trivial⟩, trivial, rfl⟩, rfl,
    Step.plain rfl (does_eqT false 35 35 (.tmp 4) (.tmp 5) (e_api_Member p0) (e_api_Member q0) (e_api_Member z_api_Member) (b_api_Member p0 q0) rfl rfl trivial trivial eg35 sh35 (al_api_Member _ _) (al_api_Member _ _) (q_api_Member _ _)), ⟨⟨rfl, rfl, trivial⟩, trivial, rfl⟩, rfl,
    Step.plain rfl (does_assign (.tmp 6) (.bool (b_api_Member p0 q0)) trivial), ⟨⟨rfl, trivial⟩, trivial, rfl⟩, rfl, rfl⟩ ?_
  refine aw_cov (cov_prune (s1 := ⟨[(3, (.bool (b_api_Member p0 q0)))], [], 1⟩) ⟨rfl, trivial⟩ trivial (Nat.le_refl _)) ?_
  refine aw_ret ?_
  exact fun a w hr => ⟨_, [(.bool (b_api_Member p0 q0))], hr, ⟨⟨_, rfl, .data (.bool (b_api_Member p0 q0)) trivial⟩, trivial⟩, by decide, by cases H; rfl⟩
end Go.Proofs.Ytpcpfcijdliicaa
