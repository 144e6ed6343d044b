/- Printed by gen.py. Conditions: none. -/
import Derived.Test.YtclblogdciebnaaFact
import Derived.KernelRfl
set_option linter.unusedVariables false
set_option maxRecDepth 100000
namespace Go.Proofs.Ytclblogdciebnaa
open Go.Eng
set_option maxHeartbeats 1600000
theorem slices_Clone_api_Wait_api_Wait_spec (p0 : (_root_.List api_Wait)) (r : (_root_.List api_Wait)) (H : slices_Clone_api_Wait_api_Wait p0 = some r) : FSpecO Try.prog 27 [(e_s_api_Wait p0)] [] 0 (.own 0) [(0, some (.arr 9 r.length fun j => (e_api_Wait (r.getD j z_api_Wait))))] 1 := by
  refine specO_of (fn := Try.f27) (args := [(e_s_api_Wait p0)]) Try.func27 rfl (Nat.le_of_ble_eq_true rfl) ?_
  rintro ⟨G, w0, W, S, Sp⟩ hG
  cases hG
  unfold slices_Clone_api_Wait_api_Wait at H
  refine aw_region (es := [_]) ⟨Step.plain rfl (does_nil false 0 9 (fun j => (e_api_Wait (([] : _root_.List api_Wait).getD j z_api_Wait)))), ⟨trivial, trivial, rfl⟩, rfl, rfl⟩ ?_
  refine aw_cov (cov_prune (s1 := ⟨[(0, (e_s_api_Wait p0))], [], 1⟩) ⟨rfl, trivial⟩ trivial (Nat.le_refl _)) ?_
  refine aw_seq ?_
  refine aw_region (es := [_, _]) ⟨Step.plain rfl (does_move (.tmp 0) (e_s_api_Wait p0) trivial), ⟨⟨rfl, trivial⟩, trivial, rfl⟩, rfl,
    Step.plain rfl (does_eqnil 22 47 22 3 9 p0.length (fun j => (e_api_Wait (p0.getD j z_api_Wait))) us22), ⟨⟨rfl, trivial⟩, trivial, rfl⟩, rfl, rfl⟩ ?_
  refine aw_cov (cov_prune (s1 := ⟨[(0, (e_s_api_Wait p0)), (4, (.nilq p0.length))], [], 1⟩) ⟨rfl, rfl, trivial⟩ trivial (Nat.le_refl _)) ?_
  obtain ⟨H1, H2⟩ := nilq_of H
  clear H
  refine aw_condq rfl (fun hc => ?_) ?_
  · have H := H1 hc
    refine aw_region (es := [_]) ⟨Step.plain rfl (does_nil false 1 9 (fun j => (e_api_Wait (([] : _root_.List api_Wait).getD j z_api_Wait)))), ⟨trivial, trivial, rfl⟩, rfl, rfl⟩ ?_
    refine aw_cov (cov_prune (s1 := ⟨[(2, (.own 1))], [(1, some (.arr 9 ([] : _root_.List api_Wait).length fun j => (e_api_Wait (([] : _root_.List api_Wait).getD j z_api_Wait))))], 2⟩) ⟨rfl, trivial⟩ ⟨rfl, trivial⟩ (Nat.le_refl _)) ?_
    refine aw_ret ?_
    refine rt_then ?_
    exact fun a w hr => ⟨_, [(.own 0)], reach_of hr (cov_to (s1 := ⟨[(2, (.own 0))], [(0, some (.arr 9 ([] : _root_.List api_Wait).length fun j => (e_api_Wait (([] : _root_.List api_Wait).getD j z_api_Wait))))], 1⟩) (fun i => match i with | 0 => 1 | k => k) [] ⟨⟨_, rfl, .own 0 _ _ (Nat.le_of_ble_eq_true rfl) rfl rfl (Box.like_refl _)⟩, trivial⟩ ⟨⟨Nat.le_of_ble_eq_true rfl, _, _, rfl, rfl, boxTo_arr (fun _ => (d_api_Wait _))⟩, trivial⟩ rfl rfl), ⟨rfl, trivial⟩, by decide, by cases H; rfl, by cases H; exact ⟨rfl, trivial⟩, Nat.le_of_ble_eq_true rfl⟩
  · have H := H2
    refine aw_skip ?_
    refine nx_seq ?_
    obtain ⟨h1, H⟩ := fit_of H
    refine aw_region (es := [_, _, _, _]) ⟨Step.plain rfl (does_buildOwn 22 0 9 1 (e_api_Wait z_api_Wait) (fun j => (e_api_Wait (([] : _root_.List api_Wait).getD j z_api_Wait))) #[] [] [] rfl so22 (by decide) trivial trivial (fun j h => match j, h with  | k + 0, h => absurd h (by omega))), ⟨trivial, trivial, rfl⟩, rfl,
      Step.plain rfl (does_move (.tmp 0) (e_s_api_Wait p0) trivial), ⟨⟨rfl, trivial⟩, trivial, rfl⟩, rfl,
      Step.plain rfl (does_appendL e_api_Wait z_api_Wait ([] : _root_.List api_Wait) p0 22 9 80 1 2 5 6 ap22 h1), ⟨⟨rfl, rfl, trivial⟩, ⟨rfl, trivial⟩, rfl⟩, rfl,
      Step.plain rfl (does_assign (.tmp 7) (.own 2) trivial), ⟨⟨rfl, trivial⟩, trivial, rfl⟩, rfl, rfl⟩ ?_
    refine aw_cov (cov_prune (s1 := ⟨[(2, (.own 2))], [(2, some (.arr 9 (([] : _root_.List api_Wait) ++ p0).length fun j => (e_api_Wait ((([] : _root_.List api_Wait) ++ p0).getD j z_api_Wait))))], 3⟩) ⟨rfl, trivial⟩ ⟨rfl, trivial⟩ (Nat.le_refl _)) ?_
    refine aw_ret ?_
    exact fun a w hr => ⟨_, [(.own 0)], reach_of hr (cov_to (s1 := ⟨[(2, (.own 0))], [(0, some (.arr 9 (([] : _root_.List api_Wait) ++ p0).length fun j => (e_api_Wait ((([] : _root_.List api_Wait) ++ p0).getD j z_api_Wait))))], 1⟩) (fun i => match i with | 0 => 2 | k => k) [] ⟨⟨_, rfl, .own 0 _ _ (Nat.le_of_ble_eq_true rfl) rfl rfl (Box.like_refl _)⟩, trivial⟩ ⟨⟨Nat.le_of_ble_eq_true rfl, _, _, rfl, rfl, boxTo_arr (fun _ => (d_api_Wait _))⟩, trivial⟩ rfl rfl), ⟨rfl, trivial⟩, by decide, by cases H; rfl, by cases H; exact ⟨rfl, trivial⟩, Nat.le_of_ble_eq_true rfl⟩

theorem slices_Clone_api_Wait_api_Wait_data (p0 : (_root_.List api_Wait)) (r : (_root_.List api_Wait)) (H : slices_Clone_api_Wait_api_Wait p0 = some r) : FSpec Try.prog 27 [(e_s_api_Wait p0)] (e_s_api_Wait r) :=
  FSpecO.toData (fz := [0]) (slices_Clone_api_Wait_api_Wait_spec p0 r H) (d_s_api_Wait r) (.frz 0 _ _ _ rfl (fun _ => (d_api_Wait _)) (by decide))

theorem slices_IndexFunc_api_Wait_api_Wait_spec (p0 : (_root_.List api_Wait)) (p1 : (api_Wait → Option (Bool))) (k1 n1 : Nat) (c1 : Nat → V) (o1 : FnOk Try.prog k1) (h1 : ∀ j, (c1 j).Cap) (g1 : ∀ (x0 : api_Wait) (r : Bool), p1 x0 = some r → FSpec Try.prog k1 ([(e_api_Wait x0)] ++ (List.range n1).map c1) (.bool r)) (r : Int) (H : slices_IndexFunc_api_Wait_api_Wait p0 p1 = some r) : FSpec Try.prog 36 [(e_s_api_Wait p0), (.fn k1 n1 c1)] (.int .i64 r) := by
  refine spec_of (fn := Try.f36) (args := [(e_s_api_Wait p0), (.fn k1 n1 c1)]) Try.func36 rfl (Nat.le_of_ble_eq_true rfl) ?_
  rintro ⟨G, w0, W, S, Sp⟩ hG
  cases hG
  unfold slices_IndexFunc_api_Wait_api_Wait at H
  refine aw_region (es := [_]) ⟨Step.plain rfl (does_assign (.const (.int .i64 0)) (.int .i64 0) (fun _ => rfl)), ⟨trivial, trivial, rfl⟩, rfl, rfl⟩ ?_
  refine aw_cov (cov_prune (s1 := ⟨[(0, (e_s_api_Wait p0)), (1, (.fn k1 n1 c1))], [], 0⟩) ⟨rfl, rfl, trivial⟩ trivial (Nat.le_refl _)) ?_
  refine aw_seq ?_
  refine aw_region (es := [_, _, _]) ⟨Step.plain rfl (does_move (.tmp 0) (e_s_api_Wait p0) trivial), ⟨⟨rfl, trivial⟩, trivial, rfl⟩, rfl,
    Step.plain rfl (does_lens 22 9 p0.length 6 (fun j => (e_api_Wait (p0.getD j z_api_Wait))) el22), ⟨⟨rfl, trivial⟩, trivial, rfl⟩, rfl,
    Step.plain rfl (does_move (.const (.int .i64 0)) (.int .i64 0) (fun _ => rfl)), ⟨trivial, trivial, rfl⟩, rfl, rfl⟩ ?_
  refine aw_cov (cov_prune (s1 := ⟨[(0, (e_s_api_Wait p0)), (1, (.fn k1 n1 c1)), (7, (.int .i64 (p0.length : Int))), (8, (.int .i64 0))], [], 0⟩) ⟨rfl, rfl, rfl, rfl, trivial⟩ trivial (Nat.le_refl _)) ?_
  obtain ⟨wn2, hwn2, Hrn2⟩ := bnd H
  refine aw_meet (fun y6 : Unit => (⟨[], [], 0⟩ : St)) (fun y6 => Fl.nx y6 = wn2) (fun y6 hy => ?_) (aw_block (aw_runs (fun x1 : Int => (⟨[(0, (e_s_api_Wait p0)), (1, (.fn k1 n1 c1)), (7, (.int .i64 (p0.length : Int))), (8, (.int .i64 x1))], [], 0⟩ : St)) hwn2 (cov_prune ⟨rfl, rfl, rfl, rfl, trivial⟩ trivial (Nat.le_of_ble_eq_true rfl)) (fun x1 st H hsn2 => ?_)))
  · have H := nx_of hy Hrn2
    refine nx_seq ?_
    refine aw_region (es := [_]) ⟨Step.plain rfl (does_assign (.const (.int .i64 (-1))) (.int .i64 (-1)) (fun _ => rfl)), ⟨trivial, trivial, rfl⟩, rfl, rfl⟩ ?_
    refine aw_cov (cov_prune (s1 := ⟨[(4, (.int .i64 (-1)))], [], 0⟩) ⟨rfl, trivial⟩ trivial (Nat.le_refl _)) ?_
    refine aw_ret ?_
    exact fun a w hr => ⟨_, [(.int .i64 (-1))], hr, ⟨⟨_, rfl, .data (.int .i64 (-1)) trivial⟩, trivial⟩, by decide, by cases H; rfl⟩
  · refine aw_region (es := [_]) ⟨Step.plain rfl (does_bin .lss 3 3 (.tmp 8) (.tmp 7) .i64 x1 (p0.length : Int) (.bool (decide (x1 < (p0.length : Int)))) trivial trivial (bin_lss _ _ _ _)), ⟨⟨rfl, rfl, trivial⟩, trivial, rfl⟩, rfl, rfl⟩ ?_
    refine aw_cov (cov_prune (s1 := ⟨[(0, (e_s_api_Wait p0)), (1, (.fn k1 n1 c1)), (7, (.int .i64 (p0.length : Int))), (8, (.int .i64 x1)), (9, (.bool (decide (x1 < (p0.length : Int)))))], [], 0⟩) ⟨rfl, rfl, rfl, rfl, rfl, trivial⟩ trivial (Nat.le_refl _)) ?_
    refine aw_seq ?_
    refine aw_cond rfl (fun hc => ?_) (fun hc => ?_)
    · replace H := ite_t hc H
      refine aw_skip ?_
      refine nx_seq ?_
      refine aw_seq ?_
      refine aw_block ?_
      refine aw_region (es := [_, _]) ⟨Step.plain rfl (does_move (.tmp 8) (.int .i64 x1) trivial), ⟨⟨rfl, trivial⟩, trivial, rfl⟩, rfl,
        Step.plain rfl (does_assign (.tmp 10) (.int .i64 x1) trivial), ⟨⟨rfl, trivial⟩, trivial, rfl⟩, rfl, rfl⟩ ?_
      refine aw_cov (cov_prune (s1 := ⟨[(0, (e_s_api_Wait p0)), (1, (.fn k1 n1 c1)), (7, (.int .i64 (p0.length : Int))), (8, (.int .i64 x1)), (5, (.int .i64 x1))], [], 0⟩) ⟨rfl, rfl, rfl, rfl, rfl, trivial⟩ trivial (Nat.le_refl _)) ?_
      obtain ⟨h3, H⟩ := ib_of H
      obtain ⟨v4, h5, H⟩ := bnd H
      refine aw_region (es := [_, _, _, _, _, _]) ⟨Step.plain rfl (does_move (.tmp 1) (.fn k1 n1 c1) trivial), ⟨⟨rfl, trivial⟩, trivial, rfl⟩, rfl,
        Step.plain rfl (does_move (.tmp 0) (e_s_api_Wait p0) trivial), ⟨⟨rfl, trivial⟩, trivial, rfl⟩, rfl,
        Step.plain rfl (does_move (.tmp 5) (.int .i64 x1) trivial), ⟨⟨rfl, trivial⟩, trivial, rfl⟩, rfl,
        Step.plain rfl (does_indexAddrs 22 9 p0.length 12 (fun j => (e_api_Wait (p0.getD j z_api_Wait))) (.tmp 13) .i64 x1 el22 trivial h3.1 h3.2), ⟨⟨rfl, rfl, trivial⟩, trivial, rfl⟩, rfl,
        Step.plain rfl (does_loadc 47 14 (e_api_Wait (p0.getD x1.toNat z_api_Wait)) ty47), ⟨⟨rfl, trivial⟩, trivial, rfl⟩, rfl,
        Step.plain rfl (does_callf k1 n1 c1 11 [(.tmp 15)] [(e_api_Wait (p0.getD x1.toNat z_api_Wait))] [(e_api_Wait (p0.getD x1.toNat z_api_Wait))] [] true (.bool v4) _ _ rfl o1 ⟨trivial, trivial⟩ ⟨.data _ (d_api_Wait (p0.getD x1.toNat z_api_Wait)), trivial⟩ h1 (g1 (p0.getD x1.toNat z_api_Wait) _ h5) trivial), ⟨⟨rfl, rfl, trivial⟩, trivial, rfl⟩, rfl, rfl⟩ ?_
      refine aw_cov (cov_prune (s1 := ⟨[(0, (e_s_api_Wait p0)), (1, (.fn k1 n1 c1)), (7, (.int .i64 (p0.length : Int))), (8, (.int .i64 x1)), (5, (.int .i64 x1)), (16, (.bool v4))], [], 0⟩) ⟨rfl, rfl, rfl, rfl, rfl, rfl, trivial⟩ trivial (Nat.le_refl _)) ?_
      refine aw_cond rfl (fun hc => ?_) (fun hc => ?_)
      · replace H := ite_t hc H
        refine aw_region (es := [_, _]) ⟨Step.plain rfl (does_move (.tmp 5) (.int .i64 x1) trivial), ⟨⟨rfl, trivial⟩, trivial, rfl⟩, rfl,
          Step.plain rfl (does_assign (.tmp 17) (.int .i64 x1) trivial), ⟨⟨rfl, trivial⟩, trivial, rfl⟩, rfl, rfl⟩ ?_
        refine aw_cov (cov_prune (s1 := ⟨[(4, (.int .i64 x1))], [], 0⟩) ⟨rfl, trivial⟩ trivial (Nat.le_refl _)) ?_
        refine aw_ret ?_
        replace H := rt_of H hsn2 Hrn2
        refine rt_blk ?_
        refine rt_then ?_
        refine rt_then ?_
        refine rt_blk ?_
        refine rt_then ?_
        refine rt_then ?_
        exact fun a w hr => ⟨_, [(.int .i64 x1)], hr, ⟨⟨_, rfl, .data (.int .i64 x1) trivial⟩, trivial⟩, by decide, by cases H; rfl⟩
      · replace H := ite_f hc H
        refine aw_skip ?_
        refine nx_blk ?_
        refine nx_seq ?_
        refine aw_region1 (es := [_, _]) ⟨Step.plain rfl (does_bin .add 3 3 (.tmp 8) (.const (.int .i64 1)) .i64 x1 1 (.int .i64 (IntKind.i64.wrap (x1 + 1))) trivial (fun _ => rfl) (bin_add _ _ _ _)), ⟨⟨rfl, trivial⟩, trivial, rfl⟩, rfl,
          Step.plain rfl (does_move (.tmp 18) (.int .i64 (IntKind.i64.wrap (x1 + 1))) trivial), ⟨⟨rfl, trivial⟩, trivial, rfl⟩, rfl, rfl⟩ ?_
        exact nx_loop ((IntKind.i64.wrap (x1 + 1))) H (cov_prune ⟨rfl, rfl, rfl, rfl, trivial⟩ trivial (Nat.le_of_ble_eq_true rfl))
    · replace H := ite_f hc H
      refine aw_exit ?_
      refine ex_then ?_
      refine ex_then ?_
      refine ex_here ?_
      exact nx_ljoin () H hsn2 (cov_prune trivial trivial (Nat.le_of_ble_eq_true rfl))

theorem slices_ContainsFunc_api_Wait_api_Wait_spec (p0 : (_root_.List api_Wait)) (p1 : (api_Wait → Option (Bool))) (k1 n1 : Nat) (c1 : Nat → V) (o1 : FnOk Try.prog k1) (h1 : ∀ j, (c1 j).Cap) (g1 : ∀ (x0 : api_Wait) (r : Bool), p1 x0 = some r → FSpec Try.prog k1 ([(e_api_Wait x0)] ++ (List.range n1).map c1) (.bool r)) (r : Bool) (H : slices_ContainsFunc_api_Wait_api_Wait p0 p1 = some r) : FSpec Try.prog 34 [(e_s_api_Wait p0), (.fn k1 n1 c1)] (.bool r) := by
  refine spec_of (fn := Try.f34) (args := [(e_s_api_Wait p0), (.fn k1 n1 c1)]) Try.func34 rfl (Nat.le_of_ble_eq_true rfl) ?_
  rintro ⟨G, w0, W, S, Sp⟩ hG
  cases hG
  unfold slices_ContainsFunc_api_Wait_api_Wait at H
  refine aw_region (es := [_]) ⟨Step.plain rfl (does_assign (.const (.bool false)) (.bool false) (fun _ => rfl)), ⟨trivial, trivial, rfl⟩, rfl, rfl⟩ ?_
  refine aw_cov (cov_prune (s1 := ⟨[(0, (e_s_api_Wait p0)), (1, (.fn k1 n1 c1))], [], 0⟩) ⟨rfl, rfl, trivial⟩ trivial (Nat.le_refl _)) ?_
  obtain ⟨v1, h2, H⟩ := bnd H
  refine aw_region (es := [_, _, _, _, _]) ⟨Step.plain rfl (does_move (.tmp 0) (e_s_api_Wait p0) trivial), ⟨⟨rfl, trivial⟩, trivial, rfl⟩, rfl,
    Step.plain rfl (does_move (.tmp 1) (.fn k1 n1 c1) trivial), ⟨⟨rfl, trivial⟩, trivial, rfl⟩, rfl,
    Step.plain rfl (does_call 36 0 (fun _ => .any) (.func 36) [(.tmp 5), (.tmp 6)] [(e_s_api_Wait p0), (.fn k1 n1 c1)] [] true [(e_s_api_Wait p0), (.fn k1 n1 c1)] (.int .i64 v1) _ _ rfl fo36 rfl ⟨trivial, trivial, trivial⟩ ⟨.data _ (d_s_api_Wait p0), .fn _ _ _ _ (fun j _ => (h1 j).pass), trivial⟩ (slices_IndexFunc_api_Wait_api_Wait_spec p0 p1 k1 n1 c1 o1 h1 g1 _ h2) trivial), ⟨⟨rfl, rfl, trivial⟩, trivial, rfl⟩, rfl,
    Step.plain rfl (does_bin .geq 3 3 (.tmp 7) (.const (.int .i64 0)) .i64 v1 0 (.bool (decide (v1 ≥ 0))) trivial (fun _ => rfl) (bin_geq _ _ _ _)), ⟨⟨rfl, trivial⟩, trivial, rfl⟩, rfl,
    Step.plain rfl (does_assign (.tmp 8) (.bool (decide (v1 ≥ 0))) trivial), ⟨⟨rfl, trivial⟩, trivial, rfl⟩, rfl, rfl⟩ ?_
  refine aw_cov (cov_prune (s1 := ⟨[(4, (.bool (decide (v1 ≥ 0))))], [], 0⟩) ⟨rfl, trivial⟩ trivial (Nat.le_refl _)) ?_
  refine aw_ret ?_
  exact fun a w hr => ⟨_, [(.bool (decide (v1 ≥ 0)))], hr, ⟨⟨_, rfl, .data (.bool (decide (v1 ≥ 0))) trivial⟩, trivial⟩, by decide, by cases H; rfl⟩

theorem queue_put_1_spec (p0 : api_Wait) (q0 : api_Wait) (r : Bool) (H : queue_put_1 p0 q0 = some r) : FSpec Try.prog 35 [(e_api_Wait p0), (.cptr (e_api_Wait q0))] (.bool r) := by
  refine spec_of (fn := Try.f35) (args := [(e_api_Wait p0), (.cptr (e_api_Wait q0))]) Try.func35 rfl (Nat.le_of_ble_eq_true rfl) ?_
  rintro ⟨G, w0, W, S, Sp⟩ hG
  cases hG
  unfold queue_put_1 at H
  refine aw_region (es := [_, _]) ⟨Step.plain rfl (does_box 47 (.tmp 0) 0 (e_api_Wait p0) trivial rfl), ⟨⟨rfl, trivial⟩, trivial, rfl⟩, rfl,
    Step.plain rfl (does_assign (.const (.bool false)) (.bool false) (fun _ => rfl)), ⟨trivial, trivial, rfl⟩, rfl, rfl⟩ ?_
  refine aw_cov (cov_prune (s1 := ⟨[(1, (.cptr (e_api_Wait q0))), (2, (.ptr 0 0 []))], [(0, some (.var (e_api_Wait p0)))], 1⟩) ⟨rfl, rfl, trivial⟩ ⟨rfl, trivial⟩ (Nat.le_refl _)) ?_
  refine aw_region (es := [_, _, _, _, _, _]) ⟨Step.plain rfl (does_fieldAddr 47 0 0 2 0 0 [] (.var (e_api_Wait p0)) fl47_0), ⟨⟨rfl, trivial⟩, ⟨rfl, trivial⟩, rfl⟩, rfl,
    Step.plain rfl (does_load 42 4 0 (0 + 0) [0] (.var (e_api_Wait p0)) (e_api_Place p0.Place) ⟨rfl, Nat.le_of_ble_eq_true rfl, trivial⟩ rfl rfl ty42), ⟨⟨rfl, trivial⟩, ⟨rfl, trivial⟩, rfl⟩, rfl,
    Step.plain rfl (does_fieldAddrc 47 0 0 1 (e_api_Wait q0) fl47_0 rfl (Nat.le_of_ble_eq_true rfl) rfl), ⟨⟨rfl, trivial⟩, trivial, rfl⟩, rfl,
    Step.plain rfl (does_loadc 42 6 (e_api_Place q0.Place) ty42), ⟨⟨rfl, trivial⟩, trivial, rfl⟩, rfl,
    Step.plain rfl (does_eqT false 42 42 (.tmp 5) (.tmp 7) (e_api_Place p0.Place) (e_api_Place q0.Place) (e_api_Place z_api_Place) (b_api_Place p0.Place q0.Place) rfl rfl trivial trivial eg42 sh42 (al_api_Place _ _) (al_api_Place _ _) (q_api_Place _ _)), ⟨⟨rfl, rfl, trivial⟩, trivial, rfl⟩, rfl,
    Step.plain rfl (does_assign (.tmp 8) (.bool (b_api_Place p0.Place q0.Place)) trivial), ⟨⟨rfl, trivial⟩, trivial, rfl⟩, rfl, rfl⟩ ?_
  refine aw_cov (cov_prune (s1 := ⟨[(3, (.bool (b_api_Place p0.Place q0.Place)))], [], 1⟩) ⟨rfl, trivial⟩ trivial (Nat.le_refl _)) ?_
  refine aw_ret ?_
  exact fun a w hr => ⟨_, [(.bool (b_api_Place p0.Place q0.Place))], hr, ⟨⟨_, rfl, .data (.bool (b_api_Place p0.Place q0.Place)) trivial⟩, trivial⟩, by decide, by cases H; rfl⟩

theorem cmp_isNaN_uint32_spec (p0 : Int) (r : Bool) (H : cmp_isNaN_uint32 p0 = some r) : FSpec Try.prog 46 [(.int .u32 p0)] (.bool r) := by
  refine spec_of (fn := Try.f46) (args := [(.int .u32 p0)]) Try.func46 rfl (Nat.le_of_ble_eq_true rfl) ?_
  rintro ⟨G, w0, W, S, Sp⟩ hG
  cases hG
  unfold cmp_isNaN_uint32 at H
  refine aw_region (es := [_]) ⟨Step.plain rfl (does_assign (.const (.bool false)) (.bool false) (fun _ => rfl)), ⟨trivial, trivial, rfl⟩, rfl, rfl⟩ ?_
  refine aw_cov (cov_prune (s1 := ⟨[(0, (.int .u32 p0))], [], 0⟩) ⟨rfl, trivial⟩ trivial (Nat.le_refl _)) ?_
  refine aw_region (es := [_, _, _, _]) ⟨Step.plain rfl (does_move (.tmp 0) (.int .u32 p0) trivial), ⟨⟨rfl, trivial⟩, trivial, rfl⟩, rfl,
    Step.plain rfl (does_move (.tmp 0) (.int .u32 p0) trivial), ⟨⟨rfl, trivial⟩, trivial, rfl⟩, rfl,
    Step.plain rfl (does_bin .neq 23 23 (.tmp 3) (.tmp 4) .u32 p0 p0 (.bool (p0 != p0)) trivial trivial (bin_neq _ _ _ _)), ⟨⟨rfl, rfl, trivial⟩, trivial, rfl⟩, rfl,
    Step.plain rfl (does_assign (.tmp 5) (.bool (p0 != p0)) trivial), ⟨⟨rfl, trivial⟩, trivial, rfl⟩, rfl, rfl⟩ ?_
  refine aw_cov (cov_prune (s1 := ⟨[(2, (.bool (p0 != p0)))], [], 0⟩) ⟨rfl, trivial⟩ trivial (Nat.le_refl _)) ?_
  refine aw_ret ?_
  exact fun a w hr => ⟨_, [(.bool (p0 != p0))], hr, ⟨⟨_, rfl, .data (.bool (p0 != p0)) trivial⟩, trivial⟩, by decide, by cases H; rfl⟩

theorem cmp_Compare_uint32_spec (p0 : Int) (p1 : Int) (r : Int) (H : cmp_Compare_uint32 p0 p1 = some r) : FSpec Try.prog 40 [(.int .u32 p0), (.int .u32 p1)] (.int .i64 r) := by
  refine spec_of (fn := Try.f40) (args := [(.int .u32 p0), (.int .u32 p1)]) Try.func40 rfl (Nat.le_of_ble_eq_true rfl) ?_
  rintro ⟨G, w0, W, S, Sp⟩ hG
  cases hG
  unfold cmp_Compare_uint32 at H
  refine aw_region (es := [_]) ⟨Step.plain rfl (does_assign (.const (.int .i64 0)) (.int .i64 0) (fun _ => rfl)), ⟨trivial, trivial, rfl⟩, rfl, rfl⟩ ?_
  refine aw_cov (cov_prune (s1 := ⟨[(0, (.int .u32 p0)), (1, (.int .u32 p1))], [], 0⟩) ⟨rfl, rfl, trivial⟩ trivial (Nat.le_refl _)) ?_
  obtain ⟨v1, h2, H⟩ := bnd H
  refine aw_region (es := [_, _, _]) ⟨Step.plain rfl (does_move (.tmp 0) (.int .u32 p0) trivial), ⟨⟨rfl, trivial⟩, trivial, rfl⟩, rfl,
    Step.plain rfl (does_call 46 0 (fun _ => .any) (.func 46) [(.tmp 7)] [(.int .u32 p0)] [] true [(.int .u32 p0)] (.bool v1) _ _ rfl fo46 rfl ⟨trivial, trivial⟩ ⟨.data _ trivial, trivial⟩ (cmp_isNaN_uint32_spec p0 _ h2) trivial), ⟨⟨rfl, trivial⟩, trivial, rfl⟩, rfl,
    Step.plain rfl (does_assign (.tmp 8) (.bool v1) trivial), ⟨⟨rfl, trivial⟩, trivial, rfl⟩, rfl, rfl⟩ ?_
  refine aw_cov (cov_prune (s1 := ⟨[(0, (.int .u32 p0)), (1, (.int .u32 p1)), (5, (.bool v1))], [], 0⟩) ⟨rfl, rfl, rfl, trivial⟩ trivial (Nat.le_refl _)) ?_
  obtain ⟨v3, h4, H⟩ := bnd H
  refine aw_region (es := [_, _, _]) ⟨Step.plain rfl (does_move (.tmp 1) (.int .u32 p1) trivial), ⟨⟨rfl, trivial⟩, trivial, rfl⟩, rfl,
    Step.plain rfl (does_call 46 0 (fun _ => .any) (.func 46) [(.tmp 9)] [(.int .u32 p1)] [] true [(.int .u32 p1)] (.bool v3) _ _ rfl fo46 rfl ⟨trivial, trivial⟩ ⟨.data _ trivial, trivial⟩ (cmp_isNaN_uint32_spec p1 _ h4) trivial), ⟨⟨rfl, trivial⟩, trivial, rfl⟩, rfl,
    Step.plain rfl (does_assign (.tmp 10) (.bool v3) trivial), ⟨⟨rfl, trivial⟩, trivial, rfl⟩, rfl, rfl⟩ ?_
  refine aw_cov (cov_prune (s1 := ⟨[(0, (.int .u32 p0)), (1, (.int .u32 p1)), (5, (.bool v1)), (6, (.bool v3))], [], 0⟩) ⟨rfl, rfl, rfl, rfl, trivial⟩ trivial (Nat.le_refl _)) ?_
  refine aw_seq ?_
  refine aw_region (es := [_]) ⟨Step.plain rfl (does_move (.tmp 5) (.bool v1) trivial), ⟨⟨rfl, trivial⟩, trivial, rfl⟩, rfl, rfl⟩ ?_
  refine aw_cov (cov_prune (s1 := ⟨[(0, (.int .u32 p0)), (1, (.int .u32 p1)), (6, (.bool v3)), (11, (.bool v1))], [], 0⟩) ⟨rfl, rfl, rfl, rfl, trivial⟩ trivial (Nat.le_refl _)) ?_
  refine aw_cond rfl (fun hc => ?_) (fun hc => ?_)
  · replace H := ite_t hc H
    refine aw_seq ?_
    refine aw_region (es := [_]) ⟨Step.plain rfl (does_move (.tmp 6) (.bool v3) trivial), ⟨⟨rfl, trivial⟩, trivial, rfl⟩, rfl, rfl⟩ ?_
    refine aw_cov (cov_prune (s1 := ⟨[(12, (.bool v3))], [], 0⟩) ⟨rfl, trivial⟩ trivial (Nat.le_refl _)) ?_
    refine aw_cond rfl (fun hc => ?_) (fun hc => ?_)
    · replace H := ite_t hc H
      refine aw_region (es := [_]) ⟨Step.plain rfl (does_assign (.const (.int .i64 0)) (.int .i64 0) (fun _ => rfl)), ⟨trivial, trivial, rfl⟩, rfl, rfl⟩ ?_
      refine aw_cov (cov_prune (s1 := ⟨[(4, (.int .i64 0))], [], 0⟩) ⟨rfl, trivial⟩ trivial (Nat.le_refl _)) ?_
      refine aw_ret ?_
      refine rt_then ?_
      refine rt_then ?_
      exact fun a w hr => ⟨_, [(.int .i64 0)], hr, ⟨⟨_, rfl, .data (.int .i64 0) trivial⟩, trivial⟩, by decide, by cases H; rfl⟩
    · replace H := ite_f hc H
      refine aw_skip ?_
      refine nx_seq ?_
      refine aw_region (es := [_]) ⟨Step.plain rfl (does_assign (.const (.int .i64 (-1))) (.int .i64 (-1)) (fun _ => rfl)), ⟨trivial, trivial, rfl⟩, rfl, rfl⟩ ?_
      refine aw_cov (cov_prune (s1 := ⟨[(4, (.int .i64 (-1)))], [], 0⟩) ⟨rfl, trivial⟩ trivial (Nat.le_refl _)) ?_
      refine aw_ret ?_
      refine rt_then ?_
      exact fun a w hr => ⟨_, [(.int .i64 (-1))], hr, ⟨⟨_, rfl, .data (.int .i64 (-1)) trivial⟩, trivial⟩, by decide, by cases H; rfl⟩
  · replace H := ite_f hc H
    refine aw_skip ?_
    refine nx_seq ?_
    refine aw_seq ?_
    refine aw_region (es := [_]) ⟨Step.plain rfl (does_move (.tmp 6) (.bool v3) trivial), ⟨⟨rfl, trivial⟩, trivial, rfl⟩, rfl, rfl⟩ ?_
    refine aw_cov (cov_prune (s1 := ⟨[(0, (.int .u32 p0)), (1, (.int .u32 p1)), (13, (.bool v3))], [], 0⟩) ⟨rfl, rfl, rfl, trivial⟩ trivial (Nat.le_refl _)) ?_
    refine aw_cond rfl (fun hc => ?_) (fun hc => ?_)
    · replace H := ite_t hc H
      refine aw_region (es := [_]) ⟨Step.plain rfl (does_assign (.const (.int .i64 1)) (.int .i64 1) (fun _ => rfl)), ⟨trivial, trivial, rfl⟩, rfl, rfl⟩ ?_
      refine aw_cov (cov_prune (s1 := ⟨[(4, (.int .i64 1))], [], 0⟩) ⟨rfl, trivial⟩ trivial (Nat.le_refl _)) ?_
      refine aw_ret ?_
      refine rt_then ?_
      exact fun a w hr => ⟨_, [(.int .i64 1)], hr, ⟨⟨_, rfl, .data (.int .i64 1) trivial⟩, trivial⟩, by decide, by cases H; rfl⟩
    · replace H := ite_f hc H
      refine aw_skip ?_
      refine nx_seq ?_
      refine aw_seq ?_
      refine aw_region (es := [_, _, _]) ⟨Step.plain rfl (does_move (.tmp 0) (.int .u32 p0) trivial), ⟨⟨rfl, trivial⟩, trivial, rfl⟩, rfl,
        Step.plain rfl (does_move (.tmp 1) (.int .u32 p1) trivial), ⟨⟨rfl, trivial⟩, trivial, rfl⟩, rfl,
        Step.plain rfl (does_bin .lss 23 23 (.tmp 14) (.tmp 15) .u32 p0 p1 (.bool (decide (p0 < p1))) trivial trivial (bin_lss _ _ _ _)), ⟨⟨rfl, rfl, trivial⟩, trivial, rfl⟩, rfl, rfl⟩ ?_
      refine aw_cov (cov_prune (s1 := ⟨[(0, (.int .u32 p0)), (1, (.int .u32 p1)), (16, (.bool (decide (p0 < p1))))], [], 0⟩) ⟨rfl, rfl, rfl, trivial⟩ trivial (Nat.le_refl _)) ?_
      refine aw_cond rfl (fun hc => ?_) (fun hc => ?_)
      · replace H := ite_t hc H
        refine aw_region (es := [_]) ⟨Step.plain rfl (does_assign (.const (.int .i64 (-1))) (.int .i64 (-1)) (fun _ => rfl)), ⟨trivial, trivial, rfl⟩, rfl, rfl⟩ ?_
        refine aw_cov (cov_prune (s1 := ⟨[(4, (.int .i64 (-1)))], [], 0⟩) ⟨rfl, trivial⟩ trivial (Nat.le_refl _)) ?_
        refine aw_ret ?_
        refine rt_then ?_
        exact fun a w hr => ⟨_, [(.int .i64 (-1))], hr, ⟨⟨_, rfl, .data (.int .i64 (-1)) trivial⟩, trivial⟩, by decide, by cases H; rfl⟩
      · replace H := ite_f hc H
        refine aw_skip ?_
        refine nx_seq ?_
        refine aw_seq ?_
        refine aw_region (es := [_, _, _]) ⟨Step.plain rfl (does_move (.tmp 0) (.int .u32 p0) trivial), ⟨⟨rfl, trivial⟩, trivial, rfl⟩, rfl,
          Step.plain rfl (does_move (.tmp 1) (.int .u32 p1) trivial), ⟨⟨rfl, trivial⟩, trivial, rfl⟩, rfl,
          Step.plain rfl (does_bin .gtr 23 23 (.tmp 17) (.tmp 18) .u32 p0 p1 (.bool (decide (p0 > p1))) trivial trivial (bin_gtr _ _ _ _)), ⟨⟨rfl, rfl, trivial⟩, trivial, rfl⟩, rfl, rfl⟩ ?_
        refine aw_cov (cov_prune (s1 := ⟨[(19, (.bool (decide (p0 > p1))))], [], 0⟩) ⟨rfl, trivial⟩ trivial (Nat.le_refl _)) ?_
        refine aw_cond rfl (fun hc => ?_) (fun hc => ?_)
        · replace H := ite_t hc H
          refine aw_region (es := [_]) ⟨Step.plain rfl (does_assign (.const (.int .i64 1)) (.int .i64 1) (fun _ => rfl)), ⟨trivial, trivial, rfl⟩, rfl, rfl⟩ ?_
          refine aw_cov (cov_prune (s1 := ⟨[(4, (.int .i64 1))], [], 0⟩) ⟨rfl, trivial⟩ trivial (Nat.le_refl _)) ?_
          refine aw_ret ?_
          refine rt_then ?_
          exact fun a w hr => ⟨_, [(.int .i64 1)], hr, ⟨⟨_, rfl, .data (.int .i64 1) trivial⟩, trivial⟩, by decide, by cases H; rfl⟩
        · replace H := ite_f hc H
          refine aw_skip ?_
          refine nx_seq ?_
          refine aw_region (es := [_]) ⟨Step.plain rfl (does_assign (.const (.int .i64 0)) (.int .i64 0) (fun _ => rfl)), ⟨trivial, trivial, rfl⟩, rfl, rfl⟩ ?_
          refine aw_cov (cov_prune (s1 := ⟨[(4, (.int .i64 0))], [], 0⟩) ⟨rfl, trivial⟩ trivial (Nat.le_refl _)) ?_
          refine aw_ret ?_
          exact fun a w hr => ⟨_, [(.int .i64 0)], hr, ⟨⟨_, rfl, .data (.int .i64 0) trivial⟩, trivial⟩, by decide, by cases H; rfl⟩

theorem cmp_isNaN_int_spec (p0 : Int) (r : Bool) (H : cmp_isNaN_int p0 = some r) : FSpec Try.prog 47 [(.int .i64 p0)] (.bool r) := by
  refine spec_of (fn := Try.f47) (args := [(.int .i64 p0)]) Try.func47 rfl (Nat.le_of_ble_eq_true rfl) ?_
  rintro ⟨G, w0, W, S, Sp⟩ hG
  cases hG
  unfold cmp_isNaN_int at H
  refine aw_region (es := [_]) ⟨Step.plain rfl (does_assign (.const (.bool false)) (.bool false) (fun _ => rfl)), ⟨trivial, trivial, rfl⟩, rfl, rfl⟩ ?_
  refine aw_cov (cov_prune (s1 := ⟨[(0, (.int .i64 p0))], [], 0⟩) ⟨rfl, trivial⟩ trivial (Nat.le_refl _)) ?_
  refine aw_region (es := [_, _, _, _]) ⟨Step.plain rfl (does_move (.tmp 0) (.int .i64 p0) trivial), ⟨⟨rfl, trivial⟩, trivial, rfl⟩, rfl,
    Step.plain rfl (does_move (.tmp 0) (.int .i64 p0) trivial), ⟨⟨rfl, trivial⟩, trivial, rfl⟩, rfl,
    Step.plain rfl (does_bin .neq 3 3 (.tmp 3) (.tmp 4) .i64 p0 p0 (.bool (p0 != p0)) trivial trivial (bin_neq _ _ _ _)), ⟨⟨rfl, rfl, trivial⟩, trivial, rfl⟩, rfl,
    Step.plain rfl (does_assign (.tmp 5) (.bool (p0 != p0)) trivial), ⟨⟨rfl, trivial⟩, trivial, rfl⟩, rfl, rfl⟩ ?_
  refine aw_cov (cov_prune (s1 := ⟨[(2, (.bool (p0 != p0)))], [], 0⟩) ⟨rfl, trivial⟩ trivial (Nat.le_refl _)) ?_
  refine aw_ret ?_
  exact fun a w hr => ⟨_, [(.bool (p0 != p0))], hr, ⟨⟨_, rfl, .data (.bool (p0 != p0)) trivial⟩, trivial⟩, by decide, by cases H; rfl⟩

theorem cmp_Compare_int_spec (p0 : Int) (p1 : Int) (r : Int) (H : cmp_Compare_int p0 p1 = some r) : FSpec Try.prog 41 [(.int .i64 p0), (.int .i64 p1)] (.int .i64 r) := by
  refine spec_of (fn := Try.f41) (args := [(.int .i64 p0), (.int .i64 p1)]) Try.func41 rfl (Nat.le_of_ble_eq_true rfl) ?_
  rintro ⟨G, w0, W, S, Sp⟩ hG
  cases hG
  unfold cmp_Compare_int at H
  refine aw_region (es := [_]) ⟨Step.plain rfl (does_assign (.const (.int .i64 0)) (.int .i64 0) (fun _ => rfl)), ⟨trivial, trivial, rfl⟩, rfl, rfl⟩ ?_
  refine aw_cov (cov_prune (s1 := ⟨[(0, (.int .i64 p0)), (1, (.int .i64 p1))], [], 0⟩) ⟨rfl, rfl, trivial⟩ trivial (Nat.le_refl _)) ?_
  obtain ⟨v1, h2, H⟩ := bnd H
  refine aw_region (es := [_, _, _]) ⟨Step.plain rfl (does_move (.tmp 0) (.int .i64 p0) trivial), ⟨⟨rfl, trivial⟩, trivial, rfl⟩, rfl,
    Step.plain rfl (does_call 47 0 (fun _ => .any) (.func 47) [(.tmp 7)] [(.int .i64 p0)] [] true [(.int .i64 p0)] (.bool v1) _ _ rfl fo47 rfl ⟨trivial, trivial⟩ ⟨.data _ trivial, trivial⟩ (cmp_isNaN_int_spec p0 _ h2) trivial), ⟨⟨rfl, trivial⟩, trivial, rfl⟩, rfl,
    Step.plain rfl (does_assign (.tmp 8) (.bool v1) trivial), ⟨⟨rfl, trivial⟩, trivial, rfl⟩, rfl, rfl⟩ ?_
  refine aw_cov (cov_prune (s1 := ⟨[(0, (.int .i64 p0)), (1, (.int .i64 p1)), (5, (.bool v1))], [], 0⟩) ⟨rfl, rfl, rfl, trivial⟩ trivial (Nat.le_refl _)) ?_
  obtain ⟨v3, h4, H⟩ := bnd H
  refine aw_region (es := [_, _, _]) ⟨Step.plain rfl (does_move (.tmp 1) (.int .i64 p1) trivial), ⟨⟨rfl, trivial⟩, trivial, rfl⟩, rfl,
    Step.plain rfl (does_call 47 0 (fun _ => .any) (.func 47) [(.tmp 9)] [(.int .i64 p1)] [] true [(.int .i64 p1)] (.bool v3) _ _ rfl fo47 rfl ⟨trivial, trivial⟩ ⟨.data _ trivial, trivial⟩ (cmp_isNaN_int_spec p1 _ h4) trivial), ⟨⟨rfl, trivial⟩, trivial, rfl⟩, rfl,
    Step.plain rfl (does_assign (.tmp 10) (.bool v3) trivial), ⟨⟨rfl, trivial⟩, trivial, rfl⟩, rfl, rfl⟩ ?_
  refine aw_cov (cov_prune (s1 := ⟨[(0, (.int .i64 p0)), (1, (.int .i64 p1)), (5, (.bool v1)), (6, (.bool v3))], [], 0⟩) ⟨rfl, rfl, rfl, rfl, trivial⟩ trivial (Nat.le_refl _)) ?_
  refine aw_seq ?_
  refine aw_region (es := [_]) ⟨Step.plain rfl (does_move (.tmp 5) (.bool v1) trivial), ⟨⟨rfl, trivial⟩, trivial, rfl⟩, rfl, rfl⟩ ?_
  refine aw_cov (cov_prune (s1 := ⟨[(0, (.int .i64 p0)), (1, (.int .i64 p1)), (6, (.bool v3)), (11, (.bool v1))], [], 0⟩) ⟨rfl, rfl, rfl, rfl, trivial⟩ trivial (Nat.le_refl _)) ?_
  refine aw_cond rfl (fun hc => ?_) (fun hc => ?_)
  · replace H := ite_t hc H
    refine aw_seq ?_
    refine aw_region (es := [_]) ⟨Step.plain rfl (does_move (.tmp 6) (.bool v3) trivial), ⟨⟨rfl, trivial⟩, trivial, rfl⟩, rfl, rfl⟩ ?_
    refine aw_cov (cov_prune (s1 := ⟨[(12, (.bool v3))], [], 0⟩) ⟨rfl, trivial⟩ trivial (Nat.le_refl _)) ?_
    refine aw_cond rfl (fun hc => ?_) (fun hc => ?_)
    · replace H := ite_t hc H
      refine aw_region (es := [_]) ⟨Step.plain rfl (does_assign (.const (.int .i64 0)) (.int .i64 0) (fun _ => rfl)), ⟨trivial, trivial, rfl⟩, rfl, rfl⟩ ?_
      refine aw_cov (cov_prune (s1 := ⟨[(4, (.int .i64 0))], [], 0⟩) ⟨rfl, trivial⟩ trivial (Nat.le_refl _)) ?_
      refine aw_ret ?_
      refine rt_then ?_
      refine rt_then ?_
      exact fun a w hr => ⟨_, [(.int .i64 0)], hr, ⟨⟨_, rfl, .data (.int .i64 0) trivial⟩, trivial⟩, by decide, by cases H; rfl⟩
    · replace H := ite_f hc H
      refine aw_skip ?_
      refine nx_seq ?_
      refine aw_region (es := [_]) ⟨Step.plain rfl (does_assign (.const (.int .i64 (-1))) (.int .i64 (-1)) (fun _ => rfl)), ⟨trivial, trivial, rfl⟩, rfl, rfl⟩ ?_
      refine aw_cov (cov_prune (s1 := ⟨[(4, (.int .i64 (-1)))], [], 0⟩) ⟨rfl, trivial⟩ trivial (Nat.le_refl _)) ?_
      refine aw_ret ?_
      refine rt_then ?_
      exact fun a w hr => ⟨_, [(.int .i64 (-1))], hr, ⟨⟨_, rfl, .data (.int .i64 (-1)) trivial⟩, trivial⟩, by decide, by cases H; rfl⟩
  · replace H := ite_f hc H
    refine aw_skip ?_
    refine nx_seq ?_
    refine aw_seq ?_
    refine aw_region (es := [_]) ⟨Step.plain rfl (does_move (.tmp 6) (.bool v3) trivial), ⟨⟨rfl, trivial⟩, trivial, rfl⟩, rfl, rfl⟩ ?_
    refine aw_cov (cov_prune (s1 := ⟨[(0, (.int .i64 p0)), (1, (.int .i64 p1)), (13, (.bool v3))], [], 0⟩) ⟨rfl, rfl, rfl, trivial⟩ trivial (Nat.le_refl _)) ?_
    refine aw_cond rfl (fun hc => ?_) (fun hc => ?_)
    · replace H := ite_t hc H
      refine aw_region (es := [_]) ⟨Step.plain rfl (does_assign (.const (.int .i64 1)) (.int .i64 1) (fun _ => rfl)), ⟨trivial, trivial, rfl⟩, rfl, rfl⟩ ?_
      refine aw_cov (cov_prune (s1 := ⟨[(4, (.int .i64 1))], [], 0⟩) ⟨rfl, trivial⟩ trivial (Nat.le_refl _)) ?_
      refine aw_ret ?_
      refine rt_then ?_
      exact fun a w hr => ⟨_, [(.int .i64 1)], hr, ⟨⟨_, rfl, .data (.int .i64 1) trivial⟩, trivial⟩, by decide, by cases H; rfl⟩
    · replace H := ite_f hc H
      refine aw_skip ?_
      refine nx_seq ?_
      refine aw_seq ?_
      refine aw_region (es := [_, _, _]) ⟨Step.plain rfl (does_move (.tmp 0) (.int .i64 p0) trivial), ⟨⟨rfl, trivial⟩, trivial, rfl⟩, rfl,
        Step.plain rfl (does_move (.tmp 1) (.int .i64 p1) trivial), ⟨⟨rfl, trivial⟩, trivial, rfl⟩, rfl,
        Step.plain rfl (does_bin .lss 3 3 (.tmp 14) (.tmp 15) .i64 p0 p1 (.bool (decide (p0 < p1))) trivial trivial (bin_lss _ _ _ _)), ⟨⟨rfl, rfl, trivial⟩, trivial, rfl⟩, rfl, rfl⟩ ?_
      refine aw_cov (cov_prune (s1 := ⟨[(0, (.int .i64 p0)), (1, (.int .i64 p1)), (16, (.bool (decide (p0 < p1))))], [], 0⟩) ⟨rfl, rfl, rfl, trivial⟩ trivial (Nat.le_refl _)) ?_
      refine aw_cond rfl (fun hc => ?_) (fun hc => ?_)
      · replace H := ite_t hc H
        refine aw_region (es := [_]) ⟨Step.plain rfl (does_assign (.const (.int .i64 (-1))) (.int .i64 (-1)) (fun _ => rfl)), ⟨trivial, trivial, rfl⟩, rfl, rfl⟩ ?_
        refine aw_cov (cov_prune (s1 := ⟨[(4, (.int .i64 (-1)))], [], 0⟩) ⟨rfl, trivial⟩ trivial (Nat.le_refl _)) ?_
        refine aw_ret ?_
        refine rt_then ?_
        exact fun a w hr => ⟨_, [(.int .i64 (-1))], hr, ⟨⟨_, rfl, .data (.int .i64 (-1)) trivial⟩, trivial⟩, by decide, by cases H; rfl⟩
      · replace H := ite_f hc H
        refine aw_skip ?_
        refine nx_seq ?_
        refine aw_seq ?_
        refine aw_region (es := [_, _, _]) ⟨Step.plain rfl (does_move (.tmp 0) (.int .i64 p0) trivial), ⟨⟨rfl, trivial⟩, trivial, rfl⟩, rfl,
          Step.plain rfl (does_move (.tmp 1) (.int .i64 p1) trivial), ⟨⟨rfl, trivial⟩, trivial, rfl⟩, rfl,
          Step.plain rfl (does_bin .gtr 3 3 (.tmp 17) (.tmp 18) .i64 p0 p1 (.bool (decide (p0 > p1))) trivial trivial (bin_gtr _ _ _ _)), ⟨⟨rfl, rfl, trivial⟩, trivial, rfl⟩, rfl, rfl⟩ ?_
        refine aw_cov (cov_prune (s1 := ⟨[(19, (.bool (decide (p0 > p1))))], [], 0⟩) ⟨rfl, trivial⟩ trivial (Nat.le_refl _)) ?_
        refine aw_cond rfl (fun hc => ?_) (fun hc => ?_)
        · replace H := ite_t hc H
          refine aw_region (es := [_]) ⟨Step.plain rfl (does_assign (.const (.int .i64 1)) (.int .i64 1) (fun _ => rfl)), ⟨trivial, trivial, rfl⟩, rfl, rfl⟩ ?_
          refine aw_cov (cov_prune (s1 := ⟨[(4, (.int .i64 1))], [], 0⟩) ⟨rfl, trivial⟩ trivial (Nat.le_refl _)) ?_
          refine aw_ret ?_
          refine rt_then ?_
          exact fun a w hr => ⟨_, [(.int .i64 1)], hr, ⟨⟨_, rfl, .data (.int .i64 1) trivial⟩, trivial⟩, by decide, by cases H; rfl⟩
        · replace H := ite_f hc H
          refine aw_skip ?_
          refine nx_seq ?_
          refine aw_region (es := [_]) ⟨Step.plain rfl (does_assign (.const (.int .i64 0)) (.int .i64 0) (fun _ => rfl)), ⟨trivial, trivial, rfl⟩, rfl, rfl⟩ ?_
          refine aw_cov (cov_prune (s1 := ⟨[(4, (.int .i64 0))], [], 0⟩) ⟨rfl, trivial⟩ trivial (Nat.le_refl _)) ?_
          refine aw_ret ?_
          exact fun a w hr => ⟨_, [(.int .i64 0)], hr, ⟨⟨_, rfl, .data (.int .i64 0) trivial⟩, trivial⟩, by decide, by cases H; rfl⟩

theorem cmp_Or_int_spec (p0 : (_root_.List Int)) (r : Int) (H : cmp_Or_int p0 = some r) : FSpec Try.prog 39 [(e_s_i64 p0)] (.int .i64 r) := by
  refine spec_of (fn := Try.f39) (args := [(e_s_i64 p0)]) Try.func39 rfl (Nat.le_of_ble_eq_true rfl) ?_
  rintro ⟨G, w0, W, S, Sp⟩ hG
  cases hG
  unfold cmp_Or_int at H
  refine aw_region (es := [_]) ⟨Step.plain rfl (does_assign (.const (.int .i64 0)) (.int .i64 0) (fun _ => rfl)), ⟨trivial, trivial, rfl⟩, rfl, rfl⟩ ?_
  refine aw_cov (cov_prune (s1 := ⟨[(0, (e_s_i64 p0))], [], 0⟩) ⟨rfl, trivial⟩ trivial (Nat.le_refl _)) ?_
  refine aw_region (es := [_]) ⟨Step.plain rfl (does_assign (.const (.int .i64 0)) (.int .i64 0) (fun _ => rfl)), ⟨trivial, trivial, rfl⟩, rfl, rfl⟩ ?_
  refine aw_cov (cov_prune (s1 := ⟨[(0, (e_s_i64 p0)), (3, (.int .i64 0))], [], 0⟩) ⟨rfl, rfl, trivial⟩ trivial (Nat.le_refl _)) ?_
  refine aw_seq ?_
  refine aw_region (es := [_, _, _]) ⟨Step.plain rfl (does_move (.tmp 0) (e_s_i64 p0) trivial), ⟨⟨rfl, trivial⟩, trivial, rfl⟩, rfl,
    Step.plain rfl (does_lens 72 1 p0.length 6 (fun j => (.int .i64 (p0.getD j 0))) el72), ⟨⟨rfl, trivial⟩, trivial, rfl⟩, rfl,
    Step.plain rfl (does_move (.const (.int .i64 0)) (.int .i64 0) (fun _ => rfl)), ⟨trivial, trivial, rfl⟩, rfl, rfl⟩ ?_
  refine aw_cov (cov_prune (s1 := ⟨[(3, (.int .i64 0)), (6, (e_s_i64 p0)), (7, (.int .i64 (p0.length : Int))), (8, (.int .i64 0))], [], 0⟩) ⟨rfl, rfl, rfl, rfl, trivial⟩ trivial (Nat.le_refl _)) ?_
  obtain ⟨wn2, hwn2, Hrn2⟩ := bnd H
  refine aw_meet (fun y4 : Unit => (⟨[(3, (.int .i64 0))], [], 0⟩ : St)) (fun y4 => Fl.nx y4 = wn2) (fun y4 hy => ?_) (aw_block (aw_runs (fun x1 : Int => (⟨[(3, (.int .i64 0)), (6, (e_s_i64 p0)), (7, (.int .i64 (p0.length : Int))), (8, (.int .i64 x1))], [], 0⟩ : St)) hwn2 (cov_prune ⟨rfl, rfl, rfl, rfl, trivial⟩ trivial (Nat.le_of_ble_eq_true rfl)) (fun x1 st H hsn2 => ?_)))
  · have H := nx_of hy Hrn2
    refine nx_seq ?_
    refine aw_region (es := [_, _]) ⟨Step.plain rfl (does_move (.tmp 3) (.int .i64 0) trivial), ⟨⟨rfl, trivial⟩, trivial, rfl⟩, rfl,
      Step.plain rfl (does_assign (.tmp 17) (.int .i64 0) trivial), ⟨⟨rfl, trivial⟩, trivial, rfl⟩, rfl, rfl⟩ ?_
    refine aw_cov (cov_prune (s1 := ⟨[(2, (.int .i64 0))], [], 0⟩) ⟨rfl, trivial⟩ trivial (Nat.le_refl _)) ?_
    refine aw_ret ?_
    exact fun a w hr => ⟨_, [(.int .i64 0)], hr, ⟨⟨_, rfl, .data (.int .i64 0) trivial⟩, trivial⟩, by decide, by cases H; rfl⟩
  · refine aw_region (es := [_]) ⟨Step.plain rfl (does_bin .lss 3 3 (.tmp 8) (.tmp 7) .i64 x1 (p0.length : Int) (.bool (decide (x1 < (p0.length : Int)))) trivial trivial (bin_lss _ _ _ _)), ⟨⟨rfl, rfl, trivial⟩, trivial, rfl⟩, rfl, rfl⟩ ?_
    refine aw_cov (cov_prune (s1 := ⟨[(3, (.int .i64 0)), (6, (e_s_i64 p0)), (7, (.int .i64 (p0.length : Int))), (8, (.int .i64 x1)), (9, (.bool (decide (x1 < (p0.length : Int)))))], [], 0⟩) ⟨rfl, rfl, rfl, rfl, rfl, trivial⟩ trivial (Nat.le_refl _)) ?_
    refine aw_seq ?_
    refine aw_cond rfl (fun hc => ?_) (fun hc => ?_)
    · replace H := ite_t hc H
      refine aw_skip ?_
      refine nx_seq ?_
      refine aw_seq ?_
      refine aw_block ?_
      obtain ⟨h3, H⟩ := ib_of H
      refine aw_region (es := [_, _, _]) ⟨Step.plain rfl (does_indexAddrs 72 1 p0.length 6 (fun j => (.int .i64 (p0.getD j 0))) (.tmp 8) .i64 x1 el72 trivial h3.1 h3.2), ⟨⟨rfl, rfl, trivial⟩, trivial, rfl⟩, rfl,
        Step.plain rfl (does_loadc 3 10 (.int .i64 (p0.getD x1.toNat 0)) ty3), ⟨⟨rfl, trivial⟩, trivial, rfl⟩, rfl,
        Step.plain rfl (does_assign (.tmp 11) (.int .i64 (p0.getD x1.toNat 0)) trivial), ⟨⟨rfl, trivial⟩, trivial, rfl⟩, rfl, rfl⟩ ?_
      refine aw_cov (cov_prune (s1 := ⟨[(3, (.int .i64 0)), (6, (e_s_i64 p0)), (7, (.int .i64 (p0.length : Int))), (8, (.int .i64 x1)), (5, (.int .i64 (p0.getD x1.toNat 0)))], [], 0⟩) ⟨rfl, rfl, rfl, rfl, rfl, trivial⟩ trivial (Nat.le_refl _)) ?_
      refine aw_region (es := [_, _, _]) ⟨Step.plain rfl (does_move (.tmp 5) (.int .i64 (p0.getD x1.toNat 0)) trivial), ⟨⟨rfl, trivial⟩, trivial, rfl⟩, rfl,
        Step.plain rfl (does_move (.tmp 3) (.int .i64 0) trivial), ⟨⟨rfl, trivial⟩, trivial, rfl⟩, rfl,
        Step.plain rfl (does_bin .neq 3 3 (.tmp 12) (.tmp 13) .i64 (p0.getD x1.toNat 0) 0 (.bool ((p0.getD x1.toNat 0) != 0)) trivial trivial (bin_neq _ _ _ _)), ⟨⟨rfl, rfl, trivial⟩, trivial, rfl⟩, rfl, rfl⟩ ?_
      refine aw_cov (cov_prune (s1 := ⟨[(3, (.int .i64 0)), (6, (e_s_i64 p0)), (7, (.int .i64 (p0.length : Int))), (8, (.int .i64 x1)), (5, (.int .i64 (p0.getD x1.toNat 0))), (14, (.bool ((p0.getD x1.toNat 0) != 0)))], [], 0⟩) ⟨rfl, rfl, rfl, rfl, rfl, rfl, trivial⟩ trivial (Nat.le_refl _)) ?_
      refine aw_cond rfl (fun hc => ?_) (fun hc => ?_)
      · replace H := ite_t hc H
        refine aw_region (es := [_, _]) ⟨Step.plain rfl (does_move (.tmp 5) (.int .i64 (p0.getD x1.toNat 0)) trivial), ⟨⟨rfl, trivial⟩, trivial, rfl⟩, rfl,
          Step.plain rfl (does_assign (.tmp 15) (.int .i64 (p0.getD x1.toNat 0)) trivial), ⟨⟨rfl, trivial⟩, trivial, rfl⟩, rfl, rfl⟩ ?_
        refine aw_cov (cov_prune (s1 := ⟨[(2, (.int .i64 (p0.getD x1.toNat 0)))], [], 0⟩) ⟨rfl, trivial⟩ trivial (Nat.le_refl _)) ?_
        refine aw_ret ?_
        replace H := rt_of H hsn2 Hrn2
        refine rt_blk ?_
        refine rt_then ?_
        refine rt_then ?_
        refine rt_blk ?_
        refine rt_then ?_
        refine rt_then ?_
        exact fun a w hr => ⟨_, [(.int .i64 (p0.getD x1.toNat 0))], hr, ⟨⟨_, rfl, .data (.int .i64 (p0.getD x1.toNat 0)) trivial⟩, trivial⟩, by decide, by cases H; rfl⟩
      · replace H := ite_f hc H
        refine aw_skip ?_
        refine nx_blk ?_
        refine nx_seq ?_
        refine aw_region1 (es := [_, _]) ⟨Step.plain rfl (does_bin .add 3 3 (.tmp 8) (.const (.int .i64 1)) .i64 x1 1 (.int .i64 (IntKind.i64.wrap (x1 + 1))) trivial (fun _ => rfl) (bin_add _ _ _ _)), ⟨⟨rfl, trivial⟩, trivial, rfl⟩, rfl,
          Step.plain rfl (does_move (.tmp 16) (.int .i64 (IntKind.i64.wrap (x1 + 1))) trivial), ⟨⟨rfl, trivial⟩, trivial, rfl⟩, rfl, rfl⟩ ?_
        exact nx_loop ((IntKind.i64.wrap (x1 + 1))) H (cov_prune ⟨rfl, rfl, rfl, rfl, trivial⟩ trivial (Nat.le_of_ble_eq_true rfl))
    · replace H := ite_f hc H
      refine aw_exit ?_
      refine ex_then ?_
      refine ex_then ?_
      refine ex_here ?_
      exact nx_ljoin () H hsn2 (cov_prune ⟨rfl, trivial⟩ trivial (Nat.le_of_ble_eq_true rfl))

theorem round_Before_spec (p0 : api_Place) (p1 : api_Place) (r : Bool) (H : round_Before p0 p1 = some r) : FSpec Try.prog 29 [(e_api_Place p0), (e_api_Place p1)] (.bool r) := by
  refine spec_of (fn := Try.f29) (args := [(e_api_Place p0), (e_api_Place p1)]) Try.func29 rfl (Nat.le_of_ble_eq_true rfl) ?_
  rintro ⟨G, w0, W, S, Sp⟩ hG
  cases hG
  unfold round_Before at H
  refine aw_region (es := [_, _, _]) ⟨Step.plain rfl (does_box 42 (.tmp 0) 0 (e_api_Place p0) trivial rfl), ⟨⟨rfl, trivial⟩, trivial, rfl⟩, rfl,
    Step.plain rfl (does_box 42 (.tmp 1) 1 (e_api_Place p1) trivial rfl), ⟨⟨rfl, trivial⟩, trivial, rfl⟩, rfl,
    Step.plain rfl (does_assign (.const (.bool false)) (.bool false) (fun _ => rfl)), ⟨trivial, trivial, rfl⟩, rfl, rfl⟩ ?_
  refine aw_cov (cov_prune (s1 := ⟨[(2, (.ptr 0 0 [])), (3, (.ptr 1 0 []))], [(0, some (.var (e_api_Place p0))), (1, some (.var (e_api_Place p1)))], 2⟩) ⟨rfl, rfl, trivial⟩ ⟨rfl, rfl, trivial⟩ (Nat.le_refl _)) ?_
  obtain ⟨v1, h2, H⟩ := bnd H
  obtain ⟨v3, h4, H⟩ := bnd H
  obtain ⟨v5, h6, H⟩ := bnd H
  obtain ⟨v7, h8, H⟩ := bnd H
  refine aw_draw (es := [_, _, _, _, _, _, _, _, _, _, _, _, _, _, _, _, _, _, _]) (mixed) ⟨Step.plain rfl (does_fieldAddr 42 0 0 2 0 0 [] (.var (e_api_Place p0)) fl42_0), ⟨⟨rfl, trivial⟩, ⟨rfl, trivial⟩, rfl⟩, rfl,
    Step.plain rfl (does_load 23 5 0 (0 + 0) [0] (.var (e_api_Place p0)) (.int .u32 p0.Round) ⟨rfl, Nat.le_of_ble_eq_true rfl, trivial⟩ rfl rfl ty23), ⟨⟨rfl, trivial⟩, ⟨rfl, trivial⟩, rfl⟩, rfl,
    Step.plain rfl (does_fieldAddr 42 0 0 3 1 0 [] (.var (e_api_Place p1)) fl42_0), ⟨⟨rfl, trivial⟩, ⟨rfl, trivial⟩, rfl⟩, rfl,
    Step.plain rfl (does_load 23 7 1 (0 + 0) [0] (.var (e_api_Place p1)) (.int .u32 p1.Round) ⟨rfl, Nat.le_of_ble_eq_true rfl, trivial⟩ rfl rfl ty23), ⟨⟨rfl, trivial⟩, ⟨rfl, trivial⟩, rfl⟩, rfl,
    Step.plain rfl (does_call 40 0 (fun _ => .any) (.func 40) [(.tmp 6), (.tmp 8)] [(.int .u32 p0.Round), (.int .u32 p1.Round)] [] true [(.int .u32 p0.Round), (.int .u32 p1.Round)] (.int .i64 v1) _ _ rfl fo40 rfl ⟨trivial, trivial, trivial⟩ ⟨.data _ trivial, .data _ trivial, trivial⟩ (cmp_Compare_uint32_spec p0.Round p1.Round _ h2) trivial), ⟨⟨rfl, rfl, trivial⟩, trivial, rfl⟩, rfl,
    Step.plain rfl (does_fieldAddr 42 1 1 2 0 0 [] (.var (e_api_Place p0)) fl42_1), ⟨⟨rfl, trivial⟩, ⟨rfl, trivial⟩, rfl⟩, rfl,
    Step.plain rfl (does_load 3 10 0 (0 + 1) [1] (.var (e_api_Place p0)) (.int .i64 p0.From) ⟨rfl, Nat.le_of_ble_eq_true rfl, trivial⟩ rfl rfl ty3), ⟨⟨rfl, trivial⟩, ⟨rfl, trivial⟩, rfl⟩, rfl,
    Step.plain rfl (does_fieldAddr 42 1 1 3 1 0 [] (.var (e_api_Place p1)) fl42_1), ⟨⟨rfl, trivial⟩, ⟨rfl, trivial⟩, rfl⟩, rfl,
    Step.plain rfl (does_load 3 12 1 (0 + 1) [1] (.var (e_api_Place p1)) (.int .i64 p1.From) ⟨rfl, Nat.le_of_ble_eq_true rfl, trivial⟩ rfl rfl ty3), ⟨⟨rfl, trivial⟩, ⟨rfl, trivial⟩, rfl⟩, rfl,
    Step.plain rfl (does_call 41 0 (fun _ => .any) (.func 41) [(.tmp 11), (.tmp 13)] [(.int .i64 p0.From), (.int .i64 p1.From)] [] true [(.int .i64 p0.From), (.int .i64 p1.From)] (.int .i64 v3) _ _ rfl fo41 rfl ⟨trivial, trivial, trivial⟩ ⟨.data _ trivial, .data _ trivial, trivial⟩ (cmp_Compare_int_spec p0.From p1.From _ h4) trivial), ⟨⟨rfl, rfl, trivial⟩, trivial, rfl⟩, rfl,
    Step.plain rfl (does_fieldAddr 42 2 2 2 0 0 [] (.var (e_api_Place p0)) fl42_2), ⟨⟨rfl, trivial⟩, ⟨rfl, trivial⟩, rfl⟩, rfl,
    Step.plain rfl (does_load 3 15 0 (0 + 2) [2] (.var (e_api_Place p0)) (.int .i64 p0.Slot) ⟨rfl, Nat.le_of_ble_eq_true rfl, trivial⟩ rfl rfl ty3), ⟨⟨rfl, trivial⟩, ⟨rfl, trivial⟩, rfl⟩, rfl,
    Step.plain rfl (does_fieldAddr 42 2 2 3 1 0 [] (.var (e_api_Place p1)) fl42_2), ⟨⟨rfl, trivial⟩, ⟨rfl, trivial⟩, rfl⟩, rfl,
    Step.plain rfl (does_load 3 17 1 (0 + 2) [2] (.var (e_api_Place p1)) (.int .i64 p1.Slot) ⟨rfl, Nat.le_of_ble_eq_true rfl, trivial⟩ rfl rfl ty3), ⟨⟨rfl, trivial⟩, ⟨rfl, trivial⟩, rfl⟩, rfl,
    Step.plain rfl (does_call 41 0 (fun _ => .any) (.func 41) [(.tmp 16), (.tmp 18)] [(.int .i64 p0.Slot), (.int .i64 p1.Slot)] [] true [(.int .i64 p0.Slot), (.int .i64 p1.Slot)] (.int .i64 v5) _ _ rfl fo41 rfl ⟨trivial, trivial, trivial⟩ ⟨.data _ trivial, .data _ trivial, trivial⟩ (cmp_Compare_int_spec p0.Slot p1.Slot _ h6) trivial), ⟨⟨rfl, rfl, trivial⟩, trivial, rfl⟩, rfl,
    Step.plain rfl (does_buildSl 72 3 1 (.int .i64 0) (fun j => (.int .i64 (([v1, v3, v5] : _root_.List Int).getD j 0))) #[(0, (.tmp 9)), (1, (.tmp 14)), (2, (.tmp 19))] [(0, (.tmp 9)), (1, (.tmp 14)), (2, (.tmp 19))] [(0, (.int .i64 v1)), (1, (.int .i64 v3)), (2, (.int .i64 v5))] rfl so72 (by decide) ⟨⟨rfl, trivial⟩, ⟨rfl, trivial⟩, ⟨rfl, trivial⟩, trivial⟩ ⟨⟨Nat.le_of_ble_eq_true rfl, rfl, rfl⟩, ⟨Nat.le_of_ble_eq_true rfl, rfl, rfl⟩, ⟨Nat.le_of_ble_eq_true rfl, rfl, rfl⟩, trivial⟩ (fun j h => match j, h with | 0, _ => rfl | 1, _ => rfl | 2, _ => rfl | k + 3, h => absurd h (by omega))), ⟨⟨rfl, rfl, rfl, trivial⟩, trivial, rfl⟩, rfl,
    Step.plain rfl (does_call 39 0 (fun _ => .any) (.func 39) [(.tmp 20)] [(e_s_i64 ([v1, v3, v5] : _root_.List Int))] [] true [(e_s_i64 ([v1, v3, v5] : _root_.List Int))] (.int .i64 v7) _ _ rfl fo39 rfl ⟨trivial, trivial⟩ ⟨.data _ (d_s_i64 ([v1, v3, v5] : _root_.List Int)), trivial⟩ (cmp_Or_int_spec ([v1, v3, v5] : _root_.List Int) _ h8) trivial), ⟨⟨rfl, trivial⟩, trivial, rfl⟩, rfl,
    Step.plain rfl (does_bin .lss 3 3 (.tmp 21) (.const (.int .i64 0)) .i64 v7 0 (.bool (decide (v7 < 0))) trivial (fun _ => rfl) (bin_lss _ _ _ _)), ⟨⟨rfl, trivial⟩, trivial, rfl⟩, rfl,
    Step.plain rfl (does_assign (.tmp 22) (.bool (decide (v7 < 0))) trivial), ⟨⟨rfl, trivial⟩, trivial, rfl⟩, rfl, rfl⟩ rfl ?_
  refine aw_cov (cov_prune (s1 := ⟨[(4, (.bool (decide (v7 < 0))))], [], 2⟩) ⟨rfl, trivial⟩ trivial (Nat.le_refl _)) ?_
  refine aw_ret ?_
  exact fun a w hr => ⟨_, [(.bool (decide (v7 < 0)))], hr, ⟨⟨_, rfl, .data (.bool (decide (v7 < 0))) trivial⟩, trivial⟩, by decide, by cases H; rfl⟩

theorem queue_put_2_spec (p0 : api_Wait) (q0 : api_Wait) (r : Bool) (H : queue_put_2 p0 q0 = some r) : FSpec Try.prog 37 [(e_api_Wait p0), (.cptr (e_api_Wait q0))] (.bool r) := by
  refine spec_of (fn := Try.f37) (args := [(e_api_Wait p0), (.cptr (e_api_Wait q0))]) Try.func37 rfl (Nat.le_of_ble_eq_true rfl) ?_
  rintro ⟨G, w0, W, S, Sp⟩ hG
  cases hG
  unfold queue_put_2 at H
  refine aw_region (es := [_, _]) ⟨Step.plain rfl (does_box 47 (.tmp 0) 0 (e_api_Wait p0) trivial rfl), ⟨⟨rfl, trivial⟩, trivial, rfl⟩, rfl,
    Step.plain rfl (does_assign (.const (.bool false)) (.bool false) (fun _ => rfl)), ⟨trivial, trivial, rfl⟩, rfl, rfl⟩ ?_
  refine aw_cov (cov_prune (s1 := ⟨[(1, (.cptr (e_api_Wait q0))), (2, (.ptr 0 0 []))], [(0, some (.var (e_api_Wait p0)))], 1⟩) ⟨rfl, rfl, trivial⟩ ⟨rfl, trivial⟩ (Nat.le_refl _)) ?_
  obtain ⟨v1, h2, H⟩ := bnd H
  refine aw_region (es := [_, _, _, _, _, _]) ⟨Step.plain rfl (does_fieldAddrc 47 0 0 1 (e_api_Wait q0) fl47_0 rfl (Nat.le_of_ble_eq_true rfl) rfl), ⟨⟨rfl, trivial⟩, trivial, rfl⟩, rfl,
    Step.plain rfl (does_loadc 42 4 (e_api_Place q0.Place) ty42), ⟨⟨rfl, trivial⟩, trivial, rfl⟩, rfl,
    Step.plain rfl (does_fieldAddr 47 0 0 2 0 0 [] (.var (e_api_Wait p0)) fl47_0), ⟨⟨rfl, trivial⟩, ⟨rfl, trivial⟩, rfl⟩, rfl,
    Step.plain rfl (does_load 42 6 0 (0 + 0) [0] (.var (e_api_Wait p0)) (e_api_Place p0.Place) ⟨rfl, Nat.le_of_ble_eq_true rfl, trivial⟩ rfl rfl ty42), ⟨⟨rfl, trivial⟩, ⟨rfl, trivial⟩, rfl⟩, rfl,
    Step.plain rfl (does_call 29 0 (fun _ => .any) (.func 29) [(.tmp 5), (.tmp 7)] [(e_api_Place q0.Place), (e_api_Place p0.Place)] [] true [(e_api_Place q0.Place), (e_api_Place p0.Place)] (.bool v1) _ _ rfl fo29 rfl ⟨trivial, trivial, trivial⟩ ⟨.data _ (d_api_Place q0.Place), .data _ (d_api_Place p0.Place), trivial⟩ (round_Before_spec q0.Place p0.Place _ h2) trivial), ⟨⟨rfl, rfl, trivial⟩, trivial, rfl⟩, rfl,
    Step.plain rfl (does_assign (.tmp 8) (.bool v1) trivial), ⟨⟨rfl, trivial⟩, trivial, rfl⟩, rfl, rfl⟩ ?_
  refine aw_cov (cov_prune (s1 := ⟨[(3, (.bool v1))], [], 1⟩) ⟨rfl, trivial⟩ trivial (Nat.le_refl _)) ?_
  refine aw_ret ?_
  exact fun a w hr => ⟨_, [(.bool v1)], hr, ⟨⟨_, rfl, .data (.bool v1) trivial⟩, trivial⟩, by decide, by cases H; rfl⟩

theorem slices_Insert_api_Wait_api_Wait_spec (p0 : (_root_.List api_Wait)) (p1 : Int) (p2 : (_root_.List api_Wait)) (r : (_root_.List api_Wait)) (H : slices_Insert_api_Wait_api_Wait p0 p1 p2 = some r) : FSpecO Try.prog 38 [(.own 0), (.int .i64 p1), (e_s_api_Wait p2)] [(0, some (.arr 9 p0.length fun j => (e_api_Wait (p0.getD j z_api_Wait))))] 1 (.own 0) [(0, some (.arr 9 r.length fun j => (e_api_Wait (r.getD j z_api_Wait))))] 1 := by
  refine specO_of (fn := Try.f38) (args := [(.own 0), (.int .i64 p1), (e_s_api_Wait p2)]) Try.func38 rfl (Nat.le_of_ble_eq_true rfl) ?_
  rintro ⟨G, w0, W, S, Sp⟩ hG
  cases hG
  unfold slices_Insert_api_Wait_api_Wait at H
  refine aw_region (es := [_]) ⟨Step.plain rfl (does_nil false 1 9 (fun j => (e_api_Wait (([] : _root_.List api_Wait).getD j z_api_Wait)))), ⟨trivial, trivial, rfl⟩, rfl, rfl⟩ ?_
  refine aw_cov (cov_prune (s1 := ⟨[(0, (.own 0)), (1, (.int .i64 p1)), (2, (e_s_api_Wait p2))], [(0, some (.arr 9 p0.length fun j => (e_api_Wait (p0.getD j z_api_Wait))))], 2⟩) ⟨rfl, rfl, rfl, trivial⟩ ⟨rfl, trivial⟩ (Nat.le_refl _)) ?_
  obtain ⟨h1, H⟩ := sb_of H
  refine aw_region (es := [_, _, _]) ⟨Step.plain rfl (does_move (.tmp 0) (.own 0) trivial), ⟨⟨rfl, trivial⟩, trivial, rfl⟩, rfl,
    Step.plain rfl (does_move (.tmp 1) (.int .i64 p1) trivial), ⟨⟨rfl, trivial⟩, trivial, rfl⟩, rfl,
    Step.plain rfl (does_sliceo 22 9 p0.length 10 0 p1.toNat p0.length (fun j => (e_api_Wait (p0.getD j z_api_Wait))) (some ((.tmp 11), .i64, p1)) none _ _ el22 rfl rfl trivial trivial (Int.toNat_of_nonneg h1.1).symm rfl (by omega) (by omega)), ⟨⟨rfl, rfl, trivial⟩, ⟨rfl, trivial⟩, rfl⟩, rfl, rfl⟩ ?_
  refine aw_cov (cov_prune (s1 := ⟨[(0, (.own 0)), (1, (.int .i64 p1)), (2, (e_s_api_Wait p2))], [(0, some (.arr 9 p0.length fun j => (e_api_Wait (p0.getD j z_api_Wait))))], 2⟩) ⟨rfl, rfl, rfl, trivial⟩ ⟨rfl, trivial⟩ (Nat.le_refl _)) ?_
  refine aw_region (es := [_, _, _]) ⟨Step.plain rfl (does_move (.tmp 2) (e_s_api_Wait p2) trivial), ⟨⟨rfl, trivial⟩, trivial, rfl⟩, rfl,
    Step.plain rfl (does_lens 22 9 p2.length 13 (fun j => (e_api_Wait (p2.getD j z_api_Wait))) el22), ⟨⟨rfl, trivial⟩, trivial, rfl⟩, rfl,
    Step.plain rfl (does_assign (.tmp 14) (.int .i64 (p2.length : Int)) trivial), ⟨⟨rfl, trivial⟩, trivial, rfl⟩, rfl, rfl⟩ ?_
  refine aw_cov (cov_prune (s1 := ⟨[(0, (.own 0)), (1, (.int .i64 p1)), (2, (e_s_api_Wait p2)), (7, (.int .i64 (p2.length : Int)))], [(0, some (.arr 9 p0.length fun j => (e_api_Wait (p0.getD j z_api_Wait))))], 2⟩) ⟨rfl, rfl, rfl, rfl, trivial⟩ ⟨rfl, trivial⟩ (Nat.le_refl _)) ?_
  refine aw_seq ?_
  refine aw_region (es := [_, _]) ⟨Step.plain rfl (does_move (.tmp 7) (.int .i64 (p2.length : Int)) trivial), ⟨⟨rfl, trivial⟩, trivial, rfl⟩, rfl,
    Step.plain rfl (does_bin .eql 3 3 (.tmp 15) (.const (.int .i64 0)) .i64 (p2.length : Int) 0 (.bool ((p2.length : Int) == 0)) trivial (fun _ => rfl) (bin_eql _ _ _ _)), ⟨⟨rfl, trivial⟩, trivial, rfl⟩, rfl, rfl⟩ ?_
  refine aw_cov (cov_prune (s1 := ⟨[(0, (.own 0)), (1, (.int .i64 p1)), (2, (e_s_api_Wait p2)), (7, (.int .i64 (p2.length : Int))), (16, (.bool ((p2.length : Int) == 0)))], [(0, some (.arr 9 p0.length fun j => (e_api_Wait (p0.getD j z_api_Wait))))], 2⟩) ⟨rfl, rfl, rfl, rfl, rfl, trivial⟩ ⟨rfl, trivial⟩ (Nat.le_refl _)) ?_
  refine aw_cond rfl (fun hc => ?_) (fun hc => ?_)
  · replace H := ite_t hc H
    refine aw_region (es := [_, _]) ⟨Step.plain rfl (does_move (.tmp 0) (.own 0) trivial), ⟨⟨rfl, trivial⟩, trivial, rfl⟩, rfl,
      Step.plain rfl (does_assign (.tmp 17) (.own 0) trivial), ⟨⟨rfl, trivial⟩, trivial, rfl⟩, rfl, rfl⟩ ?_
    refine aw_cov (cov_prune (s1 := ⟨[(6, (.own 0))], [(0, some (.arr 9 p0.length fun j => (e_api_Wait (p0.getD j z_api_Wait))))], 2⟩) ⟨rfl, trivial⟩ ⟨rfl, trivial⟩ (Nat.le_refl _)) ?_
    refine aw_ret ?_
    refine rt_then ?_
    exact fun a w hr => ⟨_, [(.own 0)], reach_of hr (cov_to (s1 := ⟨[(6, (.own 0))], [(0, some (.arr 9 p0.length fun j => (e_api_Wait (p0.getD j z_api_Wait))))], 1⟩) (fun i => match i with | 0 => 0 | k => k) [] ⟨⟨_, rfl, .own 0 _ _ (Nat.le_of_ble_eq_true rfl) rfl rfl (Box.like_refl _)⟩, trivial⟩ ⟨⟨Nat.le_of_ble_eq_true rfl, _, _, rfl, rfl, boxTo_arr (fun _ => (d_api_Wait _))⟩, trivial⟩ rfl rfl), ⟨rfl, trivial⟩, by decide, by cases H; rfl, by cases H; exact ⟨rfl, trivial⟩, Nat.le_of_ble_eq_true rfl⟩
  · replace H := ite_f hc H
    refine aw_skip ?_
    refine nx_seq ?_
    refine aw_region (es := [_, _, _]) ⟨Step.plain rfl (does_move (.tmp 0) (.own 0) trivial), ⟨⟨rfl, trivial⟩, trivial, rfl⟩, rfl,
      Step.plain rfl (does_leno 22 9 p0.length 18 0 (fun j => (e_api_Wait (p0.getD j z_api_Wait))) el22), ⟨⟨rfl, trivial⟩, ⟨rfl, trivial⟩, rfl⟩, rfl,
      Step.plain rfl (does_assign (.tmp 19) (.int .i64 (p0.length : Int)) trivial), ⟨⟨rfl, trivial⟩, trivial, rfl⟩, rfl, rfl⟩ ?_
    refine aw_cov (cov_prune (s1 := ⟨[(0, (.own 0)), (1, (.int .i64 p1)), (2, (e_s_api_Wait p2)), (7, (.int .i64 (p2.length : Int))), (8, (.int .i64 (p0.length : Int)))], [(0, some (.arr 9 p0.length fun j => (e_api_Wait (p0.getD j z_api_Wait))))], 2⟩) ⟨rfl, rfl, rfl, rfl, rfl, trivial⟩ ⟨rfl, trivial⟩ (Nat.le_refl _)) ?_
    refine aw_seq ?_
    refine aw_region (es := [_, _, _]) ⟨Step.plain rfl (does_move (.tmp 1) (.int .i64 p1) trivial), ⟨⟨rfl, trivial⟩, trivial, rfl⟩, rfl,
      Step.plain rfl (does_move (.tmp 8) (.int .i64 (p0.length : Int)) trivial), ⟨⟨rfl, trivial⟩, trivial, rfl⟩, rfl,
      Step.plain rfl (does_bin .eql 3 3 (.tmp 20) (.tmp 21) .i64 p1 (p0.length : Int) (.bool (p1 == (p0.length : Int))) trivial trivial (bin_eql _ _ _ _)), ⟨⟨rfl, rfl, trivial⟩, trivial, rfl⟩, rfl, rfl⟩ ?_
    refine aw_cov (cov_prune (s1 := ⟨[(0, (.own 0)), (1, (.int .i64 p1)), (2, (e_s_api_Wait p2)), (7, (.int .i64 (p2.length : Int))), (8, (.int .i64 (p0.length : Int))), (22, (.bool (p1 == (p0.length : Int))))], [(0, some (.arr 9 p0.length fun j => (e_api_Wait (p0.getD j z_api_Wait))))], 2⟩) ⟨rfl, rfl, rfl, rfl, rfl, rfl, trivial⟩ ⟨rfl, trivial⟩ (Nat.le_refl _)) ?_
    refine aw_cond rfl (fun hc => ?_) (fun hc => ?_)
    · replace H := ite_t hc H
      obtain ⟨h2, H⟩ := fit_of H
      refine aw_region (es := [_, _, _, _]) ⟨Step.plain rfl (does_move (.tmp 0) (.own 0) trivial), ⟨⟨rfl, trivial⟩, trivial, rfl⟩, rfl,
        Step.plain rfl (does_move (.tmp 2) (e_s_api_Wait p2) trivial), ⟨⟨rfl, trivial⟩, trivial, rfl⟩, rfl,
        Step.plain rfl (does_appendL e_api_Wait z_api_Wait p0 p2 22 9 80 0 2 23 24 ap22 h2), ⟨⟨rfl, rfl, trivial⟩, ⟨rfl, trivial⟩, rfl⟩, rfl,
        Step.plain rfl (does_assign (.tmp 25) (.own 2) trivial), ⟨⟨rfl, trivial⟩, trivial, rfl⟩, rfl, rfl⟩ ?_
      refine aw_cov (cov_prune (s1 := ⟨[(6, (.own 2))], [(2, some (.arr 9 (p0 ++ p2).length fun j => (e_api_Wait ((p0 ++ p2).getD j z_api_Wait))))], 3⟩) ⟨rfl, trivial⟩ ⟨rfl, trivial⟩ (Nat.le_refl _)) ?_
      refine aw_ret ?_
      refine rt_then ?_
      exact fun a w hr => ⟨_, [(.own 0)], reach_of hr (cov_to (s1 := ⟨[(6, (.own 0))], [(0, some (.arr 9 (p0 ++ p2).length fun j => (e_api_Wait ((p0 ++ p2).getD j z_api_Wait))))], 1⟩) (fun i => match i with | 0 => 2 | k => k) [] ⟨⟨_, rfl, .own 0 _ _ (Nat.le_of_ble_eq_true rfl) rfl rfl (Box.like_refl _)⟩, trivial⟩ ⟨⟨Nat.le_of_ble_eq_true rfl, _, _, rfl, rfl, boxTo_arr (fun _ => (d_api_Wait _))⟩, trivial⟩ rfl rfl), ⟨rfl, trivial⟩, by decide, by cases H; rfl, by cases H; exact ⟨rfl, trivial⟩, Nat.le_of_ble_eq_true rfl⟩
    · replace H := ite_f hc H
      refine aw_skip ?_
      refine nx_seq ?_
      refine aw_seq ?_
      refine aw_region (es := [_, _, _, _, _, _]) ⟨Step.plain rfl (does_move (.tmp 8) (.int .i64 (p0.length : Int)) trivial), ⟨⟨rfl, trivial⟩, trivial, rfl⟩, rfl,
        Step.plain rfl (does_move (.tmp 7) (.int .i64 (p2.length : Int)) trivial), ⟨⟨rfl, trivial⟩, trivial, rfl⟩, rfl,
        Step.plain rfl (does_bin .add 3 3 (.tmp 26) (.tmp 27) .i64 (p0.length : Int) (p2.length : Int) (.int .i64 (IntKind.i64.wrap ((p0.length : Int) + (p2.length : Int)))) trivial trivial (bin_add _ _ _ _)), ⟨⟨rfl, rfl, trivial⟩, trivial, rfl⟩, rfl,
        Step.plain rfl (does_move (.tmp 0) (.own 0) trivial), ⟨⟨rfl, trivial⟩, trivial, rfl⟩, rfl,
        Step.plain rfl (does_capo 22 9 p0.length 29 0 (fun j => (e_api_Wait (p0.getD j z_api_Wait))) el22), ⟨⟨rfl, trivial⟩, ⟨rfl, trivial⟩, rfl⟩, rfl,
        Step.plain rfl (does_gtcap 3 3 30 0 9 p0.length (fun j => (e_api_Wait (p0.getD j z_api_Wait))) (.tmp 28) (IntKind.i64.wrap ((p0.length : Int) + (p2.length : Int))) trivial), ⟨⟨rfl, rfl, trivial⟩, ⟨rfl, trivial⟩, rfl⟩, rfl, rfl⟩ ?_
      refine aw_cov (cov_prune (s1 := ⟨[(0, (.own 0)), (1, (.int .i64 p1)), (2, (e_s_api_Wait p2)), (7, (.int .i64 (p2.length : Int))), (8, (.int .i64 (p0.length : Int))), (31, (V.capq 0 (IntKind.i64.wrap ((p0.length : Int) + (p2.length : Int)))))], [(0, some (.arr 9 p0.length fun j => (e_api_Wait (p0.getD j z_api_Wait))))], 2⟩) ⟨rfl, rfl, rfl, rfl, rfl, rfl, trivial⟩ ⟨rfl, trivial⟩ (Nat.le_refl _)) ?_
      obtain ⟨H1, H2⟩ := bth_of H
      clear H
      refine aw_condcap (es := 9) (n := p0.length) (f := (fun j => (e_api_Wait (p0.getD j z_api_Wait)))) rfl rfl ?_ ?_
      · have H := H1
        obtain ⟨h3, H⟩ := sb_of H
        obtain ⟨h4, H⟩ := inb_of H
        obtain ⟨h5, H⟩ := vz_of H
        refine aw_region (es := [_, _, _, _, _, _, _, _, _, _]) ⟨Step.plain rfl (does_move (.tmp 0) (.own 0) trivial), ⟨⟨rfl, trivial⟩, trivial, rfl⟩, rfl,
          Step.plain rfl (does_move (.tmp 1) (.int .i64 p1) trivial), ⟨⟨rfl, trivial⟩, trivial, rfl⟩, rfl,
          Step.plain rfl (does_sliceo 22 9 p0.length 32 0 0 p1.toNat (fun j => (e_api_Wait (p0.getD j z_api_Wait))) none (some ((.tmp 33), .i64, p1)) _ _ el22 rfl rfl trivial trivial rfl (Int.toNat_of_nonneg (Int.le_trans h3.1 h3.2.1)).symm (by omega) (by omega)), ⟨⟨rfl, rfl, trivial⟩, ⟨rfl, trivial⟩, rfl⟩, rfl,
          Step.plain rfl (does_move (.tmp 8) (.int .i64 (p0.length : Int)) trivial), ⟨⟨rfl, trivial⟩, trivial, rfl⟩, rfl,
          Step.plain rfl (does_move (.tmp 7) (.int .i64 (p2.length : Int)) trivial), ⟨⟨rfl, trivial⟩, trivial, rfl⟩, rfl,
          Step.plain rfl (does_bin .add 3 3 (.tmp 35) (.tmp 36) .i64 (p0.length : Int) (p2.length : Int) (.int .i64 (IntKind.i64.wrap ((p0.length : Int) + (p2.length : Int)))) trivial trivial (bin_add _ _ _ _)), ⟨⟨rfl, rfl, trivial⟩, trivial, rfl⟩, rfl,
          Step.plain rfl (does_move (.tmp 1) (.int .i64 p1) trivial), ⟨⟨rfl, trivial⟩, trivial, rfl⟩, rfl,
          Step.plain rfl (does_bin .sub 3 3 (.tmp 37) (.tmp 38) .i64 (IntKind.i64.wrap ((p0.length : Int) + (p2.length : Int))) p1 (.int .i64 (IntKind.i64.wrap ((IntKind.i64.wrap ((p0.length : Int) + (p2.length : Int))) - p1))) trivial trivial (bin_sub _ _ _ _)), ⟨⟨rfl, rfl, trivial⟩, trivial, rfl⟩, rfl,
          Step.plain rfl (does_appendVZ e_api_Wait z_api_Wait p0 22 3 9 80 0 2 34 31 (p1.toNat - 0) (.tmp 39) .i64 .i64 (IntKind.i64.wrap ((IntKind.i64.wrap ((p0.length : Int) + (p2.length : Int))) - p1)) (IntKind.i64.wrap ((p0.length : Int) + (p2.length : Int))) so22 ap22 ui3 trivial h4 h5), ⟨⟨rfl, rfl, rfl, trivial⟩, ⟨rfl, trivial⟩, rfl⟩, rfl,
          Step.plain rfl (does_assign (.tmp 40) (.own 2) trivial), ⟨⟨rfl, trivial⟩, trivial, rfl⟩, rfl, rfl⟩ ?_
        obtain ⟨v6, hv6, H⟩ := lt_of H
        refine aw_cov (cov_prune (s1 := ⟨[(0, (.own 0)), (1, (.int .i64 p1)), (2, (e_s_api_Wait p2)), (7, (.int .i64 (p2.length : Int))), (9, (.own 2)), (31, (V.capgt 0 (IntKind.i64.wrap ((p0.length : Int) + (p2.length : Int)))))], [(0, some (.arr 9 p0.length fun j => (e_api_Wait (p0.getD j z_api_Wait)))), (2, some (.arr 9 v6.length fun j => (e_api_Wait (v6.getD j z_api_Wait))))], 3⟩) ⟨rfl, rfl, rfl, rfl, rfl, rfl, trivial⟩ ⟨rfl, (by subst hv6; rfl), trivial⟩ (Nat.le_refl _)) ?_
        obtain ⟨h7, H⟩ := sb_of H
        obtain ⟨h8, H⟩ := inb_of H
        refine aw_region (es := [_, _, _, _, _]) ⟨Step.plain rfl (does_move (.tmp 9) (.own 2) trivial), ⟨⟨rfl, trivial⟩, trivial, rfl⟩, rfl,
          Step.plain rfl (does_move (.tmp 1) (.int .i64 p1) trivial), ⟨⟨rfl, trivial⟩, trivial, rfl⟩, rfl,
          Step.plain rfl (does_sliceo 22 9 v6.length 41 2 p1.toNat v6.length (fun j => (e_api_Wait (v6.getD j z_api_Wait))) (some ((.tmp 42), .i64, p1)) none _ _ el22 rfl rfl trivial trivial (Int.toNat_of_nonneg h7.1).symm rfl (by omega) (by omega)), ⟨⟨rfl, rfl, trivial⟩, ⟨rfl, trivial⟩, rfl⟩, rfl,
          Step.plain rfl (does_move (.tmp 2) (e_s_api_Wait p2) trivial), ⟨⟨rfl, trivial⟩, trivial, rfl⟩, rfl,
          Step.plain rfl (does_copyL e_api_Wait z_api_Wait v6 p2 22 22 9 43 44 2 p1.toNat (v6.length - p1.toNat) el22 (by decide) h8), ⟨⟨rfl, rfl, trivial⟩, ⟨rfl, trivial⟩, rfl⟩, rfl, rfl⟩ ?_
        refine aw_cov (cov_prune (s1 := ⟨[(0, (.own 0)), (1, (.int .i64 p1)), (7, (.int .i64 (p2.length : Int))), (9, (.own 2)), (31, (V.capgt 0 (IntKind.i64.wrap ((p0.length : Int) + (p2.length : Int)))))], [(0, some (.arr 9 p0.length fun j => (e_api_Wait (p0.getD j z_api_Wait)))), (2, some (.arr 9 (ovl v6 p1.toNat (p2.take (v6.length - p1.toNat))).length fun j => (e_api_Wait ((ovl v6 p1.toNat (p2.take (v6.length - p1.toNat))).getD j z_api_Wait))))], 3⟩) ⟨rfl, rfl, rfl, rfl, rfl, trivial⟩ ⟨rfl, rfl, trivial⟩ (Nat.le_refl _)) ?_
        obtain ⟨h10, H⟩ := sb_of H
        obtain ⟨h11, H⟩ := sb_of H
        obtain ⟨h12, H⟩ := inb_of H
        obtain ⟨h13, H⟩ := inb_of H
        refine aw_draw (es := [_, _, _, _, _, _, _, _, _]) (mixed) ⟨Step.plain rfl (does_move (.tmp 9) (.own 2) trivial), ⟨⟨rfl, trivial⟩, trivial, rfl⟩, rfl,
          Step.plain rfl (does_move (.tmp 1) (.int .i64 p1) trivial), ⟨⟨rfl, trivial⟩, trivial, rfl⟩, rfl,
          Step.plain rfl (does_move (.tmp 7) (.int .i64 (p2.length : Int)) trivial), ⟨⟨rfl, trivial⟩, trivial, rfl⟩, rfl,
          Step.plain rfl (does_bin .add 3 3 (.tmp 47) (.tmp 48) .i64 p1 (p2.length : Int) (.int .i64 (IntKind.i64.wrap (p1 + (p2.length : Int)))) trivial trivial (bin_add _ _ _ _)), ⟨⟨rfl, rfl, trivial⟩, trivial, rfl⟩, rfl,
          Step.plain rfl (does_sliceo 22 9 (ovl v6 p1.toNat (p2.take (v6.length - p1.toNat))).length 46 2 ((IntKind.i64.wrap (p1 + (p2.length : Int))).toNat) ((ovl v6 p1.toNat (p2.take (v6.length - p1.toNat))).length) (fun j => (e_api_Wait ((ovl v6 p1.toNat (p2.take (v6.length - p1.toNat))).getD j z_api_Wait))) (some ((.tmp 49), .i64, (IntKind.i64.wrap (p1 + (p2.length : Int))))) none _ _ el22 rfl rfl trivial trivial (Int.toNat_of_nonneg h10.1).symm rfl (by omega) (by omega)), ⟨⟨rfl, rfl, trivial⟩, ⟨rfl, trivial⟩, rfl⟩, rfl,
          Step.plain rfl (does_move (.tmp 0) (.own 0) trivial), ⟨⟨rfl, trivial⟩, trivial, rfl⟩, rfl,
          Step.plain rfl (does_move (.tmp 1) (.int .i64 p1) trivial), ⟨⟨rfl, trivial⟩, trivial, rfl⟩, rfl,
          Step.plain rfl (does_sliceo 22 9 p0.length 51 0 p1.toNat p0.length (fun j => (e_api_Wait (p0.getD j z_api_Wait))) (some ((.tmp 52), .i64, p1)) none _ _ el22 rfl rfl trivial trivial (Int.toNat_of_nonneg h11.1).symm rfl (by omega) (by omega)), ⟨⟨rfl, rfl, trivial⟩, ⟨rfl, trivial⟩, rfl⟩, rfl,
          Step.plain rfl (does_copyB e_api_Wait z_api_Wait (ovl v6 p1.toNat (p2.take (v6.length - p1.toNat))) p0 22 22 9 50 53 2 0 ((IntKind.i64.wrap (p1 + (p2.length : Int))).toNat) (((ovl v6 p1.toNat (p2.take (v6.length - p1.toNat))).length) - ((IntKind.i64.wrap (p1 + (p2.length : Int))).toNat)) p1.toNat (p0.length - p1.toNat) el22 (by decide) h12 h13), ⟨⟨rfl, rfl, trivial⟩, ⟨rfl, rfl, trivial⟩, rfl⟩, rfl, rfl⟩ rfl ?_
        obtain ⟨v14, hv14, H⟩ := lt_of H
        refine aw_cov (cov_prune (s1 := ⟨[(9, (.own 2))], [(2, some (.arr 9 v14.length fun j => (e_api_Wait (v14.getD j z_api_Wait))))], 3⟩) ⟨rfl, trivial⟩ ⟨(by subst hv14; rfl), trivial⟩ (Nat.le_refl _)) ?_
        refine aw_region (es := [_, _]) ⟨Step.plain rfl (does_move (.tmp 9) (.own 2) trivial), ⟨⟨rfl, trivial⟩, trivial, rfl⟩, rfl,
          Step.plain rfl (does_assign (.tmp 55) (.own 2) trivial), ⟨⟨rfl, trivial⟩, trivial, rfl⟩, rfl, rfl⟩ ?_
        refine aw_cov (cov_prune (s1 := ⟨[(6, (.own 2))], [(2, some (.arr 9 v14.length fun j => (e_api_Wait (v14.getD j z_api_Wait))))], 3⟩) ⟨rfl, trivial⟩ ⟨rfl, trivial⟩ (Nat.le_refl _)) ?_
        refine aw_ret ?_
        refine rt_then ?_
        exact fun a w hr => ⟨_, [(.own 0)], reach_of hr (cov_to (s1 := ⟨[(6, (.own 0))], [(0, some (.arr 9 v14.length fun j => (e_api_Wait (v14.getD j z_api_Wait))))], 1⟩) (fun i => match i with | 0 => 2 | k => k) [] ⟨⟨_, rfl, .own 0 _ _ (Nat.le_of_ble_eq_true rfl) rfl rfl (Box.like_refl _)⟩, trivial⟩ ⟨⟨Nat.le_of_ble_eq_true rfl, _, _, rfl, rfl, boxTo_arr (fun _ => (d_api_Wait _))⟩, trivial⟩ rfl rfl), ⟨rfl, trivial⟩, by decide, by cases H; rfl, by cases H; exact ⟨rfl, trivial⟩, Nat.le_of_ble_eq_true rfl⟩
      · have H := H2
        refine aw_skip ?_
        refine nx_seq ?_
        obtain ⟨h15, H⟩ := ile_of H
        refine aw_region (es := [_, _, _, _, _, _]) ⟨Step.plain rfl (does_move (.tmp 0) (.own 0) trivial), ⟨⟨rfl, trivial⟩, trivial, rfl⟩, rfl,
          Step.plain rfl (does_move (.tmp 8) (.int .i64 (p0.length : Int)) trivial), ⟨⟨rfl, trivial⟩, trivial, rfl⟩, rfl,
          Step.plain rfl (does_move (.tmp 7) (.int .i64 (p2.length : Int)) trivial), ⟨⟨rfl, trivial⟩, trivial, rfl⟩, rfl,
          Step.plain rfl (does_bin .add 3 3 (.tmp 57) (.tmp 58) .i64 (p0.length : Int) (p2.length : Int) (.int .i64 (IntKind.i64.wrap ((p0.length : Int) + (p2.length : Int)))) trivial trivial (bin_add _ _ _ _)), ⟨⟨rfl, rfl, trivial⟩, trivial, rfl⟩, rfl,
          Step.plain rfl (does_extL e_api_Wait z_api_Wait p0 22 9 56 0 2 31 true (.tmp 59) .i64 (IntKind.i64.wrap ((p0.length : Int) + (p2.length : Int))) el22 (fun h => nomatch h) trivial h15), ⟨⟨rfl, rfl, rfl, trivial⟩, ⟨rfl, trivial⟩, rfl⟩, rfl,
          Step.plain rfl (does_assign (.tmp 60) (.own 2) trivial), ⟨⟨rfl, trivial⟩, trivial, rfl⟩, rfl, rfl⟩ ?_
        refine aw_cov (cov_prune (s1 := ⟨[(1, (.int .i64 p1)), (2, (e_s_api_Wait p2)), (7, (.int .i64 (p2.length : Int))), (8, (.int .i64 (p0.length : Int))), (0, (.own 2))], [(2, some (.arr 9 ((IntKind.i64.wrap ((p0.length : Int) + (p2.length : Int))).toNat) (extF e_api_Wait z_api_Wait p0 (hole true 9))))], 3⟩) ⟨rfl, rfl, rfl, rfl, rfl, trivial⟩ ⟨rfl, trivial⟩ (Nat.le_refl _)) ?_
        refine aw_seq ?_
        obtain ⟨h16, H⟩ := sb_of H
        obtain ⟨h17, H⟩ := inb_of H
        refine aw_region (es := [_, _, _, _, _, _, _, _]) ⟨Step.plain rfl (does_move (.tmp 2) (e_s_api_Wait p2) trivial), ⟨⟨rfl, trivial⟩, trivial, rfl⟩, rfl,
          Step.plain rfl (does_move (.tmp 0) (.own 2) trivial), ⟨⟨rfl, trivial⟩, trivial, rfl⟩, rfl,
          Step.plain rfl (does_move (.tmp 1) (.int .i64 p1) trivial), ⟨⟨rfl, trivial⟩, trivial, rfl⟩, rfl,
          Step.plain rfl (does_move (.tmp 7) (.int .i64 (p2.length : Int)) trivial), ⟨⟨rfl, trivial⟩, trivial, rfl⟩, rfl,
          Step.plain rfl (does_bin .add 3 3 (.tmp 63) (.tmp 64) .i64 p1 (p2.length : Int) (.int .i64 (IntKind.i64.wrap (p1 + (p2.length : Int)))) trivial trivial (bin_add _ _ _ _)), ⟨⟨rfl, rfl, trivial⟩, trivial, rfl⟩, rfl,
          Step.plain rfl (does_sliceo 22 9 ((IntKind.i64.wrap ((p0.length : Int) + (p2.length : Int))).toNat) 62 2 ((IntKind.i64.wrap (p1 + (p2.length : Int))).toNat) ((IntKind.i64.wrap ((p0.length : Int) + (p2.length : Int))).toNat) (extF e_api_Wait z_api_Wait p0 (hole true 9)) (some ((.tmp 65), .i64, (IntKind.i64.wrap (p1 + (p2.length : Int))))) none _ _ el22 rfl rfl trivial trivial (Int.toNat_of_nonneg h16.1).symm rfl (by omega) (by omega)), ⟨⟨rfl, rfl, trivial⟩, ⟨rfl, trivial⟩, rfl⟩, rfl,
          Step.plain rfl (does_overlaps 44 22 9 61 66 2 ((IntKind.i64.wrap (p1 + (p2.length : Int))).toNat) (((IntKind.i64.wrap ((p0.length : Int) + (p2.length : Int))).toNat) - ((IntKind.i64.wrap (p1 + (p2.length : Int))).toNat)) p2.length ((IntKind.i64.wrap ((p0.length : Int) + (p2.length : Int))).toNat) (extF e_api_Wait z_api_Wait p0 (hole true 9)) (fun j => (e_api_Wait (p2.getD j z_api_Wait))) ov44 (by decide) h17 _), ⟨⟨rfl, rfl, trivial⟩, ⟨rfl, trivial⟩, rfl⟩, rfl,
          Step.plain rfl (does_not 4 (.tmp 67) false trivial), ⟨⟨rfl, trivial⟩, trivial, rfl⟩, rfl, rfl⟩ ?_
        refine aw_cov (cov_prune (s1 := ⟨[(1, (.int .i64 p1)), (2, (e_s_api_Wait p2)), (7, (.int .i64 (p2.length : Int))), (8, (.int .i64 (p0.length : Int))), (0, (.own 2)), (68, (.bool (!false)))], [(2, some (.arr 9 ((IntKind.i64.wrap ((p0.length : Int) + (p2.length : Int))).toNat) (extF e_api_Wait z_api_Wait p0 (hole true 9))))], 3⟩) ⟨rfl, rfl, rfl, rfl, rfl, rfl, trivial⟩ ⟨rfl, trivial⟩ (Nat.le_refl _)) ?_
        refine aw_cond rfl (fun _ => ?_) (fun hc => absurd hc (by decide))
        obtain ⟨h18, H⟩ := sb_of H
        obtain ⟨h19, H⟩ := sb_of H
        obtain ⟨h20, H⟩ := cup_of H
        refine aw_draw (es := [_, _, _, _, _, _, _, _, _]) (mixed) ⟨Step.plain rfl (does_move (.tmp 0) (.own 2) trivial), ⟨⟨rfl, trivial⟩, trivial, rfl⟩, rfl,
          Step.plain rfl (does_move (.tmp 1) (.int .i64 p1) trivial), ⟨⟨rfl, trivial⟩, trivial, rfl⟩, rfl,
          Step.plain rfl (does_move (.tmp 7) (.int .i64 (p2.length : Int)) trivial), ⟨⟨rfl, trivial⟩, trivial, rfl⟩, rfl,
          Step.plain rfl (does_bin .add 3 3 (.tmp 70) (.tmp 71) .i64 p1 (p2.length : Int) (.int .i64 (IntKind.i64.wrap (p1 + (p2.length : Int)))) trivial trivial (bin_add _ _ _ _)), ⟨⟨rfl, rfl, trivial⟩, trivial, rfl⟩, rfl,
          Step.plain rfl (does_sliceo 22 9 ((IntKind.i64.wrap ((p0.length : Int) + (p2.length : Int))).toNat) 69 2 ((IntKind.i64.wrap (p1 + (p2.length : Int))).toNat) ((IntKind.i64.wrap ((p0.length : Int) + (p2.length : Int))).toNat) (extF e_api_Wait z_api_Wait p0 (hole true 9)) (some ((.tmp 72), .i64, (IntKind.i64.wrap (p1 + (p2.length : Int))))) none _ _ el22 rfl rfl trivial trivial (Int.toNat_of_nonneg h18.1).symm rfl (by omega) (by omega)), ⟨⟨rfl, rfl, trivial⟩, ⟨rfl, trivial⟩, rfl⟩, rfl,
          Step.plain rfl (does_move (.tmp 0) (.own 2) trivial), ⟨⟨rfl, trivial⟩, trivial, rfl⟩, rfl,
          Step.plain rfl (does_move (.tmp 1) (.int .i64 p1) trivial), ⟨⟨rfl, trivial⟩, trivial, rfl⟩, rfl,
          Step.plain rfl (does_sliceo 22 9 ((IntKind.i64.wrap ((p0.length : Int) + (p2.length : Int))).toNat) 74 2 p1.toNat ((IntKind.i64.wrap ((p0.length : Int) + (p2.length : Int))).toNat) (extF e_api_Wait z_api_Wait p0 (hole true 9)) (some ((.tmp 75), .i64, p1)) none _ _ el22 rfl rfl trivial trivial (Int.toNat_of_nonneg h19.1).symm rfl (by omega) (by omega)), ⟨⟨rfl, rfl, trivial⟩, ⟨rfl, trivial⟩, rfl⟩, rfl,
          Step.plain rfl (does_copyC e_api_Wait z_api_Wait p0 (hole true 9) 22 22 9 73 76 2 ((IntKind.i64.wrap ((p0.length : Int) + (p2.length : Int))).toNat) ((IntKind.i64.wrap (p1 + (p2.length : Int))).toNat) (((IntKind.i64.wrap ((p0.length : Int) + (p2.length : Int))).toNat) - ((IntKind.i64.wrap (p1 + (p2.length : Int))).toNat)) p1.toNat (((IntKind.i64.wrap ((p0.length : Int) + (p2.length : Int))).toNat) - p1.toNat) el22 (by decide) h20), ⟨⟨rfl, rfl, trivial⟩, ⟨rfl, trivial⟩, rfl⟩, rfl, rfl⟩ rfl ?_
        obtain ⟨v22, hv22, H⟩ := lt_of H
        refine aw_cov (cov_prune (s1 := ⟨[(1, (.int .i64 p1)), (2, (e_s_api_Wait p2)), (0, (.own 2))], [(2, some (.arr 9 v22.length fun j => (e_api_Wait (v22.getD j z_api_Wait))))], 3⟩) ⟨rfl, rfl, rfl, trivial⟩ ⟨(by subst hv22; rfl), trivial⟩ (Nat.le_refl _)) ?_
        obtain ⟨h23, H⟩ := sb_of H
        obtain ⟨h24, H⟩ := inb_of H
        refine aw_region (es := [_, _, _, _, _]) ⟨Step.plain rfl (does_move (.tmp 0) (.own 2) trivial), ⟨⟨rfl, trivial⟩, trivial, rfl⟩, rfl,
          Step.plain rfl (does_move (.tmp 1) (.int .i64 p1) trivial), ⟨⟨rfl, trivial⟩, trivial, rfl⟩, rfl,
          Step.plain rfl (does_sliceo 22 9 v22.length 78 2 p1.toNat v22.length (fun j => (e_api_Wait (v22.getD j z_api_Wait))) (some ((.tmp 79), .i64, p1)) none _ _ el22 rfl rfl trivial trivial (Int.toNat_of_nonneg h23.1).symm rfl (by omega) (by omega)), ⟨⟨rfl, rfl, trivial⟩, ⟨rfl, trivial⟩, rfl⟩, rfl,
          Step.plain rfl (does_move (.tmp 2) (e_s_api_Wait p2) trivial), ⟨⟨rfl, trivial⟩, trivial, rfl⟩, rfl,
          Step.plain rfl (does_copyL e_api_Wait z_api_Wait v22 p2 22 22 9 80 81 2 p1.toNat (v22.length - p1.toNat) el22 (by decide) h24), ⟨⟨rfl, rfl, trivial⟩, ⟨rfl, trivial⟩, rfl⟩, rfl, rfl⟩ ?_
        refine aw_cov (cov_prune (s1 := ⟨[(0, (.own 2))], [(2, some (.arr 9 (ovl v22 p1.toNat (p2.take (v22.length - p1.toNat))).length fun j => (e_api_Wait ((ovl v22 p1.toNat (p2.take (v22.length - p1.toNat))).getD j z_api_Wait))))], 3⟩) ⟨rfl, trivial⟩ ⟨rfl, trivial⟩ (Nat.le_refl _)) ?_
        refine aw_region (es := [_, _]) ⟨Step.plain rfl (does_move (.tmp 0) (.own 2) trivial), ⟨⟨rfl, trivial⟩, trivial, rfl⟩, rfl,
          Step.plain rfl (does_assign (.tmp 83) (.own 2) trivial), ⟨⟨rfl, trivial⟩, trivial, rfl⟩, rfl, rfl⟩ ?_
        refine aw_cov (cov_prune (s1 := ⟨[(6, (.own 2))], [(2, some (.arr 9 (ovl v22 p1.toNat (p2.take (v22.length - p1.toNat))).length fun j => (e_api_Wait ((ovl v22 p1.toNat (p2.take (v22.length - p1.toNat))).getD j z_api_Wait))))], 3⟩) ⟨rfl, trivial⟩ ⟨rfl, trivial⟩ (Nat.le_refl _)) ?_
        refine aw_ret ?_
        refine rt_then ?_
        exact fun a w hr => ⟨_, [(.own 0)], reach_of hr (cov_to (s1 := ⟨[(6, (.own 0))], [(0, some (.arr 9 (ovl v22 p1.toNat (p2.take (v22.length - p1.toNat))).length fun j => (e_api_Wait ((ovl v22 p1.toNat (p2.take (v22.length - p1.toNat))).getD j z_api_Wait))))], 1⟩) (fun i => match i with | 0 => 2 | k => k) [] ⟨⟨_, rfl, .own 0 _ _ (Nat.le_of_ble_eq_true rfl) rfl rfl (Box.like_refl _)⟩, trivial⟩ ⟨⟨Nat.le_of_ble_eq_true rfl, _, _, rfl, rfl, boxTo_arr (fun _ => (d_api_Wait _))⟩, trivial⟩ rfl rfl), ⟨rfl, trivial⟩, by decide, by cases H; rfl, by cases H; exact ⟨rfl, trivial⟩, Nat.le_of_ble_eq_true rfl⟩

theorem queue_put_spec (p0 : (_root_.List api_Wait)) (p1 : api_Wait) (r : (_root_.List api_Wait)) (H : queue_put p0 p1 = some r) : FSpecO Try.prog 28 [(.own 0), (e_api_Wait p1)] [(0, some (.arr 9 p0.length fun j => (e_api_Wait (p0.getD j z_api_Wait))))] 1 (.own 0) [(0, some (.arr 9 r.length fun j => (e_api_Wait (r.getD j z_api_Wait))))] 1 := by
  refine specO_of (fn := Try.f28) (args := [(.own 0), (e_api_Wait p1)]) Try.func28 rfl (Nat.le_of_ble_eq_true rfl) ?_
  rintro ⟨G, w0, W, S, Sp⟩ hG
  cases hG
  unfold queue_put at H
  refine aw_region (es := [_, _]) ⟨Step.plain rfl (does_box 47 (.tmp 1) 1 (e_api_Wait p1) trivial rfl), ⟨⟨rfl, trivial⟩, trivial, rfl⟩, rfl,
    Step.plain rfl (does_nil false 2 9 (fun j => (e_api_Wait (([] : _root_.List api_Wait).getD j z_api_Wait)))), ⟨trivial, trivial, rfl⟩, rfl, rfl⟩ ?_
  refine aw_cov (cov_prune (s1 := ⟨[(0, (.own 0)), (3, (.ptr 1 0 []))], [(0, some (.arr 9 p0.length fun j => (e_api_Wait (p0.getD j z_api_Wait)))), (1, some (.var (e_api_Wait p1)))], 3⟩) ⟨rfl, rfl, trivial⟩ ⟨rfl, rfl, trivial⟩ (Nat.le_refl _)) ?_
  refine aw_seq ?_
  obtain ⟨v1, h2, H⟩ := bnd H
  refine aw_region (es := [_, _, _]) ⟨Step.plain rfl (does_move (.tmp 0) (.own 0) trivial), ⟨⟨rfl, trivial⟩, trivial, rfl⟩, rfl,
    Step.plain rfl (does_makeFunc 35 [(.tmp 3)] [(.ptr 1 0 [])] #[(.tmp 3)] rfl ⟨trivial, trivial⟩), ⟨⟨rfl, trivial⟩, trivial, rfl⟩, rfl,
    Step.plain rfl (does_call 34 0 (fun _ => .any) (.func 34) [(.tmp 6), (.tmp 7)] [(.own 0), (.fn 35 1 (fun j => ([(.ptr 1 0 [])] : _root_.List V).getD j (.bool false)))] [(0, (.arr 9 p0.length fun j => (e_api_Wait (p0.getD j z_api_Wait)))), (1, (.var (e_api_Wait p1)))] true [(e_s_api_Wait p0), (.fn 35 1 (fun j => ([.cptr (e_api_Wait p1)] : _root_.List V).getD j (.bool false)))] (.bool v1) _ _ rfl fo34 rfl ⟨trivial, trivial, trivial⟩ ⟨.own 0 _ _ _ (.head _) rfl (fun _ => (d_api_Wait _)), .fn _ _ _ _ (fun j hj => match j, hj with | 0, _ => .ptr 1 0 [] (.var (e_api_Wait p1)) (e_api_Wait p1) (.tail _ (.head _)) trivial rfl rfl (d_api_Wait p1) | k + 1, hj => absurd hj (by omega)), trivial⟩ (slices_ContainsFunc_api_Wait_api_Wait_spec p0 (fun z0 => queue_put_1 z0 p1) 35 1 (fun j => ([.cptr (e_api_Wait p1)] : _root_.List V).getD j (.bool false)) fo35 (fun j => match j with | 0 => .inl (.inr ⟨(e_api_Wait p1), (d_api_Wait p1), rfl⟩) | _ + 1 => .inl (.inl trivial)) (fun z0 r h => queue_put_1_spec z0 p1 r h) _ h2) trivial), ⟨⟨rfl, rfl, trivial⟩, ⟨rfl, rfl, trivial⟩, rfl⟩, rfl, rfl⟩ ?_
  refine aw_cov (cov_prune (s1 := ⟨[(0, (.own 0)), (3, (.ptr 1 0 [])), (8, (.bool v1))], [(0, some (.arr 9 p0.length fun j => (e_api_Wait (p0.getD j z_api_Wait)))), (1, some (.var (e_api_Wait p1)))], 3⟩) ⟨rfl, rfl, rfl, trivial⟩ ⟨rfl, rfl, trivial⟩ (Nat.le_refl _)) ?_
  refine aw_cond rfl (fun hc => ?_) (fun hc => ?_)
  · replace H := ite_t hc H
    refine aw_region (es := [_, _]) ⟨Step.plain rfl (does_move (.tmp 0) (.own 0) trivial), ⟨⟨rfl, trivial⟩, trivial, rfl⟩, rfl,
      Step.plain rfl (does_assign (.tmp 9) (.own 0) trivial), ⟨⟨rfl, trivial⟩, trivial, rfl⟩, rfl, rfl⟩ ?_
    refine aw_cov (cov_prune (s1 := ⟨[(4, (.own 0))], [(0, some (.arr 9 p0.length fun j => (e_api_Wait (p0.getD j z_api_Wait))))], 3⟩) ⟨rfl, trivial⟩ ⟨rfl, trivial⟩ (Nat.le_refl _)) ?_
    refine aw_ret ?_
    refine rt_then ?_
    exact fun a w hr => ⟨_, [(.own 0)], reach_of hr (cov_to (s1 := ⟨[(4, (.own 0))], [(0, some (.arr 9 p0.length fun j => (e_api_Wait (p0.getD j z_api_Wait))))], 1⟩) (fun i => match i with | 0 => 0 | k => k) [] ⟨⟨_, rfl, .own 0 _ _ (Nat.le_of_ble_eq_true rfl) rfl rfl (Box.like_refl _)⟩, trivial⟩ ⟨⟨Nat.le_of_ble_eq_true rfl, _, _, rfl, rfl, boxTo_arr (fun _ => (d_api_Wait _))⟩, trivial⟩ rfl rfl), ⟨rfl, trivial⟩, by decide, by cases H; rfl, by cases H; exact ⟨rfl, trivial⟩, Nat.le_of_ble_eq_true rfl⟩
  · replace H := ite_f hc H
    refine aw_skip ?_
    refine nx_seq ?_
    obtain ⟨v3, h4, H⟩ := bnd H
    refine aw_region (es := [_, _, _, _]) ⟨Step.plain rfl (does_move (.tmp 0) (.own 0) trivial), ⟨⟨rfl, trivial⟩, trivial, rfl⟩, rfl,
      Step.plain rfl (does_makeFunc 37 [(.tmp 3)] [(.ptr 1 0 [])] #[(.tmp 3)] rfl ⟨trivial, trivial⟩), ⟨⟨rfl, trivial⟩, trivial, rfl⟩, rfl,
      Step.plain rfl (does_call 36 0 (fun _ => .any) (.func 36) [(.tmp 10), (.tmp 11)] [(.own 0), (.fn 37 1 (fun j => ([(.ptr 1 0 [])] : _root_.List V).getD j (.bool false)))] [(0, (.arr 9 p0.length fun j => (e_api_Wait (p0.getD j z_api_Wait)))), (1, (.var (e_api_Wait p1)))] true [(e_s_api_Wait p0), (.fn 37 1 (fun j => ([.cptr (e_api_Wait p1)] : _root_.List V).getD j (.bool false)))] (.int .i64 v3) _ _ rfl fo36 rfl ⟨trivial, trivial, trivial⟩ ⟨.own 0 _ _ _ (.head _) rfl (fun _ => (d_api_Wait _)), .fn _ _ _ _ (fun j hj => match j, hj with | 0, _ => .ptr 1 0 [] (.var (e_api_Wait p1)) (e_api_Wait p1) (.tail _ (.head _)) trivial rfl rfl (d_api_Wait p1) | k + 1, hj => absurd hj (by omega)), trivial⟩ (slices_IndexFunc_api_Wait_api_Wait_spec p0 (fun z0 => queue_put_2 z0 p1) 37 1 (fun j => ([.cptr (e_api_Wait p1)] : _root_.List V).getD j (.bool false)) fo37 (fun j => match j with | 0 => .inl (.inr ⟨(e_api_Wait p1), (d_api_Wait p1), rfl⟩) | _ + 1 => .inl (.inl trivial)) (fun z0 r h => queue_put_2_spec z0 p1 r h) _ h4) trivial), ⟨⟨rfl, rfl, trivial⟩, ⟨rfl, rfl, trivial⟩, rfl⟩, rfl,
      Step.plain rfl (does_assign (.tmp 12) (.int .i64 v3) trivial), ⟨⟨rfl, trivial⟩, trivial, rfl⟩, rfl, rfl⟩ ?_
    refine aw_cov (cov_prune (s1 := ⟨[(0, (.own 0)), (3, (.ptr 1 0 [])), (5, (.int .i64 v3))], [(0, some (.arr 9 p0.length fun j => (e_api_Wait (p0.getD j z_api_Wait)))), (1, some (.var (e_api_Wait p1)))], 3⟩) ⟨rfl, rfl, rfl, trivial⟩ ⟨rfl, rfl, trivial⟩ (Nat.le_refl _)) ?_
    refine aw_seq ?_
    refine aw_region (es := [_, _]) ⟨Step.plain rfl (does_move (.tmp 5) (.int .i64 v3) trivial), ⟨⟨rfl, trivial⟩, trivial, rfl⟩, rfl,
      Step.plain rfl (does_bin .lss 3 3 (.tmp 13) (.const (.int .i64 0)) .i64 v3 0 (.bool (decide (v3 < 0))) trivial (fun _ => rfl) (bin_lss _ _ _ _)), ⟨⟨rfl, trivial⟩, trivial, rfl⟩, rfl, rfl⟩ ?_
    refine aw_cov (cov_prune (s1 := ⟨[(0, (.own 0)), (3, (.ptr 1 0 [])), (5, (.int .i64 v3)), (14, (.bool (decide (v3 < 0))))], [(0, some (.arr 9 p0.length fun j => (e_api_Wait (p0.getD j z_api_Wait)))), (1, some (.var (e_api_Wait p1)))], 3⟩) ⟨rfl, rfl, rfl, rfl, trivial⟩ ⟨rfl, rfl, trivial⟩ (Nat.le_refl _)) ?_
    refine aw_jn (fun x6 : Int => (⟨[(0, (.own 0)), (3, (.ptr 1 0 [])), (5, (.int .i64 x6))], [(0, some (.arr 9 p0.length fun j => (e_api_Wait (p0.getD j z_api_Wait)))), (1, some (.var (e_api_Wait p1)))], 3⟩ : St)) H (fun x6 H => ?_) (fun j5 H => ?_)
    · refine nx_seq ?_
      obtain ⟨v7, h8, H⟩ := bnd H
      refine aw_region (es := [_, _, _, _, _, _]) ⟨Step.plain rfl (does_move (.tmp 0) (.own 0) trivial), ⟨⟨rfl, trivial⟩, trivial, rfl⟩, rfl,
        Step.plain rfl (does_move (.tmp 5) (.int .i64 x6) trivial), ⟨⟨rfl, trivial⟩, trivial, rfl⟩, rfl,
        Step.plain rfl (does_load 47 3 1 0 [] (.var (e_api_Wait p1)) (e_api_Wait p1) trivial rfl rfl ty47), ⟨⟨rfl, trivial⟩, ⟨rfl, trivial⟩, rfl⟩, rfl,
        Step.plain rfl (does_buildSl 22 1 9 (e_api_Wait z_api_Wait) (fun j => (e_api_Wait (([p1] : _root_.List api_Wait).getD j z_api_Wait))) #[(0, (.tmp 19))] [(0, (.tmp 19))] [(0, (e_api_Wait p1))] rfl so22 (by decide) ⟨⟨rfl, trivial⟩, trivial⟩ ⟨⟨Nat.le_of_ble_eq_true rfl, rfl, rfl⟩, trivial⟩ (fun j h => match j, h with | 0, _ => rfl | k + 1, h => absurd h (by omega))), ⟨⟨rfl, trivial⟩, trivial, rfl⟩, rfl,
        Step.plain rfl (does_callO 38 0 (fun _ => .any) (.func 38) [(.tmp 17), (.tmp 18), (.tmp 20)] [(.own 0), (.int .i64 x6), (e_s_api_Wait ([p1] : _root_.List api_Wait))] [] [(0, (.arr 9 p0.length fun j => (e_api_Wait (p0.getD j z_api_Wait))))] true [(.own 0), (.int .i64 x6), (e_s_api_Wait ([p1] : _root_.List api_Wait))] _ (.own 3) _ 3 1 _ _ rfl fo38 rfl ⟨trivial, trivial, trivial, trivial⟩ ⟨(.mv 0 _ rfl), .ro _ _ (.data _ trivial), .ro _ _ (.data _ (d_s_api_Wait ([p1] : _root_.List api_Wait))), trivial⟩ (slices_Insert_api_Wait_api_Wait_spec p0 x6 ([p1] : _root_.List api_Wait) _ h8) rfl (by simp) rfl ⟨(fun _ => (f_api_Wait _)), trivial⟩ ⟨⟨Nat.le_of_ble_eq_true rfl, _, rfl, fun _ => (f_api_Wait _)⟩, trivial⟩ (.own 0 (Nat.le_of_ble_eq_true rfl))), ⟨⟨rfl, rfl, rfl, trivial⟩, ⟨rfl, trivial⟩, rfl⟩, rfl,
        Step.plain rfl (does_assign (.tmp 21) (.own 3) trivial), ⟨⟨rfl, trivial⟩, trivial, rfl⟩, rfl, rfl⟩ ?_
      refine aw_cov (cov_prune (s1 := ⟨[(4, (.own 3))], [(3, some (.arr 9 v7.length fun j => (e_api_Wait (v7.getD j z_api_Wait))))], 4⟩) ⟨rfl, trivial⟩ ⟨rfl, trivial⟩ (Nat.le_refl _)) ?_
      refine aw_ret ?_
      exact fun a w hr => ⟨_, [(.own 0)], reach_of hr (cov_to (s1 := ⟨[(4, (.own 0))], [(0, some (.arr 9 v7.length fun j => (e_api_Wait (v7.getD j z_api_Wait))))], 1⟩) (fun i => match i with | 0 => 3 | k => k) [] ⟨⟨_, rfl, .own 0 _ _ (Nat.le_of_ble_eq_true rfl) rfl rfl (Box.like_refl _)⟩, trivial⟩ ⟨⟨Nat.le_of_ble_eq_true rfl, _, _, rfl, rfl, boxTo_arr (fun _ => (d_api_Wait _))⟩, trivial⟩ rfl rfl), ⟨rfl, trivial⟩, by decide, by cases H; rfl, by cases H; exact ⟨rfl, trivial⟩, Nat.le_of_ble_eq_true rfl⟩
    · refine aw_cond rfl (fun hc => ?_) (fun hc => ?_)
      · replace H := ite_t hc H
        refine aw_region1 (es := [_, _, _]) ⟨Step.plain rfl (does_move (.tmp 0) (.own 0) trivial), ⟨⟨rfl, trivial⟩, trivial, rfl⟩, rfl,
          Step.plain rfl (does_leno 22 9 p0.length 15 0 (fun j => (e_api_Wait (p0.getD j z_api_Wait))) el22), ⟨⟨rfl, trivial⟩, ⟨rfl, trivial⟩, rfl⟩, rfl,
          Step.plain rfl (does_assign (.tmp 16) (.int .i64 (p0.length : Int)) trivial), ⟨⟨rfl, trivial⟩, trivial, rfl⟩, rfl, rfl⟩ ?_
        exact nx_join ((p0.length : Int)) H (cov_prune ⟨rfl, rfl, rfl, trivial⟩ ⟨rfl, rfl, trivial⟩ (Nat.le_of_ble_eq_true rfl))
      · replace H := ite_f hc H
        refine aw_skip ?_
        exact nx_join (v3) H (cov_prune ⟨rfl, rfl, rfl, trivial⟩ ⟨rfl, rfl, trivial⟩ (Nat.le_of_ble_eq_true rfl))

theorem queue_Add_spec (p0 : (_root_.List api_Wait)) (p1 : Int) (p2 : Int) (p3 : (_root_.List api_Entry)) (r : (_root_.List api_Wait)) (H : queue_Add p0 p1 p2 p3 = some r) : FSpecO Try.prog 12 [(e_s_api_Wait p0), (.int .i64 p1), (.int .u32 p2), (e_s_api_Entry p3)] [] 0 (.own 0) [(0, some (.arr 9 r.length fun j => (e_api_Wait (r.getD j z_api_Wait))))] 1 := by
  refine specO_of (fn := Try.f12) (args := [(e_s_api_Wait p0), (.int .i64 p1), (.int .u32 p2), (e_s_api_Entry p3)]) Try.func12 rfl (Nat.le_of_ble_eq_true rfl) ?_
  rintro ⟨G, w0, W, S, Sp⟩ hG
  cases hG
  unfold queue_Add at H
  refine aw_region (es := [_]) ⟨Step.plain rfl (does_nil false 0 9 (fun j => (e_api_Wait (([] : _root_.List api_Wait).getD j z_api_Wait)))), ⟨trivial, trivial, rfl⟩, rfl, rfl⟩ ?_
  refine aw_cov (cov_prune (s1 := ⟨[(0, (e_s_api_Wait p0)), (1, (.int .i64 p1)), (2, (.int .u32 p2)), (3, (e_s_api_Entry p3))], [], 1⟩) ⟨rfl, rfl, rfl, rfl, trivial⟩ trivial (Nat.le_refl _)) ?_
  obtain ⟨v1, h2, H⟩ := bnd H
  refine aw_region (es := [_, _, _]) ⟨Step.plain rfl (does_move (.tmp 0) (e_s_api_Wait p0) trivial), ⟨⟨rfl, trivial⟩, trivial, rfl⟩, rfl,
    Step.plain rfl (does_callO 27 0 (fun _ => .any) (.func 27) [(.tmp 12)] [(e_s_api_Wait p0)] [] [] true [(e_s_api_Wait p0)] _ (.own 1) _ 1 1 _ _ rfl fo27 rfl ⟨trivial, trivial⟩ ⟨.ro _ _ (.data _ (d_s_api_Wait p0)), trivial⟩ (slices_Clone_api_Wait_api_Wait_spec p0 _ h2) rfl (by simp) rfl trivial ⟨⟨Nat.le_of_ble_eq_true rfl, _, rfl, fun _ => (f_api_Wait _)⟩, trivial⟩ (.own 0 (Nat.le_of_ble_eq_true rfl))), ⟨⟨rfl, trivial⟩, trivial, rfl⟩, rfl,
    Step.plain rfl (does_assign (.tmp 13) (.own 1) trivial), ⟨⟨rfl, trivial⟩, trivial, rfl⟩, rfl, rfl⟩ ?_
  refine aw_cov (cov_prune (s1 := ⟨[(1, (.int .i64 p1)), (2, (.int .u32 p2)), (3, (e_s_api_Entry p3)), (9, (.own 1))], [(1, some (.arr 9 v1.length fun j => (e_api_Wait (v1.getD j z_api_Wait))))], 2⟩) ⟨rfl, rfl, rfl, rfl, trivial⟩ ⟨rfl, trivial⟩ (Nat.le_refl _)) ?_
  refine aw_seq ?_
  refine aw_region (es := [_, _, _]) ⟨Step.plain rfl (does_move (.tmp 3) (e_s_api_Entry p3) trivial), ⟨⟨rfl, trivial⟩, trivial, rfl⟩, rfl,
    Step.plain rfl (does_lens 24 6 p3.length 14 (fun j => (e_api_Entry (p3.getD j z_api_Entry))) el24), ⟨⟨rfl, trivial⟩, trivial, rfl⟩, rfl,
    Step.plain rfl (does_move (.const (.int .i64 0)) (.int .i64 0) (fun _ => rfl)), ⟨trivial, trivial, rfl⟩, rfl, rfl⟩ ?_
  refine aw_cov (cov_prune (s1 := ⟨[(1, (.int .i64 p1)), (2, (.int .u32 p2)), (9, (.own 1)), (14, (e_s_api_Entry p3)), (15, (.int .i64 (p3.length : Int))), (16, (.int .i64 0))], [(1, some (.arr 9 v1.length fun j => (e_api_Wait (v1.getD j z_api_Wait))))], 2⟩) ⟨rfl, rfl, rfl, rfl, rfl, rfl, trivial⟩ ⟨rfl, trivial⟩ (Nat.le_refl _)) ?_
  obtain ⟨wn4, hwn4, Hrn4⟩ := bnd H
  refine aw_meet (fun y11 : _root_.List api_Wait => (⟨[(9, (.own 1))], [(1, some (.arr 9 y11.length fun j => (e_api_Wait (y11.getD j z_api_Wait))))], 2⟩ : St)) (fun y11 => Fl.nx y11 = wn4) (fun y11 hy => ?_) (aw_block (aw_runs (fun x3 : Int × _root_.List api_Wait => (⟨[(1, (.int .i64 p1)), (2, (.int .u32 p2)), (9, (.own 1)), (14, (e_s_api_Entry p3)), (15, (.int .i64 (p3.length : Int))), (16, (.int .i64 x3.1))], [(1, some (.arr 9 x3.2.length fun j => (e_api_Wait (x3.2.getD j z_api_Wait))))], 2⟩ : St)) hwn4 (cov_prune ⟨rfl, rfl, rfl, rfl, rfl, rfl, trivial⟩ ⟨rfl, trivial⟩ (Nat.le_of_ble_eq_true rfl)) (fun x3 st H hsn4 => ?_)))
  · have H := nx_of hy Hrn4
    refine nx_seq ?_
    refine aw_region (es := [_, _]) ⟨Step.plain rfl (does_move (.tmp 9) (.own 1) trivial), ⟨⟨rfl, trivial⟩, trivial, rfl⟩, rfl,
      Step.plain rfl (does_assign (.tmp 33) (.own 1) trivial), ⟨⟨rfl, trivial⟩, trivial, rfl⟩, rfl, rfl⟩ ?_
    refine aw_cov (cov_prune (s1 := ⟨[(8, (.own 1))], [(1, some (.arr 9 y11.length fun j => (e_api_Wait (y11.getD j z_api_Wait))))], 2⟩) ⟨rfl, trivial⟩ ⟨rfl, trivial⟩ (Nat.le_refl _)) ?_
    refine aw_ret ?_
    exact fun a w hr => ⟨_, [(.own 0)], reach_of hr (cov_to (s1 := ⟨[(8, (.own 0))], [(0, some (.arr 9 y11.length fun j => (e_api_Wait (y11.getD j z_api_Wait))))], 1⟩) (fun i => match i with | 0 => 1 | k => k) [] ⟨⟨_, rfl, .own 0 _ _ (Nat.le_of_ble_eq_true rfl) rfl rfl (Box.like_refl _)⟩, trivial⟩ ⟨⟨Nat.le_of_ble_eq_true rfl, _, _, rfl, rfl, boxTo_arr (fun _ => (d_api_Wait _))⟩, trivial⟩ rfl rfl), ⟨rfl, trivial⟩, by decide, by cases H; rfl, by cases H; exact ⟨rfl, trivial⟩, Nat.le_of_ble_eq_true rfl⟩
  · refine aw_region (es := [_]) ⟨Step.plain rfl (does_bin .lss 3 3 (.tmp 16) (.tmp 15) .i64 x3.1 (p3.length : Int) (.bool (decide (x3.1 < (p3.length : Int)))) trivial trivial (bin_lss _ _ _ _)), ⟨⟨rfl, rfl, trivial⟩, trivial, rfl⟩, rfl, rfl⟩ ?_
    refine aw_cov (cov_prune (s1 := ⟨[(1, (.int .i64 p1)), (2, (.int .u32 p2)), (9, (.own 1)), (14, (e_s_api_Entry p3)), (15, (.int .i64 (p3.length : Int))), (16, (.int .i64 x3.1)), (17, (.bool (decide (x3.1 < (p3.length : Int)))))], [(1, some (.arr 9 x3.2.length fun j => (e_api_Wait (x3.2.getD j z_api_Wait))))], 2⟩) ⟨rfl, rfl, rfl, rfl, rfl, rfl, rfl, trivial⟩ ⟨rfl, trivial⟩ (Nat.le_refl _)) ?_
    refine aw_seq ?_
    refine aw_cond rfl (fun hc => ?_) (fun hc => ?_)
    · replace H := ite_t hc H
      refine aw_skip ?_
      refine nx_seq ?_
      refine aw_seq ?_
      refine aw_jn (fun x10 : _root_.List api_Wait => (⟨[(1, (.int .i64 p1)), (2, (.int .u32 p2)), (9, (.own 1)), (14, (e_s_api_Entry p3)), (15, (.int .i64 (p3.length : Int))), (16, (.int .i64 x3.1))], [(1, some (.arr 9 x10.length fun j => (e_api_Wait (x10.getD j z_api_Wait))))], 4⟩ : St)) H (fun x10 H => ?_) (fun j5 H => ?_)
      · refine nx_seq ?_
        refine aw_region1 (es := [_, _]) ⟨Step.plain rfl (does_bin .add 3 3 (.tmp 16) (.const (.int .i64 1)) .i64 x3.1 1 (.int .i64 (IntKind.i64.wrap (x3.1 + 1))) trivial (fun _ => rfl) (bin_add _ _ _ _)), ⟨⟨rfl, trivial⟩, trivial, rfl⟩, rfl,
          Step.plain rfl (does_move (.tmp 32) (.int .i64 (IntKind.i64.wrap (x3.1 + 1))) trivial), ⟨⟨rfl, trivial⟩, trivial, rfl⟩, rfl, rfl⟩ ?_
        exact nx_loop ((IntKind.i64.wrap (x3.1 + 1)), x10) H (cov_of (fun i => match i with | 1 => 1 | k => k) ⟨⟨_, rfl, ⟨rfl, trivial⟩⟩, ⟨_, rfl, ⟨rfl, trivial⟩⟩, ⟨_, rfl, ⟨rfl, Nat.le_of_ble_eq_true rfl⟩⟩, ⟨_, rfl, ⟨rfl, (d_s_api_Entry _).plain⟩⟩, ⟨_, rfl, ⟨rfl, trivial⟩⟩, ⟨_, rfl, ⟨rfl, trivial⟩⟩, trivial⟩ ⟨⟨Nat.le_of_ble_eq_true rfl, _, _, rfl, rfl, ⟨rfl, rfl, fun _ => .inl ⟨rfl, (d_api_Wait _).plain⟩⟩⟩, trivial⟩ rfl)
      · refine aw_block ?_
        obtain ⟨h6, H⟩ := ib_of H
        refine aw_region (es := [_, _, _, _, _, _]) ⟨Step.plain rfl (does_move (.tmp 16) (.int .i64 x3.1) trivial), ⟨⟨rfl, trivial⟩, trivial, rfl⟩, rfl,
          Step.plain rfl (does_indexAddrs 24 6 p3.length 14 (fun j => (e_api_Entry (p3.getD j z_api_Entry))) (.tmp 16) .i64 x3.1 el24 trivial h6.1 h6.2), ⟨⟨rfl, rfl, trivial⟩, trivial, rfl⟩, rfl,
          Step.plain rfl (does_loadc 45 19 (e_api_Entry (p3.getD x3.1.toNat z_api_Entry)) ty45), ⟨⟨rfl, trivial⟩, trivial, rfl⟩, rfl,
          Step.plain rfl (does_alloc 45 2 (e_api_Entry z_api_Entry) zr45), ⟨trivial, trivial, rfl⟩, rfl,
          Step.plain rfl (does_assign (.tmp 18) (.int .i64 x3.1) trivial), ⟨⟨rfl, trivial⟩, trivial, rfl⟩, rfl,
          Step.plain rfl (does_store 45 11 (.tmp 20) 2 0 [] (.var (e_api_Entry z_api_Entry)) (.var (e_api_Entry (p3.getD x3.1.toNat z_api_Entry))) (e_api_Entry (p3.getD x3.1.toNat z_api_Entry)) true trivial rfl trivial rfl rfl rfl ty45), ⟨⟨rfl, rfl, trivial⟩, ⟨rfl, trivial⟩, rfl⟩, rfl, rfl⟩ ?_
        refine aw_cov (cov_prune (s1 := ⟨[(1, (.int .i64 p1)), (2, (.int .u32 p2)), (9, (.own 1)), (14, (e_s_api_Entry p3)), (15, (.int .i64 (p3.length : Int))), (16, (.int .i64 x3.1)), (11, (.ptr 2 0 [])), (10, (.int .i64 x3.1))], [(1, some (.arr 9 x3.2.length fun j => (e_api_Wait (x3.2.getD j z_api_Wait)))), (2, some (.var (e_api_Entry (p3.getD x3.1.toNat z_api_Entry))))], 3⟩) ⟨rfl, rfl, rfl, rfl, rfl, rfl, rfl, rfl, trivial⟩ ⟨rfl, rfl, trivial⟩ (Nat.le_refl _)) ?_
        refine aw_region (es := [_, _, _]) ⟨Step.plain rfl (does_load 45 11 2 0 [] (.var (e_api_Entry (p3.getD x3.1.toNat z_api_Entry))) (e_api_Entry (p3.getD x3.1.toNat z_api_Entry)) trivial rfl rfl ty45), ⟨⟨rfl, trivial⟩, ⟨rfl, trivial⟩, rfl⟩, rfl,
          Step.plain rfl (does_buildT 45 #[] [] [] (.st [1, 1, 1, 1, 1, 1]) (c_api_Entry z_api_Entry) (c_api_Entry ({ Kind := 0, Service := 0, Group := 0, Session := 0, Number := 0, Text := ByteArray.empty } : api_Entry)) rfl bo45 trivial trivial (by funext j; match j with | 0 => rfl | 1 => rfl | 2 => rfl | 3 => rfl | 4 => rfl | 5 => rfl | _ + 6 => rfl)), ⟨trivial, trivial, rfl⟩, rfl,
          Step.plain rfl (does_eqT true 45 45 (.tmp 21) (.tmp 22) (e_api_Entry (p3.getD x3.1.toNat z_api_Entry)) (e_api_Entry ({ Kind := 0, Service := 0, Group := 0, Session := 0, Number := 0, Text := ByteArray.empty } : api_Entry)) (e_api_Entry z_api_Entry) (b_api_Entry (p3.getD x3.1.toNat z_api_Entry) ({ Kind := 0, Service := 0, Group := 0, Session := 0, Number := 0, Text := ByteArray.empty } : api_Entry)) rfl rfl trivial trivial eg45 sh45 (al_api_Entry _ _) (al_api_Entry _ _) (q_api_Entry _ _)), ⟨⟨rfl, rfl, trivial⟩, trivial, rfl⟩, rfl, rfl⟩ ?_
        obtain ⟨v7, hv7, H⟩ := lt_of H
        refine aw_cov (cov_prune (s1 := ⟨[(1, (.int .i64 p1)), (2, (.int .u32 p2)), (9, (.own 1)), (14, (e_s_api_Entry p3)), (15, (.int .i64 (p3.length : Int))), (16, (.int .i64 x3.1)), (11, (.ptr 2 0 [])), (10, (.int .i64 x3.1)), (23, (.bool v7))], [(1, some (.arr 9 x3.2.length fun j => (e_api_Wait (x3.2.getD j z_api_Wait)))), (2, some (.var (e_api_Entry (p3.getD x3.1.toNat z_api_Entry))))], 3⟩) ⟨rfl, rfl, rfl, rfl, rfl, rfl, rfl, rfl, (by subst hv7; rfl), trivial⟩ ⟨rfl, rfl, trivial⟩ (Nat.le_refl _)) ?_
        refine aw_cond rfl (fun hc => ?_) (fun hc => ?_)
        · replace H := ite_t hc H
          obtain ⟨v8, h9, H⟩ := bnd H
          refine aw_region1 (es := [_, _, _, _, _, _, _, _, _]) ⟨Step.plain rfl (does_move (.tmp 9) (.own 1) trivial), ⟨⟨rfl, trivial⟩, trivial, rfl⟩, rfl,
            Step.plain rfl (does_move (.tmp 2) (.int .u32 p2) trivial), ⟨⟨rfl, trivial⟩, trivial, rfl⟩, rfl,
            Step.plain rfl (does_move (.tmp 1) (.int .i64 p1) trivial), ⟨⟨rfl, trivial⟩, trivial, rfl⟩, rfl,
            Step.plain rfl (does_move (.tmp 10) (.int .i64 x3.1) trivial), ⟨⟨rfl, trivial⟩, trivial, rfl⟩, rfl,
            Step.plain rfl (does_buildT 42 #[(0, (.tmp 25)), (1, (.tmp 26)), (2, (.tmp 27))] [(0, (.tmp 25)), (1, (.tmp 26)), (2, (.tmp 27))] [(0, (.int .u32 p2)), (1, (.int .i64 p1)), (2, (.int .i64 x3.1))] (.st [1, 1, 1]) (c_api_Place z_api_Place) (c_api_Place ({ Round := p2, From := p1, Slot := x3.1 } : api_Place)) rfl bo42 ⟨⟨rfl, trivial⟩, ⟨rfl, trivial⟩, ⟨rfl, trivial⟩, trivial⟩ ⟨⟨Nat.le_of_ble_eq_true rfl, rfl, rfl⟩, ⟨Nat.le_of_ble_eq_true rfl, rfl, rfl⟩, ⟨Nat.le_of_ble_eq_true rfl, rfl, rfl⟩, trivial⟩ (by funext j; match j with | 0 => rfl | 1 => rfl | 2 => rfl | _ + 3 => rfl)), ⟨⟨rfl, rfl, rfl, trivial⟩, trivial, rfl⟩, rfl,
            Step.plain rfl (does_load 45 11 2 0 [] (.var (e_api_Entry (p3.getD x3.1.toNat z_api_Entry))) (e_api_Entry (p3.getD x3.1.toNat z_api_Entry)) trivial rfl rfl ty45), ⟨⟨rfl, trivial⟩, ⟨rfl, trivial⟩, rfl⟩, rfl,
            Step.plain rfl (does_buildT 47 #[(0, (.tmp 28)), (1, (.tmp 29))] [(0, (.tmp 28)), (1, (.tmp 29))] [(0, (e_api_Place ({ Round := p2, From := p1, Slot := x3.1 } : api_Place))), (1, (e_api_Entry (p3.getD x3.1.toNat z_api_Entry)))] (.st [3, 6]) (c_api_Wait z_api_Wait) (c_api_Wait ({ Place := ({ Round := p2, From := p1, Slot := x3.1 } : api_Place), Entry := p3.getD x3.1.toNat z_api_Entry } : api_Wait)) rfl bo47 ⟨⟨rfl, trivial⟩, ⟨rfl, trivial⟩, trivial⟩ ⟨⟨Nat.le_of_ble_eq_true rfl, rfl, rfl⟩, ⟨Nat.le_of_ble_eq_true rfl, rfl, rfl⟩, trivial⟩ (by funext j; match j with | 0 => rfl | 1 => rfl | _ + 2 => rfl)), ⟨⟨rfl, rfl, trivial⟩, trivial, rfl⟩, rfl,
            Step.plain rfl (does_callO 28 0 (fun _ => .any) (.func 28) [(.tmp 24), (.tmp 30)] [(.own 1), (e_api_Wait ({ Place := ({ Round := p2, From := p1, Slot := x3.1 } : api_Place), Entry := p3.getD x3.1.toNat z_api_Entry } : api_Wait))] [] [(1, (.arr 9 x3.2.length fun j => (e_api_Wait (x3.2.getD j z_api_Wait))))] true [(.own 0), (e_api_Wait ({ Place := ({ Round := p2, From := p1, Slot := x3.1 } : api_Place), Entry := p3.getD x3.1.toNat z_api_Entry } : api_Wait))] _ (.own 3) _ 3 1 _ _ rfl fo28 rfl ⟨trivial, trivial, trivial⟩ ⟨(.mv 0 _ rfl), .ro _ _ (.data _ (d_api_Wait ({ Place := ({ Round := p2, From := p1, Slot := x3.1 } : api_Place), Entry := p3.getD x3.1.toNat z_api_Entry } : api_Wait))), trivial⟩ (queue_put_spec x3.2 ({ Place := ({ Round := p2, From := p1, Slot := x3.1 } : api_Place), Entry := p3.getD x3.1.toNat z_api_Entry } : api_Wait) _ h9) rfl (by simp) rfl ⟨(fun _ => (f_api_Wait _)), trivial⟩ ⟨⟨Nat.le_of_ble_eq_true rfl, _, rfl, fun _ => (f_api_Wait _)⟩, trivial⟩ (.own 0 (Nat.le_of_ble_eq_true rfl))), ⟨⟨rfl, rfl, trivial⟩, ⟨rfl, trivial⟩, rfl⟩, rfl,
            Step.plain rfl (does_assign (.tmp 31) (.own 3) trivial), ⟨⟨rfl, trivial⟩, trivial, rfl⟩, rfl, rfl⟩ ?_
          refine nx_blk ?_
          exact nx_join (v8) H (cov_of (fun i => match i with | 1 => 3 | k => k) ⟨⟨_, rfl, ⟨rfl, trivial⟩⟩, ⟨_, rfl, ⟨rfl, trivial⟩⟩, ⟨_, rfl, ⟨rfl, Nat.le_of_ble_eq_true rfl⟩⟩, ⟨_, rfl, ⟨rfl, (d_s_api_Entry _).plain⟩⟩, ⟨_, rfl, ⟨rfl, trivial⟩⟩, ⟨_, rfl, ⟨rfl, trivial⟩⟩, trivial⟩ ⟨⟨Nat.le_of_ble_eq_true rfl, _, _, rfl, rfl, ⟨rfl, rfl, fun _ => .inl ⟨rfl, (d_api_Wait _).plain⟩⟩⟩, trivial⟩ rfl)
        · replace H := ite_f hc H
          refine aw_skip ?_
          refine nx_blk ?_
          exact nx_join (x3.2) H (cov_of (fun i => match i with | 1 => 1 | k => k) ⟨⟨_, rfl, ⟨rfl, trivial⟩⟩, ⟨_, rfl, ⟨rfl, trivial⟩⟩, ⟨_, rfl, ⟨rfl, Nat.le_of_ble_eq_true rfl⟩⟩, ⟨_, rfl, ⟨rfl, (d_s_api_Entry _).plain⟩⟩, ⟨_, rfl, ⟨rfl, trivial⟩⟩, ⟨_, rfl, ⟨rfl, trivial⟩⟩, trivial⟩ ⟨⟨Nat.le_of_ble_eq_true rfl, _, _, rfl, rfl, ⟨rfl, rfl, fun _ => .inl ⟨rfl, (d_api_Wait _).plain⟩⟩⟩, trivial⟩ rfl)
    · replace H := ite_f hc H
      refine aw_exit ?_
      refine ex_then ?_
      refine ex_then ?_
      refine ex_here ?_
      exact nx_ljoin (x3.2) H hsn4 (cov_prune ⟨rfl, trivial⟩ ⟨rfl, trivial⟩ (Nat.le_of_ble_eq_true rfl))

theorem queue_Add_data (p0 : (_root_.List api_Wait)) (p1 : Int) (p2 : Int) (p3 : (_root_.List api_Entry)) (r : (_root_.List api_Wait)) (H : queue_Add p0 p1 p2 p3 = some r) : FSpec Try.prog 12 [(e_s_api_Wait p0), (.int .i64 p1), (.int .u32 p2), (e_s_api_Entry p3)] (e_s_api_Wait r) :=
  FSpecO.toData (fz := [0]) (queue_Add_spec p0 p1 p2 p3 r H) (d_s_api_Wait r) (.frz 0 _ _ _ rfl (fun _ => (d_api_Wait _)) (by decide))

theorem congresslaw22_two_spec (r : (_root_.List api_Wait)) (H : congresslaw22_two = some r) : FSpecO Try.prog 22 [] [] 0 (.own 0) [(0, some (.arr 9 r.length fun j => (e_api_Wait (r.getD j z_api_Wait))))] 1 := by
  refine specO_of (fn := Try.f22) (args := []) Try.func22 rfl (Nat.le_of_ble_eq_true rfl) ?_
  rintro ⟨G, w0, W, S, Sp⟩ hG
  cases hG
  unfold congresslaw22_two at H
  refine aw_region (es := [_]) ⟨Step.plain rfl (does_nil false 0 9 (fun j => (e_api_Wait (([] : _root_.List api_Wait).getD j z_api_Wait)))), ⟨trivial, trivial, rfl⟩, rfl, rfl⟩ ?_
  refine aw_cov (cov_prune (s1 := ⟨[], [], 1⟩) trivial trivial (Nat.le_refl _)) ?_
  obtain ⟨v1, h2, H⟩ := bnd H
  refine aw_region (es := [_, _, _, _]) ⟨Step.plain rfl (does_buildT 45 #[(0, (.const (.int .i64 1))), (1, (.const (.int .i64 2))), (5, (.const (.string (⟨#[98]⟩ : ByteArray))))] [(0, (.const (.int .i64 1))), (1, (.const (.int .i64 2))), (5, (.const (.string (⟨#[98]⟩ : ByteArray))))] [(0, (.int .i64 1)), (1, (.int .i64 2)), (5, (.str (⟨#[98]⟩ : ByteArray)))] (.st [1, 1, 1, 1, 1, 1]) (c_api_Entry z_api_Entry) (c_api_Entry ({ Kind := 1, Service := 2, Group := 0, Session := 0, Number := 0, Text := (⟨#[98]⟩ : ByteArray) } : api_Entry)) rfl bo45 ⟨⟨rfl, (fun _ => rfl)⟩, ⟨rfl, (fun _ => rfl)⟩, ⟨rfl, (fun _ => rfl)⟩, trivial⟩ ⟨⟨Nat.le_of_ble_eq_true rfl, rfl, rfl⟩, ⟨Nat.le_of_ble_eq_true rfl, rfl, rfl⟩, ⟨Nat.le_of_ble_eq_true rfl, rfl, rfl⟩, trivial⟩ (by funext j; match j with | 0 => rfl | 1 => rfl | 2 => rfl | 3 => rfl | 4 => rfl | 5 => rfl | _ + 6 => rfl)), ⟨trivial, trivial, rfl⟩, rfl,
    Step.plain rfl (does_buildSl 24 1 6 (e_api_Entry z_api_Entry) (fun j => (e_api_Entry (([({ Kind := 1, Service := 2, Group := 0, Session := 0, Number := 0, Text := (⟨#[98]⟩ : ByteArray) } : api_Entry)] : _root_.List api_Entry).getD j z_api_Entry))) #[(0, (.tmp 2))] [(0, (.tmp 2))] [(0, (e_api_Entry ({ Kind := 1, Service := 2, Group := 0, Session := 0, Number := 0, Text := (⟨#[98]⟩ : ByteArray) } : api_Entry)))] rfl so24 (by decide) ⟨⟨rfl, trivial⟩, trivial⟩ ⟨⟨Nat.le_of_ble_eq_true rfl, rfl, rfl⟩, trivial⟩ (fun j h => match j, h with | 0, _ => rfl | k + 1, h => absurd h (by omega))), ⟨⟨rfl, trivial⟩, trivial, rfl⟩, rfl,
    Step.plain rfl (does_callO 12 0 (fun _ => .any) (.func 12) [(.const (.slice none 0 0)), (.const (.int .i64 0)), (.const (.int .u32 2)), (.tmp 3)] [(e_s_api_Wait []), (.int .i64 0), (.int .u32 2), (e_s_api_Entry ([({ Kind := 1, Service := 2, Group := 0, Session := 0, Number := 0, Text := (⟨#[98]⟩ : ByteArray) } : api_Entry)] : _root_.List api_Entry))] [] [] true [(e_s_api_Wait []), (.int .i64 0), (.int .u32 2), (e_s_api_Entry ([({ Kind := 1, Service := 2, Group := 0, Session := 0, Number := 0, Text := (⟨#[98]⟩ : ByteArray) } : api_Entry)] : _root_.List api_Entry))] _ (.own 1) _ 1 1 _ _ rfl fo12 rfl ⟨(fun _ => ⟨none, 0, rfl, Nat.le_refl _, .inl rfl⟩), (fun _ => rfl), (fun _ => rfl), trivial, trivial⟩ ⟨.ro _ _ (.data _ (d_s_api_Wait [])), .ro _ _ (.data _ trivial), .ro _ _ (.data _ trivial), .ro _ _ (.data _ (d_s_api_Entry ([({ Kind := 1, Service := 2, Group := 0, Session := 0, Number := 0, Text := (⟨#[98]⟩ : ByteArray) } : api_Entry)] : _root_.List api_Entry))), trivial⟩ (queue_Add_spec [] 0 2 ([({ Kind := 1, Service := 2, Group := 0, Session := 0, Number := 0, Text := (⟨#[98]⟩ : ByteArray) } : api_Entry)] : _root_.List api_Entry) _ h2) rfl (by simp) rfl trivial ⟨⟨Nat.le_of_ble_eq_true rfl, _, rfl, fun _ => (f_api_Wait _)⟩, trivial⟩ (.own 0 (Nat.le_of_ble_eq_true rfl))), ⟨⟨rfl, trivial⟩, trivial, rfl⟩, rfl,
    Step.plain rfl (does_assign (.tmp 4) (.own 1) trivial), ⟨⟨rfl, trivial⟩, trivial, rfl⟩, rfl, rfl⟩ ?_
  refine aw_cov (cov_prune (s1 := ⟨[(1, (.own 1))], [(1, some (.arr 9 v1.length fun j => (e_api_Wait (v1.getD j z_api_Wait))))], 2⟩) ⟨rfl, trivial⟩ ⟨rfl, trivial⟩ (Nat.le_refl _)) ?_
  obtain ⟨v3, h4, H⟩ := bnd H
  refine aw_region (es := [_, _, _, _, _, _]) ⟨Step.plain rfl (does_move (.tmp 1) (.own 1) trivial), ⟨⟨rfl, trivial⟩, trivial, rfl⟩, rfl,
    Step.plain rfl (does_buildT 45 #[] [] [] (.st [1, 1, 1, 1, 1, 1]) (c_api_Entry z_api_Entry) (c_api_Entry ({ Kind := 0, Service := 0, Group := 0, Session := 0, Number := 0, Text := ByteArray.empty } : api_Entry)) rfl bo45 trivial trivial (by funext j; match j with | 0 => rfl | 1 => rfl | 2 => rfl | 3 => rfl | 4 => rfl | 5 => rfl | _ + 6 => rfl)), ⟨trivial, trivial, rfl⟩, rfl,
    Step.plain rfl (does_buildT 45 #[(0, (.const (.int .i64 1))), (1, (.const (.int .i64 3))), (5, (.const (.string (⟨#[97]⟩ : ByteArray))))] [(0, (.const (.int .i64 1))), (1, (.const (.int .i64 3))), (5, (.const (.string (⟨#[97]⟩ : ByteArray))))] [(0, (.int .i64 1)), (1, (.int .i64 3)), (5, (.str (⟨#[97]⟩ : ByteArray)))] (.st [1, 1, 1, 1, 1, 1]) (c_api_Entry z_api_Entry) (c_api_Entry ({ Kind := 1, Service := 3, Group := 0, Session := 0, Number := 0, Text := (⟨#[97]⟩ : ByteArray) } : api_Entry)) rfl bo45 ⟨⟨rfl, (fun _ => rfl)⟩, ⟨rfl, (fun _ => rfl)⟩, ⟨rfl, (fun _ => rfl)⟩, trivial⟩ ⟨⟨Nat.le_of_ble_eq_true rfl, rfl, rfl⟩, ⟨Nat.le_of_ble_eq_true rfl, rfl, rfl⟩, ⟨Nat.le_of_ble_eq_true rfl, rfl, rfl⟩, trivial⟩ (by funext j; match j with | 0 => rfl | 1 => rfl | 2 => rfl | 3 => rfl | 4 => rfl | 5 => rfl | _ + 6 => rfl)), ⟨trivial, trivial, rfl⟩, rfl,
    Step.plain rfl (does_buildSl 24 2 6 (e_api_Entry z_api_Entry) (fun j => (e_api_Entry (([({ Kind := 0, Service := 0, Group := 0, Session := 0, Number := 0, Text := ByteArray.empty } : api_Entry), ({ Kind := 1, Service := 3, Group := 0, Session := 0, Number := 0, Text := (⟨#[97]⟩ : ByteArray) } : api_Entry)] : _root_.List api_Entry).getD j z_api_Entry))) #[(0, (.tmp 6)), (1, (.tmp 7))] [(0, (.tmp 6)), (1, (.tmp 7))] [(0, (e_api_Entry ({ Kind := 0, Service := 0, Group := 0, Session := 0, Number := 0, Text := ByteArray.empty } : api_Entry))), (1, (e_api_Entry ({ Kind := 1, Service := 3, Group := 0, Session := 0, Number := 0, Text := (⟨#[97]⟩ : ByteArray) } : api_Entry)))] rfl so24 (by decide) ⟨⟨rfl, trivial⟩, ⟨rfl, trivial⟩, trivial⟩ ⟨⟨Nat.le_of_ble_eq_true rfl, rfl, rfl⟩, ⟨Nat.le_of_ble_eq_true rfl, rfl, rfl⟩, trivial⟩ (fun j h => match j, h with | 0, _ => rfl | 1, _ => rfl | k + 2, h => absurd h (by omega))), ⟨⟨rfl, rfl, trivial⟩, trivial, rfl⟩, rfl,
    Step.plain rfl (does_callO 12 0 (fun _ => .any) (.func 12) [(.tmp 5), (.const (.int .i64 0)), (.const (.int .u32 1)), (.tmp 8)] [(.own 1), (.int .i64 0), (.int .u32 1), (e_s_api_Entry ([({ Kind := 0, Service := 0, Group := 0, Session := 0, Number := 0, Text := ByteArray.empty } : api_Entry), ({ Kind := 1, Service := 3, Group := 0, Session := 0, Number := 0, Text := (⟨#[97]⟩ : ByteArray) } : api_Entry)] : _root_.List api_Entry))] [(1, (.arr 9 v1.length fun j => (e_api_Wait (v1.getD j z_api_Wait))))] [] true [(e_s_api_Wait v1), (.int .i64 0), (.int .u32 1), (e_s_api_Entry ([({ Kind := 0, Service := 0, Group := 0, Session := 0, Number := 0, Text := ByteArray.empty } : api_Entry), ({ Kind := 1, Service := 3, Group := 0, Session := 0, Number := 0, Text := (⟨#[97]⟩ : ByteArray) } : api_Entry)] : _root_.List api_Entry))] _ (.own 2) _ 2 1 _ _ rfl fo12 rfl ⟨trivial, (fun _ => rfl), (fun _ => rfl), trivial, trivial⟩ ⟨.ro _ _ (.own 1 _ _ _ (.head _) rfl (fun _ => (d_api_Wait _))), .ro _ _ (.data _ trivial), .ro _ _ (.data _ trivial), .ro _ _ (.data _ (d_s_api_Entry ([({ Kind := 0, Service := 0, Group := 0, Session := 0, Number := 0, Text := ByteArray.empty } : api_Entry), ({ Kind := 1, Service := 3, Group := 0, Session := 0, Number := 0, Text := (⟨#[97]⟩ : ByteArray) } : api_Entry)] : _root_.List api_Entry))), trivial⟩ (queue_Add_spec v1 0 1 ([({ Kind := 0, Service := 0, Group := 0, Session := 0, Number := 0, Text := ByteArray.empty } : api_Entry), ({ Kind := 1, Service := 3, Group := 0, Session := 0, Number := 0, Text := (⟨#[97]⟩ : ByteArray) } : api_Entry)] : _root_.List api_Entry) _ h4) rfl (by simp) rfl trivial ⟨⟨Nat.le_of_ble_eq_true rfl, _, rfl, fun _ => (f_api_Wait _)⟩, trivial⟩ (.own 0 (Nat.le_of_ble_eq_true rfl))), ⟨⟨rfl, rfl, trivial⟩, ⟨rfl, trivial⟩, rfl⟩, rfl,
    Step.plain rfl (does_assign (.tmp 9) (.own 2) trivial), ⟨⟨rfl, trivial⟩, trivial, rfl⟩, rfl, rfl⟩ ?_
  refine aw_cov (cov_prune (s1 := ⟨[(0, (.own 2))], [(2, some (.arr 9 v3.length fun j => (e_api_Wait (v3.getD j z_api_Wait))))], 3⟩) ⟨rfl, trivial⟩ ⟨rfl, trivial⟩ (Nat.le_refl _)) ?_
  refine aw_ret ?_
  exact fun a w hr => ⟨_, [(.own 0)], reach_of hr (cov_to (s1 := ⟨[(0, (.own 0))], [(0, some (.arr 9 v3.length fun j => (e_api_Wait (v3.getD j z_api_Wait))))], 1⟩) (fun i => match i with | 0 => 2 | k => k) [] ⟨⟨_, rfl, .own 0 _ _ (Nat.le_of_ble_eq_true rfl) rfl rfl (Box.like_refl _)⟩, trivial⟩ ⟨⟨Nat.le_of_ble_eq_true rfl, _, _, rfl, rfl, boxTo_arr (fun _ => (d_api_Wait _))⟩, trivial⟩ rfl rfl), ⟨rfl, trivial⟩, by decide, by cases H; rfl, by cases H; exact ⟨rfl, trivial⟩, Nat.le_of_ble_eq_true rfl⟩

theorem congresslaw22_two_data (r : (_root_.List api_Wait)) (H : congresslaw22_two = some r) : FSpec Try.prog 22 [] (e_s_api_Wait r) :=
  FSpecO.toData (fz := [0]) (congresslaw22_two_spec r H) (d_s_api_Wait r) (.frz 0 _ _ _ rfl (fun _ => (d_api_Wait _)) (by decide))

theorem queue_service_spec (p0 : api_Entry) (r : Int) (H : queue_service p0 = some r) : FSpec Try.prog 24 [(e_api_Entry p0)] (.int .i64 r) := by
  refine spec_of (fn := Try.f24) (args := [(e_api_Entry p0)]) Try.func24 rfl (Nat.le_of_ble_eq_true rfl) ?_
  rintro ⟨G, w0, W, S, Sp⟩ hG
  cases hG
  unfold queue_service at H
  refine aw_region (es := [_, _]) ⟨Step.plain rfl (does_box 45 (.tmp 0) 0 (e_api_Entry p0) trivial rfl), ⟨⟨rfl, trivial⟩, trivial, rfl⟩, rfl,
    Step.plain rfl (does_assign (.const (.int .i64 0)) (.int .i64 0) (fun _ => rfl)), ⟨trivial, trivial, rfl⟩, rfl, rfl⟩ ?_
  refine aw_cov (cov_prune (s1 := ⟨[(1, (.ptr 0 0 []))], [(0, some (.var (e_api_Entry p0)))], 1⟩) ⟨rfl, trivial⟩ ⟨rfl, trivial⟩ (Nat.le_refl _)) ?_
  refine aw_seq ?_
  refine aw_region (es := [_, _, _]) ⟨Step.plain rfl (does_fieldAddr 45 0 0 1 0 0 [] (.var (e_api_Entry p0)) fl45_0), ⟨⟨rfl, trivial⟩, ⟨rfl, trivial⟩, rfl⟩, rfl,
    Step.plain rfl (does_load 3 3 0 (0 + 0) [0] (.var (e_api_Entry p0)) (.int .i64 p0.Kind) ⟨rfl, Nat.le_of_ble_eq_true rfl, trivial⟩ rfl rfl ty3), ⟨⟨rfl, trivial⟩, ⟨rfl, trivial⟩, rfl⟩, rfl,
    Step.plain rfl (does_bin .neq 3 3 (.tmp 4) (.const (.int .i64 1)) .i64 p0.Kind 1 (.bool (p0.Kind != 1)) trivial (fun _ => rfl) (bin_neq _ _ _ _)), ⟨⟨rfl, trivial⟩, trivial, rfl⟩, rfl, rfl⟩ ?_
  refine aw_cov (cov_prune (s1 := ⟨[(1, (.ptr 0 0 [])), (5, (.bool (p0.Kind != 1)))], [(0, some (.var (e_api_Entry p0)))], 1⟩) ⟨rfl, rfl, trivial⟩ ⟨rfl, trivial⟩ (Nat.le_refl _)) ?_
  refine aw_cond rfl (fun hc => ?_) (fun hc => ?_)
  · replace H := ite_t hc H
    refine aw_region (es := [_]) ⟨Step.plain rfl (does_assign (.const (.int .i64 2)) (.int .i64 2) (fun _ => rfl)), ⟨trivial, trivial, rfl⟩, rfl, rfl⟩ ?_
    refine aw_cov (cov_prune (s1 := ⟨[(2, (.int .i64 2))], [], 1⟩) ⟨rfl, trivial⟩ trivial (Nat.le_refl _)) ?_
    refine aw_ret ?_
    refine rt_then ?_
    exact fun a w hr => ⟨_, [(.int .i64 2)], hr, ⟨⟨_, rfl, .data (.int .i64 2) trivial⟩, trivial⟩, by decide, by cases H; rfl⟩
  · replace H := ite_f hc H
    refine aw_skip ?_
    refine nx_seq ?_
    refine aw_region (es := [_, _, _]) ⟨Step.plain rfl (does_fieldAddr 45 1 1 1 0 0 [] (.var (e_api_Entry p0)) fl45_1), ⟨⟨rfl, trivial⟩, ⟨rfl, trivial⟩, rfl⟩, rfl,
      Step.plain rfl (does_load 3 6 0 (0 + 1) [1] (.var (e_api_Entry p0)) (.int .i64 p0.Service) ⟨rfl, Nat.le_of_ble_eq_true rfl, trivial⟩ rfl rfl ty3), ⟨⟨rfl, trivial⟩, ⟨rfl, trivial⟩, rfl⟩, rfl,
      Step.plain rfl (does_assign (.tmp 7) (.int .i64 p0.Service) trivial), ⟨⟨rfl, trivial⟩, trivial, rfl⟩, rfl, rfl⟩ ?_
    refine aw_cov (cov_prune (s1 := ⟨[(2, (.int .i64 p0.Service))], [], 1⟩) ⟨rfl, trivial⟩ trivial (Nat.le_refl _)) ?_
    refine aw_ret ?_
    exact fun a w hr => ⟨_, [(.int .i64 p0.Service)], hr, ⟨⟨_, rfl, .data (.int .i64 p0.Service) trivial⟩, trivial⟩, by decide, by cases H; rfl⟩

theorem round_member_spec (p0 : (Nat → Int)) (p1 : Int) (r : Bool) (H : round_member p0 p1 = some r) : FSpec Try.prog 30 [(e_a8_u32 p0), (.int .i64 p1)] (.bool r) := by
  refine spec_of (fn := Try.f30) (args := [(e_a8_u32 p0), (.int .i64 p1)]) Try.func30 rfl (Nat.le_of_ble_eq_true rfl) ?_
  rintro ⟨G, w0, W, S, Sp⟩ hG
  cases hG
  unfold round_member at H
  refine aw_region (es := [_, _]) ⟨Step.plain rfl (does_box 29 (.tmp 0) 0 (e_a8_u32 p0) trivial rfl), ⟨⟨rfl, trivial⟩, trivial, rfl⟩, rfl,
    Step.plain rfl (does_assign (.const (.bool false)) (.bool false) (fun _ => rfl)), ⟨trivial, trivial, rfl⟩, rfl, rfl⟩ ?_
  refine aw_cov (cov_prune (s1 := ⟨[(1, (.int .i64 p1)), (2, (.ptr 0 0 []))], [(0, some (.var (e_a8_u32 p0)))], 1⟩) ⟨rfl, rfl, trivial⟩ ⟨rfl, trivial⟩ (Nat.le_refl _)) ?_
  obtain ⟨h1, H⟩ := ibg_of H
  refine aw_region (es := [_, _, _, _, _, _, _, _, _, _, _, _, _]) ⟨Step.plain rfl (does_move (.tmp 1) (.int .i64 p1) trivial), ⟨⟨rfl, trivial⟩, trivial, rfl⟩, rfl,
    Step.plain rfl (does_bin .geq 3 3 (.tmp 5) (.const (.int .i64 0)) .i64 p1 0 (.bool (decide (p1 ≥ 0))) trivial (fun _ => rfl) (bin_geq _ _ _ _)), ⟨⟨rfl, trivial⟩, trivial, rfl⟩, rfl,
    Step.plain rfl (does_move (.tmp 6) (.bool (decide (p1 ≥ 0))) trivial), ⟨⟨rfl, trivial⟩, trivial, rfl⟩, rfl,
    Step.guarded rfl rfl rfl rfl (fun hc => does_move (.tmp 1) (.int .i64 p1) trivial), ⟨⟨rfl, rfl, trivial⟩, trivial, rfl⟩, rfl,
    Step.guarded rfl rfl rfl rfl (fun hc => Does.strip (n' := [(8, (.opt (decide (p1 ≥ 0)) (.int .i64 p1)))]) (n := [(8, (.int .i64 p1))]) ⟨(.opt _ _ hc), trivial⟩ (does_bin .lss 3 3 (.tmp 8) (.const (.int .i64 8)) .i64 p1 8 (.bool (decide (p1 < 8))) trivial (fun _ => rfl) (bin_lss _ _ _ _))), ⟨⟨rfl, rfl, trivial⟩, trivial, rfl⟩, rfl,
    Step.plain rfl (does_and 7 9 (decide (p1 ≥ 0)) (decide (p1 < 8))), ⟨⟨rfl, rfl, trivial⟩, trivial, rfl⟩, rfl,
    Step.plain rfl (does_move (.tmp 10) (.bool ((decide (p1 ≥ 0)) && (decide (p1 < 8)))) trivial), ⟨⟨rfl, trivial⟩, trivial, rfl⟩, rfl,
    Step.guarded rfl rfl rfl rfl (fun hc => does_move (.tmp 1) (.int .i64 p1) trivial), ⟨⟨rfl, rfl, trivial⟩, trivial, rfl⟩, rfl,
    Step.guarded rfl rfl rfl rfl (fun hc => Does.strip (n' := [(2, (.ptr 0 0 [])), (12, (.opt ((decide (p1 ≥ 0)) && (decide (p1 < 8))) (.int .i64 p1)))]) (n := [(2, (.ptr 0 0 [])), (12, (.int .i64 p1))]) ⟨(.same _), (.opt _ _ hc), trivial⟩ (does_indexAddr 29 8 1 2 0 0 [] (.var (e_a8_u32 p0)) (.tmp 12) .i64 p1 el29 trivial (h1 hc).1 (h1 hc).2)), ⟨⟨rfl, rfl, rfl, trivial⟩, ⟨rfl, trivial⟩, rfl⟩, rfl,
    Step.guarded rfl rfl rfl rfl (fun hc => Does.strip (n' := [(13, (.opt ((decide (p1 ≥ 0)) && (decide (p1 < 8))) (.ptr 0 (0 + p1.toNat * 1) [p1.toNat])))]) (n := [(13, (.ptr 0 (0 + p1.toNat * 1) [p1.toNat]))]) ⟨(.opt _ _ hc), trivial⟩ (does_load 23 13 0 (0 + p1.toNat * 1) [p1.toNat] (.var (e_a8_u32 p0)) (.int .u32 (p0 p1.toNat)) ⟨rfl, (ixl (h1 hc)), trivial⟩ rfl rfl ty23)), ⟨⟨rfl, rfl, trivial⟩, ⟨rfl, trivial⟩, rfl⟩, rfl,
    Step.guarded rfl rfl rfl rfl (fun hc => Does.strip (n' := [(14, (.opt ((decide (p1 ≥ 0)) && (decide (p1 < 8))) (.int .u32 (p0 p1.toNat))))]) (n := [(14, (.int .u32 (p0 p1.toNat)))]) ⟨(.opt _ _ hc), trivial⟩ (does_bin .neq 23 23 (.tmp 14) (.const (.int .u32 0)) .u32 (p0 p1.toNat) 0 (.bool ((p0 p1.toNat) != 0)) trivial (fun _ => rfl) (bin_neq _ _ _ _))), ⟨⟨rfl, rfl, trivial⟩, trivial, rfl⟩, rfl,
    Step.plain rfl (does_and 11 15 ((decide (p1 ≥ 0)) && (decide (p1 < 8))) ((p0 p1.toNat) != 0)), ⟨⟨rfl, rfl, trivial⟩, trivial, rfl⟩, rfl,
    Step.plain rfl (does_assign (.tmp 16) (.bool (((decide (p1 ≥ 0)) && (decide (p1 < 8))) && ((p0 p1.toNat) != 0))) trivial), ⟨⟨rfl, trivial⟩, trivial, rfl⟩, rfl, rfl⟩ ?_
  refine aw_cov (cov_prune (s1 := ⟨[(4, (.bool (((decide (p1 ≥ 0)) && (decide (p1 < 8))) && ((p0 p1.toNat) != 0))))], [], 1⟩) ⟨rfl, trivial⟩ trivial (Nat.le_refl _)) ?_
  refine aw_ret ?_
  exact fun a w hr => ⟨_, [(.bool (((decide (p1 ≥ 0)) && (decide (p1 < 8))) && ((p0 p1.toNat) != 0)))], hr, ⟨⟨_, rfl, .data (.bool (((decide (p1 ≥ 0)) && (decide (p1 < 8))) && ((p0 p1.toNat) != 0))) trivial⟩, trivial⟩, by decide, by cases H; rfl⟩
end Go.Proofs.Ytclblogdciebnaa
