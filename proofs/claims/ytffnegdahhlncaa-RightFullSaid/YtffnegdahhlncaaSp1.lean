/- Printed by gen.py. Conditions: none. -/
import Derived.Test.YtffnegdahhlncaaFact
import Derived.KernelRfl
set_option linter.unusedVariables false
set_option maxRecDepth 100000
namespace Go.Proofs.Ytffnegdahhlncaa
open Go.Eng
theorem right_gives_spec (p0 : Int) (r : Bool) (H : right_gives p0 = some r) : FSpec Try.prog 20 [(.int .i64 p0)] (.bool r) := by
  refine spec_of (fn := Try.f20) (args := [(.int .i64 p0)]) Try.func20 rfl (Nat.le_of_ble_eq_true rfl) ?_
  rintro ⟨G, w0, W, S, Sp⟩ hG
  cases hG
  unfold right_gives at H
  refine aw_region (es := [_]) ⟨Step.plain rfl (does_assign (.const (.bool false)) (.bool false) (fun _ => rfl)), ⟨trivial, trivial, rfl⟩, rfl, rfl⟩ ?_
  refine aw_cov (cov_prune (s1 := ⟨[(0, (.int .i64 p0))], [], 0⟩) ⟨rfl, trivial⟩ trivial (Nat.le_refl _)) ?_
  refine aw_region (es := [_, _, _, _, _, _, _]) ⟨Step.plain rfl (does_move (.tmp 0) (.int .i64 p0) trivial), ⟨⟨rfl, trivial⟩, trivial, rfl⟩, rfl,
    Step.plain rfl (does_bin .geq 3 3 (.tmp 3) (.const (.int .i64 1)) .i64 p0 1 (.bool (decide (p0 ≥ 1))) trivial (fun _ => rfl) (bin_geq _ _ _ _)), ⟨⟨rfl, trivial⟩, trivial, rfl⟩, rfl,
    Step.plain rfl (does_move (.tmp 4) (.bool (decide (p0 ≥ 1))) trivial), ⟨⟨rfl, trivial⟩, trivial, rfl⟩, rfl,
    Step.guarded rfl rfl rfl rfl (fun hc => does_move (.tmp 0) (.int .i64 p0) trivial), ⟨⟨rfl, rfl, trivial⟩, trivial, rfl⟩, rfl,
    Step.guarded rfl rfl rfl rfl (fun hc => Does.strip (n' := [(6, (.opt (decide (p0 ≥ 1)) (.int .i64 p0)))]) (n := [(6, (.int .i64 p0))]) ⟨(.opt _ _ hc), trivial⟩ (does_bin .leq 3 3 (.tmp 6) (.const (.int .i64 7)) .i64 p0 7 (.bool (decide (p0 ≤ 7))) trivial (fun _ => rfl) (bin_leq _ _ _ _))), ⟨⟨rfl, rfl, trivial⟩, trivial, rfl⟩, rfl,
    Step.plain rfl (does_and 5 7 (decide (p0 ≥ 1)) (decide (p0 ≤ 7))), ⟨⟨rfl, rfl, trivial⟩, trivial, rfl⟩, rfl,
    Step.plain rfl (does_assign (.tmp 8) (.bool ((decide (p0 ≥ 1)) && (decide (p0 ≤ 7)))) trivial), ⟨⟨rfl, trivial⟩, trivial, rfl⟩, rfl, rfl⟩ ?_
  refine aw_cov (cov_prune (s1 := ⟨[(2, (.bool ((decide (p0 ≥ 1)) && (decide (p0 ≤ 7)))))], [], 0⟩) ⟨rfl, trivial⟩ trivial (Nat.le_refl _)) ?_
  refine aw_ret ?_
  exact fun a w hr => ⟨_, [(.bool ((decide (p0 ≥ 1)) && (decide (p0 ≤ 7))))], hr, ⟨⟨_, rfl, .data _ trivial⟩, trivial⟩, by decide, by cases H; rfl⟩

theorem slices_IndexFunc_api_Right_api_Right_spec (p0 : (_root_.List api_Right)) (p1 : (api_Right → Option (Bool))) (k1 n1 : Nat) (c1 : Nat → V) (o1 : FnOk Try.prog k1) (h1 : ∀ j, (c1 j).Cap) (g1 : ∀ (x0 : api_Right) (r : Bool), p1 x0 = some r → FSpec Try.prog k1 ([(e_api_Right x0)] ++ (List.range n1).map c1) (.bool r)) (r : Int) (H : slices_IndexFunc_api_Right_api_Right p0 p1 = some r) : FSpec Try.prog 26 [(e_s_api_Right p0), (.fn k1 n1 c1)] (.int .i64 r) := by
  refine spec_of (fn := Try.f26) (args := [(e_s_api_Right p0), (.fn k1 n1 c1)]) Try.func26 rfl (Nat.le_of_ble_eq_true rfl) ?_
  rintro ⟨G, w0, W, S, Sp⟩ hG
  cases hG
  unfold slices_IndexFunc_api_Right_api_Right at H
  refine aw_region (es := [_]) ⟨Step.plain rfl (does_assign (.const (.int .i64 0)) (.int .i64 0) (fun _ => rfl)), ⟨trivial, trivial, rfl⟩, rfl, rfl⟩ ?_
  refine aw_cov (cov_prune (s1 := ⟨[(0, (e_s_api_Right p0)), (1, (.fn k1 n1 c1))], [], 0⟩) ⟨rfl, rfl, trivial⟩ trivial (Nat.le_refl _)) ?_
  refine aw_seq ?_
  refine aw_region (es := [_, _, _]) ⟨Step.plain rfl (does_move (.tmp 0) (e_s_api_Right p0) trivial), ⟨⟨rfl, trivial⟩, trivial, rfl⟩, rfl,
    Step.plain rfl (does_lens 22 4 p0.length 6 (fun j => (e_api_Right (p0.getD j z_api_Right))) el22), ⟨⟨rfl, trivial⟩, trivial, rfl⟩, rfl,
    Step.plain rfl (does_move (.const (.int .i64 0)) (.int .i64 0) (fun _ => rfl)), ⟨trivial, trivial, rfl⟩, rfl, rfl⟩ ?_
  refine aw_cov (cov_prune (s1 := ⟨[(0, (e_s_api_Right p0)), (1, (.fn k1 n1 c1)), (7, (.int .i64 (p0.length : Int))), (8, (.int .i64 0))], [], 0⟩) ⟨rfl, rfl, rfl, rfl, trivial⟩ trivial (Nat.le_refl _)) ?_
  obtain ⟨wn2, hwn2, Hrn2⟩ := bnd H
  refine aw_meet (fun y6 : Unit => (⟨[], [], 0⟩ : St)) (fun y6 => Fl.nx y6 = wn2) (fun y6 hy => ?_) (aw_block (aw_runs (fun x1 : Int => (⟨[(0, (e_s_api_Right p0)), (1, (.fn k1 n1 c1)), (7, (.int .i64 (p0.length : Int))), (8, (.int .i64 x1))], [], 0⟩ : St)) hwn2 (cov_prune ⟨rfl, rfl, rfl, rfl, trivial⟩ trivial (Nat.le_of_ble_eq_true rfl)) (fun x1 st H hsn2 => ?_)))
  · have H := nx_of hy Hrn2
    refine nx_seq ?_
    refine aw_region (es := [_]) ⟨Step.plain rfl (does_assign (.const (.int .i64 (-1))) (.int .i64 (-1)) (fun _ => rfl)), ⟨trivial, trivial, rfl⟩, rfl, rfl⟩ ?_
    refine aw_cov (cov_prune (s1 := ⟨[(4, (.int .i64 (-1)))], [], 0⟩) ⟨rfl, trivial⟩ trivial (Nat.le_refl _)) ?_
    refine aw_ret ?_
    exact fun a w hr => ⟨_, [(.int .i64 (-1))], hr, ⟨⟨_, rfl, .data _ trivial⟩, trivial⟩, by decide, by cases H; rfl⟩
  · refine aw_region (es := [_]) ⟨Step.plain rfl (does_bin .lss 3 3 (.tmp 8) (.tmp 7) .i64 x1 (p0.length : Int) (.bool (decide (x1 < (p0.length : Int)))) trivial trivial (bin_lss _ _ _ _)), ⟨⟨rfl, rfl, trivial⟩, trivial, rfl⟩, rfl, rfl⟩ ?_
    refine aw_cov (cov_prune (s1 := ⟨[(0, (e_s_api_Right p0)), (1, (.fn k1 n1 c1)), (7, (.int .i64 (p0.length : Int))), (8, (.int .i64 x1)), (9, (.bool (decide (x1 < (p0.length : Int)))))], [], 0⟩) ⟨rfl, rfl, rfl, rfl, rfl, trivial⟩ trivial (Nat.le_refl _)) ?_
    refine aw_seq ?_
    refine aw_cond rfl (fun hc => ?_) (fun hc => ?_)
    · replace H := ite_t hc H
      refine aw_skip ?_
      refine nx_seq ?_
      refine aw_seq ?_
      refine aw_block ?_
      refine aw_region (es := [_, _]) ⟨Step.plain rfl (does_move (.tmp 8) (.int .i64 x1) trivial), ⟨⟨rfl, trivial⟩, trivial, rfl⟩, rfl,
        Step.plain rfl (does_assign (.tmp 10) (.int .i64 x1) trivial), ⟨⟨rfl, trivial⟩, trivial, rfl⟩, rfl, rfl⟩ ?_
      refine aw_cov (cov_prune (s1 := ⟨[(0, (e_s_api_Right p0)), (1, (.fn k1 n1 c1)), (7, (.int .i64 (p0.length : Int))), (8, (.int .i64 x1)), (5, (.int .i64 x1))], [], 0⟩) ⟨rfl, rfl, rfl, rfl, rfl, trivial⟩ trivial (Nat.le_refl _)) ?_
      obtain ⟨h3, H⟩ := ib_of H
      obtain ⟨v4, h5, H⟩ := bnd H
      refine aw_region (es := [_, _, _, _, _, _]) ⟨Step.plain rfl (does_move (.tmp 1) (.fn k1 n1 c1) trivial), ⟨⟨rfl, trivial⟩, trivial, rfl⟩, rfl,
        Step.plain rfl (does_move (.tmp 0) (e_s_api_Right p0) trivial), ⟨⟨rfl, trivial⟩, trivial, rfl⟩, rfl,
        Step.plain rfl (does_move (.tmp 5) (.int .i64 x1) trivial), ⟨⟨rfl, trivial⟩, trivial, rfl⟩, rfl,
        Step.plain rfl (does_indexAddrs 22 4 p0.length 12 (fun j => (e_api_Right (p0.getD j z_api_Right))) (.tmp 13) .i64 x1 el22 trivial h3.1 h3.2), ⟨⟨rfl, rfl, trivial⟩, trivial, rfl⟩, rfl,
        Step.plain rfl (does_loadc 46 14 (e_api_Right (p0.getD x1.toNat z_api_Right)) ty46), ⟨⟨rfl, trivial⟩, trivial, rfl⟩, rfl,
        Step.plain rfl (does_callf k1 n1 c1 11 [(.tmp 15)] [(e_api_Right (p0.getD x1.toNat z_api_Right))] [(e_api_Right (p0.getD x1.toNat z_api_Right))] [] true (.bool v4) _ _ rfl o1 ⟨trivial, trivial⟩ ⟨.data _ (d_api_Right (p0.getD x1.toNat z_api_Right)), trivial⟩ h1 (g1 (p0.getD x1.toNat z_api_Right) _ h5) trivial), ⟨⟨rfl, rfl, trivial⟩, trivial, rfl⟩, rfl, rfl⟩ ?_
      refine aw_cov (cov_prune (s1 := ⟨[(0, (e_s_api_Right p0)), (1, (.fn k1 n1 c1)), (7, (.int .i64 (p0.length : Int))), (8, (.int .i64 x1)), (5, (.int .i64 x1)), (16, (.bool v4))], [], 0⟩) ⟨rfl, rfl, rfl, rfl, rfl, rfl, trivial⟩ trivial (Nat.le_refl _)) ?_
      refine aw_cond rfl (fun hc => ?_) (fun hc => ?_)
      · replace H := ite_t hc H
        refine aw_region (es := [_, _]) ⟨Step.plain rfl (does_move (.tmp 5) (.int .i64 x1) trivial), ⟨⟨rfl, trivial⟩, trivial, rfl⟩, rfl,
          Step.plain rfl (does_assign (.tmp 17) (.int .i64 x1) trivial), ⟨⟨rfl, trivial⟩, trivial, rfl⟩, rfl, rfl⟩ ?_
        refine aw_cov (cov_prune (s1 := ⟨[(4, (.int .i64 x1))], [], 0⟩) ⟨rfl, trivial⟩ trivial (Nat.le_refl _)) ?_
        refine aw_ret ?_
        replace H := rt_of H hsn2 Hrn2
        refine rt_blk ?_
        refine rt_then ?_
        refine rt_then ?_
        refine rt_blk ?_
        refine rt_then ?_
        refine rt_then ?_
        exact fun a w hr => ⟨_, [(.int .i64 x1)], hr, ⟨⟨_, rfl, .data _ trivial⟩, trivial⟩, by decide, by cases H; rfl⟩
      · replace H := ite_f hc H
        refine aw_skip ?_
        refine nx_blk ?_
        refine nx_seq ?_
        refine aw_region1 (es := [_, _]) ⟨Step.plain rfl (does_bin .add 3 3 (.tmp 8) (.const (.int .i64 1)) .i64 x1 1 (.int .i64 (IntKind.i64.wrap (x1 + 1))) trivial (fun _ => rfl) (bin_add _ _ _ _)), ⟨⟨rfl, trivial⟩, trivial, rfl⟩, rfl,
          Step.plain rfl (does_move (.tmp 18) (.int .i64 (IntKind.i64.wrap (x1 + 1))) trivial), ⟨⟨rfl, trivial⟩, trivial, rfl⟩, rfl, rfl⟩ ?_
        exact nx_loop ((IntKind.i64.wrap (x1 + 1))) H (cov_prune ⟨rfl, rfl, rfl, rfl, trivial⟩ trivial (Nat.le_of_ble_eq_true rfl))
    · replace H := ite_f hc H
      refine aw_exit ?_
      refine ex_then ?_
      refine ex_then ?_
      refine ex_here ?_
      exact nx_ljoin () H hsn2 (cov_prune trivial trivial (Nat.le_of_ble_eq_true rfl))

theorem right_find_1_spec (p0 : api_Right) (q0 : Int) (r : Bool) (H : right_find_1 p0 q0 = some r) : FSpec Try.prog 27 [(e_api_Right p0), (.cptr (.int .u64 q0))] (.bool r) := by
  refine spec_of (fn := Try.f27) (args := [(e_api_Right p0), (.cptr (.int .u64 q0))]) Try.func27 rfl (Nat.le_of_ble_eq_true rfl) ?_
  rintro ⟨G, w0, W, S, Sp⟩ hG
  cases hG
  unfold right_find_1 at H
  refine aw_region (es := [_, _]) ⟨Step.plain rfl (does_box 46 (.tmp 0) 0 (e_api_Right p0) trivial rfl), ⟨⟨rfl, trivial⟩, trivial, rfl⟩, rfl,
    Step.plain rfl (does_assign (.const (.bool false)) (.bool false) (fun _ => rfl)), ⟨trivial, trivial, rfl⟩, rfl, rfl⟩ ?_
  refine aw_cov (cov_prune (s1 := ⟨[(1, (.cptr (.int .u64 q0))), (2, (.ptr 0 0 []))], [(0, some (.var (e_api_Right p0)))], 1⟩) ⟨rfl, rfl, trivial⟩ ⟨rfl, trivial⟩ (Nat.le_refl _)) ?_
  refine aw_region (es := [_, _, _, _, _]) ⟨Step.plain rfl (does_fieldAddr 46 0 0 2 0 0 [] (.var (e_api_Right p0)) fl46_0), ⟨⟨rfl, trivial⟩, ⟨rfl, trivial⟩, rfl⟩, rfl,
    Step.plain rfl (does_load 23 4 0 (0 + 0) [0] (.var (e_api_Right p0)) (.int .u64 p0.Handle) ⟨rfl, Nat.le_of_ble_eq_true rfl, trivial⟩ rfl rfl ty23), ⟨⟨rfl, trivial⟩, ⟨rfl, trivial⟩, rfl⟩, rfl,
    Step.plain rfl (does_loadc 23 1 (.int .u64 q0) ty23), ⟨⟨rfl, trivial⟩, trivial, rfl⟩, rfl,
    Step.plain rfl (does_bin .eql 23 23 (.tmp 5) (.tmp 6) .u64 p0.Handle q0 (.bool (p0.Handle == q0)) trivial trivial (bin_eql _ _ _ _)), ⟨⟨rfl, rfl, trivial⟩, trivial, rfl⟩, rfl,
    Step.plain rfl (does_assign (.tmp 7) (.bool (p0.Handle == q0)) trivial), ⟨⟨rfl, trivial⟩, trivial, rfl⟩, rfl, rfl⟩ ?_
  refine aw_cov (cov_prune (s1 := ⟨[(3, (.bool (p0.Handle == q0)))], [], 1⟩) ⟨rfl, trivial⟩ trivial (Nat.le_refl _)) ?_
  refine aw_ret ?_
  exact fun a w hr => ⟨_, [(.bool (p0.Handle == q0))], hr, ⟨⟨_, rfl, .data _ trivial⟩, trivial⟩, by decide, by cases H; rfl⟩

theorem right_find_spec (p0 : (_root_.List api_Right)) (p1 : Int) (r : Int) (H : right_find p0 p1 = some r) : FSpec Try.prog 21 [(e_s_api_Right p0), (.int .u64 p1)] (.int .i64 r) := by
  refine spec_of (fn := Try.f21) (args := [(e_s_api_Right p0), (.int .u64 p1)]) Try.func21 rfl (Nat.le_of_ble_eq_true rfl) ?_
  rintro ⟨G, w0, W, S, Sp⟩ hG
  cases hG
  unfold right_find at H
  refine aw_region (es := [_, _]) ⟨Step.plain rfl (does_box 23 (.tmp 1) 0 (.int .u64 p1) trivial rfl), ⟨⟨rfl, trivial⟩, trivial, rfl⟩, rfl,
    Step.plain rfl (does_assign (.const (.int .i64 0)) (.int .i64 0) (fun _ => rfl)), ⟨trivial, trivial, rfl⟩, rfl, rfl⟩ ?_
  refine aw_cov (cov_prune (s1 := ⟨[(0, (e_s_api_Right p0)), (3, (.ptr 0 0 []))], [(0, some (.var (.int .u64 p1)))], 1⟩) ⟨rfl, rfl, trivial⟩ ⟨rfl, trivial⟩ (Nat.le_refl _)) ?_
  obtain ⟨v1, h2, H⟩ := bnd H
  refine aw_region (es := [_, _, _, _]) ⟨Step.plain rfl (does_move (.tmp 0) (e_s_api_Right p0) trivial), ⟨⟨rfl, trivial⟩, trivial, rfl⟩, rfl,
    Step.plain rfl (does_makeFunc 27 [(.tmp 3)] [(.ptr 0 0 [])] #[(.tmp 3)] rfl ⟨trivial, trivial⟩), ⟨⟨rfl, trivial⟩, trivial, rfl⟩, rfl,
    Step.plain rfl (does_call 26 0 (fun _ => .any) (.func 26) [(.tmp 5), (.tmp 6)] [(e_s_api_Right p0), (.fn 27 1 (fun j => ([(.ptr 0 0 [])] : _root_.List V).getD j (.bool false)))] [(0, (.var (.int .u64 p1)))] true [(e_s_api_Right p0), (.fn 27 1 (fun j => ([.cptr (.int .u64 p1)] : _root_.List V).getD j (.bool false)))] (.int .i64 v1) _ _ rfl fo26 rfl ⟨trivial, trivial, trivial⟩ ⟨.data _ (d_s_api_Right p0), .fn _ _ _ _ (fun j hj => match j, hj with | 0, _ => .ptr 0 0 [] (.var (.int .u64 p1)) (.int .u64 p1) (.head _) trivial rfl rfl trivial | k + 1, hj => absurd hj (by omega)), trivial⟩ (slices_IndexFunc_api_Right_api_Right_spec p0 (fun z0 => right_find_1 z0 p1) 27 1 (fun j => ([.cptr (.int .u64 p1)] : _root_.List V).getD j (.bool false)) fo27 (fun j => match j with | 0 => .inr ⟨(.int .u64 p1), trivial, rfl⟩ | _ + 1 => .inl trivial) (fun z0 r h => right_find_1_spec z0 p1 r h) _ h2) trivial), ⟨⟨rfl, rfl, trivial⟩, ⟨rfl, trivial⟩, rfl⟩, rfl,
    Step.plain rfl (does_assign (.tmp 7) (.int .i64 v1) trivial), ⟨⟨rfl, trivial⟩, trivial, rfl⟩, rfl, rfl⟩ ?_
  refine aw_cov (cov_prune (s1 := ⟨[(4, (.int .i64 v1))], [], 1⟩) ⟨rfl, trivial⟩ trivial (Nat.le_refl _)) ?_
  refine aw_ret ?_
  exact fun a w hr => ⟨_, [(.int .i64 v1)], hr, ⟨⟨_, rfl, .data _ trivial⟩, trivial⟩, by decide, by cases H; rfl⟩

theorem slices_Clone_api_Right_api_Right_spec (p0 : (_root_.List api_Right)) (r : (_root_.List api_Right)) (H : slices_Clone_api_Right_api_Right p0 = some r) : FSpecO Try.prog 22 [(e_s_api_Right p0)] [] 0 (.own 0) [(0, some (.arr 4 r.length fun j => (e_api_Right (r.getD j z_api_Right))))] 1 := by
  refine specO_of (fn := Try.f22) (args := [(e_s_api_Right p0)]) Try.func22 rfl (Nat.le_of_ble_eq_true rfl) ?_
  rintro ⟨G, w0, W, S, Sp⟩ hG
  cases hG
  unfold slices_Clone_api_Right_api_Right at H
  refine aw_region (es := [_]) ⟨Step.plain rfl (does_nil false 0 4 (fun j => (e_api_Right (([] : _root_.List api_Right).getD j z_api_Right)))), ⟨trivial, trivial, rfl⟩, rfl, rfl⟩ ?_
  refine aw_cov (cov_prune (s1 := ⟨[(0, (e_s_api_Right p0))], [], 1⟩) ⟨rfl, trivial⟩ trivial (Nat.le_refl _)) ?_
  refine aw_seq ?_
  refine aw_region (es := [_, _]) ⟨Step.plain rfl (does_move (.tmp 0) (e_s_api_Right p0) trivial), ⟨⟨rfl, trivial⟩, trivial, rfl⟩, rfl,
    Step.plain rfl (does_eqnil 22 46 22 3 4 p0.length (fun j => (e_api_Right (p0.getD j z_api_Right))) us22), ⟨⟨rfl, trivial⟩, trivial, rfl⟩, rfl, rfl⟩ ?_
  refine aw_cov (cov_prune (s1 := ⟨[(0, (e_s_api_Right p0)), (4, (.nilq p0.length))], [], 1⟩) ⟨rfl, rfl, trivial⟩ trivial (Nat.le_refl _)) ?_
  obtain ⟨H1, H2⟩ := nilq_of H
  clear H
  refine aw_condq rfl (fun hc => ?_) ?_
  · have H := H1 hc
    refine aw_region (es := [_]) ⟨Step.plain rfl (does_nil false 1 4 (fun j => (e_api_Right (([] : _root_.List api_Right).getD j z_api_Right)))), ⟨trivial, trivial, rfl⟩, rfl, rfl⟩ ?_
    refine aw_cov (cov_prune (s1 := ⟨[(2, (.own 1))], [(1, some (.arr 4 ([] : _root_.List api_Right).length fun j => (e_api_Right (([] : _root_.List api_Right).getD j z_api_Right))))], 2⟩) ⟨rfl, trivial⟩ ⟨rfl, trivial⟩ (Nat.le_refl _)) ?_
    refine aw_ret ?_
    refine rt_then ?_
    exact fun a w hr => ⟨_, [(.own 0)], reach_of hr (cov_to (s1 := ⟨[(2, (.own 0))], [(0, some (.arr 4 ([] : _root_.List api_Right).length fun j => (e_api_Right (([] : _root_.List api_Right).getD j z_api_Right))))], 1⟩) (fun i => match i with | 0 => 1 | k => k) [] ⟨⟨_, rfl, .own 0 _ _ (Nat.le_of_ble_eq_true rfl) rfl rfl (Box.like_refl _)⟩, trivial⟩ ⟨⟨Nat.le_of_ble_eq_true rfl, _, _, rfl, rfl, boxTo_arr (fun _ => (d_api_Right _))⟩, trivial⟩ rfl rfl), ⟨rfl, trivial⟩, by decide, by cases H; rfl, by cases H; exact ⟨rfl, trivial⟩, Nat.le_of_ble_eq_true rfl⟩
  · have H := H2
    refine aw_skip ?_
    refine nx_seq ?_
    obtain ⟨h1, H⟩ := fit_of H
    refine aw_region (es := [_, _, _, _]) ⟨Step.plain rfl (does_buildOwn 22 0 4 1 (e_api_Right z_api_Right) (fun j => (e_api_Right (([] : _root_.List api_Right).getD j z_api_Right))) #[] [] [] rfl so22 (by decide) trivial trivial (fun j h => match j, h with  | k + 0, h => absurd h (by omega))), ⟨trivial, trivial, rfl⟩, rfl,
      Step.plain rfl (does_move (.tmp 0) (e_s_api_Right p0) trivial), ⟨⟨rfl, trivial⟩, trivial, rfl⟩, rfl,
      Step.plain rfl (does_appendL e_api_Right z_api_Right ([] : _root_.List api_Right) p0 22 4 32 1 2 5 6 ap22 h1), ⟨⟨rfl, rfl, trivial⟩, ⟨rfl, trivial⟩, rfl⟩, rfl,
      Step.plain rfl (does_assign (.tmp 7) (.own 2) trivial), ⟨⟨rfl, trivial⟩, trivial, rfl⟩, rfl, rfl⟩ ?_
    refine aw_cov (cov_prune (s1 := ⟨[(2, (.own 2))], [(2, some (.arr 4 (([] : _root_.List api_Right) ++ p0).length fun j => (e_api_Right ((([] : _root_.List api_Right) ++ p0).getD j z_api_Right))))], 3⟩) ⟨rfl, trivial⟩ ⟨rfl, trivial⟩ (Nat.le_refl _)) ?_
    refine aw_ret ?_
    exact fun a w hr => ⟨_, [(.own 0)], reach_of hr (cov_to (s1 := ⟨[(2, (.own 0))], [(0, some (.arr 4 (([] : _root_.List api_Right) ++ p0).length fun j => (e_api_Right ((([] : _root_.List api_Right) ++ p0).getD j z_api_Right))))], 1⟩) (fun i => match i with | 0 => 2 | k => k) [] ⟨⟨_, rfl, .own 0 _ _ (Nat.le_of_ble_eq_true rfl) rfl rfl (Box.like_refl _)⟩, trivial⟩ ⟨⟨Nat.le_of_ble_eq_true rfl, _, _, rfl, rfl, boxTo_arr (fun _ => (d_api_Right _))⟩, trivial⟩ rfl rfl), ⟨rfl, trivial⟩, by decide, by cases H; rfl, by cases H; exact ⟨rfl, trivial⟩, Nat.le_of_ble_eq_true rfl⟩

theorem slices_Clone_api_Right_api_Right_data (p0 : (_root_.List api_Right)) (r : (_root_.List api_Right)) (H : slices_Clone_api_Right_api_Right p0 = some r) : FSpec Try.prog 22 [(e_s_api_Right p0)] (e_s_api_Right r) :=
  FSpecO.toData (fz := [0]) (slices_Clone_api_Right_api_Right_spec p0 r H) (d_s_api_Right r) (.frz 0 _ _ _ rfl (fun _ => (d_api_Right _)) (by decide))

theorem right_Mint_spec (p0 : (_root_.List api_Right)) (p1 : Int) (p2 : Int) (p3 : Int) (r : (_root_.List api_Right) × Int) (H : right_Mint p0 p1 p2 p3 = some r) : FSpecO Try.prog 7 [(e_s_api_Right p0), (.int .u64 p1), (.int .u64 p2), (.int .i64 p3)] [] 0 (resV [(.own 0), (.int .i64 r.2)]) [(0, some (.arr 4 r.1.length fun j => (e_api_Right (r.1.getD j z_api_Right))))] 1 := by
  refine specO_of (fn := Try.f7) (args := [(e_s_api_Right p0), (.int .u64 p1), (.int .u64 p2), (.int .i64 p3)]) Try.func7 rfl (Nat.le_of_ble_eq_true rfl) ?_
  rintro ⟨G, w0, W, S, Sp⟩ hG
  cases hG
  unfold right_Mint at H
  refine aw_region (es := [_, _]) ⟨Step.plain rfl (does_nil false 0 4 (fun j => (e_api_Right (([] : _root_.List api_Right).getD j z_api_Right)))), ⟨trivial, trivial, rfl⟩, rfl,
    Step.plain rfl (does_assign (.const (.int .i64 0)) (.int .i64 0) (fun _ => rfl)), ⟨trivial, trivial, rfl⟩, rfl, rfl⟩ ?_
  refine aw_cov (cov_prune (s1 := ⟨[(0, (e_s_api_Right p0)), (1, (.int .u64 p1)), (2, (.int .u64 p2)), (3, (.int .i64 p3))], [], 1⟩) ⟨rfl, rfl, rfl, rfl, trivial⟩ trivial (Nat.le_refl _)) ?_
  refine aw_seq ?_
  refine aw_block ?_
  obtain ⟨v1, h2, H⟩ := whn_of H
  obtain ⟨v3, h4, H⟩ := whn_of H
  refine aw_region (es := [_, _, _, _, _, _, _, _, _, _, _, _, _, _]) ⟨Step.plain rfl (does_move (.tmp 1) (.int .u64 p1) trivial), ⟨⟨rfl, trivial⟩, trivial, rfl⟩, rfl,
    Step.plain rfl (does_bin .eql 23 23 (.tmp 11) (.const (.int .u64 0)) .u64 p1 0 (.bool (p1 == 0)) trivial (fun _ => rfl) (bin_eql _ _ _ _)), ⟨⟨rfl, trivial⟩, trivial, rfl⟩, rfl,
    Step.plain rfl (does_move (.tmp 12) (.bool (p1 == 0)) trivial), ⟨⟨rfl, trivial⟩, trivial, rfl⟩, rfl,
    Step.guarded rfl rfl rfl rfl (fun hc => does_move (.tmp 3) (.int .i64 p3) trivial), ⟨⟨rfl, rfl, trivial⟩, trivial, rfl⟩, rfl,
    Step.guarded rfl rfl rfl rfl (fun hc => Does.strip (n' := [(14, (.opt (!(p1 == 0)) (.int .i64 p3)))]) (n := [(14, (.int .i64 p3))]) ⟨(.opt _ _ hc), trivial⟩ (does_call 20 0 (fun _ => .any) (.func 20) [(.tmp 14)] [(.int .i64 p3)] [] true [(.int .i64 p3)] (.bool v1) _ _ rfl fo20 rfl ⟨trivial, trivial⟩ ⟨.data _ trivial, trivial⟩ (right_gives_spec p3 _ (h2 hc)) trivial)), ⟨⟨rfl, rfl, trivial⟩, trivial, rfl⟩, rfl,
    Step.guarded rfl rfl rfl rfl (fun hc => Does.strip (n' := [(15, (.opt (!(p1 == 0)) (.bool v1)))]) (n := [(15, (.bool v1))]) ⟨(.opt _ _ hc), trivial⟩ (does_not 4 (.tmp 15) v1 trivial)), ⟨⟨rfl, rfl, trivial⟩, trivial, rfl⟩, rfl,
    Step.plain rfl (does_or 13 16 (p1 == 0) (!v1)), ⟨⟨rfl, rfl, trivial⟩, trivial, rfl⟩, rfl,
    Step.plain rfl (does_move (.tmp 17) (.bool ((p1 == 0) || (!v1))) trivial), ⟨⟨rfl, trivial⟩, trivial, rfl⟩, rfl,
    Step.guarded rfl rfl rfl rfl (fun hc => does_move (.tmp 0) (e_s_api_Right p0) trivial), ⟨⟨rfl, rfl, trivial⟩, trivial, rfl⟩, rfl,
    Step.guarded rfl rfl rfl rfl (fun hc => does_move (.tmp 1) (.int .u64 p1) trivial), ⟨⟨rfl, rfl, trivial⟩, trivial, rfl⟩, rfl,
    Step.guarded rfl rfl rfl rfl (fun hc => Does.strip (n' := [(19, (.opt (!((p1 == 0) || (!v1))) (e_s_api_Right p0))), (20, (.opt (!((p1 == 0) || (!v1))) (.int .u64 p1)))]) (n := [(19, (e_s_api_Right p0)), (20, (.int .u64 p1))]) ⟨(.opt _ _ hc), (.opt _ _ hc), trivial⟩ (does_call 21 0 (fun _ => .any) (.func 21) [(.tmp 19), (.tmp 20)] [(e_s_api_Right p0), (.int .u64 p1)] [] true [(e_s_api_Right p0), (.int .u64 p1)] (.int .i64 v3) _ _ rfl fo21 rfl ⟨trivial, trivial, trivial⟩ ⟨.data _ (d_s_api_Right p0), .data _ trivial, trivial⟩ (right_find_spec p0 p1 _ (h4 hc)) trivial)), ⟨⟨rfl, rfl, rfl, trivial⟩, trivial, rfl⟩, rfl,
    Step.guarded rfl rfl rfl rfl (fun hc => Does.strip (n' := [(21, (.opt (!((p1 == 0) || (!v1))) (.int .i64 v3)))]) (n := [(21, (.int .i64 v3))]) ⟨(.opt _ _ hc), trivial⟩ (does_bin .geq 3 3 (.tmp 21) (.const (.int .i64 0)) .i64 v3 0 (.bool (decide (v3 ≥ 0))) trivial (fun _ => rfl) (bin_geq _ _ _ _))), ⟨⟨rfl, rfl, trivial⟩, trivial, rfl⟩, rfl,
    Step.plain rfl (does_or 18 22 ((p1 == 0) || (!v1)) (decide (v3 ≥ 0))), ⟨⟨rfl, rfl, trivial⟩, trivial, rfl⟩, rfl,
    Step.plain rfl (does_assign (.tmp 23) (.bool (((p1 == 0) || (!v1)) || (decide (v3 ≥ 0)))) trivial), ⟨⟨rfl, trivial⟩, trivial, rfl⟩, rfl, rfl⟩ ?_
  refine aw_cov (cov_prune (s1 := ⟨[(0, (e_s_api_Right p0)), (1, (.int .u64 p1)), (2, (.int .u64 p2)), (3, (.int .i64 p3)), (10, (.bool (((p1 == 0) || (!v1)) || (decide (v3 ≥ 0)))))], [], 1⟩) ⟨rfl, rfl, rfl, rfl, rfl, trivial⟩ trivial (Nat.le_refl _)) ?_
  refine aw_cond rfl (fun hc => ?_) (fun hc => ?_)
  · replace H := ite_t hc H
    refine aw_region (es := [_, _]) ⟨Step.plain rfl (does_nil false 1 4 (fun j => (e_api_Right (([] : _root_.List api_Right).getD j z_api_Right)))), ⟨trivial, trivial, rfl⟩, rfl,
      Step.plain rfl (does_assign (.const (.int .i64 1)) (.int .i64 1) (fun _ => rfl)), ⟨trivial, trivial, rfl⟩, rfl, rfl⟩ ?_
    refine aw_cov (cov_prune (s1 := ⟨[(8, (.own 1)), (9, (.int .i64 1))], [(1, some (.arr 4 ([] : _root_.List api_Right).length fun j => (e_api_Right (([] : _root_.List api_Right).getD j z_api_Right))))], 2⟩) ⟨rfl, rfl, trivial⟩ ⟨rfl, trivial⟩ (Nat.le_refl _)) ?_
    refine aw_ret ?_
    refine rt_blk ?_
    refine rt_then ?_
    exact fun a w hr => ⟨_, [(.own 0), (.int .i64 1)], reach_of hr (cov_to (s1 := ⟨[(8, (.own 0)), (9, (.int .i64 1))], [(0, some (.arr 4 ([] : _root_.List api_Right).length fun j => (e_api_Right (([] : _root_.List api_Right).getD j z_api_Right))))], 1⟩) (fun i => match i with | 0 => 1 | k => k) [] ⟨⟨_, rfl, .own 0 _ _ (Nat.le_of_ble_eq_true rfl) rfl rfl (Box.like_refl _)⟩, ⟨_, rfl, .plain _ (trivial)⟩, trivial⟩ ⟨⟨Nat.le_of_ble_eq_true rfl, _, _, rfl, rfl, boxTo_arr (fun _ => (d_api_Right _))⟩, trivial⟩ rfl rfl), ⟨rfl, rfl, trivial⟩, by decide, by cases H; rfl, by cases H; exact ⟨rfl, trivial⟩, Nat.le_of_ble_eq_true rfl⟩
  · replace H := ite_f hc H
    refine aw_region (es := [_, _, _, _]) ⟨Step.plain rfl (does_move (.tmp 0) (e_s_api_Right p0) trivial), ⟨⟨rfl, trivial⟩, trivial, rfl⟩, rfl,
      Step.plain rfl (does_lens 22 4 p0.length 25 (fun j => (e_api_Right (p0.getD j z_api_Right))) el22), ⟨⟨rfl, trivial⟩, trivial, rfl⟩, rfl,
      Step.plain rfl (does_bin .geq 3 3 (.tmp 26) (.const (.int .i64 16)) .i64 (p0.length : Int) 16 (.bool (decide ((p0.length : Int) ≥ 16))) trivial (fun _ => rfl) (bin_geq _ _ _ _)), ⟨⟨rfl, trivial⟩, trivial, rfl⟩, rfl,
      Step.plain rfl (does_assign (.tmp 27) (.bool (decide ((p0.length : Int) ≥ 16))) trivial), ⟨⟨rfl, trivial⟩, trivial, rfl⟩, rfl, rfl⟩ ?_
    refine aw_cov (cov_prune (s1 := ⟨[(0, (e_s_api_Right p0)), (1, (.int .u64 p1)), (2, (.int .u64 p2)), (3, (.int .i64 p3)), (24, (.bool (decide ((p0.length : Int) ≥ 16))))], [], 1⟩) ⟨rfl, rfl, rfl, rfl, rfl, trivial⟩ trivial (Nat.le_refl _)) ?_
    refine aw_cond rfl (fun hc => ?_) (fun hc => ?_)
    · replace H := ite_t hc H
      refine aw_region (es := [_, _]) ⟨Step.plain rfl (does_nil false 1 4 (fun j => (e_api_Right (([] : _root_.List api_Right).getD j z_api_Right)))), ⟨trivial, trivial, rfl⟩, rfl,
        Step.plain rfl (does_assign (.const (.int .i64 161)) (.int .i64 161) (fun _ => rfl)), ⟨trivial, trivial, rfl⟩, rfl, rfl⟩ ?_
      refine aw_cov (cov_prune (s1 := ⟨[(8, (.own 1)), (9, (.int .i64 161))], [(1, some (.arr 4 ([] : _root_.List api_Right).length fun j => (e_api_Right (([] : _root_.List api_Right).getD j z_api_Right))))], 2⟩) ⟨rfl, rfl, trivial⟩ ⟨rfl, trivial⟩ (Nat.le_refl _)) ?_
      refine aw_ret ?_
      refine rt_blk ?_
      refine rt_then ?_
      exact fun a w hr => ⟨_, [(.own 0), (.int .i64 161)], reach_of hr (cov_to (s1 := ⟨[(8, (.own 0)), (9, (.int .i64 161))], [(0, some (.arr 4 ([] : _root_.List api_Right).length fun j => (e_api_Right (([] : _root_.List api_Right).getD j z_api_Right))))], 1⟩) (fun i => match i with | 0 => 1 | k => k) [] ⟨⟨_, rfl, .own 0 _ _ (Nat.le_of_ble_eq_true rfl) rfl rfl (Box.like_refl _)⟩, ⟨_, rfl, .plain _ (trivial)⟩, trivial⟩ ⟨⟨Nat.le_of_ble_eq_true rfl, _, _, rfl, rfl, boxTo_arr (fun _ => (d_api_Right _))⟩, trivial⟩ rfl rfl), ⟨rfl, rfl, trivial⟩, by decide, by cases H; rfl, by cases H; exact ⟨rfl, trivial⟩, Nat.le_of_ble_eq_true rfl⟩
    · replace H := ite_f hc H
      refine aw_skip ?_
      refine nx_blk ?_
      refine nx_seq ?_
      obtain ⟨v5, h6, H⟩ := bnd H
      obtain ⟨h7, H⟩ := fit_of H
      refine aw_region (es := [_, _, _, _, _, _, _, _, _, _]) ⟨Step.plain rfl (does_move (.tmp 0) (e_s_api_Right p0) trivial), ⟨⟨rfl, trivial⟩, trivial, rfl⟩, rfl,
        Step.plain rfl (does_callO 22 0 (fun _ => .any) (.func 22) [(.tmp 28)] [(e_s_api_Right p0)] [] [] true [(e_s_api_Right p0)] _ (.own 1) _ 1 1 _ _ rfl fo22 rfl ⟨trivial, trivial⟩ ⟨.ro _ _ (.data _ (d_s_api_Right p0)), trivial⟩ (slices_Clone_api_Right_api_Right_spec p0 _ h6) rfl (by simp) rfl trivial ⟨⟨Nat.le_of_ble_eq_true rfl, _, rfl, fun _ => (f_api_Right _)⟩, trivial⟩ (.own 0 (Nat.le_of_ble_eq_true rfl))), ⟨⟨rfl, trivial⟩, trivial, rfl⟩, rfl,
        Step.plain rfl (does_move (.tmp 1) (.int .u64 p1) trivial), ⟨⟨rfl, trivial⟩, trivial, rfl⟩, rfl,
        Step.plain rfl (does_move (.tmp 2) (.int .u64 p2) trivial), ⟨⟨rfl, trivial⟩, trivial, rfl⟩, rfl,
        Step.plain rfl (does_move (.tmp 3) (.int .i64 p3) trivial), ⟨⟨rfl, trivial⟩, trivial, rfl⟩, rfl,
        Step.plain rfl (does_buildT 46 #[(0, (.tmp 30)), (1, (.tmp 31)), (2, (.tmp 32))] [(0, (.tmp 30)), (1, (.tmp 31)), (2, (.tmp 32))] [(0, (.int .u64 p1)), (1, (.int .u64 p2)), (2, (.int .i64 p3))] (.st [1, 1, 1, 1]) (c_api_Right z_api_Right) (c_api_Right ({ Handle := p1, Session := p2, Give := p3, Revoked := false } : api_Right)) rfl bo46 ⟨⟨rfl, trivial⟩, ⟨rfl, trivial⟩, ⟨rfl, trivial⟩, trivial⟩ ⟨⟨Nat.le_of_ble_eq_true rfl, rfl, rfl⟩, ⟨Nat.le_of_ble_eq_true rfl, rfl, rfl⟩, ⟨Nat.le_of_ble_eq_true rfl, rfl, rfl⟩, trivial⟩ (by funext j; match j with | 0 => rfl | 1 => rfl | 2 => rfl | 3 => rfl | _ + 4 => rfl)), ⟨⟨rfl, rfl, rfl, trivial⟩, trivial, rfl⟩, rfl,
        Step.plain rfl (does_buildSl 22 1 4 (e_api_Right z_api_Right) (fun j => (e_api_Right (([({ Handle := p1, Session := p2, Give := p3, Revoked := false } : api_Right)] : _root_.List api_Right).getD j z_api_Right))) #[(0, (.tmp 33))] [(0, (.tmp 33))] [(0, (e_api_Right ({ Handle := p1, Session := p2, Give := p3, Revoked := false } : api_Right)))] rfl so22 (by decide) ⟨⟨rfl, trivial⟩, trivial⟩ ⟨⟨Nat.le_of_ble_eq_true rfl, rfl, rfl⟩, trivial⟩ (fun j h => match j, h with | 0, _ => rfl | k + 1, h => absurd h (by omega))), ⟨⟨rfl, trivial⟩, trivial, rfl⟩, rfl,
        Step.plain rfl (does_appendL e_api_Right z_api_Right v5 ([({ Handle := p1, Session := p2, Give := p3, Revoked := false } : api_Right)] : _root_.List api_Right) 22 4 32 1 2 29 34 ap22 h7), ⟨⟨rfl, rfl, trivial⟩, ⟨rfl, trivial⟩, rfl⟩, rfl,
        Step.plain rfl (does_assign (.tmp 35) (.own 2) trivial), ⟨⟨rfl, trivial⟩, trivial, rfl⟩, rfl,
        Step.plain rfl (does_assign (.const (.int .i64 0)) (.int .i64 0) (fun _ => rfl)), ⟨trivial, trivial, rfl⟩, rfl, rfl⟩ ?_
      obtain ⟨v8, hv8, H⟩ := lt_of H
      refine aw_cov (cov_prune (s1 := ⟨[(8, (.own 2)), (9, (.int .i64 0))], [(2, some (.arr 4 v8.length fun j => (e_api_Right (v8.getD j z_api_Right))))], 3⟩) ⟨rfl, rfl, trivial⟩ ⟨(by subst hv8; rfl), trivial⟩ (Nat.le_refl _)) ?_
      refine aw_ret ?_
      exact fun a w hr => ⟨_, [(.own 0), (.int .i64 0)], reach_of hr (cov_to (s1 := ⟨[(8, (.own 0)), (9, (.int .i64 0))], [(0, some (.arr 4 v8.length fun j => (e_api_Right (v8.getD j z_api_Right))))], 1⟩) (fun i => match i with | 0 => 2 | k => k) [] ⟨⟨_, rfl, .own 0 _ _ (Nat.le_of_ble_eq_true rfl) rfl rfl (Box.like_refl _)⟩, ⟨_, rfl, .plain _ (trivial)⟩, trivial⟩ ⟨⟨Nat.le_of_ble_eq_true rfl, _, _, rfl, rfl, boxTo_arr (fun _ => (d_api_Right _))⟩, trivial⟩ rfl rfl), ⟨rfl, rfl, trivial⟩, by decide, by cases H; rfl, by cases H; exact ⟨rfl, trivial⟩, Nat.le_of_ble_eq_true rfl⟩

theorem right_Mint_data (p0 : (_root_.List api_Right)) (p1 : Int) (p2 : Int) (p3 : Int) (r : (_root_.List api_Right) × Int) (H : right_Mint p0 p1 p2 p3 = some r) : FSpec Try.prog 7 [(e_s_api_Right p0), (.int .u64 p1), (.int .u64 p2), (.int .i64 p3)] (resV [(e_s_api_Right r.1), (.int .i64 r.2)]) :=
  FSpecO.toData (fz := [0]) (right_Mint_spec p0 p1 p2 p3 r H) (res_data2 (d_s_api_Right r.1) trivial) (.tup _ _ _ (fun j => match j with | 0 => .frz 0 _ _ _ rfl (fun _ => (d_api_Right _)) (by decide) | 1 => .plain _ (trivial) | _ + 2 => .plain _ trivial))

theorem congressref16_Find_spec (p0 : (_root_.List api_Right)) (p1 : Int) (r : Int) (H : congressref16_Find p0 p1 = some r) : FSpec Try.prog 23 [(e_s_api_Right p0), (.int .u64 p1)] (.int .i64 r) := by
  refine spec_of (fn := Try.f23) (args := [(e_s_api_Right p0), (.int .u64 p1)]) Try.func23 rfl (Nat.le_of_ble_eq_true rfl) ?_
  rintro ⟨G, w0, W, S, Sp⟩ hG
  cases hG
  unfold congressref16_Find at H
  refine aw_region (es := [_]) ⟨Step.plain rfl (does_assign (.const (.int .i64 0)) (.int .i64 0) (fun _ => rfl)), ⟨trivial, trivial, rfl⟩, rfl, rfl⟩ ?_
  refine aw_cov (cov_prune (s1 := ⟨[(0, (e_s_api_Right p0)), (1, (.int .u64 p1))], [], 0⟩) ⟨rfl, rfl, trivial⟩ trivial (Nat.le_refl _)) ?_
  refine aw_seq ?_
  refine aw_region (es := [_]) ⟨Step.plain rfl (does_assign (.const (.int .i64 0)) (.int .i64 0) (fun _ => rfl)), ⟨trivial, trivial, rfl⟩, rfl, rfl⟩ ?_
  refine aw_cov (cov_prune (s1 := ⟨[(0, (e_s_api_Right p0)), (1, (.int .u64 p1)), (5, (.int .i64 0))], [], 0⟩) ⟨rfl, rfl, rfl, trivial⟩ trivial (Nat.le_refl _)) ?_
  obtain ⟨wn2, hwn2, Hrn2⟩ := bnd H
  refine aw_meet (fun y4 : Unit => (⟨[], [], 0⟩ : St)) (fun y4 => Fl.nx y4 = wn2) (fun y4 hy => ?_) (aw_block (aw_runs (fun x1 : Int => (⟨[(0, (e_s_api_Right p0)), (1, (.int .u64 p1)), (5, (.int .i64 x1))], [], 0⟩ : St)) hwn2 (cov_prune ⟨rfl, rfl, rfl, trivial⟩ trivial (Nat.le_of_ble_eq_true rfl)) (fun x1 st H hsn2 => ?_)))
  · have H := nx_of hy Hrn2
    refine nx_seq ?_
    refine aw_region (es := [_]) ⟨Step.plain rfl (does_assign (.const (.int .i64 (-1))) (.int .i64 (-1)) (fun _ => rfl)), ⟨trivial, trivial, rfl⟩, rfl, rfl⟩ ?_
    refine aw_cov (cov_prune (s1 := ⟨[(4, (.int .i64 (-1)))], [], 0⟩) ⟨rfl, trivial⟩ trivial (Nat.le_refl _)) ?_
    refine aw_ret ?_
    exact fun a w hr => ⟨_, [(.int .i64 (-1))], hr, ⟨⟨_, rfl, .data _ trivial⟩, trivial⟩, by decide, by cases H; rfl⟩
  · refine aw_seq ?_
    refine aw_region (es := [_, _, _, _]) ⟨Step.plain rfl (does_move (.tmp 5) (.int .i64 x1) trivial), ⟨⟨rfl, trivial⟩, trivial, rfl⟩, rfl,
      Step.plain rfl (does_move (.tmp 0) (e_s_api_Right p0) trivial), ⟨⟨rfl, trivial⟩, trivial, rfl⟩, rfl,
      Step.plain rfl (does_lens 22 4 p0.length 7 (fun j => (e_api_Right (p0.getD j z_api_Right))) el22), ⟨⟨rfl, trivial⟩, trivial, rfl⟩, rfl,
      Step.plain rfl (does_bin .lss 3 3 (.tmp 6) (.tmp 8) .i64 x1 (p0.length : Int) (.bool (decide (x1 < (p0.length : Int)))) trivial trivial (bin_lss _ _ _ _)), ⟨⟨rfl, rfl, trivial⟩, trivial, rfl⟩, rfl, rfl⟩ ?_
    refine aw_cov (cov_prune (s1 := ⟨[(0, (e_s_api_Right p0)), (1, (.int .u64 p1)), (5, (.int .i64 x1)), (9, (.bool (decide (x1 < (p0.length : Int)))))], [], 0⟩) ⟨rfl, rfl, rfl, rfl, trivial⟩ trivial (Nat.le_refl _)) ?_
    refine aw_cond rfl (fun hc => ?_) (fun hc => ?_)
    · replace H := ite_t hc H
      refine aw_skip ?_
      refine nx_seq ?_
      refine aw_seq ?_
      refine aw_block ?_
      obtain ⟨h3, H⟩ := ib_of H
      refine aw_region (es := [_, _, _, _, _, _, _]) ⟨Step.plain rfl (does_move (.tmp 0) (e_s_api_Right p0) trivial), ⟨⟨rfl, trivial⟩, trivial, rfl⟩, rfl,
        Step.plain rfl (does_move (.tmp 5) (.int .i64 x1) trivial), ⟨⟨rfl, trivial⟩, trivial, rfl⟩, rfl,
        Step.plain rfl (does_indexAddrs 22 4 p0.length 12 (fun j => (e_api_Right (p0.getD j z_api_Right))) (.tmp 13) .i64 x1 el22 trivial h3.1 h3.2), ⟨⟨rfl, rfl, trivial⟩, trivial, rfl⟩, rfl,
        Step.plain rfl (does_fieldAddrc 46 0 0 14 (e_api_Right (p0.getD x1.toNat z_api_Right)) fl46_0 rfl (Nat.le_of_ble_eq_true rfl) rfl), ⟨⟨rfl, trivial⟩, trivial, rfl⟩, rfl,
        Step.plain rfl (does_loadc 23 15 (.int .u64 ((p0.getD x1.toNat z_api_Right).Handle)) ty23), ⟨⟨rfl, trivial⟩, trivial, rfl⟩, rfl,
        Step.plain rfl (does_move (.tmp 1) (.int .u64 p1) trivial), ⟨⟨rfl, trivial⟩, trivial, rfl⟩, rfl,
        Step.plain rfl (does_bin .eql 23 23 (.tmp 16) (.tmp 17) .u64 ((p0.getD x1.toNat z_api_Right).Handle) p1 (.bool (((p0.getD x1.toNat z_api_Right).Handle) == p1)) trivial trivial (bin_eql _ _ _ _)), ⟨⟨rfl, rfl, trivial⟩, trivial, rfl⟩, rfl, rfl⟩ ?_
      refine aw_cov (cov_prune (s1 := ⟨[(0, (e_s_api_Right p0)), (1, (.int .u64 p1)), (5, (.int .i64 x1)), (18, (.bool (((p0.getD x1.toNat z_api_Right).Handle) == p1)))], [], 0⟩) ⟨rfl, rfl, rfl, rfl, trivial⟩ trivial (Nat.le_refl _)) ?_
      refine aw_cond rfl (fun hc => ?_) (fun hc => ?_)
      · replace H := ite_t hc H
        refine aw_region (es := [_, _]) ⟨Step.plain rfl (does_move (.tmp 5) (.int .i64 x1) trivial), ⟨⟨rfl, trivial⟩, trivial, rfl⟩, rfl,
          Step.plain rfl (does_assign (.tmp 19) (.int .i64 x1) trivial), ⟨⟨rfl, trivial⟩, trivial, rfl⟩, rfl, rfl⟩ ?_
        refine aw_cov (cov_prune (s1 := ⟨[(4, (.int .i64 x1))], [], 0⟩) ⟨rfl, trivial⟩ trivial (Nat.le_refl _)) ?_
        refine aw_ret ?_
        replace H := rt_of H hsn2 Hrn2
        refine rt_blk ?_
        refine rt_then ?_
        refine rt_then ?_
        refine rt_blk ?_
        refine rt_then ?_
        refine rt_then ?_
        exact fun a w hr => ⟨_, [(.int .i64 x1)], hr, ⟨⟨_, rfl, .data _ trivial⟩, trivial⟩, by decide, by cases H; rfl⟩
      · replace H := ite_f hc H
        refine aw_skip ?_
        refine nx_blk ?_
        refine nx_seq ?_
        refine aw_region1 (es := [_, _, _]) ⟨Step.plain rfl (does_move (.tmp 5) (.int .i64 x1) trivial), ⟨⟨rfl, trivial⟩, trivial, rfl⟩, rfl,
          Step.plain rfl (does_bin .add 3 3 (.tmp 10) (.const (.int .i64 1)) .i64 x1 1 (.int .i64 (IntKind.i64.wrap (x1 + 1))) trivial (fun _ => rfl) (bin_add _ _ _ _)), ⟨⟨rfl, trivial⟩, trivial, rfl⟩, rfl,
          Step.plain rfl (does_assign (.tmp 11) (.int .i64 (IntKind.i64.wrap (x1 + 1))) trivial), ⟨⟨rfl, trivial⟩, trivial, rfl⟩, rfl, rfl⟩ ?_
        exact nx_loop ((IntKind.i64.wrap (x1 + 1))) H (cov_prune ⟨rfl, rfl, rfl, trivial⟩ trivial (Nat.le_of_ble_eq_true rfl))
    · replace H := ite_f hc H
      refine aw_exit ?_
      refine ex_then ?_
      refine ex_then ?_
      refine ex_here ?_
      exact nx_ljoin () H hsn2 (cov_prune trivial trivial (Nat.le_of_ble_eq_true rfl))

theorem congressref16_Mint_spec (p0 : (_root_.List api_Right)) (p1 : Int) (p2 : Int) (p3 : Int) (r : (_root_.List api_Right) × Int) (H : congressref16_Mint p0 p1 p2 p3 = some r) : FSpecO Try.prog 8 [(e_s_api_Right p0), (.int .u64 p1), (.int .u64 p2), (.int .i64 p3)] [] 0 (resV [(.own 0), (.int .i64 r.2)]) [(0, some (.arr 4 r.1.length fun j => (e_api_Right (r.1.getD j z_api_Right))))] 1 := by
  refine specO_of (fn := Try.f8) (args := [(e_s_api_Right p0), (.int .u64 p1), (.int .u64 p2), (.int .i64 p3)]) Try.func8 rfl (Nat.le_of_ble_eq_true rfl) ?_
  rintro ⟨G, w0, W, S, Sp⟩ hG
  cases hG
  unfold congressref16_Mint at H
  refine aw_region (es := [_, _]) ⟨Step.plain rfl (does_nil false 0 4 (fun j => (e_api_Right (([] : _root_.List api_Right).getD j z_api_Right)))), ⟨trivial, trivial, rfl⟩, rfl,
    Step.plain rfl (does_assign (.const (.int .i64 0)) (.int .i64 0) (fun _ => rfl)), ⟨trivial, trivial, rfl⟩, rfl, rfl⟩ ?_
  refine aw_cov (cov_prune (s1 := ⟨[(0, (e_s_api_Right p0)), (1, (.int .u64 p1)), (2, (.int .u64 p2)), (3, (.int .i64 p3))], [], 1⟩) ⟨rfl, rfl, rfl, rfl, trivial⟩ trivial (Nat.le_refl _)) ?_
  refine aw_seq ?_
  obtain ⟨v1, h2, H⟩ := whn_of H
  refine aw_region (es := [_, _, _, _, _, _, _, _, _, _, _, _, _, _, _, _]) ⟨Step.plain rfl (does_move (.tmp 1) (.int .u64 p1) trivial), ⟨⟨rfl, trivial⟩, trivial, rfl⟩, rfl,
    Step.plain rfl (does_bin .eql 23 23 (.tmp 11) (.const (.int .u64 0)) .u64 p1 0 (.bool (p1 == 0)) trivial (fun _ => rfl) (bin_eql _ _ _ _)), ⟨⟨rfl, trivial⟩, trivial, rfl⟩, rfl,
    Step.plain rfl (does_move (.tmp 12) (.bool (p1 == 0)) trivial), ⟨⟨rfl, trivial⟩, trivial, rfl⟩, rfl,
    Step.guarded rfl rfl rfl rfl (fun hc => does_move (.tmp 0) (e_s_api_Right p0) trivial), ⟨⟨rfl, rfl, trivial⟩, trivial, rfl⟩, rfl,
    Step.guarded rfl rfl rfl rfl (fun hc => does_move (.tmp 1) (.int .u64 p1) trivial), ⟨⟨rfl, rfl, trivial⟩, trivial, rfl⟩, rfl,
    Step.guarded rfl rfl rfl rfl (fun hc => Does.strip (n' := [(14, (.opt (!(p1 == 0)) (e_s_api_Right p0))), (15, (.opt (!(p1 == 0)) (.int .u64 p1)))]) (n := [(14, (e_s_api_Right p0)), (15, (.int .u64 p1))]) ⟨(.opt _ _ hc), (.opt _ _ hc), trivial⟩ (does_call 23 0 (fun _ => .any) (.func 23) [(.tmp 14), (.tmp 15)] [(e_s_api_Right p0), (.int .u64 p1)] [] true [(e_s_api_Right p0), (.int .u64 p1)] (.int .i64 v1) _ _ rfl fo23 rfl ⟨trivial, trivial, trivial⟩ ⟨.data _ (d_s_api_Right p0), .data _ trivial, trivial⟩ (congressref16_Find_spec p0 p1 _ (h2 hc)) trivial)), ⟨⟨rfl, rfl, rfl, trivial⟩, trivial, rfl⟩, rfl,
    Step.guarded rfl rfl rfl rfl (fun hc => Does.strip (n' := [(16, (.opt (!(p1 == 0)) (.int .i64 v1)))]) (n := [(16, (.int .i64 v1))]) ⟨(.opt _ _ hc), trivial⟩ (does_bin .geq 3 3 (.tmp 16) (.const (.int .i64 0)) .i64 v1 0 (.bool (decide (v1 ≥ 0))) trivial (fun _ => rfl) (bin_geq _ _ _ _))), ⟨⟨rfl, rfl, trivial⟩, trivial, rfl⟩, rfl,
    Step.plain rfl (does_or 13 17 (p1 == 0) (decide (v1 ≥ 0))), ⟨⟨rfl, rfl, trivial⟩, trivial, rfl⟩, rfl,
    Step.plain rfl (does_move (.tmp 18) (.bool ((p1 == 0) || (decide (v1 ≥ 0)))) trivial), ⟨⟨rfl, trivial⟩, trivial, rfl⟩, rfl,
    Step.guarded rfl rfl rfl rfl (fun hc => does_move (.tmp 3) (.int .i64 p3) trivial), ⟨⟨rfl, rfl, trivial⟩, trivial, rfl⟩, rfl,
    Step.guarded rfl rfl rfl rfl (fun hc => Does.strip (n' := [(20, (.opt (!((p1 == 0) || (decide (v1 ≥ 0)))) (.int .i64 p3)))]) (n := [(20, (.int .i64 p3))]) ⟨(.opt _ _ hc), trivial⟩ (does_bin .lss 3 3 (.tmp 20) (.const (.int .i64 1)) .i64 p3 1 (.bool (decide (p3 < 1))) trivial (fun _ => rfl) (bin_lss _ _ _ _))), ⟨⟨rfl, rfl, trivial⟩, trivial, rfl⟩, rfl,
    Step.plain rfl (does_or 19 21 ((p1 == 0) || (decide (v1 ≥ 0))) (decide (p3 < 1))), ⟨⟨rfl, rfl, trivial⟩, trivial, rfl⟩, rfl,
    Step.plain rfl (does_move (.tmp 22) (.bool (((p1 == 0) || (decide (v1 ≥ 0))) || (decide (p3 < 1)))) trivial), ⟨⟨rfl, trivial⟩, trivial, rfl⟩, rfl,
    Step.guarded rfl rfl rfl rfl (fun hc => does_move (.tmp 3) (.int .i64 p3) trivial), ⟨⟨rfl, rfl, trivial⟩, trivial, rfl⟩, rfl,
    Step.guarded rfl rfl rfl rfl (fun hc => Does.strip (n' := [(24, (.opt (!(((p1 == 0) || (decide (v1 ≥ 0))) || (decide (p3 < 1)))) (.int .i64 p3)))]) (n := [(24, (.int .i64 p3))]) ⟨(.opt _ _ hc), trivial⟩ (does_bin .gtr 3 3 (.tmp 24) (.const (.int .i64 7)) .i64 p3 7 (.bool (decide (p3 > 7))) trivial (fun _ => rfl) (bin_gtr _ _ _ _))), ⟨⟨rfl, rfl, trivial⟩, trivial, rfl⟩, rfl,
    Step.plain rfl (does_or 23 25 (((p1 == 0) || (decide (v1 ≥ 0))) || (decide (p3 < 1))) (decide (p3 > 7))), ⟨⟨rfl, rfl, trivial⟩, trivial, rfl⟩, rfl, rfl⟩ ?_
  obtain ⟨v3, hv3, H⟩ := lt_of H
  refine aw_cov (cov_prune (s1 := ⟨[(0, (e_s_api_Right p0)), (1, (.int .u64 p1)), (2, (.int .u64 p2)), (3, (.int .i64 p3)), (26, (.bool v3))], [], 1⟩) ⟨rfl, rfl, rfl, rfl, (by subst hv3; rfl), trivial⟩ trivial (Nat.le_refl _)) ?_
  refine aw_cond rfl (fun hc => ?_) (fun hc => ?_)
  · replace H := ite_t hc H
    refine aw_region (es := [_, _]) ⟨Step.plain rfl (does_nil false 1 4 (fun j => (e_api_Right (([] : _root_.List api_Right).getD j z_api_Right)))), ⟨trivial, trivial, rfl⟩, rfl,
      Step.plain rfl (does_assign (.const (.int .i64 1)) (.int .i64 1) (fun _ => rfl)), ⟨trivial, trivial, rfl⟩, rfl, rfl⟩ ?_
    refine aw_cov (cov_prune (s1 := ⟨[(8, (.own 1)), (9, (.int .i64 1))], [(1, some (.arr 4 ([] : _root_.List api_Right).length fun j => (e_api_Right (([] : _root_.List api_Right).getD j z_api_Right))))], 2⟩) ⟨rfl, rfl, trivial⟩ ⟨rfl, trivial⟩ (Nat.le_refl _)) ?_
    refine aw_ret ?_
    refine rt_then ?_
    exact fun a w hr => ⟨_, [(.own 0), (.int .i64 1)], reach_of hr (cov_to (s1 := ⟨[(8, (.own 0)), (9, (.int .i64 1))], [(0, some (.arr 4 ([] : _root_.List api_Right).length fun j => (e_api_Right (([] : _root_.List api_Right).getD j z_api_Right))))], 1⟩) (fun i => match i with | 0 => 1 | k => k) [] ⟨⟨_, rfl, .own 0 _ _ (Nat.le_of_ble_eq_true rfl) rfl rfl (Box.like_refl _)⟩, ⟨_, rfl, .plain _ (trivial)⟩, trivial⟩ ⟨⟨Nat.le_of_ble_eq_true rfl, _, _, rfl, rfl, boxTo_arr (fun _ => (d_api_Right _))⟩, trivial⟩ rfl rfl), ⟨rfl, rfl, trivial⟩, by decide, by cases H; rfl, by cases H; exact ⟨rfl, trivial⟩, Nat.le_of_ble_eq_true rfl⟩
  · replace H := ite_f hc H
    refine aw_skip ?_
    refine nx_seq ?_
    refine aw_seq ?_
    refine aw_region (es := [_, _, _]) ⟨Step.plain rfl (does_move (.tmp 0) (e_s_api_Right p0) trivial), ⟨⟨rfl, trivial⟩, trivial, rfl⟩, rfl,
      Step.plain rfl (does_lens 22 4 p0.length 27 (fun j => (e_api_Right (p0.getD j z_api_Right))) el22), ⟨⟨rfl, trivial⟩, trivial, rfl⟩, rfl,
      Step.plain rfl (does_bin .geq 3 3 (.tmp 28) (.const (.int .i64 16)) .i64 (p0.length : Int) 16 (.bool (decide ((p0.length : Int) ≥ 16))) trivial (fun _ => rfl) (bin_geq _ _ _ _)), ⟨⟨rfl, trivial⟩, trivial, rfl⟩, rfl, rfl⟩ ?_
    refine aw_cov (cov_prune (s1 := ⟨[(0, (e_s_api_Right p0)), (1, (.int .u64 p1)), (2, (.int .u64 p2)), (3, (.int .i64 p3)), (29, (.bool (decide ((p0.length : Int) ≥ 16))))], [], 1⟩) ⟨rfl, rfl, rfl, rfl, rfl, trivial⟩ trivial (Nat.le_refl _)) ?_
    refine aw_cond rfl (fun hc => ?_) (fun hc => ?_)
    · replace H := ite_t hc H
      refine aw_region (es := [_, _]) ⟨Step.plain rfl (does_nil false 1 4 (fun j => (e_api_Right (([] : _root_.List api_Right).getD j z_api_Right)))), ⟨trivial, trivial, rfl⟩, rfl,
        Step.plain rfl (does_assign (.const (.int .i64 161)) (.int .i64 161) (fun _ => rfl)), ⟨trivial, trivial, rfl⟩, rfl, rfl⟩ ?_
      refine aw_cov (cov_prune (s1 := ⟨[(8, (.own 1)), (9, (.int .i64 161))], [(1, some (.arr 4 ([] : _root_.List api_Right).length fun j => (e_api_Right (([] : _root_.List api_Right).getD j z_api_Right))))], 2⟩) ⟨rfl, rfl, trivial⟩ ⟨rfl, trivial⟩ (Nat.le_refl _)) ?_
      refine aw_ret ?_
      refine rt_then ?_
      exact fun a w hr => ⟨_, [(.own 0), (.int .i64 161)], reach_of hr (cov_to (s1 := ⟨[(8, (.own 0)), (9, (.int .i64 161))], [(0, some (.arr 4 ([] : _root_.List api_Right).length fun j => (e_api_Right (([] : _root_.List api_Right).getD j z_api_Right))))], 1⟩) (fun i => match i with | 0 => 1 | k => k) [] ⟨⟨_, rfl, .own 0 _ _ (Nat.le_of_ble_eq_true rfl) rfl rfl (Box.like_refl _)⟩, ⟨_, rfl, .plain _ (trivial)⟩, trivial⟩ ⟨⟨Nat.le_of_ble_eq_true rfl, _, _, rfl, rfl, boxTo_arr (fun _ => (d_api_Right _))⟩, trivial⟩ rfl rfl), ⟨rfl, rfl, trivial⟩, by decide, by cases H; rfl, by cases H; exact ⟨rfl, trivial⟩, Nat.le_of_ble_eq_true rfl⟩
    · replace H := ite_f hc H
      refine aw_skip ?_
      refine nx_seq ?_
      obtain ⟨h4, H⟩ := fit_of H
      refine aw_region (es := [_, _, _, _]) ⟨Step.plain rfl (does_buildOwn 22 0 4 1 (e_api_Right z_api_Right) (fun j => (e_api_Right (([] : _root_.List api_Right).getD j z_api_Right))) #[] [] [] rfl so22 (by decide) trivial trivial (fun j h => match j, h with  | k + 0, h => absurd h (by omega))), ⟨trivial, trivial, rfl⟩, rfl,
        Step.plain rfl (does_move (.tmp 0) (e_s_api_Right p0) trivial), ⟨⟨rfl, trivial⟩, trivial, rfl⟩, rfl,
        Step.plain rfl (does_appendL e_api_Right z_api_Right ([] : _root_.List api_Right) p0 22 4 32 1 2 30 31 ap22 h4), ⟨⟨rfl, rfl, trivial⟩, ⟨rfl, trivial⟩, rfl⟩, rfl,
        Step.plain rfl (does_assign (.tmp 32) (.own 2) trivial), ⟨⟨rfl, trivial⟩, trivial, rfl⟩, rfl, rfl⟩ ?_
      refine aw_cov (cov_prune (s1 := ⟨[(1, (.int .u64 p1)), (2, (.int .u64 p2)), (3, (.int .i64 p3)), (10, (.own 2))], [(2, some (.arr 4 (([] : _root_.List api_Right) ++ p0).length fun j => (e_api_Right ((([] : _root_.List api_Right) ++ p0).getD j z_api_Right))))], 3⟩) ⟨rfl, rfl, rfl, rfl, trivial⟩ ⟨rfl, trivial⟩ (Nat.le_refl _)) ?_
      obtain ⟨h5, H⟩ := fit_of H
      refine aw_region (es := [_, _, _, _, _, _, _, _]) ⟨Step.plain rfl (does_move (.tmp 10) (.own 2) trivial), ⟨⟨rfl, trivial⟩, trivial, rfl⟩, rfl,
        Step.plain rfl (does_move (.tmp 1) (.int .u64 p1) trivial), ⟨⟨rfl, trivial⟩, trivial, rfl⟩, rfl,
        Step.plain rfl (does_move (.tmp 2) (.int .u64 p2) trivial), ⟨⟨rfl, trivial⟩, trivial, rfl⟩, rfl,
        Step.plain rfl (does_move (.tmp 3) (.int .i64 p3) trivial), ⟨⟨rfl, trivial⟩, trivial, rfl⟩, rfl,
        Step.plain rfl (does_buildT 46 #[(0, (.tmp 34)), (1, (.tmp 35)), (2, (.tmp 36))] [(0, (.tmp 34)), (1, (.tmp 35)), (2, (.tmp 36))] [(0, (.int .u64 p1)), (1, (.int .u64 p2)), (2, (.int .i64 p3))] (.st [1, 1, 1, 1]) (c_api_Right z_api_Right) (c_api_Right ({ Handle := p1, Session := p2, Give := p3, Revoked := false } : api_Right)) rfl bo46 ⟨⟨rfl, trivial⟩, ⟨rfl, trivial⟩, ⟨rfl, trivial⟩, trivial⟩ ⟨⟨Nat.le_of_ble_eq_true rfl, rfl, rfl⟩, ⟨Nat.le_of_ble_eq_true rfl, rfl, rfl⟩, ⟨Nat.le_of_ble_eq_true rfl, rfl, rfl⟩, trivial⟩ (by funext j; match j with | 0 => rfl | 1 => rfl | 2 => rfl | 3 => rfl | _ + 4 => rfl)), ⟨⟨rfl, rfl, rfl, trivial⟩, trivial, rfl⟩, rfl,
        Step.plain rfl (does_buildSl 22 1 4 (e_api_Right z_api_Right) (fun j => (e_api_Right (([({ Handle := p1, Session := p2, Give := p3, Revoked := false } : api_Right)] : _root_.List api_Right).getD j z_api_Right))) #[(0, (.tmp 37))] [(0, (.tmp 37))] [(0, (e_api_Right ({ Handle := p1, Session := p2, Give := p3, Revoked := false } : api_Right)))] rfl so22 (by decide) ⟨⟨rfl, trivial⟩, trivial⟩ ⟨⟨Nat.le_of_ble_eq_true rfl, rfl, rfl⟩, trivial⟩ (fun j h => match j, h with | 0, _ => rfl | k + 1, h => absurd h (by omega))), ⟨⟨rfl, trivial⟩, trivial, rfl⟩, rfl,
        Step.plain rfl (does_appendL e_api_Right z_api_Right (([] : _root_.List api_Right) ++ p0) ([({ Handle := p1, Session := p2, Give := p3, Revoked := false } : api_Right)] : _root_.List api_Right) 22 4 32 2 3 33 38 ap22 h5), ⟨⟨rfl, rfl, trivial⟩, ⟨rfl, trivial⟩, rfl⟩, rfl,
        Step.plain rfl (does_assign (.tmp 39) (.own 3) trivial), ⟨⟨rfl, trivial⟩, trivial, rfl⟩, rfl, rfl⟩ ?_
      obtain ⟨v6, hv6, H⟩ := lt_of H
      refine aw_cov (cov_prune (s1 := ⟨[(10, (.own 3))], [(3, some (.arr 4 v6.length fun j => (e_api_Right (v6.getD j z_api_Right))))], 4⟩) ⟨rfl, trivial⟩ ⟨(by subst hv6; rfl), trivial⟩ (Nat.le_refl _)) ?_
      refine aw_region (es := [_, _, _]) ⟨Step.plain rfl (does_move (.tmp 10) (.own 3) trivial), ⟨⟨rfl, trivial⟩, trivial, rfl⟩, rfl,
        Step.plain rfl (does_assign (.tmp 40) (.own 3) trivial), ⟨⟨rfl, trivial⟩, trivial, rfl⟩, rfl,
        Step.plain rfl (does_assign (.const (.int .i64 0)) (.int .i64 0) (fun _ => rfl)), ⟨trivial, trivial, rfl⟩, rfl, rfl⟩ ?_
      refine aw_cov (cov_prune (s1 := ⟨[(8, (.own 3)), (9, (.int .i64 0))], [(3, some (.arr 4 v6.length fun j => (e_api_Right (v6.getD j z_api_Right))))], 4⟩) ⟨rfl, rfl, trivial⟩ ⟨rfl, trivial⟩ (Nat.le_refl _)) ?_
      refine aw_ret ?_
      exact fun a w hr => ⟨_, [(.own 0), (.int .i64 0)], reach_of hr (cov_to (s1 := ⟨[(8, (.own 0)), (9, (.int .i64 0))], [(0, some (.arr 4 v6.length fun j => (e_api_Right (v6.getD j z_api_Right))))], 1⟩) (fun i => match i with | 0 => 3 | k => k) [] ⟨⟨_, rfl, .own 0 _ _ (Nat.le_of_ble_eq_true rfl) rfl rfl (Box.like_refl _)⟩, ⟨_, rfl, .plain _ (trivial)⟩, trivial⟩ ⟨⟨Nat.le_of_ble_eq_true rfl, _, _, rfl, rfl, boxTo_arr (fun _ => (d_api_Right _))⟩, trivial⟩ rfl rfl), ⟨rfl, rfl, trivial⟩, by decide, by cases H; rfl, by cases H; exact ⟨rfl, trivial⟩, Nat.le_of_ble_eq_true rfl⟩

theorem congressref16_Mint_data (p0 : (_root_.List api_Right)) (p1 : Int) (p2 : Int) (p3 : Int) (r : (_root_.List api_Right) × Int) (H : congressref16_Mint p0 p1 p2 p3 = some r) : FSpec Try.prog 8 [(e_s_api_Right p0), (.int .u64 p1), (.int .u64 p2), (.int .i64 p3)] (resV [(e_s_api_Right r.1), (.int .i64 r.2)]) :=
  FSpecO.toData (fz := [0]) (congressref16_Mint_spec p0 p1 p2 p3 r H) (res_data2 (d_s_api_Right r.1) trivial) (.tup _ _ _ (fun j => match j with | 0 => .frz 0 _ _ _ rfl (fun _ => (d_api_Right _)) (by decide) | 1 => .plain _ (trivial) | _ + 2 => .plain _ trivial))

theorem right_Check_spec (p0 : (_root_.List api_Right)) (p1 : Int) (p2 : Int) (r : Int × Int) (H : right_Check p0 p1 p2 = some r) : FSpec Try.prog 9 [(e_s_api_Right p0), (.int .u64 p1), (.int .i64 p2)] (resV [(.int .u64 r.1), (.int .i64 r.2)]) := by
  refine spec_of (fn := Try.f9) (args := [(e_s_api_Right p0), (.int .u64 p1), (.int .i64 p2)]) Try.func9 rfl (Nat.le_of_ble_eq_true rfl) ?_
  rintro ⟨G, w0, W, S, Sp⟩ hG
  cases hG
  unfold right_Check at H
  refine aw_region (es := [_, _]) ⟨Step.plain rfl (does_assign (.const (.int .u64 0)) (.int .u64 0) (fun _ => rfl)), ⟨trivial, trivial, rfl⟩, rfl,
    Step.plain rfl (does_assign (.const (.int .i64 0)) (.int .i64 0) (fun _ => rfl)), ⟨trivial, trivial, rfl⟩, rfl, rfl⟩ ?_
  refine aw_cov (cov_prune (s1 := ⟨[(0, (e_s_api_Right p0)), (1, (.int .u64 p1)), (2, (.int .i64 p2))], [], 0⟩) ⟨rfl, rfl, rfl, trivial⟩ trivial (Nat.le_refl _)) ?_
  obtain ⟨v1, h2, H⟩ := bnd H
  refine aw_region (es := [_, _, _, _]) ⟨Step.plain rfl (does_move (.tmp 0) (e_s_api_Right p0) trivial), ⟨⟨rfl, trivial⟩, trivial, rfl⟩, rfl,
    Step.plain rfl (does_move (.tmp 1) (.int .u64 p1) trivial), ⟨⟨rfl, trivial⟩, trivial, rfl⟩, rfl,
    Step.plain rfl (does_call 21 0 (fun _ => .any) (.func 21) [(.tmp 9), (.tmp 10)] [(e_s_api_Right p0), (.int .u64 p1)] [] true [(e_s_api_Right p0), (.int .u64 p1)] (.int .i64 v1) _ _ rfl fo21 rfl ⟨trivial, trivial, trivial⟩ ⟨.data _ (d_s_api_Right p0), .data _ trivial, trivial⟩ (right_find_spec p0 p1 _ h2) trivial), ⟨⟨rfl, rfl, trivial⟩, trivial, rfl⟩, rfl,
    Step.plain rfl (does_assign (.tmp 11) (.int .i64 v1) trivial), ⟨⟨rfl, trivial⟩, trivial, rfl⟩, rfl, rfl⟩ ?_
  refine aw_cov (cov_prune (s1 := ⟨[(0, (e_s_api_Right p0)), (2, (.int .i64 p2)), (8, (.int .i64 v1))], [], 0⟩) ⟨rfl, rfl, rfl, trivial⟩ trivial (Nat.le_refl _)) ?_
  refine aw_seq ?_
  obtain ⟨h3, H⟩ := ibg_of H
  obtain ⟨v4, h5, H⟩ := whn_of H
  obtain ⟨h6, H⟩ := ibg_of H
  refine aw_region (es := [_, _, _, _, _, _, _, _, _, _, _, _, _, _, _, _, _, _, _, _, _, _, _, _]) ⟨Step.plain rfl (does_move (.tmp 8) (.int .i64 v1) trivial), ⟨⟨rfl, trivial⟩, trivial, rfl⟩, rfl,
    Step.plain rfl (does_bin .lss 3 3 (.tmp 12) (.const (.int .i64 0)) .i64 v1 0 (.bool (decide (v1 < 0))) trivial (fun _ => rfl) (bin_lss _ _ _ _)), ⟨⟨rfl, trivial⟩, trivial, rfl⟩, rfl,
    Step.plain rfl (does_move (.tmp 13) (.bool (decide (v1 < 0))) trivial), ⟨⟨rfl, trivial⟩, trivial, rfl⟩, rfl,
    Step.guarded rfl rfl rfl rfl (fun hc => does_move (.tmp 0) (e_s_api_Right p0) trivial), ⟨⟨rfl, rfl, trivial⟩, trivial, rfl⟩, rfl,
    Step.guarded rfl rfl rfl rfl (fun hc => does_move (.tmp 8) (.int .i64 v1) trivial), ⟨⟨rfl, rfl, trivial⟩, trivial, rfl⟩, rfl,
    Step.guarded rfl rfl rfl rfl (fun hc => Does.strip (n' := [(15, (.opt (!(decide (v1 < 0))) (e_s_api_Right p0))), (16, (.opt (!(decide (v1 < 0))) (.int .i64 v1)))]) (n := [(15, (e_s_api_Right p0)), (16, (.int .i64 v1))]) ⟨(.opt _ _ hc), (.opt _ _ hc), trivial⟩ (does_indexAddrs 22 4 p0.length 15 (fun j => (e_api_Right (p0.getD j z_api_Right))) (.tmp 16) .i64 v1 el22 trivial (h3 hc).1 (h3 hc).2)), ⟨⟨rfl, rfl, rfl, trivial⟩, trivial, rfl⟩, rfl,
    Step.guarded rfl rfl rfl rfl (fun hc => Does.strip (n' := [(17, (.opt (!(decide (v1 < 0))) (.cptr (e_api_Right (p0.getD v1.toNat z_api_Right)))))]) (n := [(17, (.cptr (e_api_Right (p0.getD v1.toNat z_api_Right))))]) ⟨(.opt _ _ hc), trivial⟩ (does_fieldAddrc 46 3 3 17 (e_api_Right (p0.getD v1.toNat z_api_Right)) fl46_3 rfl (Nat.le_of_ble_eq_true rfl) rfl)), ⟨⟨rfl, rfl, trivial⟩, trivial, rfl⟩, rfl,
    Step.guarded rfl rfl rfl rfl (fun hc => Does.strip (n' := [(18, (.opt (!(decide (v1 < 0))) (.cptr (.bool ((p0.getD v1.toNat z_api_Right).Revoked)))))]) (n := [(18, (.cptr (.bool ((p0.getD v1.toNat z_api_Right).Revoked))))]) ⟨(.opt _ _ hc), trivial⟩ (does_loadc 4 18 (.bool ((p0.getD v1.toNat z_api_Right).Revoked)) ty4)), ⟨⟨rfl, rfl, trivial⟩, trivial, rfl⟩, rfl,
    Step.plain rfl (does_or 14 19 (decide (v1 < 0)) ((p0.getD v1.toNat z_api_Right).Revoked)), ⟨⟨rfl, rfl, trivial⟩, trivial, rfl⟩, rfl,
    Step.plain rfl (does_move (.tmp 20) (.bool ((decide (v1 < 0)) || ((p0.getD v1.toNat z_api_Right).Revoked))) trivial), ⟨⟨rfl, trivial⟩, trivial, rfl⟩, rfl,
    Step.guarded rfl rfl rfl rfl (fun hc => does_move (.tmp 2) (.int .i64 p2) trivial), ⟨⟨rfl, rfl, trivial⟩, trivial, rfl⟩, rfl,
    Step.guarded rfl rfl rfl rfl (fun hc => Does.strip (n' := [(22, (.opt (!((decide (v1 < 0)) || ((p0.getD v1.toNat z_api_Right).Revoked))) (.int .i64 p2)))]) (n := [(22, (.int .i64 p2))]) ⟨(.opt _ _ hc), trivial⟩ (does_call 20 0 (fun _ => .any) (.func 20) [(.tmp 22)] [(.int .i64 p2)] [] true [(.int .i64 p2)] (.bool v4) _ _ rfl fo20 rfl ⟨trivial, trivial⟩ ⟨.data _ trivial, trivial⟩ (right_gives_spec p2 _ (h5 hc)) trivial)), ⟨⟨rfl, rfl, trivial⟩, trivial, rfl⟩, rfl,
    Step.guarded rfl rfl rfl rfl (fun hc => Does.strip (n' := [(23, (.opt (!((decide (v1 < 0)) || ((p0.getD v1.toNat z_api_Right).Revoked))) (.bool v4)))]) (n := [(23, (.bool v4))]) ⟨(.opt _ _ hc), trivial⟩ (does_not 4 (.tmp 23) v4 trivial)), ⟨⟨rfl, rfl, trivial⟩, trivial, rfl⟩, rfl,
    Step.plain rfl (does_or 21 24 ((decide (v1 < 0)) || ((p0.getD v1.toNat z_api_Right).Revoked)) (!v4)), ⟨⟨rfl, rfl, trivial⟩, trivial, rfl⟩, rfl,
    Step.plain rfl (does_move (.tmp 25) (.bool (((decide (v1 < 0)) || ((p0.getD v1.toNat z_api_Right).Revoked)) || (!v4))) trivial), ⟨⟨rfl, trivial⟩, trivial, rfl⟩, rfl,
    Step.guarded rfl rfl rfl rfl (fun hc => does_move (.tmp 2) (.int .i64 p2) trivial), ⟨⟨rfl, rfl, trivial⟩, trivial, rfl⟩, rfl,
    Step.guarded rfl rfl rfl rfl (fun hc => does_move (.tmp 0) (e_s_api_Right p0) trivial), ⟨⟨rfl, rfl, trivial⟩, trivial, rfl⟩, rfl,
    Step.guarded rfl rfl rfl rfl (fun hc => does_move (.tmp 8) (.int .i64 v1) trivial), ⟨⟨rfl, rfl, trivial⟩, trivial, rfl⟩, rfl,
    Step.guarded rfl rfl rfl rfl (fun hc => Does.strip (n' := [(28, (.opt (!(((decide (v1 < 0)) || ((p0.getD v1.toNat z_api_Right).Revoked)) || (!v4))) (e_s_api_Right p0))), (29, (.opt (!(((decide (v1 < 0)) || ((p0.getD v1.toNat z_api_Right).Revoked)) || (!v4))) (.int .i64 v1)))]) (n := [(28, (e_s_api_Right p0)), (29, (.int .i64 v1))]) ⟨(.opt _ _ hc), (.opt _ _ hc), trivial⟩ (does_indexAddrs 22 4 p0.length 28 (fun j => (e_api_Right (p0.getD j z_api_Right))) (.tmp 29) .i64 v1 el22 trivial (h6 hc).1 (h6 hc).2)), ⟨⟨rfl, rfl, rfl, trivial⟩, trivial, rfl⟩, rfl,
    Step.guarded rfl rfl rfl rfl (fun hc => Does.strip (n' := [(30, (.opt (!(((decide (v1 < 0)) || ((p0.getD v1.toNat z_api_Right).Revoked)) || (!v4))) (.cptr (e_api_Right (p0.getD v1.toNat z_api_Right)))))]) (n := [(30, (.cptr (e_api_Right (p0.getD v1.toNat z_api_Right))))]) ⟨(.opt _ _ hc), trivial⟩ (does_fieldAddrc 46 2 2 30 (e_api_Right (p0.getD v1.toNat z_api_Right)) fl46_2 rfl (Nat.le_of_ble_eq_true rfl) rfl)), ⟨⟨rfl, rfl, trivial⟩, trivial, rfl⟩, rfl,
    Step.guarded rfl rfl rfl rfl (fun hc => Does.strip (n' := [(31, (.opt (!(((decide (v1 < 0)) || ((p0.getD v1.toNat z_api_Right).Revoked)) || (!v4))) (.cptr (.int .i64 ((p0.getD v1.toNat z_api_Right).Give)))))]) (n := [(31, (.cptr (.int .i64 ((p0.getD v1.toNat z_api_Right).Give))))]) ⟨(.opt _ _ hc), trivial⟩ (does_loadc 3 31 (.int .i64 ((p0.getD v1.toNat z_api_Right).Give)) ty3)), ⟨⟨rfl, rfl, trivial⟩, trivial, rfl⟩, rfl,
    Step.guarded rfl rfl rfl rfl (fun hc => Does.strip (n' := [(27, (.opt (!(((decide (v1 < 0)) || ((p0.getD v1.toNat z_api_Right).Revoked)) || (!v4))) (.int .i64 p2))), (32, (.opt (!(((decide (v1 < 0)) || ((p0.getD v1.toNat z_api_Right).Revoked)) || (!v4))) (.int .i64 ((p0.getD v1.toNat z_api_Right).Give))))]) (n := [(27, (.int .i64 p2)), (32, (.int .i64 ((p0.getD v1.toNat z_api_Right).Give)))]) ⟨(.opt _ _ hc), (.opt _ _ hc), trivial⟩ (does_bin .andNot 3 3 (.tmp 27) (.tmp 32) .i64 p2 ((p0.getD v1.toNat z_api_Right).Give) (.int .i64 (iandNot .i64 p2 ((p0.getD v1.toNat z_api_Right).Give))) trivial trivial (bin_andNot _ _ _ _))), ⟨⟨rfl, rfl, rfl, trivial⟩, trivial, rfl⟩, rfl,
    Step.guarded rfl rfl rfl rfl (fun hc => Does.strip (n' := [(33, (.opt (!(((decide (v1 < 0)) || ((p0.getD v1.toNat z_api_Right).Revoked)) || (!v4))) (.int .i64 (iandNot .i64 p2 ((p0.getD v1.toNat z_api_Right).Give)))))]) (n := [(33, (.int .i64 (iandNot .i64 p2 ((p0.getD v1.toNat z_api_Right).Give))))]) ⟨(.opt _ _ hc), trivial⟩ (does_bin .neq 3 3 (.tmp 33) (.const (.int .i64 0)) .i64 (iandNot .i64 p2 ((p0.getD v1.toNat z_api_Right).Give)) 0 (.bool ((iandNot .i64 p2 ((p0.getD v1.toNat z_api_Right).Give)) != 0)) trivial (fun _ => rfl) (bin_neq _ _ _ _))), ⟨⟨rfl, rfl, trivial⟩, trivial, rfl⟩, rfl,
    Step.plain rfl (does_or 26 34 (((decide (v1 < 0)) || ((p0.getD v1.toNat z_api_Right).Revoked)) || (!v4)) ((iandNot .i64 p2 ((p0.getD v1.toNat z_api_Right).Give)) != 0)), ⟨⟨rfl, rfl, trivial⟩, trivial, rfl⟩, rfl, rfl⟩ ?_
  obtain ⟨v7, hv7, H⟩ := lt_of H
  refine aw_cov (cov_prune (s1 := ⟨[(0, (e_s_api_Right p0)), (8, (.int .i64 v1)), (35, (.bool v7))], [], 0⟩) ⟨rfl, rfl, (by subst hv7; rfl), trivial⟩ trivial (Nat.le_refl _)) ?_
  refine aw_cond rfl (fun hc => ?_) (fun hc => ?_)
  · replace H := ite_t hc H
    refine aw_region (es := [_, _]) ⟨Step.plain rfl (does_assign (.const (.int .u64 0)) (.int .u64 0) (fun _ => rfl)), ⟨trivial, trivial, rfl⟩, rfl,
      Step.plain rfl (does_assign (.const (.int .i64 160)) (.int .i64 160) (fun _ => rfl)), ⟨trivial, trivial, rfl⟩, rfl, rfl⟩ ?_
    refine aw_cov (cov_prune (s1 := ⟨[(6, (.int .u64 0)), (7, (.int .i64 160))], [], 0⟩) ⟨rfl, rfl, trivial⟩ trivial (Nat.le_refl _)) ?_
    refine aw_ret ?_
    refine rt_then ?_
    exact fun a w hr => ⟨_, [(.int .u64 0), (.int .i64 160)], hr, ⟨⟨_, rfl, .data _ trivial⟩, ⟨_, rfl, .data _ trivial⟩, trivial⟩, by decide, by cases H; rfl⟩
  · replace H := ite_f hc H
    refine aw_skip ?_
    refine nx_seq ?_
    obtain ⟨h8, H⟩ := ib_of H
    refine aw_region (es := [_, _, _, _, _, _, _]) ⟨Step.plain rfl (does_move (.tmp 0) (e_s_api_Right p0) trivial), ⟨⟨rfl, trivial⟩, trivial, rfl⟩, rfl,
      Step.plain rfl (does_move (.tmp 8) (.int .i64 v1) trivial), ⟨⟨rfl, trivial⟩, trivial, rfl⟩, rfl,
      Step.plain rfl (does_indexAddrs 22 4 p0.length 36 (fun j => (e_api_Right (p0.getD j z_api_Right))) (.tmp 37) .i64 v1 el22 trivial h8.1 h8.2), ⟨⟨rfl, rfl, trivial⟩, trivial, rfl⟩, rfl,
      Step.plain rfl (does_fieldAddrc 46 1 1 38 (e_api_Right (p0.getD v1.toNat z_api_Right)) fl46_1 rfl (Nat.le_of_ble_eq_true rfl) rfl), ⟨⟨rfl, trivial⟩, trivial, rfl⟩, rfl,
      Step.plain rfl (does_loadc 23 39 (.int .u64 ((p0.getD v1.toNat z_api_Right).Session)) ty23), ⟨⟨rfl, trivial⟩, trivial, rfl⟩, rfl,
      Step.plain rfl (does_assign (.tmp 40) (.int .u64 ((p0.getD v1.toNat z_api_Right).Session)) trivial), ⟨⟨rfl, trivial⟩, trivial, rfl⟩, rfl,
      Step.plain rfl (does_assign (.const (.int .i64 0)) (.int .i64 0) (fun _ => rfl)), ⟨trivial, trivial, rfl⟩, rfl, rfl⟩ ?_
    refine aw_cov (cov_prune (s1 := ⟨[(6, (.int .u64 ((p0.getD v1.toNat z_api_Right).Session))), (7, (.int .i64 0))], [], 0⟩) ⟨rfl, rfl, trivial⟩ trivial (Nat.le_refl _)) ?_
    refine aw_ret ?_
    exact fun a w hr => ⟨_, [(.int .u64 ((p0.getD v1.toNat z_api_Right).Session)), (.int .i64 0)], hr, ⟨⟨_, rfl, .data _ trivial⟩, ⟨_, rfl, .data _ trivial⟩, trivial⟩, by decide, by cases H; rfl⟩

theorem congressref16_Check_spec (p0 : (_root_.List api_Right)) (p1 : Int) (p2 : Int) (r : Int × Int) (H : congressref16_Check p0 p1 p2 = some r) : FSpec Try.prog 10 [(e_s_api_Right p0), (.int .u64 p1), (.int .i64 p2)] (resV [(.int .u64 r.1), (.int .i64 r.2)]) := by
  refine spec_of (fn := Try.f10) (args := [(e_s_api_Right p0), (.int .u64 p1), (.int .i64 p2)]) Try.func10 rfl (Nat.le_of_ble_eq_true rfl) ?_
  rintro ⟨G, w0, W, S, Sp⟩ hG
  cases hG
  unfold congressref16_Check at H
  refine aw_region (es := [_, _]) ⟨Step.plain rfl (does_assign (.const (.int .u64 0)) (.int .u64 0) (fun _ => rfl)), ⟨trivial, trivial, rfl⟩, rfl,
    Step.plain rfl (does_assign (.const (.int .i64 0)) (.int .i64 0) (fun _ => rfl)), ⟨trivial, trivial, rfl⟩, rfl, rfl⟩ ?_
  refine aw_cov (cov_prune (s1 := ⟨[(0, (e_s_api_Right p0)), (1, (.int .u64 p1)), (2, (.int .i64 p2))], [], 0⟩) ⟨rfl, rfl, rfl, trivial⟩ trivial (Nat.le_refl _)) ?_
  obtain ⟨v1, h2, H⟩ := bnd H
  refine aw_region (es := [_, _, _, _]) ⟨Step.plain rfl (does_move (.tmp 0) (e_s_api_Right p0) trivial), ⟨⟨rfl, trivial⟩, trivial, rfl⟩, rfl,
    Step.plain rfl (does_move (.tmp 1) (.int .u64 p1) trivial), ⟨⟨rfl, trivial⟩, trivial, rfl⟩, rfl,
    Step.plain rfl (does_call 23 0 (fun _ => .any) (.func 23) [(.tmp 9), (.tmp 10)] [(e_s_api_Right p0), (.int .u64 p1)] [] true [(e_s_api_Right p0), (.int .u64 p1)] (.int .i64 v1) _ _ rfl fo23 rfl ⟨trivial, trivial, trivial⟩ ⟨.data _ (d_s_api_Right p0), .data _ trivial, trivial⟩ (congressref16_Find_spec p0 p1 _ h2) trivial), ⟨⟨rfl, rfl, trivial⟩, trivial, rfl⟩, rfl,
    Step.plain rfl (does_assign (.tmp 11) (.int .i64 v1) trivial), ⟨⟨rfl, trivial⟩, trivial, rfl⟩, rfl, rfl⟩ ?_
  refine aw_cov (cov_prune (s1 := ⟨[(0, (e_s_api_Right p0)), (2, (.int .i64 p2)), (8, (.int .i64 v1))], [], 0⟩) ⟨rfl, rfl, rfl, trivial⟩ trivial (Nat.le_refl _)) ?_
  refine aw_seq ?_
  obtain ⟨h3, H⟩ := ibg_of H
  refine aw_region (es := [_, _, _, _, _, _, _, _, _, _, _, _, _, _, _, _, _]) ⟨Step.plain rfl (does_move (.tmp 8) (.int .i64 v1) trivial), ⟨⟨rfl, trivial⟩, trivial, rfl⟩, rfl,
    Step.plain rfl (does_bin .lss 3 3 (.tmp 12) (.const (.int .i64 0)) .i64 v1 0 (.bool (decide (v1 < 0))) trivial (fun _ => rfl) (bin_lss _ _ _ _)), ⟨⟨rfl, trivial⟩, trivial, rfl⟩, rfl,
    Step.plain rfl (does_move (.tmp 13) (.bool (decide (v1 < 0))) trivial), ⟨⟨rfl, trivial⟩, trivial, rfl⟩, rfl,
    Step.guarded rfl rfl rfl rfl (fun hc => does_move (.tmp 0) (e_s_api_Right p0) trivial), ⟨⟨rfl, rfl, trivial⟩, trivial, rfl⟩, rfl,
    Step.guarded rfl rfl rfl rfl (fun hc => does_move (.tmp 8) (.int .i64 v1) trivial), ⟨⟨rfl, rfl, trivial⟩, trivial, rfl⟩, rfl,
    Step.guarded rfl rfl rfl rfl (fun hc => Does.strip (n' := [(15, (.opt (!(decide (v1 < 0))) (e_s_api_Right p0))), (16, (.opt (!(decide (v1 < 0))) (.int .i64 v1)))]) (n := [(15, (e_s_api_Right p0)), (16, (.int .i64 v1))]) ⟨(.opt _ _ hc), (.opt _ _ hc), trivial⟩ (does_indexAddrs 22 4 p0.length 15 (fun j => (e_api_Right (p0.getD j z_api_Right))) (.tmp 16) .i64 v1 el22 trivial (h3 hc).1 (h3 hc).2)), ⟨⟨rfl, rfl, rfl, trivial⟩, trivial, rfl⟩, rfl,
    Step.guarded rfl rfl rfl rfl (fun hc => Does.strip (n' := [(17, (.opt (!(decide (v1 < 0))) (.cptr (e_api_Right (p0.getD v1.toNat z_api_Right)))))]) (n := [(17, (.cptr (e_api_Right (p0.getD v1.toNat z_api_Right))))]) ⟨(.opt _ _ hc), trivial⟩ (does_fieldAddrc 46 3 3 17 (e_api_Right (p0.getD v1.toNat z_api_Right)) fl46_3 rfl (Nat.le_of_ble_eq_true rfl) rfl)), ⟨⟨rfl, rfl, trivial⟩, trivial, rfl⟩, rfl,
    Step.guarded rfl rfl rfl rfl (fun hc => Does.strip (n' := [(18, (.opt (!(decide (v1 < 0))) (.cptr (.bool ((p0.getD v1.toNat z_api_Right).Revoked)))))]) (n := [(18, (.cptr (.bool ((p0.getD v1.toNat z_api_Right).Revoked))))]) ⟨(.opt _ _ hc), trivial⟩ (does_loadc 4 18 (.bool ((p0.getD v1.toNat z_api_Right).Revoked)) ty4)), ⟨⟨rfl, rfl, trivial⟩, trivial, rfl⟩, rfl,
    Step.plain rfl (does_or 14 19 (decide (v1 < 0)) ((p0.getD v1.toNat z_api_Right).Revoked)), ⟨⟨rfl, rfl, trivial⟩, trivial, rfl⟩, rfl,
    Step.plain rfl (does_move (.tmp 20) (.bool ((decide (v1 < 0)) || ((p0.getD v1.toNat z_api_Right).Revoked))) trivial), ⟨⟨rfl, trivial⟩, trivial, rfl⟩, rfl,
    Step.guarded rfl rfl rfl rfl (fun hc => does_move (.tmp 2) (.int .i64 p2) trivial), ⟨⟨rfl, rfl, trivial⟩, trivial, rfl⟩, rfl,
    Step.guarded rfl rfl rfl rfl (fun hc => Does.strip (n' := [(22, (.opt (!((decide (v1 < 0)) || ((p0.getD v1.toNat z_api_Right).Revoked))) (.int .i64 p2)))]) (n := [(22, (.int .i64 p2))]) ⟨(.opt _ _ hc), trivial⟩ (does_bin .lss 3 3 (.tmp 22) (.const (.int .i64 1)) .i64 p2 1 (.bool (decide (p2 < 1))) trivial (fun _ => rfl) (bin_lss _ _ _ _))), ⟨⟨rfl, rfl, trivial⟩, trivial, rfl⟩, rfl,
    Step.plain rfl (does_or 21 23 ((decide (v1 < 0)) || ((p0.getD v1.toNat z_api_Right).Revoked)) (decide (p2 < 1))), ⟨⟨rfl, rfl, trivial⟩, trivial, rfl⟩, rfl,
    Step.plain rfl (does_move (.tmp 24) (.bool (((decide (v1 < 0)) || ((p0.getD v1.toNat z_api_Right).Revoked)) || (decide (p2 < 1)))) trivial), ⟨⟨rfl, trivial⟩, trivial, rfl⟩, rfl,
    Step.guarded rfl rfl rfl rfl (fun hc => does_move (.tmp 2) (.int .i64 p2) trivial), ⟨⟨rfl, rfl, trivial⟩, trivial, rfl⟩, rfl,
    Step.guarded rfl rfl rfl rfl (fun hc => Does.strip (n' := [(26, (.opt (!(((decide (v1 < 0)) || ((p0.getD v1.toNat z_api_Right).Revoked)) || (decide (p2 < 1)))) (.int .i64 p2)))]) (n := [(26, (.int .i64 p2))]) ⟨(.opt _ _ hc), trivial⟩ (does_bin .gtr 3 3 (.tmp 26) (.const (.int .i64 7)) .i64 p2 7 (.bool (decide (p2 > 7))) trivial (fun _ => rfl) (bin_gtr _ _ _ _))), ⟨⟨rfl, rfl, trivial⟩, trivial, rfl⟩, rfl,
    Step.plain rfl (does_or 25 27 (((decide (v1 < 0)) || ((p0.getD v1.toNat z_api_Right).Revoked)) || (decide (p2 < 1))) (decide (p2 > 7))), ⟨⟨rfl, rfl, trivial⟩, trivial, rfl⟩, rfl, rfl⟩ ?_
  obtain ⟨v4, hv4, H⟩ := lt_of H
  refine aw_cov (cov_prune (s1 := ⟨[(0, (e_s_api_Right p0)), (2, (.int .i64 p2)), (8, (.int .i64 v1)), (28, (.bool v4))], [], 0⟩) ⟨rfl, rfl, rfl, (by subst hv4; rfl), trivial⟩ trivial (Nat.le_refl _)) ?_
  refine aw_cond rfl (fun hc => ?_) (fun hc => ?_)
  · replace H := ite_t hc H
    refine aw_region (es := [_, _]) ⟨Step.plain rfl (does_assign (.const (.int .u64 0)) (.int .u64 0) (fun _ => rfl)), ⟨trivial, trivial, rfl⟩, rfl,
      Step.plain rfl (does_assign (.const (.int .i64 160)) (.int .i64 160) (fun _ => rfl)), ⟨trivial, trivial, rfl⟩, rfl, rfl⟩ ?_
    refine aw_cov (cov_prune (s1 := ⟨[(6, (.int .u64 0)), (7, (.int .i64 160))], [], 0⟩) ⟨rfl, rfl, trivial⟩ trivial (Nat.le_refl _)) ?_
    refine aw_ret ?_
    refine rt_then ?_
    exact fun a w hr => ⟨_, [(.int .u64 0), (.int .i64 160)], hr, ⟨⟨_, rfl, .data _ trivial⟩, ⟨_, rfl, .data _ trivial⟩, trivial⟩, by decide, by cases H; rfl⟩
  · replace H := ite_f hc H
    refine aw_skip ?_
    refine nx_seq ?_
    refine aw_seq ?_
    obtain ⟨h5, H⟩ := ib_of H
    refine aw_region (es := [_, _, _, _, _, _, _, _, _]) ⟨Step.plain rfl (does_move (.tmp 0) (e_s_api_Right p0) trivial), ⟨⟨rfl, trivial⟩, trivial, rfl⟩, rfl,
      Step.plain rfl (does_move (.tmp 8) (.int .i64 v1) trivial), ⟨⟨rfl, trivial⟩, trivial, rfl⟩, rfl,
      Step.plain rfl (does_indexAddrs 22 4 p0.length 29 (fun j => (e_api_Right (p0.getD j z_api_Right))) (.tmp 30) .i64 v1 el22 trivial h5.1 h5.2), ⟨⟨rfl, rfl, trivial⟩, trivial, rfl⟩, rfl,
      Step.plain rfl (does_fieldAddrc 46 2 2 31 (e_api_Right (p0.getD v1.toNat z_api_Right)) fl46_2 rfl (Nat.le_of_ble_eq_true rfl) rfl), ⟨⟨rfl, trivial⟩, trivial, rfl⟩, rfl,
      Step.plain rfl (does_loadc 3 32 (.int .i64 ((p0.getD v1.toNat z_api_Right).Give)) ty3), ⟨⟨rfl, trivial⟩, trivial, rfl⟩, rfl,
      Step.plain rfl (does_move (.tmp 2) (.int .i64 p2) trivial), ⟨⟨rfl, trivial⟩, trivial, rfl⟩, rfl,
      Step.plain rfl (does_bin .and 3 3 (.tmp 33) (.tmp 34) .i64 ((p0.getD v1.toNat z_api_Right).Give) p2 (.int .i64 (iand .i64 ((p0.getD v1.toNat z_api_Right).Give) p2)) trivial trivial (bin_and _ _ _ _)), ⟨⟨rfl, rfl, trivial⟩, trivial, rfl⟩, rfl,
      Step.plain rfl (does_move (.tmp 2) (.int .i64 p2) trivial), ⟨⟨rfl, trivial⟩, trivial, rfl⟩, rfl,
      Step.plain rfl (does_bin .neq 3 3 (.tmp 35) (.tmp 36) .i64 (iand .i64 ((p0.getD v1.toNat z_api_Right).Give) p2) p2 (.bool ((iand .i64 ((p0.getD v1.toNat z_api_Right).Give) p2) != p2)) trivial trivial (bin_neq _ _ _ _)), ⟨⟨rfl, rfl, trivial⟩, trivial, rfl⟩, rfl, rfl⟩ ?_
    refine aw_cov (cov_prune (s1 := ⟨[(0, (e_s_api_Right p0)), (8, (.int .i64 v1)), (37, (.bool ((iand .i64 ((p0.getD v1.toNat z_api_Right).Give) p2) != p2)))], [], 0⟩) ⟨rfl, rfl, rfl, trivial⟩ trivial (Nat.le_refl _)) ?_
    refine aw_cond rfl (fun hc => ?_) (fun hc => ?_)
    · replace H := ite_t hc H
      refine aw_region (es := [_, _]) ⟨Step.plain rfl (does_assign (.const (.int .u64 0)) (.int .u64 0) (fun _ => rfl)), ⟨trivial, trivial, rfl⟩, rfl,
        Step.plain rfl (does_assign (.const (.int .i64 160)) (.int .i64 160) (fun _ => rfl)), ⟨trivial, trivial, rfl⟩, rfl, rfl⟩ ?_
      refine aw_cov (cov_prune (s1 := ⟨[(6, (.int .u64 0)), (7, (.int .i64 160))], [], 0⟩) ⟨rfl, rfl, trivial⟩ trivial (Nat.le_refl _)) ?_
      refine aw_ret ?_
      refine rt_then ?_
      exact fun a w hr => ⟨_, [(.int .u64 0), (.int .i64 160)], hr, ⟨⟨_, rfl, .data _ trivial⟩, ⟨_, rfl, .data _ trivial⟩, trivial⟩, by decide, by cases H; rfl⟩
    · replace H := ite_f hc H
      refine aw_skip ?_
      refine nx_seq ?_
      obtain ⟨h6, H⟩ := ib_of H
      refine aw_region (es := [_, _, _, _, _, _, _]) ⟨Step.plain rfl (does_move (.tmp 0) (e_s_api_Right p0) trivial), ⟨⟨rfl, trivial⟩, trivial, rfl⟩, rfl,
        Step.plain rfl (does_move (.tmp 8) (.int .i64 v1) trivial), ⟨⟨rfl, trivial⟩, trivial, rfl⟩, rfl,
        Step.plain rfl (does_indexAddrs 22 4 p0.length 38 (fun j => (e_api_Right (p0.getD j z_api_Right))) (.tmp 39) .i64 v1 el22 trivial h6.1 h6.2), ⟨⟨rfl, rfl, trivial⟩, trivial, rfl⟩, rfl,
        Step.plain rfl (does_fieldAddrc 46 1 1 40 (e_api_Right (p0.getD v1.toNat z_api_Right)) fl46_1 rfl (Nat.le_of_ble_eq_true rfl) rfl), ⟨⟨rfl, trivial⟩, trivial, rfl⟩, rfl,
        Step.plain rfl (does_loadc 23 41 (.int .u64 ((p0.getD v1.toNat z_api_Right).Session)) ty23), ⟨⟨rfl, trivial⟩, trivial, rfl⟩, rfl,
        Step.plain rfl (does_assign (.tmp 42) (.int .u64 ((p0.getD v1.toNat z_api_Right).Session)) trivial), ⟨⟨rfl, trivial⟩, trivial, rfl⟩, rfl,
        Step.plain rfl (does_assign (.const (.int .i64 0)) (.int .i64 0) (fun _ => rfl)), ⟨trivial, trivial, rfl⟩, rfl, rfl⟩ ?_
      refine aw_cov (cov_prune (s1 := ⟨[(6, (.int .u64 ((p0.getD v1.toNat z_api_Right).Session))), (7, (.int .i64 0))], [], 0⟩) ⟨rfl, rfl, trivial⟩ trivial (Nat.le_refl _)) ?_
      refine aw_ret ?_
      exact fun a w hr => ⟨_, [(.int .u64 ((p0.getD v1.toNat z_api_Right).Session)), (.int .i64 0)], hr, ⟨⟨_, rfl, .data _ trivial⟩, ⟨_, rfl, .data _ trivial⟩, trivial⟩, by decide, by cases H; rfl⟩

theorem right_Revoke_spec (p0 : (_root_.List api_Right)) (p1 : Int) (r : (_root_.List api_Right) × Int) (H : right_Revoke p0 p1 = some r) : FSpecO Try.prog 11 [(e_s_api_Right p0), (.int .u64 p1)] [] 0 (resV [(.own 0), (.int .i64 r.2)]) [(0, some (.arr 4 r.1.length fun j => (e_api_Right (r.1.getD j z_api_Right))))] 1 := by
  refine specO_of (fn := Try.f11) (args := [(e_s_api_Right p0), (.int .u64 p1)]) Try.func11 rfl (Nat.le_of_ble_eq_true rfl) ?_
  rintro ⟨G, w0, W, S, Sp⟩ hG
  cases hG
  unfold right_Revoke at H
  refine aw_region (es := [_, _]) ⟨Step.plain rfl (does_nil false 0 4 (fun j => (e_api_Right (([] : _root_.List api_Right).getD j z_api_Right)))), ⟨trivial, trivial, rfl⟩, rfl,
    Step.plain rfl (does_assign (.const (.int .i64 0)) (.int .i64 0) (fun _ => rfl)), ⟨trivial, trivial, rfl⟩, rfl, rfl⟩ ?_
  refine aw_cov (cov_prune (s1 := ⟨[(0, (e_s_api_Right p0)), (1, (.int .u64 p1))], [], 1⟩) ⟨rfl, rfl, trivial⟩ trivial (Nat.le_refl _)) ?_
  obtain ⟨v1, h2, H⟩ := bnd H
  refine aw_region (es := [_, _, _, _]) ⟨Step.plain rfl (does_move (.tmp 0) (e_s_api_Right p0) trivial), ⟨⟨rfl, trivial⟩, trivial, rfl⟩, rfl,
    Step.plain rfl (does_move (.tmp 1) (.int .u64 p1) trivial), ⟨⟨rfl, trivial⟩, trivial, rfl⟩, rfl,
    Step.plain rfl (does_call 21 0 (fun _ => .any) (.func 21) [(.tmp 8), (.tmp 9)] [(e_s_api_Right p0), (.int .u64 p1)] [] true [(e_s_api_Right p0), (.int .u64 p1)] (.int .i64 v1) _ _ rfl fo21 rfl ⟨trivial, trivial, trivial⟩ ⟨.data _ (d_s_api_Right p0), .data _ trivial, trivial⟩ (right_find_spec p0 p1 _ h2) trivial), ⟨⟨rfl, rfl, trivial⟩, trivial, rfl⟩, rfl,
    Step.plain rfl (does_assign (.tmp 10) (.int .i64 v1) trivial), ⟨⟨rfl, trivial⟩, trivial, rfl⟩, rfl, rfl⟩ ?_
  refine aw_cov (cov_prune (s1 := ⟨[(0, (e_s_api_Right p0)), (6, (.int .i64 v1))], [], 1⟩) ⟨rfl, rfl, trivial⟩ trivial (Nat.le_refl _)) ?_
  refine aw_seq ?_
  obtain ⟨h3, H⟩ := ibg_of H
  refine aw_region (es := [_, _, _, _, _, _, _, _, _]) ⟨Step.plain rfl (does_move (.tmp 6) (.int .i64 v1) trivial), ⟨⟨rfl, trivial⟩, trivial, rfl⟩, rfl,
    Step.plain rfl (does_bin .lss 3 3 (.tmp 11) (.const (.int .i64 0)) .i64 v1 0 (.bool (decide (v1 < 0))) trivial (fun _ => rfl) (bin_lss _ _ _ _)), ⟨⟨rfl, trivial⟩, trivial, rfl⟩, rfl,
    Step.plain rfl (does_move (.tmp 12) (.bool (decide (v1 < 0))) trivial), ⟨⟨rfl, trivial⟩, trivial, rfl⟩, rfl,
    Step.guarded rfl rfl rfl rfl (fun hc => does_move (.tmp 0) (e_s_api_Right p0) trivial), ⟨⟨rfl, rfl, trivial⟩, trivial, rfl⟩, rfl,
    Step.guarded rfl rfl rfl rfl (fun hc => does_move (.tmp 6) (.int .i64 v1) trivial), ⟨⟨rfl, rfl, trivial⟩, trivial, rfl⟩, rfl,
    Step.guarded rfl rfl rfl rfl (fun hc => Does.strip (n' := [(14, (.opt (!(decide (v1 < 0))) (e_s_api_Right p0))), (15, (.opt (!(decide (v1 < 0))) (.int .i64 v1)))]) (n := [(14, (e_s_api_Right p0)), (15, (.int .i64 v1))]) ⟨(.opt _ _ hc), (.opt _ _ hc), trivial⟩ (does_indexAddrs 22 4 p0.length 14 (fun j => (e_api_Right (p0.getD j z_api_Right))) (.tmp 15) .i64 v1 el22 trivial (h3 hc).1 (h3 hc).2)), ⟨⟨rfl, rfl, rfl, trivial⟩, trivial, rfl⟩, rfl,
    Step.guarded rfl rfl rfl rfl (fun hc => Does.strip (n' := [(16, (.opt (!(decide (v1 < 0))) (.cptr (e_api_Right (p0.getD v1.toNat z_api_Right)))))]) (n := [(16, (.cptr (e_api_Right (p0.getD v1.toNat z_api_Right))))]) ⟨(.opt _ _ hc), trivial⟩ (does_fieldAddrc 46 3 3 16 (e_api_Right (p0.getD v1.toNat z_api_Right)) fl46_3 rfl (Nat.le_of_ble_eq_true rfl) rfl)), ⟨⟨rfl, rfl, trivial⟩, trivial, rfl⟩, rfl,
    Step.guarded rfl rfl rfl rfl (fun hc => Does.strip (n' := [(17, (.opt (!(decide (v1 < 0))) (.cptr (.bool ((p0.getD v1.toNat z_api_Right).Revoked)))))]) (n := [(17, (.cptr (.bool ((p0.getD v1.toNat z_api_Right).Revoked))))]) ⟨(.opt _ _ hc), trivial⟩ (does_loadc 4 17 (.bool ((p0.getD v1.toNat z_api_Right).Revoked)) ty4)), ⟨⟨rfl, rfl, trivial⟩, trivial, rfl⟩, rfl,
    Step.plain rfl (does_or 13 18 (decide (v1 < 0)) ((p0.getD v1.toNat z_api_Right).Revoked)), ⟨⟨rfl, rfl, trivial⟩, trivial, rfl⟩, rfl, rfl⟩ ?_
  refine aw_cov (cov_prune (s1 := ⟨[(0, (e_s_api_Right p0)), (6, (.int .i64 v1)), (19, (.bool ((decide (v1 < 0)) || ((p0.getD v1.toNat z_api_Right).Revoked))))], [], 1⟩) ⟨rfl, rfl, rfl, trivial⟩ trivial (Nat.le_refl _)) ?_
  refine aw_cond rfl (fun hc => ?_) (fun hc => ?_)
  · replace H := ite_t hc H
    refine aw_region (es := [_, _]) ⟨Step.plain rfl (does_nil false 1 4 (fun j => (e_api_Right (([] : _root_.List api_Right).getD j z_api_Right)))), ⟨trivial, trivial, rfl⟩, rfl,
      Step.plain rfl (does_assign (.const (.int .i64 160)) (.int .i64 160) (fun _ => rfl)), ⟨trivial, trivial, rfl⟩, rfl, rfl⟩ ?_
    refine aw_cov (cov_prune (s1 := ⟨[(4, (.own 1)), (5, (.int .i64 160))], [(1, some (.arr 4 ([] : _root_.List api_Right).length fun j => (e_api_Right (([] : _root_.List api_Right).getD j z_api_Right))))], 2⟩) ⟨rfl, rfl, trivial⟩ ⟨rfl, trivial⟩ (Nat.le_refl _)) ?_
    refine aw_ret ?_
    refine rt_then ?_
    exact fun a w hr => ⟨_, [(.own 0), (.int .i64 160)], reach_of hr (cov_to (s1 := ⟨[(4, (.own 0)), (5, (.int .i64 160))], [(0, some (.arr 4 ([] : _root_.List api_Right).length fun j => (e_api_Right (([] : _root_.List api_Right).getD j z_api_Right))))], 1⟩) (fun i => match i with | 0 => 1 | k => k) [] ⟨⟨_, rfl, .own 0 _ _ (Nat.le_of_ble_eq_true rfl) rfl rfl (Box.like_refl _)⟩, ⟨_, rfl, .plain _ (trivial)⟩, trivial⟩ ⟨⟨Nat.le_of_ble_eq_true rfl, _, _, rfl, rfl, boxTo_arr (fun _ => (d_api_Right _))⟩, trivial⟩ rfl rfl), ⟨rfl, rfl, trivial⟩, by decide, by cases H; rfl, by cases H; exact ⟨rfl, trivial⟩, Nat.le_of_ble_eq_true rfl⟩
  · replace H := ite_f hc H
    refine aw_skip ?_
    refine nx_seq ?_
    obtain ⟨v4, h5, H⟩ := bnd H
    refine aw_region (es := [_, _, _]) ⟨Step.plain rfl (does_move (.tmp 0) (e_s_api_Right p0) trivial), ⟨⟨rfl, trivial⟩, trivial, rfl⟩, rfl,
      Step.plain rfl (does_callO 22 0 (fun _ => .any) (.func 22) [(.tmp 20)] [(e_s_api_Right p0)] [] [] true [(e_s_api_Right p0)] _ (.own 1) _ 1 1 _ _ rfl fo22 rfl ⟨trivial, trivial⟩ ⟨.ro _ _ (.data _ (d_s_api_Right p0)), trivial⟩ (slices_Clone_api_Right_api_Right_spec p0 _ h5) rfl (by simp) rfl trivial ⟨⟨Nat.le_of_ble_eq_true rfl, _, rfl, fun _ => (f_api_Right _)⟩, trivial⟩ (.own 0 (Nat.le_of_ble_eq_true rfl))), ⟨⟨rfl, trivial⟩, trivial, rfl⟩, rfl,
      Step.plain rfl (does_assign (.tmp 21) (.own 1) trivial), ⟨⟨rfl, trivial⟩, trivial, rfl⟩, rfl, rfl⟩ ?_
    refine aw_cov (cov_prune (s1 := ⟨[(6, (.int .i64 v1)), (7, (.own 1))], [(1, some (.arr 4 v4.length fun j => (e_api_Right (v4.getD j z_api_Right))))], 2⟩) ⟨rfl, rfl, trivial⟩ ⟨rfl, trivial⟩ (Nat.le_refl _)) ?_
    obtain ⟨h6, H⟩ := ib_of H
    refine aw_region (es := [_, _, _, _, _]) ⟨Step.plain rfl (does_move (.tmp 7) (.own 1) trivial), ⟨⟨rfl, trivial⟩, trivial, rfl⟩, rfl,
      Step.plain rfl (does_move (.tmp 6) (.int .i64 v1) trivial), ⟨⟨rfl, trivial⟩, trivial, rfl⟩, rfl,
      Step.plain rfl (does_indexAddro 22 4 v4.length 22 1 (fun j => (e_api_Right (v4.getD j z_api_Right))) (.tmp 23) .i64 v1 el22 trivial h6.1 h6.2), ⟨⟨rfl, rfl, trivial⟩, ⟨rfl, trivial⟩, rfl⟩, rfl,
      Step.plain rfl (does_fieldAddr 46 3 3 24 1 (v1.toNat * 4) [v1.toNat] (.arr 4 v4.length fun j => (e_api_Right (v4.getD j z_api_Right))) fl46_3), ⟨⟨rfl, trivial⟩, ⟨rfl, trivial⟩, rfl⟩, rfl,
      Step.plain rfl (does_store 4 25 (.const (.bool true)) 1 ((v1.toNat * 4) + 3) [v1.toNat, 3] (.arr 4 v4.length fun j => (e_api_Right (v4.getD j z_api_Right))) (.arr 4 (v4.set v1.toNat ({ v4.getD v1.toNat z_api_Right with Revoked := true })).length fun j => (e_api_Right ((v4.set v1.toNat ({ v4.getD v1.toNat z_api_Right with Revoked := true })).getD j z_api_Right))) (.bool true) false (fun _ => rfl) rfl ⟨(ixl h6), ⟨rfl, Nat.le_of_ble_eq_true rfl, trivial⟩⟩ rfl rfl (set_arr e_api_Right z_api_Right _ (ixl h6) (set_cons rfl (st_api_Right_3 _ _))) ty4), ⟨⟨rfl, trivial⟩, ⟨rfl, trivial⟩, rfl⟩, rfl, rfl⟩ ?_
    obtain ⟨v7, hv7, H⟩ := lt_of H
    refine aw_cov (cov_prune (s1 := ⟨[(7, (.own 1))], [(1, some (.arr 4 v7.length fun j => (e_api_Right (v7.getD j z_api_Right))))], 2⟩) ⟨rfl, trivial⟩ ⟨(by subst hv7; rfl), trivial⟩ (Nat.le_refl _)) ?_
    refine aw_region (es := [_, _, _]) ⟨Step.plain rfl (does_move (.tmp 7) (.own 1) trivial), ⟨⟨rfl, trivial⟩, trivial, rfl⟩, rfl,
      Step.plain rfl (does_assign (.tmp 26) (.own 1) trivial), ⟨⟨rfl, trivial⟩, trivial, rfl⟩, rfl,
      Step.plain rfl (does_assign (.const (.int .i64 0)) (.int .i64 0) (fun _ => rfl)), ⟨trivial, trivial, rfl⟩, rfl, rfl⟩ ?_
    refine aw_cov (cov_prune (s1 := ⟨[(4, (.own 1)), (5, (.int .i64 0))], [(1, some (.arr 4 v7.length fun j => (e_api_Right (v7.getD j z_api_Right))))], 2⟩) ⟨rfl, rfl, trivial⟩ ⟨rfl, trivial⟩ (Nat.le_refl _)) ?_
    refine aw_ret ?_
    exact fun a w hr => ⟨_, [(.own 0), (.int .i64 0)], reach_of hr (cov_to (s1 := ⟨[(4, (.own 0)), (5, (.int .i64 0))], [(0, some (.arr 4 v7.length fun j => (e_api_Right (v7.getD j z_api_Right))))], 1⟩) (fun i => match i with | 0 => 1 | k => k) [] ⟨⟨_, rfl, .own 0 _ _ (Nat.le_of_ble_eq_true rfl) rfl rfl (Box.like_refl _)⟩, ⟨_, rfl, .plain _ (trivial)⟩, trivial⟩ ⟨⟨Nat.le_of_ble_eq_true rfl, _, _, rfl, rfl, boxTo_arr (fun _ => (d_api_Right _))⟩, trivial⟩ rfl rfl), ⟨rfl, rfl, trivial⟩, by decide, by cases H; rfl, by cases H; exact ⟨rfl, trivial⟩, Nat.le_of_ble_eq_true rfl⟩

theorem right_Revoke_data (p0 : (_root_.List api_Right)) (p1 : Int) (r : (_root_.List api_Right) × Int) (H : right_Revoke p0 p1 = some r) : FSpec Try.prog 11 [(e_s_api_Right p0), (.int .u64 p1)] (resV [(e_s_api_Right r.1), (.int .i64 r.2)]) :=
  FSpecO.toData (fz := [0]) (right_Revoke_spec p0 p1 r H) (res_data2 (d_s_api_Right r.1) trivial) (.tup _ _ _ (fun j => match j with | 0 => .frz 0 _ _ _ rfl (fun _ => (d_api_Right _)) (by decide) | 1 => .plain _ (trivial) | _ + 2 => .plain _ trivial))

theorem congressref16_Revoke_spec (p0 : (_root_.List api_Right)) (p1 : Int) (r : (_root_.List api_Right) × Int) (H : congressref16_Revoke p0 p1 = some r) : FSpecO Try.prog 12 [(e_s_api_Right p0), (.int .u64 p1)] [] 0 (resV [(.own 0), (.int .i64 r.2)]) [(0, some (.arr 4 r.1.length fun j => (e_api_Right (r.1.getD j z_api_Right))))] 1 := by
  refine specO_of (fn := Try.f12) (args := [(e_s_api_Right p0), (.int .u64 p1)]) Try.func12 rfl (Nat.le_of_ble_eq_true rfl) ?_
  rintro ⟨G, w0, W, S, Sp⟩ hG
  cases hG
  unfold congressref16_Revoke at H
  refine aw_region (es := [_, _]) ⟨Step.plain rfl (does_nil false 0 4 (fun j => (e_api_Right (([] : _root_.List api_Right).getD j z_api_Right)))), ⟨trivial, trivial, rfl⟩, rfl,
    Step.plain rfl (does_assign (.const (.int .i64 0)) (.int .i64 0) (fun _ => rfl)), ⟨trivial, trivial, rfl⟩, rfl, rfl⟩ ?_
  refine aw_cov (cov_prune (s1 := ⟨[(0, (e_s_api_Right p0)), (1, (.int .u64 p1))], [], 1⟩) ⟨rfl, rfl, trivial⟩ trivial (Nat.le_refl _)) ?_
  obtain ⟨v1, h2, H⟩ := bnd H
  refine aw_region (es := [_, _, _, _]) ⟨Step.plain rfl (does_move (.tmp 0) (e_s_api_Right p0) trivial), ⟨⟨rfl, trivial⟩, trivial, rfl⟩, rfl,
    Step.plain rfl (does_move (.tmp 1) (.int .u64 p1) trivial), ⟨⟨rfl, trivial⟩, trivial, rfl⟩, rfl,
    Step.plain rfl (does_call 23 0 (fun _ => .any) (.func 23) [(.tmp 8), (.tmp 9)] [(e_s_api_Right p0), (.int .u64 p1)] [] true [(e_s_api_Right p0), (.int .u64 p1)] (.int .i64 v1) _ _ rfl fo23 rfl ⟨trivial, trivial, trivial⟩ ⟨.data _ (d_s_api_Right p0), .data _ trivial, trivial⟩ (congressref16_Find_spec p0 p1 _ h2) trivial), ⟨⟨rfl, rfl, trivial⟩, trivial, rfl⟩, rfl,
    Step.plain rfl (does_assign (.tmp 10) (.int .i64 v1) trivial), ⟨⟨rfl, trivial⟩, trivial, rfl⟩, rfl, rfl⟩ ?_
  refine aw_cov (cov_prune (s1 := ⟨[(0, (e_s_api_Right p0)), (6, (.int .i64 v1))], [], 1⟩) ⟨rfl, rfl, trivial⟩ trivial (Nat.le_refl _)) ?_
  refine aw_seq ?_
  obtain ⟨h3, H⟩ := ibg_of H
  refine aw_region (es := [_, _, _, _, _, _, _, _, _]) ⟨Step.plain rfl (does_move (.tmp 6) (.int .i64 v1) trivial), ⟨⟨rfl, trivial⟩, trivial, rfl⟩, rfl,
    Step.plain rfl (does_bin .lss 3 3 (.tmp 11) (.const (.int .i64 0)) .i64 v1 0 (.bool (decide (v1 < 0))) trivial (fun _ => rfl) (bin_lss _ _ _ _)), ⟨⟨rfl, trivial⟩, trivial, rfl⟩, rfl,
    Step.plain rfl (does_move (.tmp 12) (.bool (decide (v1 < 0))) trivial), ⟨⟨rfl, trivial⟩, trivial, rfl⟩, rfl,
    Step.guarded rfl rfl rfl rfl (fun hc => does_move (.tmp 0) (e_s_api_Right p0) trivial), ⟨⟨rfl, rfl, trivial⟩, trivial, rfl⟩, rfl,
    Step.guarded rfl rfl rfl rfl (fun hc => does_move (.tmp 6) (.int .i64 v1) trivial), ⟨⟨rfl, rfl, trivial⟩, trivial, rfl⟩, rfl,
    Step.guarded rfl rfl rfl rfl (fun hc => Does.strip (n' := [(14, (.opt (!(decide (v1 < 0))) (e_s_api_Right p0))), (15, (.opt (!(decide (v1 < 0))) (.int .i64 v1)))]) (n := [(14, (e_s_api_Right p0)), (15, (.int .i64 v1))]) ⟨(.opt _ _ hc), (.opt _ _ hc), trivial⟩ (does_indexAddrs 22 4 p0.length 14 (fun j => (e_api_Right (p0.getD j z_api_Right))) (.tmp 15) .i64 v1 el22 trivial (h3 hc).1 (h3 hc).2)), ⟨⟨rfl, rfl, rfl, trivial⟩, trivial, rfl⟩, rfl,
    Step.guarded rfl rfl rfl rfl (fun hc => Does.strip (n' := [(16, (.opt (!(decide (v1 < 0))) (.cptr (e_api_Right (p0.getD v1.toNat z_api_Right)))))]) (n := [(16, (.cptr (e_api_Right (p0.getD v1.toNat z_api_Right))))]) ⟨(.opt _ _ hc), trivial⟩ (does_fieldAddrc 46 3 3 16 (e_api_Right (p0.getD v1.toNat z_api_Right)) fl46_3 rfl (Nat.le_of_ble_eq_true rfl) rfl)), ⟨⟨rfl, rfl, trivial⟩, trivial, rfl⟩, rfl,
    Step.guarded rfl rfl rfl rfl (fun hc => Does.strip (n' := [(17, (.opt (!(decide (v1 < 0))) (.cptr (.bool ((p0.getD v1.toNat z_api_Right).Revoked)))))]) (n := [(17, (.cptr (.bool ((p0.getD v1.toNat z_api_Right).Revoked))))]) ⟨(.opt _ _ hc), trivial⟩ (does_loadc 4 17 (.bool ((p0.getD v1.toNat z_api_Right).Revoked)) ty4)), ⟨⟨rfl, rfl, trivial⟩, trivial, rfl⟩, rfl,
    Step.plain rfl (does_or 13 18 (decide (v1 < 0)) ((p0.getD v1.toNat z_api_Right).Revoked)), ⟨⟨rfl, rfl, trivial⟩, trivial, rfl⟩, rfl, rfl⟩ ?_
  refine aw_cov (cov_prune (s1 := ⟨[(0, (e_s_api_Right p0)), (6, (.int .i64 v1)), (19, (.bool ((decide (v1 < 0)) || ((p0.getD v1.toNat z_api_Right).Revoked))))], [], 1⟩) ⟨rfl, rfl, rfl, trivial⟩ trivial (Nat.le_refl _)) ?_
  refine aw_cond rfl (fun hc => ?_) (fun hc => ?_)
  · replace H := ite_t hc H
    refine aw_region (es := [_, _]) ⟨Step.plain rfl (does_nil false 1 4 (fun j => (e_api_Right (([] : _root_.List api_Right).getD j z_api_Right)))), ⟨trivial, trivial, rfl⟩, rfl,
      Step.plain rfl (does_assign (.const (.int .i64 160)) (.int .i64 160) (fun _ => rfl)), ⟨trivial, trivial, rfl⟩, rfl, rfl⟩ ?_
    refine aw_cov (cov_prune (s1 := ⟨[(4, (.own 1)), (5, (.int .i64 160))], [(1, some (.arr 4 ([] : _root_.List api_Right).length fun j => (e_api_Right (([] : _root_.List api_Right).getD j z_api_Right))))], 2⟩) ⟨rfl, rfl, trivial⟩ ⟨rfl, trivial⟩ (Nat.le_refl _)) ?_
    refine aw_ret ?_
    refine rt_then ?_
    exact fun a w hr => ⟨_, [(.own 0), (.int .i64 160)], reach_of hr (cov_to (s1 := ⟨[(4, (.own 0)), (5, (.int .i64 160))], [(0, some (.arr 4 ([] : _root_.List api_Right).length fun j => (e_api_Right (([] : _root_.List api_Right).getD j z_api_Right))))], 1⟩) (fun i => match i with | 0 => 1 | k => k) [] ⟨⟨_, rfl, .own 0 _ _ (Nat.le_of_ble_eq_true rfl) rfl rfl (Box.like_refl _)⟩, ⟨_, rfl, .plain _ (trivial)⟩, trivial⟩ ⟨⟨Nat.le_of_ble_eq_true rfl, _, _, rfl, rfl, boxTo_arr (fun _ => (d_api_Right _))⟩, trivial⟩ rfl rfl), ⟨rfl, rfl, trivial⟩, by decide, by cases H; rfl, by cases H; exact ⟨rfl, trivial⟩, Nat.le_of_ble_eq_true rfl⟩
  · replace H := ite_f hc H
    refine aw_skip ?_
    refine nx_seq ?_
    obtain ⟨h4, H⟩ := fit_of H
    refine aw_region (es := [_, _, _, _]) ⟨Step.plain rfl (does_buildOwn 22 0 4 1 (e_api_Right z_api_Right) (fun j => (e_api_Right (([] : _root_.List api_Right).getD j z_api_Right))) #[] [] [] rfl so22 (by decide) trivial trivial (fun j h => match j, h with  | k + 0, h => absurd h (by omega))), ⟨trivial, trivial, rfl⟩, rfl,
      Step.plain rfl (does_move (.tmp 0) (e_s_api_Right p0) trivial), ⟨⟨rfl, trivial⟩, trivial, rfl⟩, rfl,
      Step.plain rfl (does_appendL e_api_Right z_api_Right ([] : _root_.List api_Right) p0 22 4 32 1 2 20 21 ap22 h4), ⟨⟨rfl, rfl, trivial⟩, ⟨rfl, trivial⟩, rfl⟩, rfl,
      Step.plain rfl (does_assign (.tmp 22) (.own 2) trivial), ⟨⟨rfl, trivial⟩, trivial, rfl⟩, rfl, rfl⟩ ?_
    refine aw_cov (cov_prune (s1 := ⟨[(6, (.int .i64 v1)), (7, (.own 2))], [(2, some (.arr 4 (([] : _root_.List api_Right) ++ p0).length fun j => (e_api_Right ((([] : _root_.List api_Right) ++ p0).getD j z_api_Right))))], 3⟩) ⟨rfl, rfl, trivial⟩ ⟨rfl, trivial⟩ (Nat.le_refl _)) ?_
    obtain ⟨h5, H⟩ := ib_of H
    refine aw_region (es := [_, _, _, _, _]) ⟨Step.plain rfl (does_move (.tmp 7) (.own 2) trivial), ⟨⟨rfl, trivial⟩, trivial, rfl⟩, rfl,
      Step.plain rfl (does_move (.tmp 6) (.int .i64 v1) trivial), ⟨⟨rfl, trivial⟩, trivial, rfl⟩, rfl,
      Step.plain rfl (does_indexAddro 22 4 (([] : _root_.List api_Right) ++ p0).length 23 2 (fun j => (e_api_Right ((([] : _root_.List api_Right) ++ p0).getD j z_api_Right))) (.tmp 24) .i64 v1 el22 trivial h5.1 h5.2), ⟨⟨rfl, rfl, trivial⟩, ⟨rfl, trivial⟩, rfl⟩, rfl,
      Step.plain rfl (does_fieldAddr 46 3 3 25 2 (v1.toNat * 4) [v1.toNat] (.arr 4 (([] : _root_.List api_Right) ++ p0).length fun j => (e_api_Right ((([] : _root_.List api_Right) ++ p0).getD j z_api_Right))) fl46_3), ⟨⟨rfl, trivial⟩, ⟨rfl, trivial⟩, rfl⟩, rfl,
      Step.plain rfl (does_store 4 26 (.const (.bool true)) 2 ((v1.toNat * 4) + 3) [v1.toNat, 3] (.arr 4 (([] : _root_.List api_Right) ++ p0).length fun j => (e_api_Right ((([] : _root_.List api_Right) ++ p0).getD j z_api_Right))) (.arr 4 ((([] : _root_.List api_Right) ++ p0).set v1.toNat ({ (([] : _root_.List api_Right) ++ p0).getD v1.toNat z_api_Right with Revoked := true })).length fun j => (e_api_Right (((([] : _root_.List api_Right) ++ p0).set v1.toNat ({ (([] : _root_.List api_Right) ++ p0).getD v1.toNat z_api_Right with Revoked := true })).getD j z_api_Right))) (.bool true) false (fun _ => rfl) rfl ⟨(ixl h5), ⟨rfl, Nat.le_of_ble_eq_true rfl, trivial⟩⟩ rfl rfl (set_arr e_api_Right z_api_Right _ (ixl h5) (set_cons rfl (st_api_Right_3 _ _))) ty4), ⟨⟨rfl, trivial⟩, ⟨rfl, trivial⟩, rfl⟩, rfl, rfl⟩ ?_
    obtain ⟨v6, hv6, H⟩ := lt_of H
    refine aw_cov (cov_prune (s1 := ⟨[(7, (.own 2))], [(2, some (.arr 4 v6.length fun j => (e_api_Right (v6.getD j z_api_Right))))], 3⟩) ⟨rfl, trivial⟩ ⟨(by subst hv6; rfl), trivial⟩ (Nat.le_refl _)) ?_
    refine aw_region (es := [_, _, _]) ⟨Step.plain rfl (does_move (.tmp 7) (.own 2) trivial), ⟨⟨rfl, trivial⟩, trivial, rfl⟩, rfl,
      Step.plain rfl (does_assign (.tmp 27) (.own 2) trivial), ⟨⟨rfl, trivial⟩, trivial, rfl⟩, rfl,
      Step.plain rfl (does_assign (.const (.int .i64 0)) (.int .i64 0) (fun _ => rfl)), ⟨trivial, trivial, rfl⟩, rfl, rfl⟩ ?_
    refine aw_cov (cov_prune (s1 := ⟨[(4, (.own 2)), (5, (.int .i64 0))], [(2, some (.arr 4 v6.length fun j => (e_api_Right (v6.getD j z_api_Right))))], 3⟩) ⟨rfl, rfl, trivial⟩ ⟨rfl, trivial⟩ (Nat.le_refl _)) ?_
    refine aw_ret ?_
    exact fun a w hr => ⟨_, [(.own 0), (.int .i64 0)], reach_of hr (cov_to (s1 := ⟨[(4, (.own 0)), (5, (.int .i64 0))], [(0, some (.arr 4 v6.length fun j => (e_api_Right (v6.getD j z_api_Right))))], 1⟩) (fun i => match i with | 0 => 2 | k => k) [] ⟨⟨_, rfl, .own 0 _ _ (Nat.le_of_ble_eq_true rfl) rfl rfl (Box.like_refl _)⟩, ⟨_, rfl, .plain _ (trivial)⟩, trivial⟩ ⟨⟨Nat.le_of_ble_eq_true rfl, _, _, rfl, rfl, boxTo_arr (fun _ => (d_api_Right _))⟩, trivial⟩ rfl rfl), ⟨rfl, rfl, trivial⟩, by decide, by cases H; rfl, by cases H; exact ⟨rfl, trivial⟩, Nat.le_of_ble_eq_true rfl⟩

theorem congressref16_Revoke_data (p0 : (_root_.List api_Right)) (p1 : Int) (r : (_root_.List api_Right) × Int) (H : congressref16_Revoke p0 p1 = some r) : FSpec Try.prog 12 [(e_s_api_Right p0), (.int .u64 p1)] (resV [(e_s_api_Right r.1), (.int .i64 r.2)]) :=
  FSpecO.toData (fz := [0]) (congressref16_Revoke_spec p0 p1 r H) (res_data2 (d_s_api_Right r.1) trivial) (.tup _ _ _ (fun j => match j with | 0 => .frz 0 _ _ _ rfl (fun _ => (d_api_Right _)) (by decide) | 1 => .plain _ (trivial) | _ + 2 => .plain _ trivial))

theorem right_May_spec (p0 : (_root_.List api_Right)) (r : Bool) (H : right_May p0 = some r) : FSpec Try.prog 17 [(e_s_api_Right p0)] (.bool r) := by
  refine spec_of (fn := Try.f17) (args := [(e_s_api_Right p0)]) Try.func17 rfl (Nat.le_of_ble_eq_true rfl) ?_
  rintro ⟨G, w0, W, S, Sp⟩ hG
  cases hG
  unfold right_May at H
  refine aw_region (es := [_]) ⟨Step.plain rfl (does_assign (.const (.bool false)) (.bool false) (fun _ => rfl)), ⟨trivial, trivial, rfl⟩, rfl, rfl⟩ ?_
  refine aw_cov (cov_prune (s1 := ⟨[(0, (e_s_api_Right p0))], [], 0⟩) ⟨rfl, trivial⟩ trivial (Nat.le_refl _)) ?_
  refine aw_seq ?_
  refine aw_region (es := [_, _, _]) ⟨Step.plain rfl (does_move (.tmp 0) (e_s_api_Right p0) trivial), ⟨⟨rfl, trivial⟩, trivial, rfl⟩, rfl,
    Step.plain rfl (does_lens 22 4 p0.length 5 (fun j => (e_api_Right (p0.getD j z_api_Right))) el22), ⟨⟨rfl, trivial⟩, trivial, rfl⟩, rfl,
    Step.plain rfl (does_move (.const (.int .i64 0)) (.int .i64 0) (fun _ => rfl)), ⟨trivial, trivial, rfl⟩, rfl, rfl⟩ ?_
  refine aw_cov (cov_prune (s1 := ⟨[(0, (e_s_api_Right p0)), (5, (e_s_api_Right p0)), (6, (.int .i64 (p0.length : Int))), (7, (.int .i64 0))], [], 0⟩) ⟨rfl, rfl, rfl, rfl, trivial⟩ trivial (Nat.le_refl _)) ?_
  obtain ⟨wn2, hwn2, Hrn2⟩ := bnd H
  refine aw_meet (fun y9 : Unit => (⟨[(0, (e_s_api_Right p0))], [], 0⟩ : St)) (fun y9 => Fl.nx y9 = wn2) (fun y9 hy => ?_) (aw_block (aw_runs (fun x1 : Int => (⟨[(0, (e_s_api_Right p0)), (5, (e_s_api_Right p0)), (6, (.int .i64 (p0.length : Int))), (7, (.int .i64 x1))], [], 0⟩ : St)) hwn2 (cov_prune ⟨rfl, rfl, rfl, rfl, trivial⟩ trivial (Nat.le_of_ble_eq_true rfl)) (fun x1 st H hsn2 => ?_)))
  · have H := nx_of hy Hrn2
    refine nx_seq ?_
    refine aw_region (es := [_, _, _, _]) ⟨Step.plain rfl (does_move (.tmp 0) (e_s_api_Right p0) trivial), ⟨⟨rfl, trivial⟩, trivial, rfl⟩, rfl,
      Step.plain rfl (does_lens 22 4 p0.length 30 (fun j => (e_api_Right (p0.getD j z_api_Right))) el22), ⟨⟨rfl, trivial⟩, trivial, rfl⟩, rfl,
      Step.plain rfl (does_bin .leq 3 3 (.tmp 31) (.const (.int .i64 16)) .i64 (p0.length : Int) 16 (.bool (decide ((p0.length : Int) ≤ 16))) trivial (fun _ => rfl) (bin_leq _ _ _ _)), ⟨⟨rfl, trivial⟩, trivial, rfl⟩, rfl,
      Step.plain rfl (does_assign (.tmp 32) (.bool (decide ((p0.length : Int) ≤ 16))) trivial), ⟨⟨rfl, trivial⟩, trivial, rfl⟩, rfl, rfl⟩ ?_
    refine aw_cov (cov_prune (s1 := ⟨[(2, (.bool (decide ((p0.length : Int) ≤ 16))))], [], 0⟩) ⟨rfl, trivial⟩ trivial (Nat.le_refl _)) ?_
    refine aw_ret ?_
    exact fun a w hr => ⟨_, [(.bool (decide ((p0.length : Int) ≤ 16)))], hr, ⟨⟨_, rfl, .data _ trivial⟩, trivial⟩, by decide, by cases H; rfl⟩
  · refine aw_region (es := [_]) ⟨Step.plain rfl (does_bin .lss 3 3 (.tmp 7) (.tmp 6) .i64 x1 (p0.length : Int) (.bool (decide (x1 < (p0.length : Int)))) trivial trivial (bin_lss _ _ _ _)), ⟨⟨rfl, rfl, trivial⟩, trivial, rfl⟩, rfl, rfl⟩ ?_
    refine aw_cov (cov_prune (s1 := ⟨[(0, (e_s_api_Right p0)), (5, (e_s_api_Right p0)), (6, (.int .i64 (p0.length : Int))), (7, (.int .i64 x1)), (8, (.bool (decide (x1 < (p0.length : Int)))))], [], 0⟩) ⟨rfl, rfl, rfl, rfl, rfl, trivial⟩ trivial (Nat.le_refl _)) ?_
    refine aw_seq ?_
    refine aw_cond rfl (fun hc => ?_) (fun hc => ?_)
    · replace H := ite_t hc H
      refine aw_skip ?_
      refine nx_seq ?_
      refine aw_seq ?_
      refine aw_block ?_
      obtain ⟨h3, H⟩ := ib_of H
      refine aw_region (es := [_, _, _, _, _, _]) ⟨Step.plain rfl (does_move (.tmp 7) (.int .i64 x1) trivial), ⟨⟨rfl, trivial⟩, trivial, rfl⟩, rfl,
        Step.plain rfl (does_indexAddrs 22 4 p0.length 5 (fun j => (e_api_Right (p0.getD j z_api_Right))) (.tmp 7) .i64 x1 el22 trivial h3.1 h3.2), ⟨⟨rfl, rfl, trivial⟩, trivial, rfl⟩, rfl,
        Step.plain rfl (does_loadc 46 10 (e_api_Right (p0.getD x1.toNat z_api_Right)) ty46), ⟨⟨rfl, trivial⟩, trivial, rfl⟩, rfl,
        Step.plain rfl (does_alloc 46 0 (e_api_Right z_api_Right) zr46), ⟨trivial, trivial, rfl⟩, rfl,
        Step.plain rfl (does_assign (.tmp 9) (.int .i64 x1) trivial), ⟨⟨rfl, trivial⟩, trivial, rfl⟩, rfl,
        Step.plain rfl (does_store 46 4 (.tmp 11) 0 0 [] (.var (e_api_Right z_api_Right)) (.var (e_api_Right (p0.getD x1.toNat z_api_Right))) (e_api_Right (p0.getD x1.toNat z_api_Right)) true trivial rfl trivial rfl rfl rfl ty46), ⟨⟨rfl, rfl, trivial⟩, ⟨rfl, trivial⟩, rfl⟩, rfl, rfl⟩ ?_
      refine aw_cov (cov_prune (s1 := ⟨[(0, (e_s_api_Right p0)), (5, (e_s_api_Right p0)), (6, (.int .i64 (p0.length : Int))), (7, (.int .i64 x1)), (4, (.ptr 0 0 [])), (3, (.int .i64 x1))], [(0, some (.var (e_api_Right (p0.getD x1.toNat z_api_Right))))], 1⟩) ⟨rfl, rfl, rfl, rfl, rfl, rfl, trivial⟩ ⟨rfl, trivial⟩ (Nat.le_refl _)) ?_
      obtain ⟨v4, h5, H⟩ := whn_of H
      obtain ⟨v6, h7, H⟩ := whn_of H
      refine aw_region (es := [_, _, _, _, _, _, _, _, _, _, _, _, _, _, _, _, _]) ⟨Step.plain rfl (does_fieldAddr 46 0 0 4 0 0 [] (.var (e_api_Right (p0.getD x1.toNat z_api_Right))) fl46_0), ⟨⟨rfl, trivial⟩, ⟨rfl, trivial⟩, rfl⟩, rfl,
        Step.plain rfl (does_load 23 12 0 (0 + 0) [0] (.var (e_api_Right (p0.getD x1.toNat z_api_Right))) (.int .u64 ((p0.getD x1.toNat z_api_Right).Handle)) ⟨rfl, Nat.le_of_ble_eq_true rfl, trivial⟩ rfl rfl ty23), ⟨⟨rfl, trivial⟩, ⟨rfl, trivial⟩, rfl⟩, rfl,
        Step.plain rfl (does_bin .eql 23 23 (.tmp 13) (.const (.int .u64 0)) .u64 ((p0.getD x1.toNat z_api_Right).Handle) 0 (.bool (((p0.getD x1.toNat z_api_Right).Handle) == 0)) trivial (fun _ => rfl) (bin_eql _ _ _ _)), ⟨⟨rfl, trivial⟩, trivial, rfl⟩, rfl,
        Step.plain rfl (does_move (.tmp 14) (.bool (((p0.getD x1.toNat z_api_Right).Handle) == 0)) trivial), ⟨⟨rfl, trivial⟩, trivial, rfl⟩, rfl,
        Step.guarded rfl rfl rfl rfl (fun hc => does_fieldAddr 46 2 2 4 0 0 [] (.var (e_api_Right (p0.getD x1.toNat z_api_Right))) fl46_2), ⟨⟨rfl, rfl, trivial⟩, ⟨rfl, trivial⟩, rfl⟩, rfl,
        Step.guarded rfl rfl rfl rfl (fun hc => Does.strip (n' := [(16, (.opt (!(((p0.getD x1.toNat z_api_Right).Handle) == 0)) (.ptr 0 (0 + 2) [2])))]) (n := [(16, (.ptr 0 (0 + 2) [2]))]) ⟨(.opt _ _ hc), trivial⟩ (does_load 3 16 0 (0 + 2) [2] (.var (e_api_Right (p0.getD x1.toNat z_api_Right))) (.int .i64 ((p0.getD x1.toNat z_api_Right).Give)) ⟨rfl, Nat.le_of_ble_eq_true rfl, trivial⟩ rfl rfl ty3)), ⟨⟨rfl, rfl, trivial⟩, ⟨rfl, trivial⟩, rfl⟩, rfl,
        Step.guarded rfl rfl rfl rfl (fun hc => Does.strip (n' := [(17, (.opt (!(((p0.getD x1.toNat z_api_Right).Handle) == 0)) (.int .i64 ((p0.getD x1.toNat z_api_Right).Give))))]) (n := [(17, (.int .i64 ((p0.getD x1.toNat z_api_Right).Give)))]) ⟨(.opt _ _ hc), trivial⟩ (does_call 20 0 (fun _ => .any) (.func 20) [(.tmp 17)] [(.int .i64 ((p0.getD x1.toNat z_api_Right).Give))] [] true [(.int .i64 ((p0.getD x1.toNat z_api_Right).Give))] (.bool v4) _ _ rfl fo20 rfl ⟨trivial, trivial⟩ ⟨.data _ trivial, trivial⟩ (right_gives_spec ((p0.getD x1.toNat z_api_Right).Give) _ (h5 hc)) trivial)), ⟨⟨rfl, rfl, trivial⟩, trivial, rfl⟩, rfl,
        Step.guarded rfl rfl rfl rfl (fun hc => Does.strip (n' := [(18, (.opt (!(((p0.getD x1.toNat z_api_Right).Handle) == 0)) (.bool v4)))]) (n := [(18, (.bool v4))]) ⟨(.opt _ _ hc), trivial⟩ (does_not 4 (.tmp 18) v4 trivial)), ⟨⟨rfl, rfl, trivial⟩, trivial, rfl⟩, rfl,
        Step.plain rfl (does_or 15 19 (((p0.getD x1.toNat z_api_Right).Handle) == 0) (!v4)), ⟨⟨rfl, rfl, trivial⟩, trivial, rfl⟩, rfl,
        Step.plain rfl (does_move (.tmp 20) (.bool ((((p0.getD x1.toNat z_api_Right).Handle) == 0) || (!v4))) trivial), ⟨⟨rfl, trivial⟩, trivial, rfl⟩, rfl,
        Step.guarded rfl rfl rfl rfl (fun hc => does_move (.tmp 0) (e_s_api_Right p0) trivial), ⟨⟨rfl, rfl, trivial⟩, trivial, rfl⟩, rfl,
        Step.guarded rfl rfl rfl rfl (fun hc => does_fieldAddr 46 0 0 4 0 0 [] (.var (e_api_Right (p0.getD x1.toNat z_api_Right))) fl46_0), ⟨⟨rfl, rfl, trivial⟩, ⟨rfl, trivial⟩, rfl⟩, rfl,
        Step.guarded rfl rfl rfl rfl (fun hc => Does.strip (n' := [(23, (.opt (!((((p0.getD x1.toNat z_api_Right).Handle) == 0) || (!v4))) (.ptr 0 (0 + 0) [0])))]) (n := [(23, (.ptr 0 (0 + 0) [0]))]) ⟨(.opt _ _ hc), trivial⟩ (does_load 23 23 0 (0 + 0) [0] (.var (e_api_Right (p0.getD x1.toNat z_api_Right))) (.int .u64 ((p0.getD x1.toNat z_api_Right).Handle)) ⟨rfl, Nat.le_of_ble_eq_true rfl, trivial⟩ rfl rfl ty23)), ⟨⟨rfl, rfl, trivial⟩, ⟨rfl, trivial⟩, rfl⟩, rfl,
        Step.guarded rfl rfl rfl rfl (fun hc => Does.strip (n' := [(22, (.opt (!((((p0.getD x1.toNat z_api_Right).Handle) == 0) || (!v4))) (e_s_api_Right p0))), (24, (.opt (!((((p0.getD x1.toNat z_api_Right).Handle) == 0) || (!v4))) (.int .u64 ((p0.getD x1.toNat z_api_Right).Handle))))]) (n := [(22, (e_s_api_Right p0)), (24, (.int .u64 ((p0.getD x1.toNat z_api_Right).Handle)))]) ⟨(.opt _ _ hc), (.opt _ _ hc), trivial⟩ (does_call 21 0 (fun _ => .any) (.func 21) [(.tmp 22), (.tmp 24)] [(e_s_api_Right p0), (.int .u64 ((p0.getD x1.toNat z_api_Right).Handle))] [] true [(e_s_api_Right p0), (.int .u64 ((p0.getD x1.toNat z_api_Right).Handle))] (.int .i64 v6) _ _ rfl fo21 rfl ⟨trivial, trivial, trivial⟩ ⟨.data _ (d_s_api_Right p0), .data _ trivial, trivial⟩ (right_find_spec p0 ((p0.getD x1.toNat z_api_Right).Handle) _ (h7 hc)) trivial)), ⟨⟨rfl, rfl, rfl, trivial⟩, trivial, rfl⟩, rfl,
        Step.guarded rfl rfl rfl rfl (fun hc => does_move (.tmp 3) (.int .i64 x1) trivial), ⟨⟨rfl, rfl, trivial⟩, trivial, rfl⟩, rfl,
        Step.guarded rfl rfl rfl rfl (fun hc => Does.strip (n' := [(25, (.opt (!((((p0.getD x1.toNat z_api_Right).Handle) == 0) || (!v4))) (.int .i64 v6))), (26, (.opt (!((((p0.getD x1.toNat z_api_Right).Handle) == 0) || (!v4))) (.int .i64 x1)))]) (n := [(25, (.int .i64 v6)), (26, (.int .i64 x1))]) ⟨(.opt _ _ hc), (.opt _ _ hc), trivial⟩ (does_bin .neq 3 3 (.tmp 25) (.tmp 26) .i64 v6 x1 (.bool (v6 != x1)) trivial trivial (bin_neq _ _ _ _))), ⟨⟨rfl, rfl, rfl, trivial⟩, trivial, rfl⟩, rfl,
        Step.plain rfl (does_or 21 27 ((((p0.getD x1.toNat z_api_Right).Handle) == 0) || (!v4)) (v6 != x1)), ⟨⟨rfl, rfl, trivial⟩, trivial, rfl⟩, rfl, rfl⟩ ?_
      obtain ⟨v8, hv8, H⟩ := lt_of H
      refine aw_cov (cov_prune (s1 := ⟨[(0, (e_s_api_Right p0)), (5, (e_s_api_Right p0)), (6, (.int .i64 (p0.length : Int))), (7, (.int .i64 x1)), (28, (.bool v8))], [], 1⟩) ⟨rfl, rfl, rfl, rfl, (by subst hv8; rfl), trivial⟩ trivial (Nat.le_refl _)) ?_
      refine aw_cond rfl (fun hc => ?_) (fun hc => ?_)
      · replace H := ite_t hc H
        refine aw_region (es := [_]) ⟨Step.plain rfl (does_assign (.const (.bool false)) (.bool false) (fun _ => rfl)), ⟨trivial, trivial, rfl⟩, rfl, rfl⟩ ?_
        refine aw_cov (cov_prune (s1 := ⟨[(2, (.bool false))], [], 1⟩) ⟨rfl, trivial⟩ trivial (Nat.le_refl _)) ?_
        refine aw_ret ?_
        replace H := rt_of H hsn2 Hrn2
        refine rt_blk ?_
        refine rt_then ?_
        refine rt_then ?_
        refine rt_blk ?_
        refine rt_then ?_
        refine rt_then ?_
        exact fun a w hr => ⟨_, [(.bool false)], hr, ⟨⟨_, rfl, .data _ trivial⟩, trivial⟩, by decide, by cases H; rfl⟩
      · replace H := ite_f hc H
        refine aw_skip ?_
        refine nx_blk ?_
        refine nx_seq ?_
        refine aw_region1 (es := [_, _]) ⟨Step.plain rfl (does_bin .add 3 3 (.tmp 7) (.const (.int .i64 1)) .i64 x1 1 (.int .i64 (IntKind.i64.wrap (x1 + 1))) trivial (fun _ => rfl) (bin_add _ _ _ _)), ⟨⟨rfl, trivial⟩, trivial, rfl⟩, rfl,
          Step.plain rfl (does_move (.tmp 29) (.int .i64 (IntKind.i64.wrap (x1 + 1))) trivial), ⟨⟨rfl, trivial⟩, trivial, rfl⟩, rfl, rfl⟩ ?_
        exact nx_loop ((IntKind.i64.wrap (x1 + 1))) H (cov_of (fun i => i) ⟨⟨_, rfl, ⟨rfl, (d_s_api_Right _).plain⟩⟩, ⟨_, rfl, ⟨rfl, (d_s_api_Right _).plain⟩⟩, ⟨_, rfl, ⟨rfl, trivial⟩⟩, ⟨_, rfl, ⟨rfl, trivial⟩⟩, trivial⟩ trivial rfl)
    · replace H := ite_f hc H
      refine aw_exit ?_
      refine ex_then ?_
      refine ex_then ?_
      refine ex_here ?_
      exact nx_ljoin () H hsn2 (cov_prune ⟨rfl, trivial⟩ trivial (Nat.le_of_ble_eq_true rfl))
end Go.Proofs.Ytffnegdahhlncaa
