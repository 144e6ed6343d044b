/- Printed by gen.py. Conditions: none. -/
import Derived.Test.YtgcnlfchpjbhkaaFact
import Derived.KernelRfl
set_option linter.unusedVariables false
set_option maxRecDepth 100000
namespace Go.Proofs.Ytgcnlfchpjbhkaa
open Go.Eng
theorem round_member_spec (p0 : (Nat → Int)) (p1 : Int) (r : Bool) (H : round_member p0 p1 = some r) : FSpec Try.prog 19 [(e_a8_u32 p0), (.int .i64 p1)] (.bool r) := by
  refine spec_of (fn := Try.f19) (args := [(e_a8_u32 p0), (.int .i64 p1)]) Try.func19 rfl (Nat.le_of_ble_eq_true rfl) ?_
  rintro ⟨G, w0, W, S, Sp⟩ hG
  cases hG
  unfold round_member at H
  refine aw_region (es := [_, _]) ⟨Step.plain rfl (does_box 25 (.tmp 0) 0 (e_a8_u32 p0) trivial rfl), ⟨⟨rfl, trivial⟩, trivial, rfl⟩, rfl,
    Step.plain rfl (does_assign (.const (.bool false)) (.bool false) (fun _ => rfl)), ⟨trivial, trivial, rfl⟩, rfl, rfl⟩ ?_
  refine aw_cov (cov_prune (s1 := ⟨[(1, (.int .i64 p1)), (2, (.ptr 0 0 []))], [(0, some (.var (e_a8_u32 p0)))], 1⟩) ⟨rfl, rfl, trivial⟩ ⟨rfl, trivial⟩ (Nat.le_refl _)) ?_
  obtain ⟨h1, H⟩ := ibg_of H
  refine aw_region (es := [_, _, _, _, _, _, _, _, _, _, _, _, _]) ⟨Step.plain rfl (does_move (.tmp 1) (.int .i64 p1) trivial), ⟨⟨rfl, trivial⟩, trivial, rfl⟩, rfl,
    Step.plain rfl (does_bin .geq 3 3 (.tmp 5) (.const (.int .i64 0)) .i64 p1 0 (.bool (decide (p1 ≥ 0))) trivial (fun _ => rfl) (bin_geq _ _ _ _)), ⟨⟨rfl, trivial⟩, trivial, rfl⟩, rfl,
    Step.plain rfl (does_move (.tmp 6) (.bool (decide (p1 ≥ 0))) trivial), ⟨⟨rfl, trivial⟩, trivial, rfl⟩, rfl,
    Step.guarded rfl rfl rfl rfl (fun hc => does_move (.tmp 1) (.int .i64 p1) trivial), ⟨⟨rfl, rfl, trivial⟩, trivial, rfl⟩, rfl,
    Step.guarded rfl rfl rfl rfl (fun hc => Does.strip (n' := [(8, (.opt (decide (p1 ≥ 0)) (.int .i64 p1)))]) (n := [(8, (.int .i64 p1))]) ⟨(.opt _ _ hc), trivial⟩ (does_bin .lss 3 3 (.tmp 8) (.const (.int .i64 8)) .i64 p1 8 (.bool (decide (p1 < 8))) trivial (fun _ => rfl) (bin_lss _ _ _ _))), ⟨⟨rfl, rfl, trivial⟩, trivial, rfl⟩, rfl,
    Step.plain rfl (does_and 7 9 (decide (p1 ≥ 0)) (decide (p1 < 8))), ⟨⟨rfl, rfl, trivial⟩, trivial, rfl⟩, rfl,
    Step.plain rfl (does_move (.tmp 10) (.bool ((decide (p1 ≥ 0)) && (decide (p1 < 8)))) trivial), ⟨⟨rfl, trivial⟩, trivial, rfl⟩, rfl,
    Step.guarded rfl rfl rfl rfl (fun hc => does_move (.tmp 1) (.int .i64 p1) trivial), ⟨⟨rfl, rfl, trivial⟩, trivial, rfl⟩, rfl,
    Step.guarded rfl rfl rfl rfl (fun hc => Does.strip (n' := [(2, (.ptr 0 0 [])), (12, (.opt ((decide (p1 ≥ 0)) && (decide (p1 < 8))) (.int .i64 p1)))]) (n := [(2, (.ptr 0 0 [])), (12, (.int .i64 p1))]) ⟨(.same _), (.opt _ _ hc), trivial⟩ (does_indexAddr 25 8 1 2 0 0 [] (.var (e_a8_u32 p0)) (.tmp 12) .i64 p1 el25 trivial (h1 hc).1 (h1 hc).2)), ⟨⟨rfl, rfl, rfl, trivial⟩, ⟨rfl, trivial⟩, rfl⟩, rfl,
    Step.guarded rfl rfl rfl rfl (fun hc => Does.strip (n' := [(13, (.opt ((decide (p1 ≥ 0)) && (decide (p1 < 8))) (.ptr 0 (0 + p1.toNat * 1) [p1.toNat])))]) (n := [(13, (.ptr 0 (0 + p1.toNat * 1) [p1.toNat]))]) ⟨(.opt _ _ hc), trivial⟩ (does_load 22 13 0 (0 + p1.toNat * 1) [p1.toNat] (.var (e_a8_u32 p0)) (.int .u32 (p0 p1.toNat)) ⟨rfl, (ixl (h1 hc)), trivial⟩ rfl rfl ty22)), ⟨⟨rfl, rfl, trivial⟩, ⟨rfl, trivial⟩, rfl⟩, rfl,
    Step.guarded rfl rfl rfl rfl (fun hc => Does.strip (n' := [(14, (.opt ((decide (p1 ≥ 0)) && (decide (p1 < 8))) (.int .u32 (p0 p1.toNat))))]) (n := [(14, (.int .u32 (p0 p1.toNat)))]) ⟨(.opt _ _ hc), trivial⟩ (does_bin .neq 22 22 (.tmp 14) (.const (.int .u32 0)) .u32 (p0 p1.toNat) 0 (.bool ((p0 p1.toNat) != 0)) trivial (fun _ => rfl) (bin_neq _ _ _ _))), ⟨⟨rfl, rfl, trivial⟩, trivial, rfl⟩, rfl,
    Step.plain rfl (does_and 11 15 ((decide (p1 ≥ 0)) && (decide (p1 < 8))) ((p0 p1.toNat) != 0)), ⟨⟨rfl, rfl, trivial⟩, trivial, rfl⟩, rfl,
    Step.plain rfl (does_assign (.tmp 16) (.bool (((decide (p1 ≥ 0)) && (decide (p1 < 8))) && ((p0 p1.toNat) != 0))) trivial), ⟨⟨rfl, trivial⟩, trivial, rfl⟩, rfl, rfl⟩ ?_
  refine aw_cov (cov_prune (s1 := ⟨[(4, (.bool (((decide (p1 ≥ 0)) && (decide (p1 < 8))) && ((p0 p1.toNat) != 0))))], [], 1⟩) ⟨rfl, trivial⟩ trivial (Nat.le_refl _)) ?_
  refine aw_ret ?_
  exact fun a w hr => ⟨_, [(.bool (((decide (p1 ≥ 0)) && (decide (p1 < 8))) && ((p0 p1.toNat) != 0)))], hr, ⟨⟨_, rfl, .data _ trivial⟩, trivial⟩, by decide, by cases H; rfl⟩

theorem ident_List_spec (p0 : (Nat → Int)) (r : (_root_.List Int)) (H : ident_List p0 = some r) : FSpec Try.prog 22 [(e_a8_u32 p0)] (e_s_i64 r) := by
  refine spec_of (fn := Try.f22) (args := [(e_a8_u32 p0)]) Try.func22 rfl (Nat.le_of_ble_eq_true rfl) ?_
  rintro ⟨G, w0, W, S, Sp⟩ hG
  cases hG
  unfold ident_List at H
  refine aw_region (es := [_, _]) ⟨Step.plain rfl (does_box 25 (.tmp 0) 0 (e_a8_u32 p0) trivial rfl), ⟨⟨rfl, trivial⟩, trivial, rfl⟩, rfl,
    Step.plain rfl (does_nil false 1 1 (fun j => (.int .i64 (([] : _root_.List Int).getD j 0)))), ⟨trivial, trivial, rfl⟩, rfl, rfl⟩ ?_
  refine aw_cov (cov_prune (s1 := ⟨[(1, (.ptr 0 0 []))], [(0, some (.var (e_a8_u32 p0)))], 2⟩) ⟨rfl, trivial⟩ ⟨rfl, trivial⟩ (Nat.le_refl _)) ?_
  refine aw_region (es := [_]) ⟨Step.plain rfl (does_nil false 2 1 (fun j => (.int .i64 (([] : _root_.List Int).getD j 0)))), ⟨trivial, trivial, rfl⟩, rfl, rfl⟩ ?_
  refine aw_cov (cov_prune (s1 := ⟨[(1, (.ptr 0 0 [])), (3, (.own 2))], [(0, some (.var (e_a8_u32 p0))), (2, some (.arr 1 ([] : _root_.List Int).length fun j => (.int .i64 (([] : _root_.List Int).getD j 0))))], 3⟩) ⟨rfl, rfl, trivial⟩ ⟨rfl, rfl, trivial⟩ (Nat.le_refl _)) ?_
  refine aw_seq ?_
  refine aw_region (es := [_, _]) ⟨Step.plain rfl (does_load 25 1 0 0 [] (.var (e_a8_u32 p0)) (e_a8_u32 p0) trivial rfl rfl ty25), ⟨⟨rfl, trivial⟩, ⟨rfl, trivial⟩, rfl⟩, rfl,
    Step.plain rfl (does_move (.const (.int .i64 0)) (.int .i64 0) (fun _ => rfl)), ⟨trivial, trivial, rfl⟩, rfl, rfl⟩ ?_
  refine aw_cov (cov_prune (s1 := ⟨[(3, (.own 2)), (6, (e_a8_u32 p0)), (7, (.int .i64 0))], [(2, some (.arr 1 ([] : _root_.List Int).length fun j => (.int .i64 (([] : _root_.List Int).getD j 0))))], 3⟩) ⟨rfl, rfl, rfl, trivial⟩ ⟨rfl, trivial⟩ (Nat.le_refl _)) ?_
  obtain ⟨wn2, hwn2, Hrn2⟩ := bnd H
  refine aw_meet (fun y7 : _root_.List Int => (⟨[(3, (.own 2))], [(2, some (.arr 1 y7.length fun j => (.int .i64 (y7.getD j 0))))], 3⟩ : St)) (fun y7 => Fl.nx y7 = wn2) (fun y7 hy => ?_) (aw_block (aw_runs (fun x1 : Int × _root_.List Int => (⟨[(3, (.own 2)), (6, (e_a8_u32 p0)), (7, (.int .i64 x1.1))], [(2, some (.arr 1 x1.2.length fun j => (.int .i64 (x1.2.getD j 0))))], 3⟩ : St)) hwn2 (cov_prune ⟨rfl, rfl, rfl, trivial⟩ ⟨rfl, trivial⟩ (Nat.le_of_ble_eq_true rfl)) (fun x1 st H hsn2 => ?_)))
  · have H := nx_of hy Hrn2
    refine nx_seq ?_
    refine aw_region (es := [_, _]) ⟨Step.plain rfl (does_move (.tmp 3) (.own 2) trivial), ⟨⟨rfl, trivial⟩, trivial, rfl⟩, rfl,
      Step.plain rfl (does_assign (.tmp 18) (.own 2) trivial), ⟨⟨rfl, trivial⟩, trivial, rfl⟩, rfl, rfl⟩ ?_
    refine aw_cov (cov_prune (s1 := ⟨[(2, (.own 2))], [(2, some (.arr 1 y7.length fun j => (.int .i64 (y7.getD j 0))))], 3⟩) ⟨rfl, trivial⟩ ⟨rfl, trivial⟩ (Nat.le_refl _)) ?_
    refine aw_ret ?_
    exact fun a w hr => ⟨_, [(e_s_i64 y7)], hr, ⟨⟨_, rfl, .own _ _ _ _ rfl (fun _ => trivial)⟩, trivial⟩, by decide, by cases H; rfl⟩
  · refine aw_region (es := [_]) ⟨Step.plain rfl (does_bin .lss 3 3 (.tmp 7) (.const (.int .i64 8)) .i64 x1.1 8 (.bool (decide (x1.1 < 8))) trivial (fun _ => rfl) (bin_lss _ _ _ _)), ⟨⟨rfl, trivial⟩, trivial, rfl⟩, rfl, rfl⟩ ?_
    refine aw_cov (cov_prune (s1 := ⟨[(3, (.own 2)), (6, (e_a8_u32 p0)), (7, (.int .i64 x1.1)), (8, (.bool (decide (x1.1 < 8))))], [(2, some (.arr 1 x1.2.length fun j => (.int .i64 (x1.2.getD j 0))))], 3⟩) ⟨rfl, rfl, rfl, rfl, trivial⟩ ⟨rfl, trivial⟩ (Nat.le_refl _)) ?_
    refine aw_seq ?_
    refine aw_cond rfl (fun hc => ?_) (fun hc => ?_)
    · replace H := ite_t hc H
      refine aw_skip ?_
      refine nx_seq ?_
      refine aw_seq ?_
      refine aw_jn (fun x6 : _root_.List Int => (⟨[(3, (.own 2)), (6, (e_a8_u32 p0)), (7, (.int .i64 x1.1))], [(2, some (.arr 1 x6.length fun j => (.int .i64 (x6.getD j 0))))], 4⟩ : St)) H (fun x6 H => ?_) (fun j3 H => ?_)
      · refine nx_seq ?_
        refine aw_region1 (es := [_, _]) ⟨Step.plain rfl (does_bin .add 3 3 (.tmp 7) (.const (.int .i64 1)) .i64 x1.1 1 (.int .i64 (IntKind.i64.wrap (x1.1 + 1))) trivial (fun _ => rfl) (bin_add _ _ _ _)), ⟨⟨rfl, trivial⟩, trivial, rfl⟩, rfl,
          Step.plain rfl (does_move (.tmp 17) (.int .i64 (IntKind.i64.wrap (x1.1 + 1))) trivial), ⟨⟨rfl, trivial⟩, trivial, rfl⟩, rfl, rfl⟩ ?_
        exact nx_loop ((IntKind.i64.wrap (x1.1 + 1)), x6) H (cov_of (fun i => match i with | 2 => 2 | k => k) ⟨⟨_, rfl, ⟨rfl, Nat.le_of_ble_eq_true rfl⟩⟩, ⟨_, rfl, .inl ⟨rfl, (d_a8_u32 _).plain⟩⟩, ⟨_, rfl, ⟨rfl, trivial⟩⟩, trivial⟩ ⟨⟨Nat.le_of_ble_eq_true rfl, _, _, rfl, rfl, ⟨rfl, rfl, fun _ => ⟨rfl, trivial⟩⟩⟩, trivial⟩ rfl)
      · refine aw_block ?_
        obtain ⟨h4, H⟩ := ib_of H
        refine aw_region (es := [_, _, _, _]) ⟨Step.plain rfl (does_move (.tmp 7) (.int .i64 x1.1) trivial), ⟨⟨rfl, trivial⟩, trivial, rfl⟩, rfl,
          Step.plain rfl (does_index 25 8 22 1 6 false (fun j => (.int .u32 (p0 j))) (.tmp 7) .i64 x1.1 ua25 ty22 rfl trivial h4.1 h4.2), ⟨⟨rfl, rfl, trivial⟩, trivial, rfl⟩, rfl,
          Step.plain rfl (does_assign (.tmp 9) (.int .i64 x1.1) trivial), ⟨⟨rfl, trivial⟩, trivial, rfl⟩, rfl,
          Step.plain rfl (does_assign (.tmp 10) (.int .u32 (p0 x1.1.toNat)) trivial), ⟨⟨rfl, trivial⟩, trivial, rfl⟩, rfl, rfl⟩ ?_
        refine aw_cov (cov_prune (s1 := ⟨[(3, (.own 2)), (6, (e_a8_u32 p0)), (7, (.int .i64 x1.1)), (4, (.int .i64 x1.1)), (5, (.int .u32 (p0 x1.1.toNat)))], [(2, some (.arr 1 x1.2.length fun j => (.int .i64 (x1.2.getD j 0))))], 3⟩) ⟨rfl, rfl, rfl, rfl, rfl, trivial⟩ ⟨rfl, trivial⟩ (Nat.le_refl _)) ?_
        refine aw_region (es := [_, _]) ⟨Step.plain rfl (does_move (.tmp 5) (.int .u32 (p0 x1.1.toNat)) trivial), ⟨⟨rfl, trivial⟩, trivial, rfl⟩, rfl,
          Step.plain rfl (does_bin .neq 22 22 (.tmp 11) (.const (.int .u32 0)) .u32 (p0 x1.1.toNat) 0 (.bool ((p0 x1.1.toNat) != 0)) trivial (fun _ => rfl) (bin_neq _ _ _ _)), ⟨⟨rfl, trivial⟩, trivial, rfl⟩, rfl, rfl⟩ ?_
        refine aw_cov (cov_prune (s1 := ⟨[(3, (.own 2)), (6, (e_a8_u32 p0)), (7, (.int .i64 x1.1)), (4, (.int .i64 x1.1)), (12, (.bool ((p0 x1.1.toNat) != 0)))], [(2, some (.arr 1 x1.2.length fun j => (.int .i64 (x1.2.getD j 0))))], 3⟩) ⟨rfl, rfl, rfl, rfl, rfl, trivial⟩ ⟨rfl, trivial⟩ (Nat.le_refl _)) ?_
        refine aw_cond rfl (fun hc => ?_) (fun hc => ?_)
        · replace H := ite_t hc H
          obtain ⟨h5, H⟩ := fit_of H
          refine aw_region1 (es := [_, _, _, _, _]) ⟨Step.plain rfl (does_move (.tmp 3) (.own 2) trivial), ⟨⟨rfl, trivial⟩, trivial, rfl⟩, rfl,
            Step.plain rfl (does_move (.tmp 4) (.int .i64 x1.1) trivial), ⟨⟨rfl, trivial⟩, trivial, rfl⟩, rfl,
            Step.plain rfl (does_buildSl 50 1 1 (.int .i64 0) (fun j => (.int .i64 (([x1.1] : _root_.List Int).getD j 0))) #[(0, (.tmp 14))] [(0, (.tmp 14))] [(0, (.int .i64 x1.1))] rfl so50 (by decide) ⟨⟨rfl, trivial⟩, trivial⟩ ⟨⟨Nat.le_of_ble_eq_true rfl, rfl, rfl⟩, trivial⟩ (fun j h => match j, h with | 0, _ => rfl | k + 1, h => absurd h (by omega))), ⟨⟨rfl, trivial⟩, trivial, rfl⟩, rfl,
            Step.plain rfl (does_appendL (fun z => V.int .i64 z) 0 x1.2 ([x1.1] : _root_.List Int) 50 1 8 2 3 13 15 ap50 h5), ⟨⟨rfl, rfl, trivial⟩, ⟨rfl, trivial⟩, rfl⟩, rfl,
            Step.plain rfl (does_assign (.tmp 16) (.own 3) trivial), ⟨⟨rfl, trivial⟩, trivial, rfl⟩, rfl, rfl⟩ ?_
          refine nx_blk ?_
          exact nx_join ((x1.2 ++ ([x1.1] : _root_.List Int))) H (cov_of (fun i => match i with | 2 => 3 | k => k) ⟨⟨_, rfl, ⟨rfl, Nat.le_of_ble_eq_true rfl⟩⟩, ⟨_, rfl, .inl ⟨rfl, (d_a8_u32 _).plain⟩⟩, ⟨_, rfl, ⟨rfl, trivial⟩⟩, trivial⟩ ⟨⟨Nat.le_of_ble_eq_true rfl, _, _, rfl, rfl, ⟨rfl, rfl, fun _ => ⟨rfl, trivial⟩⟩⟩, trivial⟩ rfl)
        · replace H := ite_f hc H
          refine aw_skip ?_
          refine nx_blk ?_
          exact nx_join (x1.2) H (cov_of (fun i => match i with | 2 => 2 | k => k) ⟨⟨_, rfl, ⟨rfl, Nat.le_of_ble_eq_true rfl⟩⟩, ⟨_, rfl, .inl ⟨rfl, (d_a8_u32 _).plain⟩⟩, ⟨_, rfl, ⟨rfl, trivial⟩⟩, trivial⟩ ⟨⟨Nat.le_of_ble_eq_true rfl, _, _, rfl, rfl, ⟨rfl, rfl, fun _ => ⟨rfl, trivial⟩⟩⟩, trivial⟩ rfl)
    · replace H := ite_f hc H
      refine aw_exit ?_
      refine ex_then ?_
      refine ex_then ?_
      refine ex_here ?_
      exact nx_ljoin (x1.2) H hsn2 (cov_prune ⟨rfl, trivial⟩ ⟨rfl, trivial⟩ (Nat.le_of_ble_eq_true rfl))

theorem round_Least_spec (p0 : (Nat → Int)) (p1 : (Nat → Int)) (r : Int × Bool) (H : round_Least p0 p1 = some r) : FSpec Try.prog 11 [(e_a8_u32 p0), (e_a8_u32 p1)] (resV [(.int .u32 r.1), (.bool r.2)]) := by
  refine spec_of (fn := Try.f11) (args := [(e_a8_u32 p0), (e_a8_u32 p1)]) Try.func11 rfl (Nat.le_of_ble_eq_true rfl) ?_
  rintro ⟨G, w0, W, S, Sp⟩ hG
  cases hG
  unfold round_Least at H
  refine aw_region (es := [_, _, _, _]) ⟨Step.plain rfl (does_box 24 (.tmp 0) 0 (e_a8_u32 p0) trivial rfl), ⟨⟨rfl, trivial⟩, trivial, rfl⟩, rfl,
    Step.plain rfl (does_box 25 (.tmp 1) 1 (e_a8_u32 p1) trivial rfl), ⟨⟨rfl, trivial⟩, trivial, rfl⟩, rfl,
    Step.plain rfl (does_assign (.const (.int .u32 0)) (.int .u32 0) (fun _ => rfl)), ⟨trivial, trivial, rfl⟩, rfl,
    Step.plain rfl (does_assign (.const (.bool false)) (.bool false) (fun _ => rfl)), ⟨trivial, trivial, rfl⟩, rfl, rfl⟩ ?_
  refine aw_cov (cov_prune (s1 := ⟨[(2, (.ptr 0 0 [])), (3, (.ptr 1 0 []))], [(0, some (.var (e_a8_u32 p0))), (1, some (.var (e_a8_u32 p1)))], 2⟩) ⟨rfl, rfl, trivial⟩ ⟨rfl, rfl, trivial⟩ (Nat.le_refl _)) ?_
  obtain ⟨v1, h2, H⟩ := bnd H
  refine aw_region (es := [_, _, _]) ⟨Step.plain rfl (does_load 25 3 1 0 [] (.var (e_a8_u32 p1)) (e_a8_u32 p1) trivial rfl rfl ty25), ⟨⟨rfl, trivial⟩, ⟨rfl, trivial⟩, rfl⟩, rfl,
    Step.plain rfl (does_call 22 0 (fun _ => .any) (.func 22) [(.tmp 10)] [(e_a8_u32 p1)] [] false [(e_a8_u32 p1)] (e_s_i64 v1) _ _ rfl fo22 rfl ⟨trivial, trivial⟩ ⟨.data _ (d_a8_u32 p1), trivial⟩ (ident_List_spec p1 _ h2) (d_s_i64 v1)), ⟨⟨rfl, trivial⟩, trivial, rfl⟩, rfl,
    Step.plain rfl (does_assign (.tmp 11) (e_s_i64 v1) trivial), ⟨⟨rfl, trivial⟩, trivial, rfl⟩, rfl, rfl⟩ ?_
  refine aw_cov (cov_prune (s1 := ⟨[(2, (.ptr 0 0 [])), (6, (e_s_i64 v1))], [(0, some (.var (e_a8_u32 p0)))], 2⟩) ⟨rfl, rfl, trivial⟩ ⟨rfl, trivial⟩ (Nat.le_refl _)) ?_
  refine aw_seq ?_
  refine aw_region (es := [_, _, _]) ⟨Step.plain rfl (does_move (.tmp 6) (e_s_i64 v1) trivial), ⟨⟨rfl, trivial⟩, trivial, rfl⟩, rfl,
    Step.plain rfl (does_lens 50 1 v1.length 12 (fun j => (.int .i64 (v1.getD j 0))) el50), ⟨⟨rfl, trivial⟩, trivial, rfl⟩, rfl,
    Step.plain rfl (does_bin .eql 3 3 (.tmp 13) (.const (.int .i64 0)) .i64 (v1.length : Int) 0 (.bool ((v1.length : Int) == 0)) trivial (fun _ => rfl) (bin_eql _ _ _ _)), ⟨⟨rfl, trivial⟩, trivial, rfl⟩, rfl, rfl⟩ ?_
  refine aw_cov (cov_prune (s1 := ⟨[(2, (.ptr 0 0 [])), (6, (e_s_i64 v1)), (14, (.bool ((v1.length : Int) == 0)))], [(0, some (.var (e_a8_u32 p0)))], 2⟩) ⟨rfl, rfl, rfl, trivial⟩ ⟨rfl, trivial⟩ (Nat.le_refl _)) ?_
  refine aw_cond rfl (fun hc => ?_) (fun hc => ?_)
  · replace H := ite_t hc H
    refine aw_region (es := [_, _]) ⟨Step.plain rfl (does_assign (.const (.int .u32 0)) (.int .u32 0) (fun _ => rfl)), ⟨trivial, trivial, rfl⟩, rfl,
      Step.plain rfl (does_assign (.const (.bool false)) (.bool false) (fun _ => rfl)), ⟨trivial, trivial, rfl⟩, rfl, rfl⟩ ?_
    refine aw_cov (cov_prune (s1 := ⟨[(4, (.int .u32 0)), (5, (.bool false))], [], 2⟩) ⟨rfl, rfl, trivial⟩ trivial (Nat.le_refl _)) ?_
    refine aw_ret ?_
    refine rt_then ?_
    exact fun a w hr => ⟨_, [(.int .u32 0), (.bool false)], hr, ⟨⟨_, rfl, .data _ trivial⟩, ⟨_, rfl, .data _ trivial⟩, trivial⟩, by decide, by cases H; rfl⟩
  · replace H := ite_f hc H
    refine aw_skip ?_
    refine nx_seq ?_
    refine aw_region (es := [_]) ⟨Step.plain rfl (does_assign (.const (.int .u32 4294967295)) (.int .u32 4294967295) (fun _ => rfl)), ⟨trivial, trivial, rfl⟩, rfl, rfl⟩ ?_
    refine aw_cov (cov_prune (s1 := ⟨[(2, (.ptr 0 0 [])), (6, (e_s_i64 v1)), (7, (.int .u32 4294967295))], [(0, some (.var (e_a8_u32 p0)))], 2⟩) ⟨rfl, rfl, rfl, trivial⟩ ⟨rfl, trivial⟩ (Nat.le_refl _)) ?_
    refine aw_seq ?_
    refine aw_region (es := [_, _, _]) ⟨Step.plain rfl (does_move (.tmp 6) (e_s_i64 v1) trivial), ⟨⟨rfl, trivial⟩, trivial, rfl⟩, rfl,
      Step.plain rfl (does_lens 50 1 v1.length 15 (fun j => (.int .i64 (v1.getD j 0))) el50), ⟨⟨rfl, trivial⟩, trivial, rfl⟩, rfl,
      Step.plain rfl (does_move (.const (.int .i64 0)) (.int .i64 0) (fun _ => rfl)), ⟨trivial, trivial, rfl⟩, rfl, rfl⟩ ?_
    refine aw_cov (cov_prune (s1 := ⟨[(2, (.ptr 0 0 [])), (7, (.int .u32 4294967295)), (15, (e_s_i64 v1)), (16, (.int .i64 (v1.length : Int))), (17, (.int .i64 0))], [(0, some (.var (e_a8_u32 p0)))], 2⟩) ⟨rfl, rfl, rfl, rfl, rfl, trivial⟩ ⟨rfl, trivial⟩ (Nat.le_refl _)) ?_
    obtain ⟨wn4, hwn4, Hrn4⟩ := bnd H
    refine aw_meet (fun y8 : Int => (⟨[(7, (.int .u32 y8))], [], 2⟩ : St)) (fun y8 => Fl.nx y8 = wn4) (fun y8 hy => ?_) (aw_block (aw_runs (fun x3 : Int × Int => (⟨[(2, (.ptr 0 0 [])), (7, (.int .u32 x3.1)), (15, (e_s_i64 v1)), (16, (.int .i64 (v1.length : Int))), (17, (.int .i64 x3.2))], [(0, some (.var (e_a8_u32 p0)))], 2⟩ : St)) hwn4 (cov_prune ⟨rfl, rfl, rfl, rfl, rfl, trivial⟩ ⟨rfl, trivial⟩ (Nat.le_of_ble_eq_true rfl)) (fun x3 st H hsn4 => ?_)))
    · have H := nx_of hy Hrn4
      refine nx_seq ?_
      refine aw_region (es := [_, _, _]) ⟨Step.plain rfl (does_move (.tmp 7) (.int .u32 y8) trivial), ⟨⟨rfl, trivial⟩, trivial, rfl⟩, rfl,
        Step.plain rfl (does_assign (.tmp 27) (.int .u32 y8) trivial), ⟨⟨rfl, trivial⟩, trivial, rfl⟩, rfl,
        Step.plain rfl (does_assign (.const (.bool true)) (.bool true) (fun _ => rfl)), ⟨trivial, trivial, rfl⟩, rfl, rfl⟩ ?_
      refine aw_cov (cov_prune (s1 := ⟨[(4, (.int .u32 y8)), (5, (.bool true))], [], 2⟩) ⟨rfl, rfl, trivial⟩ trivial (Nat.le_refl _)) ?_
      refine aw_ret ?_
      exact fun a w hr => ⟨_, [(.int .u32 y8), (.bool true)], hr, ⟨⟨_, rfl, .data _ trivial⟩, ⟨_, rfl, .data _ trivial⟩, trivial⟩, by decide, by cases H; rfl⟩
    · refine aw_region (es := [_]) ⟨Step.plain rfl (does_bin .lss 3 3 (.tmp 17) (.tmp 16) .i64 x3.2 (v1.length : Int) (.bool (decide (x3.2 < (v1.length : Int)))) trivial trivial (bin_lss _ _ _ _)), ⟨⟨rfl, rfl, trivial⟩, trivial, rfl⟩, rfl, rfl⟩ ?_
      refine aw_cov (cov_prune (s1 := ⟨[(2, (.ptr 0 0 [])), (7, (.int .u32 x3.1)), (15, (e_s_i64 v1)), (16, (.int .i64 (v1.length : Int))), (17, (.int .i64 x3.2)), (18, (.bool (decide (x3.2 < (v1.length : Int)))))], [(0, some (.var (e_a8_u32 p0)))], 2⟩) ⟨rfl, rfl, rfl, rfl, rfl, rfl, trivial⟩ ⟨rfl, trivial⟩ (Nat.le_refl _)) ?_
      refine aw_seq ?_
      refine aw_cond rfl (fun hc => ?_) (fun hc => ?_)
      · replace H := ite_t hc H
        refine aw_skip ?_
        refine nx_seq ?_
        refine aw_seq ?_
        refine aw_block ?_
        obtain ⟨h5, H⟩ := ib_of H
        refine aw_region (es := [_, _, _]) ⟨Step.plain rfl (does_indexAddrs 50 1 v1.length 15 (fun j => (.int .i64 (v1.getD j 0))) (.tmp 17) .i64 x3.2 el50 trivial h5.1 h5.2), ⟨⟨rfl, rfl, trivial⟩, trivial, rfl⟩, rfl,
          Step.plain rfl (does_loadc 3 19 (.int .i64 (v1.getD x3.2.toNat 0)) ty3), ⟨⟨rfl, trivial⟩, trivial, rfl⟩, rfl,
          Step.plain rfl (does_assign (.tmp 20) (.int .i64 (v1.getD x3.2.toNat 0)) trivial), ⟨⟨rfl, trivial⟩, trivial, rfl⟩, rfl, rfl⟩ ?_
        refine aw_cov (cov_prune (s1 := ⟨[(2, (.ptr 0 0 [])), (7, (.int .u32 x3.1)), (15, (e_s_i64 v1)), (16, (.int .i64 (v1.length : Int))), (17, (.int .i64 x3.2)), (9, (.int .i64 (v1.getD x3.2.toNat 0)))], [(0, some (.var (e_a8_u32 p0)))], 2⟩) ⟨rfl, rfl, rfl, rfl, rfl, rfl, trivial⟩ ⟨rfl, trivial⟩ (Nat.le_refl _)) ?_
        obtain ⟨h6, H⟩ := ib_of H
        refine aw_region1 (es := [_, _, _, _, _, _]) ⟨Step.plain rfl (does_move (.tmp 7) (.int .u32 x3.1) trivial), ⟨⟨rfl, trivial⟩, trivial, rfl⟩, rfl,
          Step.plain rfl (does_move (.tmp 9) (.int .i64 (v1.getD x3.2.toNat 0)) trivial), ⟨⟨rfl, trivial⟩, trivial, rfl⟩, rfl,
          Step.plain rfl (does_indexAddr 24 8 1 2 0 0 [] (.var (e_a8_u32 p0)) (.tmp 22) .i64 (v1.getD x3.2.toNat 0) el24 trivial h6.1 h6.2), ⟨⟨rfl, rfl, trivial⟩, ⟨rfl, trivial⟩, rfl⟩, rfl,
          Step.plain rfl (does_load 22 23 0 (0 + (v1.getD x3.2.toNat 0).toNat * 1) [(v1.getD x3.2.toNat 0).toNat] (.var (e_a8_u32 p0)) (.int .u32 (p0 ((v1.getD x3.2.toNat 0).toNat))) ⟨rfl, (ixl h6), trivial⟩ rfl rfl ty22), ⟨⟨rfl, trivial⟩, ⟨rfl, trivial⟩, rfl⟩, rfl,
          Step.plain rfl (does_min _ _ (.tmp 21) (.tmp 24) rfl .u32 x3.1 (p0 ((v1.getD x3.2.toNat 0).toNat)) trivial trivial), ⟨⟨rfl, rfl, trivial⟩, trivial, rfl⟩, rfl,
          Step.plain rfl (does_assign (.tmp 25) (.int .u32 (if (p0 ((v1.getD x3.2.toNat 0).toNat)) < x3.1 then p0 ((v1.getD x3.2.toNat 0).toNat) else x3.1)) trivial), ⟨⟨rfl, trivial⟩, trivial, rfl⟩, rfl, rfl⟩ ?_
        refine nx_blk ?_
        refine nx_seq ?_
        obtain ⟨v7, hv7, H⟩ := lt_of H
        refine aw_cov (cov_prune (s1 := ⟨[(2, (.ptr 0 0 [])), (15, (e_s_i64 v1)), (16, (.int .i64 (v1.length : Int))), (17, (.int .i64 x3.2)), (7, (.int .u32 v7))], [(0, some (.var (e_a8_u32 p0)))], 2⟩) ⟨rfl, rfl, rfl, rfl, (by subst hv7; rfl), trivial⟩ ⟨rfl, trivial⟩ (Nat.le_refl _)) ?_
        refine aw_region1 (es := [_, _]) ⟨Step.plain rfl (does_bin .add 3 3 (.tmp 17) (.const (.int .i64 1)) .i64 x3.2 1 (.int .i64 (IntKind.i64.wrap (x3.2 + 1))) trivial (fun _ => rfl) (bin_add _ _ _ _)), ⟨⟨rfl, trivial⟩, trivial, rfl⟩, rfl,
          Step.plain rfl (does_move (.tmp 26) (.int .i64 (IntKind.i64.wrap (x3.2 + 1))) trivial), ⟨⟨rfl, trivial⟩, trivial, rfl⟩, rfl, rfl⟩ ?_
        exact nx_loop (v7, (IntKind.i64.wrap (x3.2 + 1))) H (cov_prune ⟨rfl, rfl, rfl, rfl, rfl, trivial⟩ ⟨rfl, trivial⟩ (Nat.le_of_ble_eq_true rfl))
      · replace H := ite_f hc H
        refine aw_exit ?_
        refine ex_then ?_
        refine ex_then ?_
        refine ex_here ?_
        exact nx_ljoin (x3.1) H hsn4 (cov_prune ⟨rfl, trivial⟩ trivial (Nat.le_of_ble_eq_true rfl))

theorem round_ahead_spec (p0 : (Nat → Int)) (p1 : (Nat → Int)) (p2 : api_Place) (r : Bool) (H : round_ahead p0 p1 p2 = some r) : FSpec Try.prog 20 [(e_a8_u32 p0), (e_a8_u32 p1), (e_api_Place p2)] (.bool r) := by
  refine spec_of (fn := Try.f20) (args := [(e_a8_u32 p0), (e_a8_u32 p1), (e_api_Place p2)]) Try.func20 rfl (Nat.le_of_ble_eq_true rfl) ?_
  rintro ⟨G, w0, W, S, Sp⟩ hG
  cases hG
  unfold round_ahead at H
  refine aw_region (es := [_, _, _, _]) ⟨Step.plain rfl (does_box 24 (.tmp 0) 0 (e_a8_u32 p0) trivial rfl), ⟨⟨rfl, trivial⟩, trivial, rfl⟩, rfl,
    Step.plain rfl (does_box 25 (.tmp 1) 1 (e_a8_u32 p1) trivial rfl), ⟨⟨rfl, trivial⟩, trivial, rfl⟩, rfl,
    Step.plain rfl (does_box 27 (.tmp 2) 2 (e_api_Place p2) trivial rfl), ⟨⟨rfl, trivial⟩, trivial, rfl⟩, rfl,
    Step.plain rfl (does_assign (.const (.bool false)) (.bool false) (fun _ => rfl)), ⟨trivial, trivial, rfl⟩, rfl, rfl⟩ ?_
  refine aw_cov (cov_prune (s1 := ⟨[(3, (.ptr 0 0 [])), (4, (.ptr 1 0 [])), (5, (.ptr 2 0 []))], [(0, some (.var (e_a8_u32 p0))), (1, some (.var (e_a8_u32 p1))), (2, some (.var (e_api_Place p2)))], 3⟩) ⟨rfl, rfl, rfl, trivial⟩ ⟨rfl, rfl, rfl, trivial⟩ (Nat.le_refl _)) ?_
  refine aw_seq ?_
  refine aw_region (es := [_, _, _]) ⟨Step.plain rfl (does_fieldAddr 27 1 1 5 2 0 [] (.var (e_api_Place p2)) fl27_1), ⟨⟨rfl, trivial⟩, ⟨rfl, trivial⟩, rfl⟩, rfl,
    Step.plain rfl (does_load 3 8 2 (0 + 1) [1] (.var (e_api_Place p2)) (.int .i64 p2.From) ⟨rfl, Nat.le_of_ble_eq_true rfl, trivial⟩ rfl rfl ty3), ⟨⟨rfl, trivial⟩, ⟨rfl, trivial⟩, rfl⟩, rfl,
    Step.plain rfl (does_move (.const (.int .i64 0)) (.int .i64 0) (fun _ => rfl)), ⟨trivial, trivial, rfl⟩, rfl, rfl⟩ ?_
  refine aw_cov (cov_prune (s1 := ⟨[(3, (.ptr 0 0 [])), (4, (.ptr 1 0 [])), (5, (.ptr 2 0 [])), (9, (.int .i64 p2.From)), (10, (.int .i64 0))], [(0, some (.var (e_a8_u32 p0))), (1, some (.var (e_a8_u32 p1))), (2, some (.var (e_api_Place p2)))], 3⟩) ⟨rfl, rfl, rfl, rfl, rfl, trivial⟩ ⟨rfl, rfl, rfl, trivial⟩ (Nat.le_refl _)) ?_
  obtain ⟨wn2, hwn2, Hrn2⟩ := bnd H
  refine aw_meet (fun y5 : Unit => (⟨[], [], 3⟩ : St)) (fun y5 => Fl.nx y5 = wn2) (fun y5 hy => ?_) (aw_block (aw_runs (fun x1 : Int => (⟨[(3, (.ptr 0 0 [])), (4, (.ptr 1 0 [])), (5, (.ptr 2 0 [])), (9, (.int .i64 p2.From)), (10, (.int .i64 x1))], [(0, some (.var (e_a8_u32 p0))), (1, some (.var (e_a8_u32 p1))), (2, some (.var (e_api_Place p2)))], 3⟩ : St)) hwn2 (cov_prune ⟨rfl, rfl, rfl, rfl, rfl, trivial⟩ ⟨rfl, rfl, rfl, trivial⟩ (Nat.le_of_ble_eq_true rfl)) (fun x1 st H hsn2 => ?_)))
  · have H := nx_of hy Hrn2
    refine nx_seq ?_
    refine aw_region (es := [_]) ⟨Step.plain rfl (does_assign (.const (.bool true)) (.bool true) (fun _ => rfl)), ⟨trivial, trivial, rfl⟩, rfl, rfl⟩ ?_
    refine aw_cov (cov_prune (s1 := ⟨[(6, (.bool true))], [], 3⟩) ⟨rfl, trivial⟩ trivial (Nat.le_refl _)) ?_
    refine aw_ret ?_
    exact fun a w hr => ⟨_, [(.bool true)], hr, ⟨⟨_, rfl, .data _ trivial⟩, trivial⟩, by decide, by cases H; rfl⟩
  · refine aw_region (es := [_]) ⟨Step.plain rfl (does_bin .lss 3 3 (.tmp 10) (.tmp 9) .i64 x1 p2.From (.bool (decide (x1 < p2.From))) trivial trivial (bin_lss _ _ _ _)), ⟨⟨rfl, rfl, trivial⟩, trivial, rfl⟩, rfl, rfl⟩ ?_
    refine aw_cov (cov_prune (s1 := ⟨[(3, (.ptr 0 0 [])), (4, (.ptr 1 0 [])), (5, (.ptr 2 0 [])), (9, (.int .i64 p2.From)), (10, (.int .i64 x1)), (11, (.bool (decide (x1 < p2.From))))], [(0, some (.var (e_a8_u32 p0))), (1, some (.var (e_a8_u32 p1))), (2, some (.var (e_api_Place p2)))], 3⟩) ⟨rfl, rfl, rfl, rfl, rfl, rfl, trivial⟩ ⟨rfl, rfl, rfl, trivial⟩ (Nat.le_refl _)) ?_
    refine aw_seq ?_
    refine aw_cond rfl (fun hc => ?_) (fun hc => ?_)
    · replace H := ite_t hc H
      refine aw_skip ?_
      refine nx_seq ?_
      refine aw_seq ?_
      refine aw_block ?_
      refine aw_region (es := [_, _]) ⟨Step.plain rfl (does_move (.tmp 10) (.int .i64 x1) trivial), ⟨⟨rfl, trivial⟩, trivial, rfl⟩, rfl,
        Step.plain rfl (does_assign (.tmp 12) (.int .i64 x1) trivial), ⟨⟨rfl, trivial⟩, trivial, rfl⟩, rfl, rfl⟩ ?_
      refine aw_cov (cov_prune (s1 := ⟨[(3, (.ptr 0 0 [])), (4, (.ptr 1 0 [])), (5, (.ptr 2 0 [])), (9, (.int .i64 p2.From)), (10, (.int .i64 x1)), (7, (.int .i64 x1))], [(0, some (.var (e_a8_u32 p0))), (1, some (.var (e_a8_u32 p1))), (2, some (.var (e_api_Place p2)))], 3⟩) ⟨rfl, rfl, rfl, rfl, rfl, rfl, trivial⟩ ⟨rfl, rfl, rfl, trivial⟩ (Nat.le_refl _)) ?_
      obtain ⟨h3, H⟩ := ib_of H
      obtain ⟨h4, H⟩ := ibg_of H
      refine aw_draw (es := [_, _, _, _, _, _, _, _, _, _, _, _]) (mixed) ⟨Step.plain rfl (does_move (.tmp 7) (.int .i64 x1) trivial), ⟨⟨rfl, trivial⟩, trivial, rfl⟩, rfl,
        Step.plain rfl (does_indexAddr 25 8 1 4 1 0 [] (.var (e_a8_u32 p1)) (.tmp 13) .i64 x1 el25 trivial h3.1 h3.2), ⟨⟨rfl, rfl, trivial⟩, ⟨rfl, trivial⟩, rfl⟩, rfl,
        Step.plain rfl (does_load 22 14 1 (0 + x1.toNat * 1) [x1.toNat] (.var (e_a8_u32 p1)) (.int .u32 (p1 x1.toNat)) ⟨rfl, (ixl h3), trivial⟩ rfl rfl ty22), ⟨⟨rfl, trivial⟩, ⟨rfl, trivial⟩, rfl⟩, rfl,
        Step.plain rfl (does_bin .neq 22 22 (.tmp 15) (.const (.int .u32 0)) .u32 (p1 x1.toNat) 0 (.bool ((p1 x1.toNat) != 0)) trivial (fun _ => rfl) (bin_neq _ _ _ _)), ⟨⟨rfl, trivial⟩, trivial, rfl⟩, rfl,
        Step.plain rfl (does_move (.tmp 16) (.bool ((p1 x1.toNat) != 0)) trivial), ⟨⟨rfl, trivial⟩, trivial, rfl⟩, rfl,
        Step.guarded rfl rfl rfl rfl (fun hc => does_move (.tmp 7) (.int .i64 x1) trivial), ⟨⟨rfl, rfl, trivial⟩, trivial, rfl⟩, rfl,
        Step.guarded rfl rfl rfl rfl (fun hc => Does.strip (n' := [(3, (.ptr 0 0 [])), (18, (.opt ((p1 x1.toNat) != 0) (.int .i64 x1)))]) (n := [(3, (.ptr 0 0 [])), (18, (.int .i64 x1))]) ⟨(.same _), (.opt _ _ hc), trivial⟩ (does_indexAddr 24 8 1 3 0 0 [] (.var (e_a8_u32 p0)) (.tmp 18) .i64 x1 el24 trivial (h4 hc).1 (h4 hc).2)), ⟨⟨rfl, rfl, rfl, trivial⟩, ⟨rfl, trivial⟩, rfl⟩, rfl,
        Step.guarded rfl rfl rfl rfl (fun hc => Does.strip (n' := [(19, (.opt ((p1 x1.toNat) != 0) (.ptr 0 (0 + x1.toNat * 1) [x1.toNat])))]) (n := [(19, (.ptr 0 (0 + x1.toNat * 1) [x1.toNat]))]) ⟨(.opt _ _ hc), trivial⟩ (does_load 22 19 0 (0 + x1.toNat * 1) [x1.toNat] (.var (e_a8_u32 p0)) (.int .u32 (p0 x1.toNat)) ⟨rfl, (ixl (h4 hc)), trivial⟩ rfl rfl ty22)), ⟨⟨rfl, rfl, trivial⟩, ⟨rfl, trivial⟩, rfl⟩, rfl,
        Step.guarded rfl rfl rfl rfl (fun hc => does_fieldAddr 27 0 0 5 2 0 [] (.var (e_api_Place p2)) fl27_0), ⟨⟨rfl, rfl, trivial⟩, ⟨rfl, trivial⟩, rfl⟩, rfl,
        Step.guarded rfl rfl rfl rfl (fun hc => Does.strip (n' := [(21, (.opt ((p1 x1.toNat) != 0) (.ptr 2 (0 + 0) [0])))]) (n := [(21, (.ptr 2 (0 + 0) [0]))]) ⟨(.opt _ _ hc), trivial⟩ (does_load 22 21 2 (0 + 0) [0] (.var (e_api_Place p2)) (.int .u32 p2.Round) ⟨rfl, Nat.le_of_ble_eq_true rfl, trivial⟩ rfl rfl ty22)), ⟨⟨rfl, rfl, trivial⟩, ⟨rfl, trivial⟩, rfl⟩, rfl,
        Step.guarded rfl rfl rfl rfl (fun hc => Does.strip (n' := [(20, (.opt ((p1 x1.toNat) != 0) (.int .u32 (p0 x1.toNat)))), (22, (.opt ((p1 x1.toNat) != 0) (.int .u32 p2.Round)))]) (n := [(20, (.int .u32 (p0 x1.toNat))), (22, (.int .u32 p2.Round))]) ⟨(.opt _ _ hc), (.opt _ _ hc), trivial⟩ (does_bin .lss 22 22 (.tmp 20) (.tmp 22) .u32 (p0 x1.toNat) p2.Round (.bool (decide ((p0 x1.toNat) < p2.Round))) trivial trivial (bin_lss _ _ _ _))), ⟨⟨rfl, rfl, rfl, trivial⟩, trivial, rfl⟩, rfl,
        Step.plain rfl (does_and 17 23 ((p1 x1.toNat) != 0) (decide ((p0 x1.toNat) < p2.Round))), ⟨⟨rfl, rfl, trivial⟩, trivial, rfl⟩, rfl, rfl⟩ rfl ?_
      refine aw_cov (cov_prune (s1 := ⟨[(3, (.ptr 0 0 [])), (4, (.ptr 1 0 [])), (5, (.ptr 2 0 [])), (9, (.int .i64 p2.From)), (10, (.int .i64 x1)), (24, (.bool (((p1 x1.toNat) != 0) && (decide ((p0 x1.toNat) < p2.Round)))))], [(0, some (.var (e_a8_u32 p0))), (1, some (.var (e_a8_u32 p1))), (2, some (.var (e_api_Place p2)))], 3⟩) ⟨rfl, rfl, rfl, rfl, rfl, rfl, trivial⟩ ⟨rfl, rfl, rfl, trivial⟩ (Nat.le_refl _)) ?_
      refine aw_cond rfl (fun hc => ?_) (fun hc => ?_)
      · replace H := ite_t hc H
        refine aw_region (es := [_]) ⟨Step.plain rfl (does_assign (.const (.bool false)) (.bool false) (fun _ => rfl)), ⟨trivial, trivial, rfl⟩, rfl, rfl⟩ ?_
        refine aw_cov (cov_prune (s1 := ⟨[(6, (.bool false))], [], 3⟩) ⟨rfl, trivial⟩ trivial (Nat.le_refl _)) ?_
        refine aw_ret ?_
        replace H := rt_of H hsn2 Hrn2
        refine rt_blk ?_
        refine rt_then ?_
        refine rt_then ?_
        refine rt_blk ?_
        refine rt_then ?_
        refine rt_then ?_
        exact fun a w hr => ⟨_, [(.bool false)], hr, ⟨⟨_, rfl, .data _ trivial⟩, trivial⟩, by decide, by cases H; rfl⟩
      · replace H := ite_f hc H
        refine aw_skip ?_
        refine nx_blk ?_
        refine nx_seq ?_
        refine aw_region1 (es := [_, _]) ⟨Step.plain rfl (does_bin .add 3 3 (.tmp 10) (.const (.int .i64 1)) .i64 x1 1 (.int .i64 (IntKind.i64.wrap (x1 + 1))) trivial (fun _ => rfl) (bin_add _ _ _ _)), ⟨⟨rfl, trivial⟩, trivial, rfl⟩, rfl,
          Step.plain rfl (does_move (.tmp 25) (.int .i64 (IntKind.i64.wrap (x1 + 1))) trivial), ⟨⟨rfl, trivial⟩, trivial, rfl⟩, rfl, rfl⟩ ?_
        exact nx_loop ((IntKind.i64.wrap (x1 + 1))) H (cov_prune ⟨rfl, rfl, rfl, rfl, rfl, trivial⟩ ⟨rfl, rfl, rfl, trivial⟩ (Nat.le_of_ble_eq_true rfl))
    · replace H := ite_f hc H
      refine aw_exit ?_
      refine ex_then ?_
      refine ex_then ?_
      refine ex_here ?_
      exact nx_ljoin () H hsn2 (cov_prune trivial trivial (Nat.le_of_ble_eq_true rfl))

theorem round_Service_spec (p0 : (Nat → Int)) (p1 : (Nat → Int)) (p2 : api_Place) (p3 : Int) (r : Bool) (H : round_Service p0 p1 p2 p3 = some r) : FSpec Try.prog 8 [(e_a8_u32 p0), (e_a8_u32 p1), (e_api_Place p2), (.int .i64 p3)] (.bool r) := by
  refine spec_of (fn := Try.f8) (args := [(e_a8_u32 p0), (e_a8_u32 p1), (e_api_Place p2), (.int .i64 p3)]) Try.func8 rfl (Nat.le_of_ble_eq_true rfl) ?_
  rintro ⟨G, w0, W, S, Sp⟩ hG
  cases hG
  unfold round_Service at H
  refine aw_region (es := [_, _, _, _]) ⟨Step.plain rfl (does_box 24 (.tmp 0) 0 (e_a8_u32 p0) trivial rfl), ⟨⟨rfl, trivial⟩, trivial, rfl⟩, rfl,
    Step.plain rfl (does_box 25 (.tmp 1) 1 (e_a8_u32 p1) trivial rfl), ⟨⟨rfl, trivial⟩, trivial, rfl⟩, rfl,
    Step.plain rfl (does_box 27 (.tmp 2) 2 (e_api_Place p2) trivial rfl), ⟨⟨rfl, trivial⟩, trivial, rfl⟩, rfl,
    Step.plain rfl (does_assign (.const (.bool false)) (.bool false) (fun _ => rfl)), ⟨trivial, trivial, rfl⟩, rfl, rfl⟩ ?_
  refine aw_cov (cov_prune (s1 := ⟨[(3, (.int .i64 p3)), (4, (.ptr 0 0 [])), (5, (.ptr 1 0 [])), (6, (.ptr 2 0 []))], [(0, some (.var (e_a8_u32 p0))), (1, some (.var (e_a8_u32 p1))), (2, some (.var (e_api_Place p2)))], 3⟩) ⟨rfl, rfl, rfl, rfl, trivial⟩ ⟨rfl, rfl, rfl, trivial⟩ (Nat.le_refl _)) ?_
  refine aw_seq ?_
  obtain ⟨v1, h2, H⟩ := bnd H
  obtain ⟨h3, H⟩ := ibg_of H
  refine aw_draw (es := [_, _, _, _, _, _, _, _, _, _, _, _, _, _, _, _, _, _, _]) (mixed) ⟨Step.plain rfl (does_load 25 5 1 0 [] (.var (e_a8_u32 p1)) (e_a8_u32 p1) trivial rfl rfl ty25), ⟨⟨rfl, trivial⟩, ⟨rfl, trivial⟩, rfl⟩, rfl,
    Step.plain rfl (does_fieldAddr 27 1 1 6 2 0 [] (.var (e_api_Place p2)) fl27_1), ⟨⟨rfl, trivial⟩, ⟨rfl, trivial⟩, rfl⟩, rfl,
    Step.plain rfl (does_load 3 12 2 (0 + 1) [1] (.var (e_api_Place p2)) (.int .i64 p2.From) ⟨rfl, Nat.le_of_ble_eq_true rfl, trivial⟩ rfl rfl ty3), ⟨⟨rfl, trivial⟩, ⟨rfl, trivial⟩, rfl⟩, rfl,
    Step.plain rfl (does_call 19 0 (fun _ => .any) (.func 19) [(.tmp 11), (.tmp 13)] [(e_a8_u32 p1), (.int .i64 p2.From)] [] true [(e_a8_u32 p1), (.int .i64 p2.From)] (.bool v1) _ _ rfl fo19 rfl ⟨trivial, trivial, trivial⟩ ⟨.data _ (d_a8_u32 p1), .data _ trivial, trivial⟩ (round_member_spec p1 p2.From _ h2) trivial), ⟨⟨rfl, rfl, trivial⟩, trivial, rfl⟩, rfl,
    Step.plain rfl (does_not 4 (.tmp 14) v1 trivial), ⟨⟨rfl, trivial⟩, trivial, rfl⟩, rfl,
    Step.plain rfl (does_move (.tmp 15) (.bool (!v1)) trivial), ⟨⟨rfl, trivial⟩, trivial, rfl⟩, rfl,
    Step.guarded rfl rfl rfl rfl (fun hc => does_fieldAddr 27 0 0 6 2 0 [] (.var (e_api_Place p2)) fl27_0), ⟨⟨rfl, rfl, trivial⟩, ⟨rfl, trivial⟩, rfl⟩, rfl,
    Step.guarded rfl rfl rfl rfl (fun hc => Does.strip (n' := [(17, (.opt (!(!v1)) (.ptr 2 (0 + 0) [0])))]) (n := [(17, (.ptr 2 (0 + 0) [0]))]) ⟨(.opt _ _ hc), trivial⟩ (does_load 22 17 2 (0 + 0) [0] (.var (e_api_Place p2)) (.int .u32 p2.Round) ⟨rfl, Nat.le_of_ble_eq_true rfl, trivial⟩ rfl rfl ty22)), ⟨⟨rfl, rfl, trivial⟩, ⟨rfl, trivial⟩, rfl⟩, rfl,
    Step.guarded rfl rfl rfl rfl (fun hc => Does.strip (n' := [(18, (.opt (!(!v1)) (.int .u32 p2.Round)))]) (n := [(18, (.int .u32 p2.Round))]) ⟨(.opt _ _ hc), trivial⟩ (does_bin .eql 22 22 (.tmp 18) (.const (.int .u32 0)) .u32 p2.Round 0 (.bool (p2.Round == 0)) trivial (fun _ => rfl) (bin_eql _ _ _ _))), ⟨⟨rfl, rfl, trivial⟩, trivial, rfl⟩, rfl,
    Step.plain rfl (does_or 16 19 (!v1) (p2.Round == 0)), ⟨⟨rfl, rfl, trivial⟩, trivial, rfl⟩, rfl,
    Step.plain rfl (does_move (.tmp 20) (.bool ((!v1) || (p2.Round == 0))) trivial), ⟨⟨rfl, trivial⟩, trivial, rfl⟩, rfl,
    Step.guarded rfl rfl rfl rfl (fun hc => does_fieldAddr 27 0 0 6 2 0 [] (.var (e_api_Place p2)) fl27_0), ⟨⟨rfl, rfl, trivial⟩, ⟨rfl, trivial⟩, rfl⟩, rfl,
    Step.guarded rfl rfl rfl rfl (fun hc => Does.strip (n' := [(22, (.opt (!((!v1) || (p2.Round == 0))) (.ptr 2 (0 + 0) [0])))]) (n := [(22, (.ptr 2 (0 + 0) [0]))]) ⟨(.opt _ _ hc), trivial⟩ (does_load 22 22 2 (0 + 0) [0] (.var (e_api_Place p2)) (.int .u32 p2.Round) ⟨rfl, Nat.le_of_ble_eq_true rfl, trivial⟩ rfl rfl ty22)), ⟨⟨rfl, rfl, trivial⟩, ⟨rfl, trivial⟩, rfl⟩, rfl,
    Step.guarded rfl rfl rfl rfl (fun hc => does_fieldAddr 27 1 1 6 2 0 [] (.var (e_api_Place p2)) fl27_1), ⟨⟨rfl, rfl, trivial⟩, ⟨rfl, trivial⟩, rfl⟩, rfl,
    Step.guarded rfl rfl rfl rfl (fun hc => Does.strip (n' := [(24, (.opt (!((!v1) || (p2.Round == 0))) (.ptr 2 (0 + 1) [1])))]) (n := [(24, (.ptr 2 (0 + 1) [1]))]) ⟨(.opt _ _ hc), trivial⟩ (does_load 3 24 2 (0 + 1) [1] (.var (e_api_Place p2)) (.int .i64 p2.From) ⟨rfl, Nat.le_of_ble_eq_true rfl, trivial⟩ rfl rfl ty3)), ⟨⟨rfl, rfl, trivial⟩, ⟨rfl, trivial⟩, rfl⟩, rfl,
    Step.guarded rfl rfl rfl rfl (fun hc => Does.strip (n' := [(4, (.ptr 0 0 [])), (25, (.opt (!((!v1) || (p2.Round == 0))) (.int .i64 p2.From)))]) (n := [(4, (.ptr 0 0 [])), (25, (.int .i64 p2.From))]) ⟨(.same _), (.opt _ _ hc), trivial⟩ (does_indexAddr 24 8 1 4 0 0 [] (.var (e_a8_u32 p0)) (.tmp 25) .i64 p2.From el24 trivial (h3 hc).1 (h3 hc).2)), ⟨⟨rfl, rfl, rfl, trivial⟩, ⟨rfl, trivial⟩, rfl⟩, rfl,
    Step.guarded rfl rfl rfl rfl (fun hc => Does.strip (n' := [(26, (.opt (!((!v1) || (p2.Round == 0))) (.ptr 0 (0 + p2.From.toNat * 1) [p2.From.toNat])))]) (n := [(26, (.ptr 0 (0 + p2.From.toNat * 1) [p2.From.toNat]))]) ⟨(.opt _ _ hc), trivial⟩ (does_load 22 26 0 (0 + p2.From.toNat * 1) [p2.From.toNat] (.var (e_a8_u32 p0)) (.int .u32 (p0 p2.From.toNat)) ⟨rfl, (ixl (h3 hc)), trivial⟩ rfl rfl ty22)), ⟨⟨rfl, rfl, trivial⟩, ⟨rfl, trivial⟩, rfl⟩, rfl,
    Step.guarded rfl rfl rfl rfl (fun hc => Does.strip (n' := [(23, (.opt (!((!v1) || (p2.Round == 0))) (.int .u32 p2.Round))), (27, (.opt (!((!v1) || (p2.Round == 0))) (.int .u32 (p0 p2.From.toNat))))]) (n := [(23, (.int .u32 p2.Round)), (27, (.int .u32 (p0 p2.From.toNat)))]) ⟨(.opt _ _ hc), (.opt _ _ hc), trivial⟩ (does_bin .gtr 22 22 (.tmp 23) (.tmp 27) .u32 p2.Round (p0 p2.From.toNat) (.bool (decide (p2.Round > (p0 p2.From.toNat)))) trivial trivial (bin_gtr _ _ _ _))), ⟨⟨rfl, rfl, rfl, trivial⟩, trivial, rfl⟩, rfl,
    Step.plain rfl (does_or 21 28 ((!v1) || (p2.Round == 0)) (decide (p2.Round > (p0 p2.From.toNat)))), ⟨⟨rfl, rfl, trivial⟩, trivial, rfl⟩, rfl, rfl⟩ rfl ?_
  obtain ⟨v4, hv4, H⟩ := lt_of H
  refine aw_cov (cov_prune (s1 := ⟨[(3, (.int .i64 p3)), (4, (.ptr 0 0 [])), (5, (.ptr 1 0 [])), (6, (.ptr 2 0 [])), (29, (.bool v4))], [(0, some (.var (e_a8_u32 p0))), (1, some (.var (e_a8_u32 p1))), (2, some (.var (e_api_Place p2)))], 3⟩) ⟨rfl, rfl, rfl, rfl, (by subst hv4; rfl), trivial⟩ ⟨rfl, rfl, rfl, trivial⟩ (Nat.le_refl _)) ?_
  refine aw_cond rfl (fun hc => ?_) (fun hc => ?_)
  · replace H := ite_t hc H
    refine aw_region (es := [_]) ⟨Step.plain rfl (does_assign (.const (.bool false)) (.bool false) (fun _ => rfl)), ⟨trivial, trivial, rfl⟩, rfl, rfl⟩ ?_
    refine aw_cov (cov_prune (s1 := ⟨[(8, (.bool false))], [], 3⟩) ⟨rfl, trivial⟩ trivial (Nat.le_refl _)) ?_
    refine aw_ret ?_
    refine rt_then ?_
    exact fun a w hr => ⟨_, [(.bool false)], hr, ⟨⟨_, rfl, .data _ trivial⟩, trivial⟩, by decide, by cases H; rfl⟩
  · replace H := ite_f hc H
    refine aw_skip ?_
    refine nx_seq ?_
    obtain ⟨v5, h6, H⟩ := bnd H
    refine aw_region (es := [_, _, _, _, _, _, _, _]) ⟨Step.plain rfl (does_load 24 4 0 0 [] (.var (e_a8_u32 p0)) (e_a8_u32 p0) trivial rfl rfl ty24), ⟨⟨rfl, trivial⟩, ⟨rfl, trivial⟩, rfl⟩, rfl,
      Step.plain rfl (does_load 25 5 1 0 [] (.var (e_a8_u32 p1)) (e_a8_u32 p1) trivial rfl rfl ty25), ⟨⟨rfl, trivial⟩, ⟨rfl, trivial⟩, rfl⟩, rfl,
      Step.plain rfl (does_call 11 0 (fun _ => .any) (.func 11) [(.tmp 31), (.tmp 32)] [(e_a8_u32 p0), (e_a8_u32 p1)] [] true [(e_a8_u32 p0), (e_a8_u32 p1)] (resV [(.int .u32 v5.1), (.bool v5.2)]) _ _ rfl fo11 rfl ⟨trivial, trivial, trivial⟩ ⟨.data _ (d_a8_u32 p0), .data _ (d_a8_u32 p1), trivial⟩ (round_Least_spec p0 p1 _ h6) (res_flat2 trivial trivial)), ⟨⟨rfl, rfl, trivial⟩, trivial, rfl⟩, rfl,
      Step.plain rfl (does_move (.tmp 33) (resV [(.int .u32 v5.1), (.bool v5.2)]) trivial), ⟨⟨rfl, trivial⟩, trivial, rfl⟩, rfl,
      Step.plain rfl (does_extract 30 0 2 (fun j => [(.int .u32 v5.1), (.bool v5.2)].getD j (.bool false)) (Nat.le_of_ble_eq_true rfl)), ⟨⟨rfl, trivial⟩, trivial, rfl⟩, rfl,
      Step.plain rfl (does_extract 30 1 2 (fun j => [(.int .u32 v5.1), (.bool v5.2)].getD j (.bool false)) (Nat.le_of_ble_eq_true rfl)), ⟨⟨rfl, trivial⟩, trivial, rfl⟩, rfl,
      Step.plain rfl (does_assign (.tmp 34) (.int .u32 v5.1) trivial), ⟨⟨rfl, trivial⟩, trivial, rfl⟩, rfl,
      Step.plain rfl (does_assign (.tmp 35) (.bool v5.2) trivial), ⟨⟨rfl, trivial⟩, trivial, rfl⟩, rfl, rfl⟩ ?_
    refine aw_cov (cov_prune (s1 := ⟨[(3, (.int .i64 p3)), (4, (.ptr 0 0 [])), (5, (.ptr 1 0 [])), (6, (.ptr 2 0 [])), (9, (.int .u32 v5.1))], [(0, some (.var (e_a8_u32 p0))), (1, some (.var (e_a8_u32 p1))), (2, some (.var (e_api_Place p2)))], 3⟩) ⟨rfl, rfl, rfl, rfl, rfl, trivial⟩ ⟨rfl, rfl, rfl, trivial⟩ (Nat.le_refl _)) ?_
    refine aw_seq ?_
    refine aw_region (es := [_]) ⟨Step.plain rfl (does_move (.tmp 3) (.int .i64 p3) trivial), ⟨⟨rfl, trivial⟩, trivial, rfl⟩, rfl, rfl⟩ ?_
    refine aw_cov (cov_prune (s1 := ⟨[(4, (.ptr 0 0 [])), (5, (.ptr 1 0 [])), (6, (.ptr 2 0 [])), (9, (.int .u32 v5.1)), (36, (.int .i64 p3))], [(0, some (.var (e_a8_u32 p0))), (1, some (.var (e_a8_u32 p1))), (2, some (.var (e_api_Place p2)))], 3⟩) ⟨rfl, rfl, rfl, rfl, rfl, trivial⟩ ⟨rfl, rfl, rfl, trivial⟩ (Nat.le_refl _)) ?_
    refine aw_block ?_
    refine aw_region (es := [_, _]) ⟨Step.plain rfl (does_bin .eql 3 3 (.tmp 36) (.const (.int .i64 0)) .i64 p3 0 (.bool (p3 == 0)) trivial (fun _ => rfl) (bin_eql _ _ _ _)), ⟨⟨rfl, trivial⟩, trivial, rfl⟩, rfl,
      Step.plain rfl (does_assign (.tmp 38) (.bool (p3 == 0)) trivial), ⟨⟨rfl, trivial⟩, trivial, rfl⟩, rfl, rfl⟩ ?_
    refine aw_cov (cov_prune (s1 := ⟨[(4, (.ptr 0 0 [])), (5, (.ptr 1 0 [])), (6, (.ptr 2 0 [])), (9, (.int .u32 v5.1)), (36, (.int .i64 p3)), (37, (.bool (p3 == 0)))], [(0, some (.var (e_a8_u32 p0))), (1, some (.var (e_a8_u32 p1))), (2, some (.var (e_api_Place p2)))], 3⟩) ⟨rfl, rfl, rfl, rfl, rfl, rfl, trivial⟩ ⟨rfl, rfl, rfl, trivial⟩ (Nat.le_refl _)) ?_
    refine aw_cond rfl (fun hc => ?_) (fun hc => ?_)
    · replace H := ite_t hc H
      refine aw_region (es := [_]) ⟨Step.plain rfl (does_assign (.const (.bool true)) (.bool true) (fun _ => rfl)), ⟨trivial, trivial, rfl⟩, rfl, rfl⟩ ?_
      refine aw_cov (cov_prune (s1 := ⟨[(8, (.bool true))], [], 3⟩) ⟨rfl, trivial⟩ trivial (Nat.le_refl _)) ?_
      refine aw_ret ?_
      refine rt_blk ?_
      refine rt_then ?_
      exact fun a w hr => ⟨_, [(.bool true)], hr, ⟨⟨_, rfl, .data _ trivial⟩, trivial⟩, by decide, by cases H; rfl⟩
    · replace H := ite_f hc H
      refine aw_region (es := [_, _]) ⟨Step.plain rfl (does_bin .eql 3 3 (.tmp 36) (.const (.int .i64 1)) .i64 p3 1 (.bool (p3 == 1)) trivial (fun _ => rfl) (bin_eql _ _ _ _)), ⟨⟨rfl, trivial⟩, trivial, rfl⟩, rfl,
        Step.plain rfl (does_assign (.tmp 40) (.bool (p3 == 1)) trivial), ⟨⟨rfl, trivial⟩, trivial, rfl⟩, rfl, rfl⟩ ?_
      refine aw_cov (cov_prune (s1 := ⟨[(4, (.ptr 0 0 [])), (5, (.ptr 1 0 [])), (6, (.ptr 2 0 [])), (9, (.int .u32 v5.1)), (36, (.int .i64 p3)), (39, (.bool (p3 == 1)))], [(0, some (.var (e_a8_u32 p0))), (1, some (.var (e_a8_u32 p1))), (2, some (.var (e_api_Place p2)))], 3⟩) ⟨rfl, rfl, rfl, rfl, rfl, rfl, trivial⟩ ⟨rfl, rfl, rfl, trivial⟩ (Nat.le_refl _)) ?_
      refine aw_cond rfl (fun hc => ?_) (fun hc => ?_)
      · replace H := ite_t hc H
        refine aw_region (es := [_, _, _, _, _, _]) ⟨Step.plain rfl (does_move (.tmp 9) (.int .u32 v5.1) trivial), ⟨⟨rfl, trivial⟩, trivial, rfl⟩, rfl,
          Step.plain rfl (does_fieldAddr 27 0 0 6 2 0 [] (.var (e_api_Place p2)) fl27_0), ⟨⟨rfl, trivial⟩, ⟨rfl, trivial⟩, rfl⟩, rfl,
          Step.plain rfl (does_load 22 42 2 (0 + 0) [0] (.var (e_api_Place p2)) (.int .u32 p2.Round) ⟨rfl, Nat.le_of_ble_eq_true rfl, trivial⟩ rfl rfl ty22), ⟨⟨rfl, trivial⟩, ⟨rfl, trivial⟩, rfl⟩, rfl,
          Step.plain rfl (does_bin .sub 22 22 (.tmp 43) (.const (.int .u32 1)) .u32 p2.Round 1 (.int .u32 (IntKind.u32.wrap (p2.Round - 1))) trivial (fun _ => rfl) (bin_sub _ _ _ _)), ⟨⟨rfl, trivial⟩, trivial, rfl⟩, rfl,
          Step.plain rfl (does_bin .geq 22 22 (.tmp 41) (.tmp 44) .u32 v5.1 (IntKind.u32.wrap (p2.Round - 1)) (.bool (decide (v5.1 ≥ (IntKind.u32.wrap (p2.Round - 1))))) trivial trivial (bin_geq _ _ _ _)), ⟨⟨rfl, rfl, trivial⟩, trivial, rfl⟩, rfl,
          Step.plain rfl (does_assign (.tmp 45) (.bool (decide (v5.1 ≥ (IntKind.u32.wrap (p2.Round - 1))))) trivial), ⟨⟨rfl, trivial⟩, trivial, rfl⟩, rfl, rfl⟩ ?_
        refine aw_cov (cov_prune (s1 := ⟨[(8, (.bool (decide (v5.1 ≥ (IntKind.u32.wrap (p2.Round - 1))))))], [], 3⟩) ⟨rfl, trivial⟩ trivial (Nat.le_refl _)) ?_
        refine aw_ret ?_
        refine rt_blk ?_
        refine rt_then ?_
        exact fun a w hr => ⟨_, [(.bool (decide (v5.1 ≥ (IntKind.u32.wrap (p2.Round - 1)))))], hr, ⟨⟨_, rfl, .data _ trivial⟩, trivial⟩, by decide, by cases H; rfl⟩
      · replace H := ite_f hc H
        refine aw_region (es := [_, _]) ⟨Step.plain rfl (does_bin .eql 3 3 (.tmp 36) (.const (.int .i64 2)) .i64 p3 2 (.bool (p3 == 2)) trivial (fun _ => rfl) (bin_eql _ _ _ _)), ⟨⟨rfl, trivial⟩, trivial, rfl⟩, rfl,
          Step.plain rfl (does_assign (.tmp 47) (.bool (p3 == 2)) trivial), ⟨⟨rfl, trivial⟩, trivial, rfl⟩, rfl, rfl⟩ ?_
        refine aw_cov (cov_prune (s1 := ⟨[(4, (.ptr 0 0 [])), (5, (.ptr 1 0 [])), (6, (.ptr 2 0 [])), (9, (.int .u32 v5.1)), (36, (.int .i64 p3)), (46, (.bool (p3 == 2)))], [(0, some (.var (e_a8_u32 p0))), (1, some (.var (e_a8_u32 p1))), (2, some (.var (e_api_Place p2)))], 3⟩) ⟨rfl, rfl, rfl, rfl, rfl, rfl, trivial⟩ ⟨rfl, rfl, rfl, trivial⟩ (Nat.le_refl _)) ?_
        refine aw_cond rfl (fun hc => ?_) (fun hc => ?_)
        · replace H := ite_t hc H
          obtain ⟨v7, h8, H⟩ := whn_of H
          refine aw_region (es := [_, _, _, _, _, _, _, _, _, _, _, _]) ⟨Step.plain rfl (does_move (.tmp 9) (.int .u32 v5.1) trivial), ⟨⟨rfl, trivial⟩, trivial, rfl⟩, rfl,
            Step.plain rfl (does_fieldAddr 27 0 0 6 2 0 [] (.var (e_api_Place p2)) fl27_0), ⟨⟨rfl, trivial⟩, ⟨rfl, trivial⟩, rfl⟩, rfl,
            Step.plain rfl (does_load 22 49 2 (0 + 0) [0] (.var (e_api_Place p2)) (.int .u32 p2.Round) ⟨rfl, Nat.le_of_ble_eq_true rfl, trivial⟩ rfl rfl ty22), ⟨⟨rfl, trivial⟩, ⟨rfl, trivial⟩, rfl⟩, rfl,
            Step.plain rfl (does_bin .sub 22 22 (.tmp 50) (.const (.int .u32 1)) .u32 p2.Round 1 (.int .u32 (IntKind.u32.wrap (p2.Round - 1))) trivial (fun _ => rfl) (bin_sub _ _ _ _)), ⟨⟨rfl, trivial⟩, trivial, rfl⟩, rfl,
            Step.plain rfl (does_bin .geq 22 22 (.tmp 48) (.tmp 51) .u32 v5.1 (IntKind.u32.wrap (p2.Round - 1)) (.bool (decide (v5.1 ≥ (IntKind.u32.wrap (p2.Round - 1))))) trivial trivial (bin_geq _ _ _ _)), ⟨⟨rfl, rfl, trivial⟩, trivial, rfl⟩, rfl,
            Step.plain rfl (does_move (.tmp 52) (.bool (decide (v5.1 ≥ (IntKind.u32.wrap (p2.Round - 1))))) trivial), ⟨⟨rfl, trivial⟩, trivial, rfl⟩, rfl,
            Step.guarded rfl rfl rfl rfl (fun hc => does_load 24 4 0 0 [] (.var (e_a8_u32 p0)) (e_a8_u32 p0) trivial rfl rfl ty24), ⟨⟨rfl, rfl, trivial⟩, ⟨rfl, trivial⟩, rfl⟩, rfl,
            Step.guarded rfl rfl rfl rfl (fun hc => does_load 25 5 1 0 [] (.var (e_a8_u32 p1)) (e_a8_u32 p1) trivial rfl rfl ty25), ⟨⟨rfl, rfl, trivial⟩, ⟨rfl, trivial⟩, rfl⟩, rfl,
            Step.guarded rfl rfl rfl rfl (fun hc => does_load 27 6 2 0 [] (.var (e_api_Place p2)) (e_api_Place p2) trivial rfl rfl ty27), ⟨⟨rfl, rfl, trivial⟩, ⟨rfl, trivial⟩, rfl⟩, rfl,
            Step.guarded rfl rfl rfl rfl (fun hc => Does.strip (n' := [(54, (.opt (decide (v5.1 ≥ (IntKind.u32.wrap (p2.Round - 1)))) (e_a8_u32 p0))), (55, (.opt (decide (v5.1 ≥ (IntKind.u32.wrap (p2.Round - 1)))) (e_a8_u32 p1))), (56, (.opt (decide (v5.1 ≥ (IntKind.u32.wrap (p2.Round - 1)))) (e_api_Place p2)))]) (n := [(54, (e_a8_u32 p0)), (55, (e_a8_u32 p1)), (56, (e_api_Place p2))]) ⟨(.opt _ _ hc), (.opt _ _ hc), (.opt _ _ hc), trivial⟩ (does_call 20 0 (fun _ => .any) (.func 20) [(.tmp 54), (.tmp 55), (.tmp 56)] [(e_a8_u32 p0), (e_a8_u32 p1), (e_api_Place p2)] [] true [(e_a8_u32 p0), (e_a8_u32 p1), (e_api_Place p2)] (.bool v7) _ _ rfl fo20 rfl ⟨trivial, trivial, trivial, trivial⟩ ⟨.data _ (d_a8_u32 p0), .data _ (d_a8_u32 p1), .data _ (d_api_Place p2), trivial⟩ (round_ahead_spec p0 p1 p2 _ (h8 hc)) trivial)), ⟨⟨rfl, rfl, rfl, rfl, trivial⟩, trivial, rfl⟩, rfl,
            Step.plain rfl (does_and 53 57 (decide (v5.1 ≥ (IntKind.u32.wrap (p2.Round - 1)))) v7), ⟨⟨rfl, rfl, trivial⟩, trivial, rfl⟩, rfl,
            Step.plain rfl (does_assign (.tmp 58) (.bool ((decide (v5.1 ≥ (IntKind.u32.wrap (p2.Round - 1)))) && v7)) trivial), ⟨⟨rfl, trivial⟩, trivial, rfl⟩, rfl, rfl⟩ ?_
          refine aw_cov (cov_prune (s1 := ⟨[(8, (.bool ((decide (v5.1 ≥ (IntKind.u32.wrap (p2.Round - 1)))) && v7)))], [], 3⟩) ⟨rfl, trivial⟩ trivial (Nat.le_refl _)) ?_
          refine aw_ret ?_
          refine rt_blk ?_
          refine rt_then ?_
          exact fun a w hr => ⟨_, [(.bool ((decide (v5.1 ≥ (IntKind.u32.wrap (p2.Round - 1)))) && v7))], hr, ⟨⟨_, rfl, .data _ trivial⟩, trivial⟩, by decide, by cases H; rfl⟩
        · replace H := ite_f hc H
          refine aw_region (es := [_, _]) ⟨Step.plain rfl (does_bin .eql 3 3 (.tmp 36) (.const (.int .i64 3)) .i64 p3 3 (.bool (p3 == 3)) trivial (fun _ => rfl) (bin_eql _ _ _ _)), ⟨⟨rfl, trivial⟩, trivial, rfl⟩, rfl,
            Step.plain rfl (does_assign (.tmp 60) (.bool (p3 == 3)) trivial), ⟨⟨rfl, trivial⟩, trivial, rfl⟩, rfl, rfl⟩ ?_
          refine aw_cov (cov_prune (s1 := ⟨[(6, (.ptr 2 0 [])), (9, (.int .u32 v5.1)), (59, (.bool (p3 == 3)))], [(2, some (.var (e_api_Place p2)))], 3⟩) ⟨rfl, rfl, rfl, trivial⟩ ⟨rfl, trivial⟩ (Nat.le_refl _)) ?_
          refine aw_cond rfl (fun hc => ?_) (fun hc => ?_)
          · replace H := ite_t hc H
            refine aw_region (es := [_, _, _, _, _]) ⟨Step.plain rfl (does_move (.tmp 9) (.int .u32 v5.1) trivial), ⟨⟨rfl, trivial⟩, trivial, rfl⟩, rfl,
              Step.plain rfl (does_fieldAddr 27 0 0 6 2 0 [] (.var (e_api_Place p2)) fl27_0), ⟨⟨rfl, trivial⟩, ⟨rfl, trivial⟩, rfl⟩, rfl,
              Step.plain rfl (does_load 22 62 2 (0 + 0) [0] (.var (e_api_Place p2)) (.int .u32 p2.Round) ⟨rfl, Nat.le_of_ble_eq_true rfl, trivial⟩ rfl rfl ty22), ⟨⟨rfl, trivial⟩, ⟨rfl, trivial⟩, rfl⟩, rfl,
              Step.plain rfl (does_bin .gtr 22 22 (.tmp 61) (.tmp 63) .u32 v5.1 p2.Round (.bool (decide (v5.1 > p2.Round))) trivial trivial (bin_gtr _ _ _ _)), ⟨⟨rfl, rfl, trivial⟩, trivial, rfl⟩, rfl,
              Step.plain rfl (does_assign (.tmp 64) (.bool (decide (v5.1 > p2.Round))) trivial), ⟨⟨rfl, trivial⟩, trivial, rfl⟩, rfl, rfl⟩ ?_
            refine aw_cov (cov_prune (s1 := ⟨[(8, (.bool (decide (v5.1 > p2.Round))))], [], 3⟩) ⟨rfl, trivial⟩ trivial (Nat.le_refl _)) ?_
            refine aw_ret ?_
            refine rt_blk ?_
            refine rt_then ?_
            exact fun a w hr => ⟨_, [(.bool (decide (v5.1 > p2.Round)))], hr, ⟨⟨_, rfl, .data _ trivial⟩, trivial⟩, by decide, by cases H; rfl⟩
          · replace H := ite_f hc H
            refine aw_skip ?_
            refine nx_blk ?_
            refine nx_seq ?_
            refine aw_region (es := [_]) ⟨Step.plain rfl (does_assign (.const (.bool false)) (.bool false) (fun _ => rfl)), ⟨trivial, trivial, rfl⟩, rfl, rfl⟩ ?_
            refine aw_cov (cov_prune (s1 := ⟨[(8, (.bool false))], [], 3⟩) ⟨rfl, trivial⟩ trivial (Nat.le_refl _)) ?_
            refine aw_ret ?_
            exact fun a w hr => ⟨_, [(.bool false)], hr, ⟨⟨_, rfl, .data _ trivial⟩, trivial⟩, by decide, by cases H; rfl⟩

theorem congressref07_List_spec (p0 : (Nat → Int)) (r : (_root_.List Int)) (H : congressref07_List p0 = some r) : FSpec Try.prog 23 [(e_a8_u32 p0)] (e_s_i64 r) := by
  refine spec_of (fn := Try.f23) (args := [(e_a8_u32 p0)]) Try.func23 rfl (Nat.le_of_ble_eq_true rfl) ?_
  rintro ⟨G, w0, W, S, Sp⟩ hG
  cases hG
  unfold congressref07_List at H
  refine aw_region (es := [_, _]) ⟨Step.plain rfl (does_box 25 (.tmp 0) 0 (e_a8_u32 p0) trivial rfl), ⟨⟨rfl, trivial⟩, trivial, rfl⟩, rfl,
    Step.plain rfl (does_nil false 1 1 (fun j => (.int .i64 (([] : _root_.List Int).getD j 0)))), ⟨trivial, trivial, rfl⟩, rfl, rfl⟩ ?_
  refine aw_cov (cov_prune (s1 := ⟨[(1, (.ptr 0 0 []))], [(0, some (.var (e_a8_u32 p0)))], 2⟩) ⟨rfl, trivial⟩ ⟨rfl, trivial⟩ (Nat.le_refl _)) ?_
  refine aw_region (es := [_, _]) ⟨Step.plain rfl (does_buildOwn 50 0 1 2 (.int .i64 0) (fun j => (.int .i64 (([] : _root_.List Int).getD j 0))) #[] [] [] rfl so50 (by decide) trivial trivial (fun j h => match j, h with  | k + 0, h => absurd h (by omega))), ⟨trivial, trivial, rfl⟩, rfl,
    Step.plain rfl (does_assign (.tmp 5) (.own 2) trivial), ⟨⟨rfl, trivial⟩, trivial, rfl⟩, rfl, rfl⟩ ?_
  refine aw_cov (cov_prune (s1 := ⟨[(1, (.ptr 0 0 [])), (3, (.own 2))], [(0, some (.var (e_a8_u32 p0))), (2, some (.arr 1 ([] : _root_.List Int).length fun j => (.int .i64 (([] : _root_.List Int).getD j 0))))], 3⟩) ⟨rfl, rfl, trivial⟩ ⟨rfl, rfl, trivial⟩ (Nat.le_refl _)) ?_
  refine aw_seq ?_
  refine aw_region (es := [_]) ⟨Step.plain rfl (does_assign (.const (.int .i64 0)) (.int .i64 0) (fun _ => rfl)), ⟨trivial, trivial, rfl⟩, rfl, rfl⟩ ?_
  refine aw_cov (cov_prune (s1 := ⟨[(1, (.ptr 0 0 [])), (3, (.own 2)), (4, (.int .i64 0))], [(0, some (.var (e_a8_u32 p0))), (2, some (.arr 1 ([] : _root_.List Int).length fun j => (.int .i64 (([] : _root_.List Int).getD j 0))))], 3⟩) ⟨rfl, rfl, rfl, trivial⟩ ⟨rfl, rfl, trivial⟩ (Nat.le_refl _)) ?_
  obtain ⟨wn2, hwn2, Hrn2⟩ := bnd H
  refine aw_meet (fun y7 : _root_.List Int => (⟨[(3, (.own 2))], [(2, some (.arr 1 y7.length fun j => (.int .i64 (y7.getD j 0))))], 3⟩ : St)) (fun y7 => Fl.nx y7 = wn2) (fun y7 hy => ?_) (aw_block (aw_runs (fun x1 : Int × _root_.List Int => (⟨[(1, (.ptr 0 0 [])), (3, (.own 2)), (4, (.int .i64 x1.1))], [(0, some (.var (e_a8_u32 p0))), (2, some (.arr 1 x1.2.length fun j => (.int .i64 (x1.2.getD j 0))))], 3⟩ : St)) hwn2 (cov_prune ⟨rfl, rfl, rfl, trivial⟩ ⟨rfl, rfl, trivial⟩ (Nat.le_of_ble_eq_true rfl)) (fun x1 st H hsn2 => ?_)))
  · have H := nx_of hy Hrn2
    refine nx_seq ?_
    refine aw_region (es := [_, _]) ⟨Step.plain rfl (does_move (.tmp 3) (.own 2) trivial), ⟨⟨rfl, trivial⟩, trivial, rfl⟩, rfl,
      Step.plain rfl (does_assign (.tmp 18) (.own 2) trivial), ⟨⟨rfl, trivial⟩, trivial, rfl⟩, rfl, rfl⟩ ?_
    refine aw_cov (cov_prune (s1 := ⟨[(2, (.own 2))], [(2, some (.arr 1 y7.length fun j => (.int .i64 (y7.getD j 0))))], 3⟩) ⟨rfl, trivial⟩ ⟨rfl, trivial⟩ (Nat.le_refl _)) ?_
    refine aw_ret ?_
    exact fun a w hr => ⟨_, [(e_s_i64 y7)], hr, ⟨⟨_, rfl, .own _ _ _ _ rfl (fun _ => trivial)⟩, trivial⟩, by decide, by cases H; rfl⟩
  · refine aw_seq ?_
    refine aw_region (es := [_, _]) ⟨Step.plain rfl (does_move (.tmp 4) (.int .i64 x1.1) trivial), ⟨⟨rfl, trivial⟩, trivial, rfl⟩, rfl,
      Step.plain rfl (does_bin .lss 3 3 (.tmp 6) (.const (.int .i64 8)) .i64 x1.1 8 (.bool (decide (x1.1 < 8))) trivial (fun _ => rfl) (bin_lss _ _ _ _)), ⟨⟨rfl, trivial⟩, trivial, rfl⟩, rfl, rfl⟩ ?_
    refine aw_cov (cov_prune (s1 := ⟨[(1, (.ptr 0 0 [])), (3, (.own 2)), (4, (.int .i64 x1.1)), (7, (.bool (decide (x1.1 < 8))))], [(0, some (.var (e_a8_u32 p0))), (2, some (.arr 1 x1.2.length fun j => (.int .i64 (x1.2.getD j 0))))], 3⟩) ⟨rfl, rfl, rfl, rfl, trivial⟩ ⟨rfl, rfl, trivial⟩ (Nat.le_refl _)) ?_
    refine aw_cond rfl (fun hc => ?_) (fun hc => ?_)
    · replace H := ite_t hc H
      refine aw_skip ?_
      refine nx_seq ?_
      refine aw_seq ?_
      refine aw_jn (fun x6 : _root_.List Int => (⟨[(1, (.ptr 0 0 [])), (3, (.own 2)), (4, (.int .i64 x1.1))], [(0, some (.var (e_a8_u32 p0))), (2, some (.arr 1 x6.length fun j => (.int .i64 (x6.getD j 0))))], 4⟩ : St)) H (fun x6 H => ?_) (fun j3 H => ?_)
      · refine nx_seq ?_
        refine aw_region1 (es := [_, _, _]) ⟨Step.plain rfl (does_move (.tmp 4) (.int .i64 x1.1) trivial), ⟨⟨rfl, trivial⟩, trivial, rfl⟩, rfl,
          Step.plain rfl (does_bin .add 3 3 (.tmp 8) (.const (.int .i64 1)) .i64 x1.1 1 (.int .i64 (IntKind.i64.wrap (x1.1 + 1))) trivial (fun _ => rfl) (bin_add _ _ _ _)), ⟨⟨rfl, trivial⟩, trivial, rfl⟩, rfl,
          Step.plain rfl (does_assign (.tmp 9) (.int .i64 (IntKind.i64.wrap (x1.1 + 1))) trivial), ⟨⟨rfl, trivial⟩, trivial, rfl⟩, rfl, rfl⟩ ?_
        exact nx_loop ((IntKind.i64.wrap (x1.1 + 1)), x6) H (cov_of (fun i => match i with | 0 => 0 | 2 => 2 | k => k) ⟨⟨_, rfl, ⟨rfl, Nat.le_of_ble_eq_true rfl⟩⟩, ⟨_, rfl, ⟨rfl, Nat.le_of_ble_eq_true rfl⟩⟩, ⟨_, rfl, ⟨rfl, trivial⟩⟩, trivial⟩ ⟨⟨Nat.le_of_ble_eq_true rfl, _, _, rfl, rfl, .inl ⟨rfl, (d_a8_u32 _).plain⟩⟩, ⟨Nat.le_of_ble_eq_true rfl, _, _, rfl, rfl, ⟨rfl, rfl, fun _ => ⟨rfl, trivial⟩⟩⟩, trivial⟩ rfl)
      · refine aw_block ?_
        obtain ⟨h4, H⟩ := ib_of H
        refine aw_region (es := [_, _, _, _]) ⟨Step.plain rfl (does_move (.tmp 4) (.int .i64 x1.1) trivial), ⟨⟨rfl, trivial⟩, trivial, rfl⟩, rfl,
          Step.plain rfl (does_indexAddr 25 8 1 1 0 0 [] (.var (e_a8_u32 p0)) (.tmp 10) .i64 x1.1 el25 trivial h4.1 h4.2), ⟨⟨rfl, rfl, trivial⟩, ⟨rfl, trivial⟩, rfl⟩, rfl,
          Step.plain rfl (does_load 22 11 0 (0 + x1.1.toNat * 1) [x1.1.toNat] (.var (e_a8_u32 p0)) (.int .u32 (p0 x1.1.toNat)) ⟨rfl, (ixl h4), trivial⟩ rfl rfl ty22), ⟨⟨rfl, trivial⟩, ⟨rfl, trivial⟩, rfl⟩, rfl,
          Step.plain rfl (does_bin .gtr 22 22 (.tmp 12) (.const (.int .u32 0)) .u32 (p0 x1.1.toNat) 0 (.bool (decide ((p0 x1.1.toNat) > 0))) trivial (fun _ => rfl) (bin_gtr _ _ _ _)), ⟨⟨rfl, trivial⟩, trivial, rfl⟩, rfl, rfl⟩ ?_
        refine aw_cov (cov_prune (s1 := ⟨[(1, (.ptr 0 0 [])), (3, (.own 2)), (4, (.int .i64 x1.1)), (13, (.bool (decide ((p0 x1.1.toNat) > 0))))], [(0, some (.var (e_a8_u32 p0))), (2, some (.arr 1 x1.2.length fun j => (.int .i64 (x1.2.getD j 0))))], 3⟩) ⟨rfl, rfl, rfl, rfl, trivial⟩ ⟨rfl, rfl, trivial⟩ (Nat.le_refl _)) ?_
        refine aw_cond rfl (fun hc => ?_) (fun hc => ?_)
        · replace H := ite_t hc H
          obtain ⟨h5, H⟩ := fit_of H
          refine aw_region1 (es := [_, _, _, _, _]) ⟨Step.plain rfl (does_move (.tmp 3) (.own 2) trivial), ⟨⟨rfl, trivial⟩, trivial, rfl⟩, rfl,
            Step.plain rfl (does_move (.tmp 4) (.int .i64 x1.1) trivial), ⟨⟨rfl, trivial⟩, trivial, rfl⟩, rfl,
            Step.plain rfl (does_buildSl 50 1 1 (.int .i64 0) (fun j => (.int .i64 (([x1.1] : _root_.List Int).getD j 0))) #[(0, (.tmp 15))] [(0, (.tmp 15))] [(0, (.int .i64 x1.1))] rfl so50 (by decide) ⟨⟨rfl, trivial⟩, trivial⟩ ⟨⟨Nat.le_of_ble_eq_true rfl, rfl, rfl⟩, trivial⟩ (fun j h => match j, h with | 0, _ => rfl | k + 1, h => absurd h (by omega))), ⟨⟨rfl, trivial⟩, trivial, rfl⟩, rfl,
            Step.plain rfl (does_appendL (fun z => V.int .i64 z) 0 x1.2 ([x1.1] : _root_.List Int) 50 1 8 2 3 14 16 ap50 h5), ⟨⟨rfl, rfl, trivial⟩, ⟨rfl, trivial⟩, rfl⟩, rfl,
            Step.plain rfl (does_assign (.tmp 17) (.own 3) trivial), ⟨⟨rfl, trivial⟩, trivial, rfl⟩, rfl, rfl⟩ ?_
          refine nx_blk ?_
          exact nx_join ((x1.2 ++ ([x1.1] : _root_.List Int))) H (cov_of (fun i => match i with | 0 => 0 | 2 => 3 | k => k) ⟨⟨_, rfl, ⟨rfl, Nat.le_of_ble_eq_true rfl⟩⟩, ⟨_, rfl, ⟨rfl, Nat.le_of_ble_eq_true rfl⟩⟩, ⟨_, rfl, ⟨rfl, trivial⟩⟩, trivial⟩ ⟨⟨Nat.le_of_ble_eq_true rfl, _, _, rfl, rfl, .inl ⟨rfl, (d_a8_u32 _).plain⟩⟩, ⟨Nat.le_of_ble_eq_true rfl, _, _, rfl, rfl, ⟨rfl, rfl, fun _ => ⟨rfl, trivial⟩⟩⟩, trivial⟩ rfl)
        · replace H := ite_f hc H
          refine aw_skip ?_
          refine nx_blk ?_
          exact nx_join (x1.2) H (cov_of (fun i => match i with | 0 => 0 | 2 => 2 | k => k) ⟨⟨_, rfl, ⟨rfl, Nat.le_of_ble_eq_true rfl⟩⟩, ⟨_, rfl, ⟨rfl, Nat.le_of_ble_eq_true rfl⟩⟩, ⟨_, rfl, ⟨rfl, trivial⟩⟩, trivial⟩ ⟨⟨Nat.le_of_ble_eq_true rfl, _, _, rfl, rfl, .inl ⟨rfl, (d_a8_u32 _).plain⟩⟩, ⟨Nat.le_of_ble_eq_true rfl, _, _, rfl, rfl, ⟨rfl, rfl, fun _ => ⟨rfl, trivial⟩⟩⟩, trivial⟩ rfl)
    · replace H := ite_f hc H
      refine aw_exit ?_
      refine ex_then ?_
      refine ex_then ?_
      refine ex_here ?_
      exact nx_ljoin (x1.2) H hsn2 (cov_prune ⟨rfl, trivial⟩ ⟨rfl, trivial⟩ (Nat.le_of_ble_eq_true rfl))

theorem congressref09_Full_spec (p0 : (Nat → Int)) (p1 : (Nat → Int)) (p2 : Int) (r : Bool) (H : congressref09_Full p0 p1 p2 = some r) : FSpec Try.prog 21 [(e_a8_u32 p0), (e_a8_u32 p1), (.int .u64 p2)] (.bool r) := by
  refine spec_of (fn := Try.f21) (args := [(e_a8_u32 p0), (e_a8_u32 p1), (.int .u64 p2)]) Try.func21 rfl (Nat.le_of_ble_eq_true rfl) ?_
  rintro ⟨G, w0, W, S, Sp⟩ hG
  cases hG
  unfold congressref09_Full at H
  refine aw_region (es := [_, _, _]) ⟨Step.plain rfl (does_box 24 (.tmp 0) 0 (e_a8_u32 p0) trivial rfl), ⟨⟨rfl, trivial⟩, trivial, rfl⟩, rfl,
    Step.plain rfl (does_box 25 (.tmp 1) 1 (e_a8_u32 p1) trivial rfl), ⟨⟨rfl, trivial⟩, trivial, rfl⟩, rfl,
    Step.plain rfl (does_assign (.const (.bool false)) (.bool false) (fun _ => rfl)), ⟨trivial, trivial, rfl⟩, rfl, rfl⟩ ?_
  refine aw_cov (cov_prune (s1 := ⟨[(2, (.int .u64 p2)), (3, (.ptr 0 0 [])), (4, (.ptr 1 0 []))], [(0, some (.var (e_a8_u32 p0))), (1, some (.var (e_a8_u32 p1)))], 2⟩) ⟨rfl, rfl, rfl, trivial⟩ ⟨rfl, rfl, trivial⟩ (Nat.le_refl _)) ?_
  obtain ⟨v1, h2, H⟩ := bnd H
  refine aw_region (es := [_, _, _]) ⟨Step.plain rfl (does_load 25 4 1 0 [] (.var (e_a8_u32 p1)) (e_a8_u32 p1) trivial rfl rfl ty25), ⟨⟨rfl, trivial⟩, ⟨rfl, trivial⟩, rfl⟩, rfl,
    Step.plain rfl (does_call 23 0 (fun _ => .any) (.func 23) [(.tmp 9)] [(e_a8_u32 p1)] [] false [(e_a8_u32 p1)] (e_s_i64 v1) _ _ rfl fo23 rfl ⟨trivial, trivial⟩ ⟨.data _ (d_a8_u32 p1), trivial⟩ (congressref07_List_spec p1 _ h2) (d_s_i64 v1)), ⟨⟨rfl, trivial⟩, trivial, rfl⟩, rfl,
    Step.plain rfl (does_assign (.tmp 10) (e_s_i64 v1) trivial), ⟨⟨rfl, trivial⟩, trivial, rfl⟩, rfl, rfl⟩ ?_
  refine aw_cov (cov_prune (s1 := ⟨[(2, (.int .u64 p2)), (3, (.ptr 0 0 [])), (7, (e_s_i64 v1))], [(0, some (.var (e_a8_u32 p0)))], 2⟩) ⟨rfl, rfl, rfl, trivial⟩ ⟨rfl, trivial⟩ (Nat.le_refl _)) ?_
  refine aw_seq ?_
  refine aw_region (es := [_]) ⟨Step.plain rfl (does_assign (.const (.int .i64 0)) (.int .i64 0) (fun _ => rfl)), ⟨trivial, trivial, rfl⟩, rfl, rfl⟩ ?_
  refine aw_cov (cov_prune (s1 := ⟨[(2, (.int .u64 p2)), (3, (.ptr 0 0 [])), (7, (e_s_i64 v1)), (8, (.int .i64 0))], [(0, some (.var (e_a8_u32 p0)))], 2⟩) ⟨rfl, rfl, rfl, rfl, trivial⟩ ⟨rfl, trivial⟩ (Nat.le_refl _)) ?_
  obtain ⟨wn4, hwn4, Hrn4⟩ := bnd H
  refine aw_meet (fun y7 : Unit => (⟨[], [], 2⟩ : St)) (fun y7 => Fl.nx y7 = wn4) (fun y7 hy => ?_) (aw_block (aw_runs (fun x3 : Int => (⟨[(2, (.int .u64 p2)), (3, (.ptr 0 0 [])), (7, (e_s_i64 v1)), (8, (.int .i64 x3))], [(0, some (.var (e_a8_u32 p0)))], 2⟩ : St)) hwn4 (cov_prune ⟨rfl, rfl, rfl, rfl, trivial⟩ ⟨rfl, trivial⟩ (Nat.le_of_ble_eq_true rfl)) (fun x3 st H hsn4 => ?_)))
  · have H := nx_of hy Hrn4
    refine nx_seq ?_
    refine aw_region (es := [_]) ⟨Step.plain rfl (does_assign (.const (.bool true)) (.bool true) (fun _ => rfl)), ⟨trivial, trivial, rfl⟩, rfl, rfl⟩ ?_
    refine aw_cov (cov_prune (s1 := ⟨[(6, (.bool true))], [], 2⟩) ⟨rfl, trivial⟩ trivial (Nat.le_refl _)) ?_
    refine aw_ret ?_
    exact fun a w hr => ⟨_, [(.bool true)], hr, ⟨⟨_, rfl, .data _ trivial⟩, trivial⟩, by decide, by cases H; rfl⟩
  · refine aw_seq ?_
    refine aw_region (es := [_, _, _, _]) ⟨Step.plain rfl (does_move (.tmp 8) (.int .i64 x3) trivial), ⟨⟨rfl, trivial⟩, trivial, rfl⟩, rfl,
      Step.plain rfl (does_move (.tmp 7) (e_s_i64 v1) trivial), ⟨⟨rfl, trivial⟩, trivial, rfl⟩, rfl,
      Step.plain rfl (does_lens 50 1 v1.length 12 (fun j => (.int .i64 (v1.getD j 0))) el50), ⟨⟨rfl, trivial⟩, trivial, rfl⟩, rfl,
      Step.plain rfl (does_bin .lss 3 3 (.tmp 11) (.tmp 13) .i64 x3 (v1.length : Int) (.bool (decide (x3 < (v1.length : Int)))) trivial trivial (bin_lss _ _ _ _)), ⟨⟨rfl, rfl, trivial⟩, trivial, rfl⟩, rfl, rfl⟩ ?_
    refine aw_cov (cov_prune (s1 := ⟨[(2, (.int .u64 p2)), (3, (.ptr 0 0 [])), (7, (e_s_i64 v1)), (8, (.int .i64 x3)), (14, (.bool (decide (x3 < (v1.length : Int)))))], [(0, some (.var (e_a8_u32 p0)))], 2⟩) ⟨rfl, rfl, rfl, rfl, rfl, trivial⟩ ⟨rfl, trivial⟩ (Nat.le_refl _)) ?_
    refine aw_cond rfl (fun hc => ?_) (fun hc => ?_)
    · replace H := ite_t hc H
      refine aw_skip ?_
      refine nx_seq ?_
      refine aw_seq ?_
      refine aw_block ?_
      obtain ⟨h5, H⟩ := ib_of H
      obtain ⟨h6, H⟩ := ib_of H
      refine aw_region (es := [_, _, _, _, _, _, _, _, _]) ⟨Step.plain rfl (does_move (.tmp 7) (e_s_i64 v1) trivial), ⟨⟨rfl, trivial⟩, trivial, rfl⟩, rfl,
        Step.plain rfl (does_move (.tmp 8) (.int .i64 x3) trivial), ⟨⟨rfl, trivial⟩, trivial, rfl⟩, rfl,
        Step.plain rfl (does_indexAddrs 50 1 v1.length 17 (fun j => (.int .i64 (v1.getD j 0))) (.tmp 18) .i64 x3 el50 trivial h5.1 h5.2), ⟨⟨rfl, rfl, trivial⟩, trivial, rfl⟩, rfl,
        Step.plain rfl (does_loadc 3 19 (.int .i64 (v1.getD x3.toNat 0)) ty3), ⟨⟨rfl, trivial⟩, trivial, rfl⟩, rfl,
        Step.plain rfl (does_indexAddr 24 8 1 3 0 0 [] (.var (e_a8_u32 p0)) (.tmp 20) .i64 (v1.getD x3.toNat 0) el24 trivial h6.1 h6.2), ⟨⟨rfl, rfl, trivial⟩, ⟨rfl, trivial⟩, rfl⟩, rfl,
        Step.plain rfl (does_load 22 21 0 (0 + (v1.getD x3.toNat 0).toNat * 1) [(v1.getD x3.toNat 0).toNat] (.var (e_a8_u32 p0)) (.int .u32 (p0 ((v1.getD x3.toNat 0).toNat))) ⟨rfl, (ixl h6), trivial⟩ rfl rfl ty22), ⟨⟨rfl, trivial⟩, ⟨rfl, trivial⟩, rfl⟩, rfl,
        Step.plain rfl (does_convInt 22 48 (.tmp 22) .u32 .u64 (p0 ((v1.getD x3.toNat 0).toNat)) trivial rfl rfl), ⟨⟨rfl, trivial⟩, trivial, rfl⟩, rfl,
        Step.plain rfl (does_move (.tmp 2) (.int .u64 p2) trivial), ⟨⟨rfl, trivial⟩, trivial, rfl⟩, rfl,
        Step.plain rfl (does_bin .lss 48 48 (.tmp 23) (.tmp 24) .u64 (IntKind.u64.wrap (p0 ((v1.getD x3.toNat 0).toNat))) p2 (.bool (decide ((IntKind.u64.wrap (p0 ((v1.getD x3.toNat 0).toNat))) < p2))) trivial trivial (bin_lss _ _ _ _)), ⟨⟨rfl, rfl, trivial⟩, trivial, rfl⟩, rfl, rfl⟩ ?_
      refine aw_cov (cov_prune (s1 := ⟨[(2, (.int .u64 p2)), (3, (.ptr 0 0 [])), (7, (e_s_i64 v1)), (8, (.int .i64 x3)), (25, (.bool (decide ((IntKind.u64.wrap (p0 ((v1.getD x3.toNat 0).toNat))) < p2))))], [(0, some (.var (e_a8_u32 p0)))], 2⟩) ⟨rfl, rfl, rfl, rfl, rfl, trivial⟩ ⟨rfl, trivial⟩ (Nat.le_refl _)) ?_
      refine aw_cond rfl (fun hc => ?_) (fun hc => ?_)
      · replace H := ite_t hc H
        refine aw_region (es := [_]) ⟨Step.plain rfl (does_assign (.const (.bool false)) (.bool false) (fun _ => rfl)), ⟨trivial, trivial, rfl⟩, rfl, rfl⟩ ?_
        refine aw_cov (cov_prune (s1 := ⟨[(6, (.bool false))], [], 2⟩) ⟨rfl, trivial⟩ trivial (Nat.le_refl _)) ?_
        refine aw_ret ?_
        replace H := rt_of H hsn4 Hrn4
        refine rt_blk ?_
        refine rt_then ?_
        refine rt_then ?_
        refine rt_blk ?_
        refine rt_then ?_
        refine rt_then ?_
        exact fun a w hr => ⟨_, [(.bool false)], hr, ⟨⟨_, rfl, .data _ trivial⟩, trivial⟩, by decide, by cases H; rfl⟩
      · replace H := ite_f hc H
        refine aw_skip ?_
        refine nx_blk ?_
        refine nx_seq ?_
        refine aw_region1 (es := [_, _, _]) ⟨Step.plain rfl (does_move (.tmp 8) (.int .i64 x3) trivial), ⟨⟨rfl, trivial⟩, trivial, rfl⟩, rfl,
          Step.plain rfl (does_bin .add 3 3 (.tmp 15) (.const (.int .i64 1)) .i64 x3 1 (.int .i64 (IntKind.i64.wrap (x3 + 1))) trivial (fun _ => rfl) (bin_add _ _ _ _)), ⟨⟨rfl, trivial⟩, trivial, rfl⟩, rfl,
          Step.plain rfl (does_assign (.tmp 16) (.int .i64 (IntKind.i64.wrap (x3 + 1))) trivial), ⟨⟨rfl, trivial⟩, trivial, rfl⟩, rfl, rfl⟩ ?_
        exact nx_loop ((IntKind.i64.wrap (x3 + 1))) H (cov_prune ⟨rfl, rfl, rfl, rfl, trivial⟩ ⟨rfl, trivial⟩ (Nat.le_of_ble_eq_true rfl))
    · replace H := ite_f hc H
      refine aw_exit ?_
      refine ex_then ?_
      refine ex_then ?_
      refine ex_here ?_
      exact nx_ljoin () H hsn4 (cov_prune trivial trivial (Nat.le_of_ble_eq_true rfl))

theorem congressref09_Service_spec (p0 : (Nat → Int)) (p1 : (Nat → Int)) (p2 : api_Place) (p3 : Int) (r : Bool) (H : congressref09_Service p0 p1 p2 p3 = some r) : FSpec Try.prog 9 [(e_a8_u32 p0), (e_a8_u32 p1), (e_api_Place p2), (.int .i64 p3)] (.bool r) := by
  refine spec_of (fn := Try.f9) (args := [(e_a8_u32 p0), (e_a8_u32 p1), (e_api_Place p2), (.int .i64 p3)]) Try.func9 rfl (Nat.le_of_ble_eq_true rfl) ?_
  rintro ⟨G, w0, W, S, Sp⟩ hG
  cases hG
  unfold congressref09_Service at H
  refine aw_region (es := [_, _, _, _]) ⟨Step.plain rfl (does_box 24 (.tmp 0) 0 (e_a8_u32 p0) trivial rfl), ⟨⟨rfl, trivial⟩, trivial, rfl⟩, rfl,
    Step.plain rfl (does_box 25 (.tmp 1) 1 (e_a8_u32 p1) trivial rfl), ⟨⟨rfl, trivial⟩, trivial, rfl⟩, rfl,
    Step.plain rfl (does_box 27 (.tmp 2) 2 (e_api_Place p2) trivial rfl), ⟨⟨rfl, trivial⟩, trivial, rfl⟩, rfl,
    Step.plain rfl (does_assign (.const (.bool false)) (.bool false) (fun _ => rfl)), ⟨trivial, trivial, rfl⟩, rfl, rfl⟩ ?_
  refine aw_cov (cov_prune (s1 := ⟨[(3, (.int .i64 p3)), (4, (.ptr 0 0 [])), (5, (.ptr 1 0 [])), (6, (.ptr 2 0 []))], [(0, some (.var (e_a8_u32 p0))), (1, some (.var (e_a8_u32 p1))), (2, some (.var (e_api_Place p2)))], 3⟩) ⟨rfl, rfl, rfl, rfl, trivial⟩ ⟨rfl, rfl, rfl, trivial⟩ (Nat.le_refl _)) ?_
  refine aw_seq ?_
  obtain ⟨h1, H⟩ := ibg_of H
  obtain ⟨h2, H⟩ := ibg_of H
  refine aw_draw (es := [_, _, _, _, _, _, _, _, _, _, _, _, _, _, _, _, _, _, _, _, _, _, _, _, _, _, _, _, _, _, _, _, _, _, _, _, _]) (mixed) ⟨Step.plain rfl (does_fieldAddr 27 1 1 6 2 0 [] (.var (e_api_Place p2)) fl27_1), ⟨⟨rfl, trivial⟩, ⟨rfl, trivial⟩, rfl⟩, rfl,
    Step.plain rfl (does_load 3 11 2 (0 + 1) [1] (.var (e_api_Place p2)) (.int .i64 p2.From) ⟨rfl, Nat.le_of_ble_eq_true rfl, trivial⟩ rfl rfl ty3), ⟨⟨rfl, trivial⟩, ⟨rfl, trivial⟩, rfl⟩, rfl,
    Step.plain rfl (does_bin .lss 3 3 (.tmp 12) (.const (.int .i64 0)) .i64 p2.From 0 (.bool (decide (p2.From < 0))) trivial (fun _ => rfl) (bin_lss _ _ _ _)), ⟨⟨rfl, trivial⟩, trivial, rfl⟩, rfl,
    Step.plain rfl (does_move (.tmp 13) (.bool (decide (p2.From < 0))) trivial), ⟨⟨rfl, trivial⟩, trivial, rfl⟩, rfl,
    Step.guarded rfl rfl rfl rfl (fun hc => does_fieldAddr 27 1 1 6 2 0 [] (.var (e_api_Place p2)) fl27_1), ⟨⟨rfl, rfl, trivial⟩, ⟨rfl, trivial⟩, rfl⟩, rfl,
    Step.guarded rfl rfl rfl rfl (fun hc => Does.strip (n' := [(15, (.opt (!(decide (p2.From < 0))) (.ptr 2 (0 + 1) [1])))]) (n := [(15, (.ptr 2 (0 + 1) [1]))]) ⟨(.opt _ _ hc), trivial⟩ (does_load 3 15 2 (0 + 1) [1] (.var (e_api_Place p2)) (.int .i64 p2.From) ⟨rfl, Nat.le_of_ble_eq_true rfl, trivial⟩ rfl rfl ty3)), ⟨⟨rfl, rfl, trivial⟩, ⟨rfl, trivial⟩, rfl⟩, rfl,
    Step.guarded rfl rfl rfl rfl (fun hc => Does.strip (n' := [(16, (.opt (!(decide (p2.From < 0))) (.int .i64 p2.From)))]) (n := [(16, (.int .i64 p2.From))]) ⟨(.opt _ _ hc), trivial⟩ (does_bin .gtr 3 3 (.tmp 16) (.const (.int .i64 7)) .i64 p2.From 7 (.bool (decide (p2.From > 7))) trivial (fun _ => rfl) (bin_gtr _ _ _ _))), ⟨⟨rfl, rfl, trivial⟩, trivial, rfl⟩, rfl,
    Step.plain rfl (does_or 14 17 (decide (p2.From < 0)) (decide (p2.From > 7))), ⟨⟨rfl, rfl, trivial⟩, trivial, rfl⟩, rfl,
    Step.plain rfl (does_move (.tmp 18) (.bool ((decide (p2.From < 0)) || (decide (p2.From > 7)))) trivial), ⟨⟨rfl, trivial⟩, trivial, rfl⟩, rfl,
    Step.guarded rfl rfl rfl rfl (fun hc => does_fieldAddr 27 1 1 6 2 0 [] (.var (e_api_Place p2)) fl27_1), ⟨⟨rfl, rfl, trivial⟩, ⟨rfl, trivial⟩, rfl⟩, rfl,
    Step.guarded rfl rfl rfl rfl (fun hc => Does.strip (n' := [(20, (.opt (!((decide (p2.From < 0)) || (decide (p2.From > 7)))) (.ptr 2 (0 + 1) [1])))]) (n := [(20, (.ptr 2 (0 + 1) [1]))]) ⟨(.opt _ _ hc), trivial⟩ (does_load 3 20 2 (0 + 1) [1] (.var (e_api_Place p2)) (.int .i64 p2.From) ⟨rfl, Nat.le_of_ble_eq_true rfl, trivial⟩ rfl rfl ty3)), ⟨⟨rfl, rfl, trivial⟩, ⟨rfl, trivial⟩, rfl⟩, rfl,
    Step.guarded rfl rfl rfl rfl (fun hc => Does.strip (n' := [(5, (.ptr 1 0 [])), (21, (.opt (!((decide (p2.From < 0)) || (decide (p2.From > 7)))) (.int .i64 p2.From)))]) (n := [(5, (.ptr 1 0 [])), (21, (.int .i64 p2.From))]) ⟨(.same _), (.opt _ _ hc), trivial⟩ (does_indexAddr 25 8 1 5 1 0 [] (.var (e_a8_u32 p1)) (.tmp 21) .i64 p2.From el25 trivial (h1 hc).1 (h1 hc).2)), ⟨⟨rfl, rfl, rfl, trivial⟩, ⟨rfl, trivial⟩, rfl⟩, rfl,
    Step.guarded rfl rfl rfl rfl (fun hc => Does.strip (n' := [(22, (.opt (!((decide (p2.From < 0)) || (decide (p2.From > 7)))) (.ptr 1 (0 + p2.From.toNat * 1) [p2.From.toNat])))]) (n := [(22, (.ptr 1 (0 + p2.From.toNat * 1) [p2.From.toNat]))]) ⟨(.opt _ _ hc), trivial⟩ (does_load 22 22 1 (0 + p2.From.toNat * 1) [p2.From.toNat] (.var (e_a8_u32 p1)) (.int .u32 (p1 p2.From.toNat)) ⟨rfl, (ixl (h1 hc)), trivial⟩ rfl rfl ty22)), ⟨⟨rfl, rfl, trivial⟩, ⟨rfl, trivial⟩, rfl⟩, rfl,
    Step.guarded rfl rfl rfl rfl (fun hc => Does.strip (n' := [(23, (.opt (!((decide (p2.From < 0)) || (decide (p2.From > 7)))) (.int .u32 (p1 p2.From.toNat))))]) (n := [(23, (.int .u32 (p1 p2.From.toNat)))]) ⟨(.opt _ _ hc), trivial⟩ (does_bin .eql 22 22 (.tmp 23) (.const (.int .u32 0)) .u32 (p1 p2.From.toNat) 0 (.bool ((p1 p2.From.toNat) == 0)) trivial (fun _ => rfl) (bin_eql _ _ _ _))), ⟨⟨rfl, rfl, trivial⟩, trivial, rfl⟩, rfl,
    Step.plain rfl (does_or 19 24 ((decide (p2.From < 0)) || (decide (p2.From > 7))) ((p1 p2.From.toNat) == 0)), ⟨⟨rfl, rfl, trivial⟩, trivial, rfl⟩, rfl,
    Step.plain rfl (does_move (.tmp 25) (.bool (((decide (p2.From < 0)) || (decide (p2.From > 7))) || ((p1 p2.From.toNat) == 0))) trivial), ⟨⟨rfl, trivial⟩, trivial, rfl⟩, rfl,
    Step.guarded rfl rfl rfl rfl (fun hc => does_fieldAddr 27 0 0 6 2 0 [] (.var (e_api_Place p2)) fl27_0), ⟨⟨rfl, rfl, trivial⟩, ⟨rfl, trivial⟩, rfl⟩, rfl,
    Step.guarded rfl rfl rfl rfl (fun hc => Does.strip (n' := [(27, (.opt (!(((decide (p2.From < 0)) || (decide (p2.From > 7))) || ((p1 p2.From.toNat) == 0))) (.ptr 2 (0 + 0) [0])))]) (n := [(27, (.ptr 2 (0 + 0) [0]))]) ⟨(.opt _ _ hc), trivial⟩ (does_load 22 27 2 (0 + 0) [0] (.var (e_api_Place p2)) (.int .u32 p2.Round) ⟨rfl, Nat.le_of_ble_eq_true rfl, trivial⟩ rfl rfl ty22)), ⟨⟨rfl, rfl, trivial⟩, ⟨rfl, trivial⟩, rfl⟩, rfl,
    Step.guarded rfl rfl rfl rfl (fun hc => Does.strip (n' := [(28, (.opt (!(((decide (p2.From < 0)) || (decide (p2.From > 7))) || ((p1 p2.From.toNat) == 0))) (.int .u32 p2.Round)))]) (n := [(28, (.int .u32 p2.Round))]) ⟨(.opt _ _ hc), trivial⟩ (does_bin .eql 22 22 (.tmp 28) (.const (.int .u32 0)) .u32 p2.Round 0 (.bool (p2.Round == 0)) trivial (fun _ => rfl) (bin_eql _ _ _ _))), ⟨⟨rfl, rfl, trivial⟩, trivial, rfl⟩, rfl,
    Step.plain rfl (does_or 26 29 (((decide (p2.From < 0)) || (decide (p2.From > 7))) || ((p1 p2.From.toNat) == 0)) (p2.Round == 0)), ⟨⟨rfl, rfl, trivial⟩, trivial, rfl⟩, rfl,
    Step.plain rfl (does_move (.tmp 30) (.bool ((((decide (p2.From < 0)) || (decide (p2.From > 7))) || ((p1 p2.From.toNat) == 0)) || (p2.Round == 0))) trivial), ⟨⟨rfl, trivial⟩, trivial, rfl⟩, rfl,
    Step.guarded rfl rfl rfl rfl (fun hc => does_fieldAddr 27 0 0 6 2 0 [] (.var (e_api_Place p2)) fl27_0), ⟨⟨rfl, rfl, trivial⟩, ⟨rfl, trivial⟩, rfl⟩, rfl,
    Step.guarded rfl rfl rfl rfl (fun hc => Does.strip (n' := [(32, (.opt (!((((decide (p2.From < 0)) || (decide (p2.From > 7))) || ((p1 p2.From.toNat) == 0)) || (p2.Round == 0))) (.ptr 2 (0 + 0) [0])))]) (n := [(32, (.ptr 2 (0 + 0) [0]))]) ⟨(.opt _ _ hc), trivial⟩ (does_load 22 32 2 (0 + 0) [0] (.var (e_api_Place p2)) (.int .u32 p2.Round) ⟨rfl, Nat.le_of_ble_eq_true rfl, trivial⟩ rfl rfl ty22)), ⟨⟨rfl, rfl, trivial⟩, ⟨rfl, trivial⟩, rfl⟩, rfl,
    Step.guarded rfl rfl rfl rfl (fun hc => does_fieldAddr 27 1 1 6 2 0 [] (.var (e_api_Place p2)) fl27_1), ⟨⟨rfl, rfl, trivial⟩, ⟨rfl, trivial⟩, rfl⟩, rfl,
    Step.guarded rfl rfl rfl rfl (fun hc => Does.strip (n' := [(34, (.opt (!((((decide (p2.From < 0)) || (decide (p2.From > 7))) || ((p1 p2.From.toNat) == 0)) || (p2.Round == 0))) (.ptr 2 (0 + 1) [1])))]) (n := [(34, (.ptr 2 (0 + 1) [1]))]) ⟨(.opt _ _ hc), trivial⟩ (does_load 3 34 2 (0 + 1) [1] (.var (e_api_Place p2)) (.int .i64 p2.From) ⟨rfl, Nat.le_of_ble_eq_true rfl, trivial⟩ rfl rfl ty3)), ⟨⟨rfl, rfl, trivial⟩, ⟨rfl, trivial⟩, rfl⟩, rfl,
    Step.guarded rfl rfl rfl rfl (fun hc => Does.strip (n' := [(4, (.ptr 0 0 [])), (35, (.opt (!((((decide (p2.From < 0)) || (decide (p2.From > 7))) || ((p1 p2.From.toNat) == 0)) || (p2.Round == 0))) (.int .i64 p2.From)))]) (n := [(4, (.ptr 0 0 [])), (35, (.int .i64 p2.From))]) ⟨(.same _), (.opt _ _ hc), trivial⟩ (does_indexAddr 24 8 1 4 0 0 [] (.var (e_a8_u32 p0)) (.tmp 35) .i64 p2.From el24 trivial (h2 hc).1 (h2 hc).2)), ⟨⟨rfl, rfl, rfl, trivial⟩, ⟨rfl, trivial⟩, rfl⟩, rfl,
    Step.guarded rfl rfl rfl rfl (fun hc => Does.strip (n' := [(36, (.opt (!((((decide (p2.From < 0)) || (decide (p2.From > 7))) || ((p1 p2.From.toNat) == 0)) || (p2.Round == 0))) (.ptr 0 (0 + p2.From.toNat * 1) [p2.From.toNat])))]) (n := [(36, (.ptr 0 (0 + p2.From.toNat * 1) [p2.From.toNat]))]) ⟨(.opt _ _ hc), trivial⟩ (does_load 22 36 0 (0 + p2.From.toNat * 1) [p2.From.toNat] (.var (e_a8_u32 p0)) (.int .u32 (p0 p2.From.toNat)) ⟨rfl, (ixl (h2 hc)), trivial⟩ rfl rfl ty22)), ⟨⟨rfl, rfl, trivial⟩, ⟨rfl, trivial⟩, rfl⟩, rfl,
    Step.guarded rfl rfl rfl rfl (fun hc => Does.strip (n' := [(33, (.opt (!((((decide (p2.From < 0)) || (decide (p2.From > 7))) || ((p1 p2.From.toNat) == 0)) || (p2.Round == 0))) (.int .u32 p2.Round))), (37, (.opt (!((((decide (p2.From < 0)) || (decide (p2.From > 7))) || ((p1 p2.From.toNat) == 0)) || (p2.Round == 0))) (.int .u32 (p0 p2.From.toNat))))]) (n := [(33, (.int .u32 p2.Round)), (37, (.int .u32 (p0 p2.From.toNat)))]) ⟨(.opt _ _ hc), (.opt _ _ hc), trivial⟩ (does_bin .gtr 22 22 (.tmp 33) (.tmp 37) .u32 p2.Round (p0 p2.From.toNat) (.bool (decide (p2.Round > (p0 p2.From.toNat)))) trivial trivial (bin_gtr _ _ _ _))), ⟨⟨rfl, rfl, rfl, trivial⟩, trivial, rfl⟩, rfl,
    Step.plain rfl (does_or 31 38 ((((decide (p2.From < 0)) || (decide (p2.From > 7))) || ((p1 p2.From.toNat) == 0)) || (p2.Round == 0)) (decide (p2.Round > (p0 p2.From.toNat)))), ⟨⟨rfl, rfl, trivial⟩, trivial, rfl⟩, rfl,
    Step.plain rfl (does_move (.tmp 39) (.bool (((((decide (p2.From < 0)) || (decide (p2.From > 7))) || ((p1 p2.From.toNat) == 0)) || (p2.Round == 0)) || (decide (p2.Round > (p0 p2.From.toNat))))) trivial), ⟨⟨rfl, trivial⟩, trivial, rfl⟩, rfl,
    Step.guarded rfl rfl rfl rfl (fun hc => does_move (.tmp 3) (.int .i64 p3) trivial), ⟨⟨rfl, rfl, trivial⟩, trivial, rfl⟩, rfl,
    Step.guarded rfl rfl rfl rfl (fun hc => Does.strip (n' := [(41, (.opt (!(((((decide (p2.From < 0)) || (decide (p2.From > 7))) || ((p1 p2.From.toNat) == 0)) || (p2.Round == 0)) || (decide (p2.Round > (p0 p2.From.toNat))))) (.int .i64 p3)))]) (n := [(41, (.int .i64 p3))]) ⟨(.opt _ _ hc), trivial⟩ (does_bin .lss 3 3 (.tmp 41) (.const (.int .i64 0)) .i64 p3 0 (.bool (decide (p3 < 0))) trivial (fun _ => rfl) (bin_lss _ _ _ _))), ⟨⟨rfl, rfl, trivial⟩, trivial, rfl⟩, rfl,
    Step.plain rfl (does_or 40 42 (((((decide (p2.From < 0)) || (decide (p2.From > 7))) || ((p1 p2.From.toNat) == 0)) || (p2.Round == 0)) || (decide (p2.Round > (p0 p2.From.toNat)))) (decide (p3 < 0))), ⟨⟨rfl, rfl, trivial⟩, trivial, rfl⟩, rfl,
    Step.plain rfl (does_move (.tmp 43) (.bool ((((((decide (p2.From < 0)) || (decide (p2.From > 7))) || ((p1 p2.From.toNat) == 0)) || (p2.Round == 0)) || (decide (p2.Round > (p0 p2.From.toNat)))) || (decide (p3 < 0)))) trivial), ⟨⟨rfl, trivial⟩, trivial, rfl⟩, rfl,
    Step.guarded rfl rfl rfl rfl (fun hc => does_move (.tmp 3) (.int .i64 p3) trivial), ⟨⟨rfl, rfl, trivial⟩, trivial, rfl⟩, rfl,
    Step.guarded rfl rfl rfl rfl (fun hc => Does.strip (n' := [(45, (.opt (!((((((decide (p2.From < 0)) || (decide (p2.From > 7))) || ((p1 p2.From.toNat) == 0)) || (p2.Round == 0)) || (decide (p2.Round > (p0 p2.From.toNat)))) || (decide (p3 < 0)))) (.int .i64 p3)))]) (n := [(45, (.int .i64 p3))]) ⟨(.opt _ _ hc), trivial⟩ (does_bin .gtr 3 3 (.tmp 45) (.const (.int .i64 3)) .i64 p3 3 (.bool (decide (p3 > 3))) trivial (fun _ => rfl) (bin_gtr _ _ _ _))), ⟨⟨rfl, rfl, trivial⟩, trivial, rfl⟩, rfl,
    Step.plain rfl (does_or 44 46 ((((((decide (p2.From < 0)) || (decide (p2.From > 7))) || ((p1 p2.From.toNat) == 0)) || (p2.Round == 0)) || (decide (p2.Round > (p0 p2.From.toNat)))) || (decide (p3 < 0))) (decide (p3 > 3))), ⟨⟨rfl, rfl, trivial⟩, trivial, rfl⟩, rfl, rfl⟩ rfl ?_
  obtain ⟨v3, hv3, H⟩ := lt_of H
  refine aw_cov (cov_prune (s1 := ⟨[(3, (.int .i64 p3)), (4, (.ptr 0 0 [])), (5, (.ptr 1 0 [])), (6, (.ptr 2 0 [])), (47, (.bool v3))], [(0, some (.var (e_a8_u32 p0))), (1, some (.var (e_a8_u32 p1))), (2, some (.var (e_api_Place p2)))], 3⟩) ⟨rfl, rfl, rfl, rfl, (by subst hv3; rfl), trivial⟩ ⟨rfl, rfl, rfl, trivial⟩ (Nat.le_refl _)) ?_
  refine aw_cond rfl (fun hc => ?_) (fun hc => ?_)
  · replace H := ite_t hc H
    refine aw_region (es := [_]) ⟨Step.plain rfl (does_assign (.const (.bool false)) (.bool false) (fun _ => rfl)), ⟨trivial, trivial, rfl⟩, rfl, rfl⟩ ?_
    refine aw_cov (cov_prune (s1 := ⟨[(8, (.bool false))], [], 3⟩) ⟨rfl, trivial⟩ trivial (Nat.le_refl _)) ?_
    refine aw_ret ?_
    refine rt_then ?_
    exact fun a w hr => ⟨_, [(.bool false)], hr, ⟨⟨_, rfl, .data _ trivial⟩, trivial⟩, by decide, by cases H; rfl⟩
  · replace H := ite_f hc H
    refine aw_skip ?_
    refine nx_seq ?_
    refine aw_region (es := [_, _, _, _]) ⟨Step.plain rfl (does_fieldAddr 27 0 0 6 2 0 [] (.var (e_api_Place p2)) fl27_0), ⟨⟨rfl, trivial⟩, ⟨rfl, trivial⟩, rfl⟩, rfl,
      Step.plain rfl (does_load 22 48 2 (0 + 0) [0] (.var (e_api_Place p2)) (.int .u32 p2.Round) ⟨rfl, Nat.le_of_ble_eq_true rfl, trivial⟩ rfl rfl ty22), ⟨⟨rfl, trivial⟩, ⟨rfl, trivial⟩, rfl⟩, rfl,
      Step.plain rfl (does_convInt 22 48 (.tmp 49) .u32 .u64 p2.Round trivial rfl rfl), ⟨⟨rfl, trivial⟩, trivial, rfl⟩, rfl,
      Step.plain rfl (does_assign (.tmp 50) (.int .u64 (IntKind.u64.wrap (p2.Round))) trivial), ⟨⟨rfl, trivial⟩, trivial, rfl⟩, rfl, rfl⟩ ?_
    refine aw_cov (cov_prune (s1 := ⟨[(3, (.int .i64 p3)), (4, (.ptr 0 0 [])), (5, (.ptr 1 0 [])), (6, (.ptr 2 0 [])), (9, (.int .u64 (IntKind.u64.wrap (p2.Round))))], [(0, some (.var (e_a8_u32 p0))), (1, some (.var (e_a8_u32 p1))), (2, some (.var (e_api_Place p2)))], 3⟩) ⟨rfl, rfl, rfl, rfl, rfl, trivial⟩ ⟨rfl, rfl, rfl, trivial⟩ (Nat.le_refl _)) ?_
    refine aw_seq ?_
    refine aw_region (es := [_, _]) ⟨Step.plain rfl (does_move (.tmp 3) (.int .i64 p3) trivial), ⟨⟨rfl, trivial⟩, trivial, rfl⟩, rfl,
      Step.plain rfl (does_bin .eql 3 3 (.tmp 51) (.const (.int .i64 3)) .i64 p3 3 (.bool (p3 == 3)) trivial (fun _ => rfl) (bin_eql _ _ _ _)), ⟨⟨rfl, trivial⟩, trivial, rfl⟩, rfl, rfl⟩ ?_
    refine aw_cov (cov_prune (s1 := ⟨[(3, (.int .i64 p3)), (4, (.ptr 0 0 [])), (5, (.ptr 1 0 [])), (6, (.ptr 2 0 [])), (9, (.int .u64 (IntKind.u64.wrap (p2.Round)))), (52, (.bool (p3 == 3)))], [(0, some (.var (e_a8_u32 p0))), (1, some (.var (e_a8_u32 p1))), (2, some (.var (e_api_Place p2)))], 3⟩) ⟨rfl, rfl, rfl, rfl, rfl, rfl, trivial⟩ ⟨rfl, rfl, rfl, trivial⟩ (Nat.le_refl _)) ?_
    refine aw_cond rfl (fun hc => ?_) (fun hc => ?_)
    · replace H := ite_t hc H
      obtain ⟨v4, h5, H⟩ := bnd H
      refine aw_region (es := [_, _, _, _, _, _]) ⟨Step.plain rfl (does_load 24 4 0 0 [] (.var (e_a8_u32 p0)) (e_a8_u32 p0) trivial rfl rfl ty24), ⟨⟨rfl, trivial⟩, ⟨rfl, trivial⟩, rfl⟩, rfl,
        Step.plain rfl (does_load 25 5 1 0 [] (.var (e_a8_u32 p1)) (e_a8_u32 p1) trivial rfl rfl ty25), ⟨⟨rfl, trivial⟩, ⟨rfl, trivial⟩, rfl⟩, rfl,
        Step.plain rfl (does_move (.tmp 9) (.int .u64 (IntKind.u64.wrap (p2.Round))) trivial), ⟨⟨rfl, trivial⟩, trivial, rfl⟩, rfl,
        Step.plain rfl (does_bin .add 48 48 (.tmp 55) (.const (.int .u64 1)) .u64 (IntKind.u64.wrap (p2.Round)) 1 (.int .u64 (IntKind.u64.wrap ((IntKind.u64.wrap (p2.Round)) + 1))) trivial (fun _ => rfl) (bin_add _ _ _ _)), ⟨⟨rfl, trivial⟩, trivial, rfl⟩, rfl,
        Step.plain rfl (does_call 21 0 (fun _ => .any) (.func 21) [(.tmp 53), (.tmp 54), (.tmp 56)] [(e_a8_u32 p0), (e_a8_u32 p1), (.int .u64 (IntKind.u64.wrap ((IntKind.u64.wrap (p2.Round)) + 1)))] [] true [(e_a8_u32 p0), (e_a8_u32 p1), (.int .u64 (IntKind.u64.wrap ((IntKind.u64.wrap (p2.Round)) + 1)))] (.bool v4) _ _ rfl fo21 rfl ⟨trivial, trivial, trivial, trivial⟩ ⟨.data _ (d_a8_u32 p0), .data _ (d_a8_u32 p1), .data _ trivial, trivial⟩ (congressref09_Full_spec p0 p1 (IntKind.u64.wrap ((IntKind.u64.wrap (p2.Round)) + 1)) _ h5) trivial), ⟨⟨rfl, rfl, rfl, trivial⟩, trivial, rfl⟩, rfl,
        Step.plain rfl (does_assign (.tmp 57) (.bool v4) trivial), ⟨⟨rfl, trivial⟩, trivial, rfl⟩, rfl, rfl⟩ ?_
      refine aw_cov (cov_prune (s1 := ⟨[(8, (.bool v4))], [], 3⟩) ⟨rfl, trivial⟩ trivial (Nat.le_refl _)) ?_
      refine aw_ret ?_
      refine rt_then ?_
      exact fun a w hr => ⟨_, [(.bool v4)], hr, ⟨⟨_, rfl, .data _ trivial⟩, trivial⟩, by decide, by cases H; rfl⟩
    · replace H := ite_f hc H
      refine aw_skip ?_
      refine nx_seq ?_
      refine aw_seq ?_
      refine aw_region (es := [_, _]) ⟨Step.plain rfl (does_move (.tmp 3) (.int .i64 p3) trivial), ⟨⟨rfl, trivial⟩, trivial, rfl⟩, rfl,
        Step.plain rfl (does_bin .eql 3 3 (.tmp 58) (.const (.int .i64 0)) .i64 p3 0 (.bool (p3 == 0)) trivial (fun _ => rfl) (bin_eql _ _ _ _)), ⟨⟨rfl, trivial⟩, trivial, rfl⟩, rfl, rfl⟩ ?_
      refine aw_cov (cov_prune (s1 := ⟨[(3, (.int .i64 p3)), (4, (.ptr 0 0 [])), (5, (.ptr 1 0 [])), (6, (.ptr 2 0 [])), (9, (.int .u64 (IntKind.u64.wrap (p2.Round)))), (59, (.bool (p3 == 0)))], [(0, some (.var (e_a8_u32 p0))), (1, some (.var (e_a8_u32 p1))), (2, some (.var (e_api_Place p2)))], 3⟩) ⟨rfl, rfl, rfl, rfl, rfl, rfl, trivial⟩ ⟨rfl, rfl, rfl, trivial⟩ (Nat.le_refl _)) ?_
      refine aw_cond rfl (fun hc => ?_) (fun hc => ?_)
      · replace H := ite_t hc H
        refine aw_region (es := [_]) ⟨Step.plain rfl (does_assign (.const (.bool true)) (.bool true) (fun _ => rfl)), ⟨trivial, trivial, rfl⟩, rfl, rfl⟩ ?_
        refine aw_cov (cov_prune (s1 := ⟨[(8, (.bool true))], [], 3⟩) ⟨rfl, trivial⟩ trivial (Nat.le_refl _)) ?_
        refine aw_ret ?_
        refine rt_then ?_
        exact fun a w hr => ⟨_, [(.bool true)], hr, ⟨⟨_, rfl, .data _ trivial⟩, trivial⟩, by decide, by cases H; rfl⟩
      · replace H := ite_f hc H
        refine aw_skip ?_
        refine nx_seq ?_
        refine aw_seq ?_
        obtain ⟨v6, h7, H⟩ := bnd H
        refine aw_region (es := [_, _, _, _, _, _]) ⟨Step.plain rfl (does_load 24 4 0 0 [] (.var (e_a8_u32 p0)) (e_a8_u32 p0) trivial rfl rfl ty24), ⟨⟨rfl, trivial⟩, ⟨rfl, trivial⟩, rfl⟩, rfl,
          Step.plain rfl (does_load 25 5 1 0 [] (.var (e_a8_u32 p1)) (e_a8_u32 p1) trivial rfl rfl ty25), ⟨⟨rfl, trivial⟩, ⟨rfl, trivial⟩, rfl⟩, rfl,
          Step.plain rfl (does_move (.tmp 9) (.int .u64 (IntKind.u64.wrap (p2.Round))) trivial), ⟨⟨rfl, trivial⟩, trivial, rfl⟩, rfl,
          Step.plain rfl (does_bin .sub 48 48 (.tmp 62) (.const (.int .u64 1)) .u64 (IntKind.u64.wrap (p2.Round)) 1 (.int .u64 (IntKind.u64.wrap ((IntKind.u64.wrap (p2.Round)) - 1))) trivial (fun _ => rfl) (bin_sub _ _ _ _)), ⟨⟨rfl, trivial⟩, trivial, rfl⟩, rfl,
          Step.plain rfl (does_call 21 0 (fun _ => .any) (.func 21) [(.tmp 60), (.tmp 61), (.tmp 63)] [(e_a8_u32 p0), (e_a8_u32 p1), (.int .u64 (IntKind.u64.wrap ((IntKind.u64.wrap (p2.Round)) - 1)))] [] true [(e_a8_u32 p0), (e_a8_u32 p1), (.int .u64 (IntKind.u64.wrap ((IntKind.u64.wrap (p2.Round)) - 1)))] (.bool v6) _ _ rfl fo21 rfl ⟨trivial, trivial, trivial, trivial⟩ ⟨.data _ (d_a8_u32 p0), .data _ (d_a8_u32 p1), .data _ trivial, trivial⟩ (congressref09_Full_spec p0 p1 (IntKind.u64.wrap ((IntKind.u64.wrap (p2.Round)) - 1)) _ h7) trivial), ⟨⟨rfl, rfl, rfl, trivial⟩, trivial, rfl⟩, rfl,
          Step.plain rfl (does_not 4 (.tmp 64) v6 trivial), ⟨⟨rfl, trivial⟩, trivial, rfl⟩, rfl, rfl⟩ ?_
        refine aw_cov (cov_prune (s1 := ⟨[(3, (.int .i64 p3)), (4, (.ptr 0 0 [])), (5, (.ptr 1 0 [])), (6, (.ptr 2 0 [])), (65, (.bool (!v6)))], [(0, some (.var (e_a8_u32 p0))), (1, some (.var (e_a8_u32 p1))), (2, some (.var (e_api_Place p2)))], 3⟩) ⟨rfl, rfl, rfl, rfl, rfl, trivial⟩ ⟨rfl, rfl, rfl, trivial⟩ (Nat.le_refl _)) ?_
        refine aw_cond rfl (fun hc => ?_) (fun hc => ?_)
        · replace H := ite_t hc H
          refine aw_region (es := [_]) ⟨Step.plain rfl (does_assign (.const (.bool false)) (.bool false) (fun _ => rfl)), ⟨trivial, trivial, rfl⟩, rfl, rfl⟩ ?_
          refine aw_cov (cov_prune (s1 := ⟨[(8, (.bool false))], [], 3⟩) ⟨rfl, trivial⟩ trivial (Nat.le_refl _)) ?_
          refine aw_ret ?_
          refine rt_then ?_
          exact fun a w hr => ⟨_, [(.bool false)], hr, ⟨⟨_, rfl, .data _ trivial⟩, trivial⟩, by decide, by cases H; rfl⟩
        · replace H := ite_f hc H
          refine aw_skip ?_
          refine nx_seq ?_
          refine aw_seq ?_
          refine aw_region (es := [_]) ⟨Step.plain rfl (does_assign (.const (.int .i64 0)) (.int .i64 0) (fun _ => rfl)), ⟨trivial, trivial, rfl⟩, rfl, rfl⟩ ?_
          refine aw_cov (cov_prune (s1 := ⟨[(3, (.int .i64 p3)), (4, (.ptr 0 0 [])), (5, (.ptr 1 0 [])), (6, (.ptr 2 0 [])), (10, (.int .i64 0))], [(0, some (.var (e_a8_u32 p0))), (1, some (.var (e_a8_u32 p1))), (2, some (.var (e_api_Place p2)))], 3⟩) ⟨rfl, rfl, rfl, rfl, rfl, trivial⟩ ⟨rfl, rfl, rfl, trivial⟩ (Nat.le_refl _)) ?_
          obtain ⟨wn9, hwn9, Hrn9⟩ := bnd H
          refine aw_meet (fun y12 : Unit => (⟨[], [], 3⟩ : St)) (fun y12 => Fl.nx y12 = wn9) (fun y12 hy => ?_) (aw_block (aw_runs (fun x8 : Int => (⟨[(3, (.int .i64 p3)), (4, (.ptr 0 0 [])), (5, (.ptr 1 0 [])), (6, (.ptr 2 0 [])), (10, (.int .i64 x8))], [(0, some (.var (e_a8_u32 p0))), (1, some (.var (e_a8_u32 p1))), (2, some (.var (e_api_Place p2)))], 3⟩ : St)) hwn9 (cov_prune ⟨rfl, rfl, rfl, rfl, rfl, trivial⟩ ⟨rfl, rfl, rfl, trivial⟩ (Nat.le_of_ble_eq_true rfl)) (fun x8 st H hsn9 => ?_)))
          · have H := nx_of hy Hrn9
            refine nx_seq ?_
            refine aw_region (es := [_]) ⟨Step.plain rfl (does_assign (.const (.bool true)) (.bool true) (fun _ => rfl)), ⟨trivial, trivial, rfl⟩, rfl, rfl⟩ ?_
            refine aw_cov (cov_prune (s1 := ⟨[(8, (.bool true))], [], 3⟩) ⟨rfl, trivial⟩ trivial (Nat.le_refl _)) ?_
            refine aw_ret ?_
            exact fun a w hr => ⟨_, [(.bool true)], hr, ⟨⟨_, rfl, .data _ trivial⟩, trivial⟩, by decide, by cases H; rfl⟩
          · refine aw_seq ?_
            refine aw_region (es := [_, _, _, _, _, _, _, _]) ⟨Step.plain rfl (does_move (.tmp 10) (.int .i64 x8) trivial), ⟨⟨rfl, trivial⟩, trivial, rfl⟩, rfl,
              Step.plain rfl (does_fieldAddr 27 1 1 6 2 0 [] (.var (e_api_Place p2)) fl27_1), ⟨⟨rfl, trivial⟩, ⟨rfl, trivial⟩, rfl⟩, rfl,
              Step.plain rfl (does_load 3 67 2 (0 + 1) [1] (.var (e_api_Place p2)) (.int .i64 p2.From) ⟨rfl, Nat.le_of_ble_eq_true rfl, trivial⟩ rfl rfl ty3), ⟨⟨rfl, trivial⟩, ⟨rfl, trivial⟩, rfl⟩, rfl,
              Step.plain rfl (does_bin .lss 3 3 (.tmp 66) (.tmp 68) .i64 x8 p2.From (.bool (decide (x8 < p2.From))) trivial trivial (bin_lss _ _ _ _)), ⟨⟨rfl, rfl, trivial⟩, trivial, rfl⟩, rfl,
              Step.plain rfl (does_move (.tmp 69) (.bool (decide (x8 < p2.From))) trivial), ⟨⟨rfl, trivial⟩, trivial, rfl⟩, rfl,
              Step.guarded rfl rfl rfl rfl (fun hc => does_move (.tmp 3) (.int .i64 p3) trivial), ⟨⟨rfl, rfl, trivial⟩, trivial, rfl⟩, rfl,
              Step.guarded rfl rfl rfl rfl (fun hc => Does.strip (n' := [(71, (.opt (decide (x8 < p2.From)) (.int .i64 p3)))]) (n := [(71, (.int .i64 p3))]) ⟨(.opt _ _ hc), trivial⟩ (does_bin .eql 3 3 (.tmp 71) (.const (.int .i64 2)) .i64 p3 2 (.bool (p3 == 2)) trivial (fun _ => rfl) (bin_eql _ _ _ _))), ⟨⟨rfl, rfl, trivial⟩, trivial, rfl⟩, rfl,
              Step.plain rfl (does_and 70 72 (decide (x8 < p2.From)) (p3 == 2)), ⟨⟨rfl, rfl, trivial⟩, trivial, rfl⟩, rfl, rfl⟩ ?_
            refine aw_cov (cov_prune (s1 := ⟨[(3, (.int .i64 p3)), (4, (.ptr 0 0 [])), (5, (.ptr 1 0 [])), (6, (.ptr 2 0 [])), (10, (.int .i64 x8)), (73, (.bool ((decide (x8 < p2.From)) && (p3 == 2))))], [(0, some (.var (e_a8_u32 p0))), (1, some (.var (e_a8_u32 p1))), (2, some (.var (e_api_Place p2)))], 3⟩) ⟨rfl, rfl, rfl, rfl, rfl, rfl, trivial⟩ ⟨rfl, rfl, rfl, trivial⟩ (Nat.le_refl _)) ?_
            refine aw_cond rfl (fun hc => ?_) (fun hc => ?_)
            · replace H := ite_t hc H
              refine aw_skip ?_
              refine nx_seq ?_
              refine aw_seq ?_
              refine aw_block ?_
              obtain ⟨h10, H⟩ := ib_of H
              obtain ⟨h11, H⟩ := ibg_of H
              refine aw_draw (es := [_, _, _, _, _, _, _, _, _, _, _, _]) (mixed) ⟨Step.plain rfl (does_move (.tmp 10) (.int .i64 x8) trivial), ⟨⟨rfl, trivial⟩, trivial, rfl⟩, rfl,
                Step.plain rfl (does_indexAddr 25 8 1 5 1 0 [] (.var (e_a8_u32 p1)) (.tmp 76) .i64 x8 el25 trivial h10.1 h10.2), ⟨⟨rfl, rfl, trivial⟩, ⟨rfl, trivial⟩, rfl⟩, rfl,
                Step.plain rfl (does_load 22 77 1 (0 + x8.toNat * 1) [x8.toNat] (.var (e_a8_u32 p1)) (.int .u32 (p1 x8.toNat)) ⟨rfl, (ixl h10), trivial⟩ rfl rfl ty22), ⟨⟨rfl, trivial⟩, ⟨rfl, trivial⟩, rfl⟩, rfl,
                Step.plain rfl (does_bin .neq 22 22 (.tmp 78) (.const (.int .u32 0)) .u32 (p1 x8.toNat) 0 (.bool ((p1 x8.toNat) != 0)) trivial (fun _ => rfl) (bin_neq _ _ _ _)), ⟨⟨rfl, trivial⟩, trivial, rfl⟩, rfl,
                Step.plain rfl (does_move (.tmp 79) (.bool ((p1 x8.toNat) != 0)) trivial), ⟨⟨rfl, trivial⟩, trivial, rfl⟩, rfl,
                Step.guarded rfl rfl rfl rfl (fun hc => does_move (.tmp 10) (.int .i64 x8) trivial), ⟨⟨rfl, rfl, trivial⟩, trivial, rfl⟩, rfl,
                Step.guarded rfl rfl rfl rfl (fun hc => Does.strip (n' := [(4, (.ptr 0 0 [])), (81, (.opt ((p1 x8.toNat) != 0) (.int .i64 x8)))]) (n := [(4, (.ptr 0 0 [])), (81, (.int .i64 x8))]) ⟨(.same _), (.opt _ _ hc), trivial⟩ (does_indexAddr 24 8 1 4 0 0 [] (.var (e_a8_u32 p0)) (.tmp 81) .i64 x8 el24 trivial (h11 hc).1 (h11 hc).2)), ⟨⟨rfl, rfl, rfl, trivial⟩, ⟨rfl, trivial⟩, rfl⟩, rfl,
                Step.guarded rfl rfl rfl rfl (fun hc => Does.strip (n' := [(82, (.opt ((p1 x8.toNat) != 0) (.ptr 0 (0 + x8.toNat * 1) [x8.toNat])))]) (n := [(82, (.ptr 0 (0 + x8.toNat * 1) [x8.toNat]))]) ⟨(.opt _ _ hc), trivial⟩ (does_load 22 82 0 (0 + x8.toNat * 1) [x8.toNat] (.var (e_a8_u32 p0)) (.int .u32 (p0 x8.toNat)) ⟨rfl, (ixl (h11 hc)), trivial⟩ rfl rfl ty22)), ⟨⟨rfl, rfl, trivial⟩, ⟨rfl, trivial⟩, rfl⟩, rfl,
                Step.guarded rfl rfl rfl rfl (fun hc => does_fieldAddr 27 0 0 6 2 0 [] (.var (e_api_Place p2)) fl27_0), ⟨⟨rfl, rfl, trivial⟩, ⟨rfl, trivial⟩, rfl⟩, rfl,
                Step.guarded rfl rfl rfl rfl (fun hc => Does.strip (n' := [(84, (.opt ((p1 x8.toNat) != 0) (.ptr 2 (0 + 0) [0])))]) (n := [(84, (.ptr 2 (0 + 0) [0]))]) ⟨(.opt _ _ hc), trivial⟩ (does_load 22 84 2 (0 + 0) [0] (.var (e_api_Place p2)) (.int .u32 p2.Round) ⟨rfl, Nat.le_of_ble_eq_true rfl, trivial⟩ rfl rfl ty22)), ⟨⟨rfl, rfl, trivial⟩, ⟨rfl, trivial⟩, rfl⟩, rfl,
                Step.guarded rfl rfl rfl rfl (fun hc => Does.strip (n' := [(83, (.opt ((p1 x8.toNat) != 0) (.int .u32 (p0 x8.toNat)))), (85, (.opt ((p1 x8.toNat) != 0) (.int .u32 p2.Round)))]) (n := [(83, (.int .u32 (p0 x8.toNat))), (85, (.int .u32 p2.Round))]) ⟨(.opt _ _ hc), (.opt _ _ hc), trivial⟩ (does_bin .lss 22 22 (.tmp 83) (.tmp 85) .u32 (p0 x8.toNat) p2.Round (.bool (decide ((p0 x8.toNat) < p2.Round))) trivial trivial (bin_lss _ _ _ _))), ⟨⟨rfl, rfl, rfl, trivial⟩, trivial, rfl⟩, rfl,
                Step.plain rfl (does_and 80 86 ((p1 x8.toNat) != 0) (decide ((p0 x8.toNat) < p2.Round))), ⟨⟨rfl, rfl, trivial⟩, trivial, rfl⟩, rfl, rfl⟩ rfl ?_
              refine aw_cov (cov_prune (s1 := ⟨[(3, (.int .i64 p3)), (4, (.ptr 0 0 [])), (5, (.ptr 1 0 [])), (6, (.ptr 2 0 [])), (10, (.int .i64 x8)), (87, (.bool (((p1 x8.toNat) != 0) && (decide ((p0 x8.toNat) < p2.Round)))))], [(0, some (.var (e_a8_u32 p0))), (1, some (.var (e_a8_u32 p1))), (2, some (.var (e_api_Place p2)))], 3⟩) ⟨rfl, rfl, rfl, rfl, rfl, rfl, trivial⟩ ⟨rfl, rfl, rfl, trivial⟩ (Nat.le_refl _)) ?_
              refine aw_cond rfl (fun hc => ?_) (fun hc => ?_)
              · replace H := ite_t hc H
                refine aw_region (es := [_]) ⟨Step.plain rfl (does_assign (.const (.bool false)) (.bool false) (fun _ => rfl)), ⟨trivial, trivial, rfl⟩, rfl, rfl⟩ ?_
                refine aw_cov (cov_prune (s1 := ⟨[(8, (.bool false))], [], 3⟩) ⟨rfl, trivial⟩ trivial (Nat.le_refl _)) ?_
                refine aw_ret ?_
                replace H := rt_of H hsn9 Hrn9
                refine rt_blk ?_
                refine rt_then ?_
                refine rt_then ?_
                refine rt_blk ?_
                refine rt_then ?_
                refine rt_then ?_
                exact fun a w hr => ⟨_, [(.bool false)], hr, ⟨⟨_, rfl, .data _ trivial⟩, trivial⟩, by decide, by cases H; rfl⟩
              · replace H := ite_f hc H
                refine aw_skip ?_
                refine nx_blk ?_
                refine nx_seq ?_
                refine aw_region1 (es := [_, _, _]) ⟨Step.plain rfl (does_move (.tmp 10) (.int .i64 x8) trivial), ⟨⟨rfl, trivial⟩, trivial, rfl⟩, rfl,
                  Step.plain rfl (does_bin .add 3 3 (.tmp 74) (.const (.int .i64 1)) .i64 x8 1 (.int .i64 (IntKind.i64.wrap (x8 + 1))) trivial (fun _ => rfl) (bin_add _ _ _ _)), ⟨⟨rfl, trivial⟩, trivial, rfl⟩, rfl,
                  Step.plain rfl (does_assign (.tmp 75) (.int .i64 (IntKind.i64.wrap (x8 + 1))) trivial), ⟨⟨rfl, trivial⟩, trivial, rfl⟩, rfl, rfl⟩ ?_
                exact nx_loop ((IntKind.i64.wrap (x8 + 1))) H (cov_prune ⟨rfl, rfl, rfl, rfl, rfl, trivial⟩ ⟨rfl, rfl, rfl, trivial⟩ (Nat.le_of_ble_eq_true rfl))
            · replace H := ite_f hc H
              refine aw_exit ?_
              refine ex_then ?_
              refine ex_then ?_
              refine ex_here ?_
              exact nx_ljoin () H hsn9 (cov_prune trivial trivial (Nat.le_of_ble_eq_true rfl))

theorem round_Position_spec (p0 : (Nat → Int)) (p1 : (Nat → Int)) (r : api_Place) (H : round_Position p0 p1 = some r) : FSpec Try.prog 17 [(e_a8_u32 p0), (e_a8_u32 p1)] (e_api_Place r) := by
  refine spec_of (fn := Try.f17) (args := [(e_a8_u32 p0), (e_a8_u32 p1)]) Try.func17 rfl (Nat.le_of_ble_eq_true rfl) ?_
  rintro ⟨G, w0, W, S, Sp⟩ hG
  cases hG
  unfold round_Position at H
  refine aw_region (es := [_, _, _]) ⟨Step.plain rfl (does_box 24 (.tmp 0) 0 (e_a8_u32 p0) trivial rfl), ⟨⟨rfl, trivial⟩, trivial, rfl⟩, rfl,
    Step.plain rfl (does_box 25 (.tmp 1) 1 (e_a8_u32 p1) trivial rfl), ⟨⟨rfl, trivial⟩, trivial, rfl⟩, rfl,
    Step.plain rfl (does_alloc 27 2 (e_api_Place z_api_Place) zr27), ⟨trivial, trivial, rfl⟩, rfl, rfl⟩ ?_
  refine aw_cov (cov_prune (s1 := ⟨[(2, (.ptr 0 0 [])), (3, (.ptr 1 0 [])), (4, (.ptr 2 0 []))], [(0, some (.var (e_a8_u32 p0))), (1, some (.var (e_a8_u32 p1))), (2, some (.var (e_api_Place z_api_Place)))], 3⟩) ⟨rfl, rfl, rfl, trivial⟩ ⟨rfl, rfl, rfl, trivial⟩ (Nat.le_refl _)) ?_
  obtain ⟨v1, h2, H⟩ := bnd H
  refine aw_region (es := [_, _, _, _, _, _, _, _]) ⟨Step.plain rfl (does_load 24 2 0 0 [] (.var (e_a8_u32 p0)) (e_a8_u32 p0) trivial rfl rfl ty24), ⟨⟨rfl, trivial⟩, ⟨rfl, trivial⟩, rfl⟩, rfl,
    Step.plain rfl (does_load 25 3 1 0 [] (.var (e_a8_u32 p1)) (e_a8_u32 p1) trivial rfl rfl ty25), ⟨⟨rfl, trivial⟩, ⟨rfl, trivial⟩, rfl⟩, rfl,
    Step.plain rfl (does_call 11 0 (fun _ => .any) (.func 11) [(.tmp 10), (.tmp 11)] [(e_a8_u32 p0), (e_a8_u32 p1)] [] true [(e_a8_u32 p0), (e_a8_u32 p1)] (resV [(.int .u32 v1.1), (.bool v1.2)]) _ _ rfl fo11 rfl ⟨trivial, trivial, trivial⟩ ⟨.data _ (d_a8_u32 p0), .data _ (d_a8_u32 p1), trivial⟩ (round_Least_spec p0 p1 _ h2) (res_flat2 trivial trivial)), ⟨⟨rfl, rfl, trivial⟩, trivial, rfl⟩, rfl,
    Step.plain rfl (does_move (.tmp 12) (resV [(.int .u32 v1.1), (.bool v1.2)]) trivial), ⟨⟨rfl, trivial⟩, trivial, rfl⟩, rfl,
    Step.plain rfl (does_extract 9 0 2 (fun j => [(.int .u32 v1.1), (.bool v1.2)].getD j (.bool false)) (Nat.le_of_ble_eq_true rfl)), ⟨⟨rfl, trivial⟩, trivial, rfl⟩, rfl,
    Step.plain rfl (does_extract 9 1 2 (fun j => [(.int .u32 v1.1), (.bool v1.2)].getD j (.bool false)) (Nat.le_of_ble_eq_true rfl)), ⟨⟨rfl, trivial⟩, trivial, rfl⟩, rfl,
    Step.plain rfl (does_assign (.tmp 13) (.int .u32 v1.1) trivial), ⟨⟨rfl, trivial⟩, trivial, rfl⟩, rfl,
    Step.plain rfl (does_assign (.tmp 14) (.bool v1.2) trivial), ⟨⟨rfl, trivial⟩, trivial, rfl⟩, rfl, rfl⟩ ?_
  refine aw_cov (cov_prune (s1 := ⟨[(2, (.ptr 0 0 [])), (3, (.ptr 1 0 [])), (4, (.ptr 2 0 [])), (5, (.int .u32 v1.1))], [(0, some (.var (e_a8_u32 p0))), (1, some (.var (e_a8_u32 p1))), (2, some (.var (e_api_Place z_api_Place)))], 3⟩) ⟨rfl, rfl, rfl, rfl, trivial⟩ ⟨rfl, rfl, rfl, trivial⟩ (Nat.le_refl _)) ?_
  refine aw_seq ?_
  obtain ⟨v3, h4, H⟩ := bnd H
  refine aw_region (es := [_, _, _, _]) ⟨Step.plain rfl (does_load 25 3 1 0 [] (.var (e_a8_u32 p1)) (e_a8_u32 p1) trivial rfl rfl ty25), ⟨⟨rfl, trivial⟩, ⟨rfl, trivial⟩, rfl⟩, rfl,
    Step.plain rfl (does_call 22 0 (fun _ => .any) (.func 22) [(.tmp 15)] [(e_a8_u32 p1)] [] false [(e_a8_u32 p1)] (e_s_i64 v3) _ _ rfl fo22 rfl ⟨trivial, trivial⟩ ⟨.data _ (d_a8_u32 p1), trivial⟩ (ident_List_spec p1 _ h4) (d_s_i64 v3)), ⟨⟨rfl, trivial⟩, trivial, rfl⟩, rfl,
    Step.plain rfl (does_lens 50 1 v3.length 16 (fun j => (.int .i64 (v3.getD j 0))) el50), ⟨⟨rfl, trivial⟩, trivial, rfl⟩, rfl,
    Step.plain rfl (does_move (.const (.int .i64 0)) (.int .i64 0) (fun _ => rfl)), ⟨trivial, trivial, rfl⟩, rfl, rfl⟩ ?_
  refine aw_cov (cov_prune (s1 := ⟨[(2, (.ptr 0 0 [])), (4, (.ptr 2 0 [])), (5, (.int .u32 v1.1)), (16, (e_s_i64 v3)), (17, (.int .i64 (v3.length : Int))), (18, (.int .i64 0))], [(0, some (.var (e_a8_u32 p0))), (2, some (.var (e_api_Place z_api_Place)))], 3⟩) ⟨rfl, rfl, rfl, rfl, rfl, rfl, trivial⟩ ⟨rfl, rfl, trivial⟩ (Nat.le_refl _)) ?_
  obtain ⟨wn6, hwn6, Hrn6⟩ := bnd H
  refine aw_meet (fun y10 : Unit => (⟨[(4, (.ptr 2 0 []))], [(2, some (.var (e_api_Place z_api_Place)))], 3⟩ : St)) (fun y10 => Fl.nx y10 = wn6) (fun y10 hy => ?_) (aw_block (aw_runs (fun x5 : Int => (⟨[(2, (.ptr 0 0 [])), (4, (.ptr 2 0 [])), (5, (.int .u32 v1.1)), (16, (e_s_i64 v3)), (17, (.int .i64 (v3.length : Int))), (18, (.int .i64 x5))], [(0, some (.var (e_a8_u32 p0))), (2, some (.var (e_api_Place z_api_Place)))], 3⟩ : St)) hwn6 (cov_prune ⟨rfl, rfl, rfl, rfl, rfl, rfl, trivial⟩ ⟨rfl, rfl, trivial⟩ (Nat.le_of_ble_eq_true rfl)) (fun x5 st H hsn6 => ?_)))
  · have H := nx_of hy Hrn6
    refine nx_seq ?_
    refine aw_region (es := [_, _]) ⟨Step.plain rfl (does_buildT 27 #[] [] [] (.st [1, 1, 1]) (c_api_Place z_api_Place) (c_api_Place ({ Round := 0, From := 0, Slot := 0 } : api_Place)) rfl bo27 trivial trivial (by funext j; match j with | 0 => rfl | 1 => rfl | 2 => rfl | _ + 3 => rfl)), ⟨trivial, trivial, rfl⟩, rfl,
      Step.plain rfl (does_store 27 4 (.tmp 34) 2 0 [] (.var (e_api_Place z_api_Place)) (.var (e_api_Place ({ Round := 0, From := 0, Slot := 0 } : api_Place))) (e_api_Place ({ Round := 0, From := 0, Slot := 0 } : api_Place)) true trivial rfl trivial rfl rfl rfl ty27), ⟨⟨rfl, rfl, trivial⟩, ⟨rfl, trivial⟩, rfl⟩, rfl, rfl⟩ ?_
    refine aw_cov (cov_prune (s1 := ⟨[(4, (.ptr 2 0 []))], [(2, some (.var (e_api_Place ({ Round := 0, From := 0, Slot := 0 } : api_Place))))], 3⟩) ⟨rfl, trivial⟩ ⟨rfl, trivial⟩ (Nat.le_refl _)) ?_
    refine aw_ret ?_
    exact fun a w hr => ⟨_, [(e_api_Place ({ Round := 0, From := 0, Slot := 0 } : api_Place))], hr, ⟨⟨2, _, rfl, rfl, .data _ (d_api_Place ({ Round := 0, From := 0, Slot := 0 } : api_Place)), ty27⟩, trivial⟩, by decide, by cases H; rfl⟩
  · refine aw_region (es := [_]) ⟨Step.plain rfl (does_bin .lss 3 3 (.tmp 18) (.tmp 17) .i64 x5 (v3.length : Int) (.bool (decide (x5 < (v3.length : Int)))) trivial trivial (bin_lss _ _ _ _)), ⟨⟨rfl, rfl, trivial⟩, trivial, rfl⟩, rfl, rfl⟩ ?_
    refine aw_cov (cov_prune (s1 := ⟨[(2, (.ptr 0 0 [])), (4, (.ptr 2 0 [])), (5, (.int .u32 v1.1)), (16, (e_s_i64 v3)), (17, (.int .i64 (v3.length : Int))), (18, (.int .i64 x5)), (19, (.bool (decide (x5 < (v3.length : Int)))))], [(0, some (.var (e_a8_u32 p0))), (2, some (.var (e_api_Place z_api_Place)))], 3⟩) ⟨rfl, rfl, rfl, rfl, rfl, rfl, rfl, trivial⟩ ⟨rfl, rfl, trivial⟩ (Nat.le_refl _)) ?_
    refine aw_seq ?_
    refine aw_cond rfl (fun hc => ?_) (fun hc => ?_)
    · replace H := ite_t hc H
      refine aw_skip ?_
      refine nx_seq ?_
      refine aw_seq ?_
      refine aw_block ?_
      obtain ⟨h7, H⟩ := ib_of H
      refine aw_region (es := [_, _, _]) ⟨Step.plain rfl (does_indexAddrs 50 1 v3.length 16 (fun j => (.int .i64 (v3.getD j 0))) (.tmp 18) .i64 x5 el50 trivial h7.1 h7.2), ⟨⟨rfl, rfl, trivial⟩, trivial, rfl⟩, rfl,
        Step.plain rfl (does_loadc 3 20 (.int .i64 (v3.getD x5.toNat 0)) ty3), ⟨⟨rfl, trivial⟩, trivial, rfl⟩, rfl,
        Step.plain rfl (does_assign (.tmp 21) (.int .i64 (v3.getD x5.toNat 0)) trivial), ⟨⟨rfl, trivial⟩, trivial, rfl⟩, rfl, rfl⟩ ?_
      refine aw_cov (cov_prune (s1 := ⟨[(2, (.ptr 0 0 [])), (4, (.ptr 2 0 [])), (5, (.int .u32 v1.1)), (16, (e_s_i64 v3)), (17, (.int .i64 (v3.length : Int))), (18, (.int .i64 x5)), (8, (.int .i64 (v3.getD x5.toNat 0)))], [(0, some (.var (e_a8_u32 p0))), (2, some (.var (e_api_Place z_api_Place)))], 3⟩) ⟨rfl, rfl, rfl, rfl, rfl, rfl, rfl, trivial⟩ ⟨rfl, rfl, trivial⟩ (Nat.le_refl _)) ?_
      obtain ⟨h8, H⟩ := ib_of H
      refine aw_region (es := [_, _, _, _, _]) ⟨Step.plain rfl (does_move (.tmp 8) (.int .i64 (v3.getD x5.toNat 0)) trivial), ⟨⟨rfl, trivial⟩, trivial, rfl⟩, rfl,
        Step.plain rfl (does_indexAddr 24 8 1 2 0 0 [] (.var (e_a8_u32 p0)) (.tmp 22) .i64 (v3.getD x5.toNat 0) el24 trivial h8.1 h8.2), ⟨⟨rfl, rfl, trivial⟩, ⟨rfl, trivial⟩, rfl⟩, rfl,
        Step.plain rfl (does_load 22 23 0 (0 + (v3.getD x5.toNat 0).toNat * 1) [(v3.getD x5.toNat 0).toNat] (.var (e_a8_u32 p0)) (.int .u32 (p0 ((v3.getD x5.toNat 0).toNat))) ⟨rfl, (ixl h8), trivial⟩ rfl rfl ty22), ⟨⟨rfl, trivial⟩, ⟨rfl, trivial⟩, rfl⟩, rfl,
        Step.plain rfl (does_move (.tmp 5) (.int .u32 v1.1) trivial), ⟨⟨rfl, trivial⟩, trivial, rfl⟩, rfl,
        Step.plain rfl (does_bin .eql 22 22 (.tmp 24) (.tmp 25) .u32 (p0 ((v3.getD x5.toNat 0).toNat)) v1.1 (.bool ((p0 ((v3.getD x5.toNat 0).toNat)) == v1.1)) trivial trivial (bin_eql _ _ _ _)), ⟨⟨rfl, rfl, trivial⟩, trivial, rfl⟩, rfl, rfl⟩ ?_
      refine aw_cov (cov_prune (s1 := ⟨[(2, (.ptr 0 0 [])), (4, (.ptr 2 0 [])), (5, (.int .u32 v1.1)), (16, (e_s_i64 v3)), (17, (.int .i64 (v3.length : Int))), (18, (.int .i64 x5)), (8, (.int .i64 (v3.getD x5.toNat 0))), (26, (.bool ((p0 ((v3.getD x5.toNat 0).toNat)) == v1.1)))], [(0, some (.var (e_a8_u32 p0))), (2, some (.var (e_api_Place z_api_Place)))], 3⟩) ⟨rfl, rfl, rfl, rfl, rfl, rfl, rfl, rfl, trivial⟩ ⟨rfl, rfl, trivial⟩ (Nat.le_refl _)) ?_
      refine aw_cond rfl (fun hc => ?_) (fun hc => ?_)
      · replace H := ite_t hc H
        refine aw_region (es := [_, _, _, _, _, _, _]) ⟨Step.plain rfl (does_move (.tmp 5) (.int .u32 v1.1) trivial), ⟨⟨rfl, trivial⟩, trivial, rfl⟩, rfl,
          Step.plain rfl (does_move (.tmp 5) (.int .u32 v1.1) trivial), ⟨⟨rfl, trivial⟩, trivial, rfl⟩, rfl,
          Step.plain rfl (does_bin .add 22 22 (.tmp 28) (.const (.int .u32 1)) .u32 v1.1 1 (.int .u32 (IntKind.u32.wrap (v1.1 + 1))) trivial (fun _ => rfl) (bin_add _ _ _ _)), ⟨⟨rfl, trivial⟩, trivial, rfl⟩, rfl,
          Step.plain rfl (does_max _ _ (.tmp 27) (.tmp 29) rfl .u32 v1.1 (IntKind.u32.wrap (v1.1 + 1)) trivial trivial), ⟨⟨rfl, rfl, trivial⟩, trivial, rfl⟩, rfl,
          Step.plain rfl (does_move (.tmp 8) (.int .i64 (v3.getD x5.toNat 0)) trivial), ⟨⟨rfl, trivial⟩, trivial, rfl⟩, rfl,
          Step.plain rfl (does_buildT 27 #[(0, (.tmp 30)), (1, (.tmp 31))] [(0, (.tmp 30)), (1, (.tmp 31))] [(0, (.int .u32 (if v1.1 < (IntKind.u32.wrap (v1.1 + 1)) then (IntKind.u32.wrap (v1.1 + 1)) else v1.1))), (1, (.int .i64 (v3.getD x5.toNat 0)))] (.st [1, 1, 1]) (c_api_Place z_api_Place) (c_api_Place ({ Round := (if v1.1 < (IntKind.u32.wrap (v1.1 + 1)) then (IntKind.u32.wrap (v1.1 + 1)) else v1.1), From := v3.getD x5.toNat 0, Slot := 0 } : api_Place)) rfl bo27 ⟨⟨rfl, trivial⟩, ⟨rfl, trivial⟩, trivial⟩ ⟨⟨Nat.le_of_ble_eq_true rfl, rfl, rfl⟩, ⟨Nat.le_of_ble_eq_true rfl, rfl, rfl⟩, trivial⟩ (by funext j; match j with | 0 => rfl | 1 => rfl | 2 => rfl | _ + 3 => rfl)), ⟨⟨rfl, rfl, trivial⟩, trivial, rfl⟩, rfl,
          Step.plain rfl (does_store 27 4 (.tmp 32) 2 0 [] (.var (e_api_Place z_api_Place)) (.var (e_api_Place ({ Round := (if v1.1 < (IntKind.u32.wrap (v1.1 + 1)) then (IntKind.u32.wrap (v1.1 + 1)) else v1.1), From := v3.getD x5.toNat 0, Slot := 0 } : api_Place))) (e_api_Place ({ Round := (if v1.1 < (IntKind.u32.wrap (v1.1 + 1)) then (IntKind.u32.wrap (v1.1 + 1)) else v1.1), From := v3.getD x5.toNat 0, Slot := 0 } : api_Place)) true trivial rfl trivial rfl rfl rfl ty27), ⟨⟨rfl, rfl, trivial⟩, ⟨rfl, trivial⟩, rfl⟩, rfl, rfl⟩ ?_
        obtain ⟨v9, hv9, H⟩ := lt_of H
        refine aw_cov (cov_prune (s1 := ⟨[(4, (.ptr 2 0 []))], [(2, some (.var (e_api_Place v9)))], 3⟩) ⟨rfl, trivial⟩ ⟨(by subst hv9; rfl), trivial⟩ (Nat.le_refl _)) ?_
        refine aw_ret ?_
        replace H := rt_of H hsn6 Hrn6
        refine rt_blk ?_
        refine rt_then ?_
        refine rt_then ?_
        refine rt_blk ?_
        refine rt_then ?_
        refine rt_then ?_
        exact fun a w hr => ⟨_, [(e_api_Place v9)], hr, ⟨⟨2, _, rfl, rfl, .data _ (d_api_Place v9), ty27⟩, trivial⟩, by decide, by cases H; rfl⟩
      · replace H := ite_f hc H
        refine aw_skip ?_
        refine nx_blk ?_
        refine nx_seq ?_
        refine aw_region1 (es := [_, _]) ⟨Step.plain rfl (does_bin .add 3 3 (.tmp 18) (.const (.int .i64 1)) .i64 x5 1 (.int .i64 (IntKind.i64.wrap (x5 + 1))) trivial (fun _ => rfl) (bin_add _ _ _ _)), ⟨⟨rfl, trivial⟩, trivial, rfl⟩, rfl,
          Step.plain rfl (does_move (.tmp 33) (.int .i64 (IntKind.i64.wrap (x5 + 1))) trivial), ⟨⟨rfl, trivial⟩, trivial, rfl⟩, rfl, rfl⟩ ?_
        exact nx_loop ((IntKind.i64.wrap (x5 + 1))) H (cov_prune ⟨rfl, rfl, rfl, rfl, rfl, rfl, trivial⟩ ⟨rfl, rfl, trivial⟩ (Nat.le_of_ble_eq_true rfl))
    · replace H := ite_f hc H
      refine aw_exit ?_
      refine ex_then ?_
      refine ex_then ?_
      refine ex_here ?_
      exact nx_ljoin () H hsn6 (cov_prune ⟨rfl, trivial⟩ ⟨rfl, trivial⟩ (Nat.le_of_ble_eq_true rfl))
end Go.Proofs.Ytgcnlfchpjbhkaa
