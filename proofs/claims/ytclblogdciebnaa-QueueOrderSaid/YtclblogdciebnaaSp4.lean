/- Printed by gen.py. Conditions: none. -/
import Derived.Test.YtclblogdciebnaaSp3
import Derived.KernelRfl
set_option linter.unusedVariables false
set_option maxRecDepth 100000
namespace Go.Proofs.Ytclblogdciebnaa
open Go.Eng
set_option maxHeartbeats 1600000
theorem congressref09_Before_spec (p0 : api_Place) (p1 : api_Place) (r : Bool) (H : congressref09_Before p0 p1 = some r) : FSpec Try.prog 21 [(e_api_Place p0), (e_api_Place p1)] (.bool r) := by
  refine spec_of (fn := Try.f21) (args := [(e_api_Place p0), (e_api_Place p1)]) Try.func21 rfl (Nat.le_of_ble_eq_true rfl) ?_
  rintro ⟨G, w0, W, S, Sp⟩ hG
  cases hG
  unfold congressref09_Before at H
  refine aw_region (es := [_, _, _]) ⟨Step.plain rfl (does_box 42 (.tmp 0) 0 (e_api_Place p0) trivial rfl), ⟨⟨rfl, trivial⟩, trivial, rfl⟩, rfl,
    Step.plain rfl (does_box 42 (.tmp 1) 1 (e_api_Place p1) trivial rfl), ⟨⟨rfl, trivial⟩, trivial, rfl⟩, rfl,
    Step.plain rfl (does_assign (.const (.bool false)) (.bool false) (fun _ => rfl)), ⟨trivial, trivial, rfl⟩, rfl, rfl⟩ ?_
  refine aw_cov (cov_prune (s1 := ⟨[(2, (.ptr 0 0 [])), (3, (.ptr 1 0 []))], [(0, some (.var (e_api_Place p0))), (1, some (.var (e_api_Place p1)))], 2⟩) ⟨rfl, rfl, trivial⟩ ⟨rfl, rfl, trivial⟩ (Nat.le_refl _)) ?_
  refine aw_seq ?_
  refine aw_region (es := [_, _, _, _, _]) ⟨Step.plain rfl (does_fieldAddr 42 0 0 2 0 0 [] (.var (e_api_Place p0)) fl42_0), ⟨⟨rfl, trivial⟩, ⟨rfl, trivial⟩, rfl⟩, rfl,
    Step.plain rfl (does_load 23 5 0 (0 + 0) [0] (.var (e_api_Place p0)) (.int .u32 p0.Round) ⟨rfl, Nat.le_of_ble_eq_true rfl, trivial⟩ rfl rfl ty23), ⟨⟨rfl, trivial⟩, ⟨rfl, trivial⟩, rfl⟩, rfl,
    Step.plain rfl (does_fieldAddr 42 0 0 3 1 0 [] (.var (e_api_Place p1)) fl42_0), ⟨⟨rfl, trivial⟩, ⟨rfl, trivial⟩, rfl⟩, rfl,
    Step.plain rfl (does_load 23 7 1 (0 + 0) [0] (.var (e_api_Place p1)) (.int .u32 p1.Round) ⟨rfl, Nat.le_of_ble_eq_true rfl, trivial⟩ rfl rfl ty23), ⟨⟨rfl, trivial⟩, ⟨rfl, trivial⟩, rfl⟩, rfl,
    Step.plain rfl (does_bin .neq 23 23 (.tmp 6) (.tmp 8) .u32 p0.Round p1.Round (.bool (p0.Round != p1.Round)) trivial trivial (bin_neq _ _ _ _)), ⟨⟨rfl, rfl, trivial⟩, trivial, rfl⟩, rfl, rfl⟩ ?_
  refine aw_cov (cov_prune (s1 := ⟨[(2, (.ptr 0 0 [])), (3, (.ptr 1 0 [])), (9, (.bool (p0.Round != p1.Round)))], [(0, some (.var (e_api_Place p0))), (1, some (.var (e_api_Place p1)))], 2⟩) ⟨rfl, rfl, rfl, trivial⟩ ⟨rfl, rfl, trivial⟩ (Nat.le_refl _)) ?_
  refine aw_cond rfl (fun hc => ?_) (fun hc => ?_)
  · replace H := ite_t hc H
    refine aw_region (es := [_, _, _, _, _, _]) ⟨Step.plain rfl (does_fieldAddr 42 0 0 2 0 0 [] (.var (e_api_Place p0)) fl42_0), ⟨⟨rfl, trivial⟩, ⟨rfl, trivial⟩, rfl⟩, rfl,
      Step.plain rfl (does_load 23 10 0 (0 + 0) [0] (.var (e_api_Place p0)) (.int .u32 p0.Round) ⟨rfl, Nat.le_of_ble_eq_true rfl, trivial⟩ rfl rfl ty23), ⟨⟨rfl, trivial⟩, ⟨rfl, trivial⟩, rfl⟩, rfl,
      Step.plain rfl (does_fieldAddr 42 0 0 3 1 0 [] (.var (e_api_Place p1)) fl42_0), ⟨⟨rfl, trivial⟩, ⟨rfl, trivial⟩, rfl⟩, rfl,
      Step.plain rfl (does_load 23 12 1 (0 + 0) [0] (.var (e_api_Place p1)) (.int .u32 p1.Round) ⟨rfl, Nat.le_of_ble_eq_true rfl, trivial⟩ rfl rfl ty23), ⟨⟨rfl, trivial⟩, ⟨rfl, trivial⟩, rfl⟩, rfl,
      Step.plain rfl (does_bin .lss 23 23 (.tmp 11) (.tmp 13) .u32 p0.Round p1.Round (.bool (decide (p0.Round < p1.Round))) trivial trivial (bin_lss _ _ _ _)), ⟨⟨rfl, rfl, trivial⟩, trivial, rfl⟩, rfl,
      Step.plain rfl (does_assign (.tmp 14) (.bool (decide (p0.Round < p1.Round))) trivial), ⟨⟨rfl, trivial⟩, trivial, rfl⟩, rfl, rfl⟩ ?_
    refine aw_cov (cov_prune (s1 := ⟨[(4, (.bool (decide (p0.Round < p1.Round))))], [], 2⟩) ⟨rfl, trivial⟩ trivial (Nat.le_refl _)) ?_
    refine aw_ret ?_
    refine rt_then ?_
    exact fun a w hr => ⟨_, [(.bool (decide (p0.Round < p1.Round)))], hr, ⟨⟨_, rfl, .data (.bool (decide (p0.Round < p1.Round))) trivial⟩, trivial⟩, by decide, by cases H; rfl⟩
  · replace H := ite_f hc H
    refine aw_skip ?_
    refine nx_seq ?_
    refine aw_seq ?_
    refine aw_region (es := [_, _, _, _, _]) ⟨Step.plain rfl (does_fieldAddr 42 1 1 2 0 0 [] (.var (e_api_Place p0)) fl42_1), ⟨⟨rfl, trivial⟩, ⟨rfl, trivial⟩, rfl⟩, rfl,
      Step.plain rfl (does_load 3 15 0 (0 + 1) [1] (.var (e_api_Place p0)) (.int .i64 p0.From) ⟨rfl, Nat.le_of_ble_eq_true rfl, trivial⟩ rfl rfl ty3), ⟨⟨rfl, trivial⟩, ⟨rfl, trivial⟩, rfl⟩, rfl,
      Step.plain rfl (does_fieldAddr 42 1 1 3 1 0 [] (.var (e_api_Place p1)) fl42_1), ⟨⟨rfl, trivial⟩, ⟨rfl, trivial⟩, rfl⟩, rfl,
      Step.plain rfl (does_load 3 17 1 (0 + 1) [1] (.var (e_api_Place p1)) (.int .i64 p1.From) ⟨rfl, Nat.le_of_ble_eq_true rfl, trivial⟩ rfl rfl ty3), ⟨⟨rfl, trivial⟩, ⟨rfl, trivial⟩, rfl⟩, rfl,
      Step.plain rfl (does_bin .neq 3 3 (.tmp 16) (.tmp 18) .i64 p0.From p1.From (.bool (p0.From != p1.From)) trivial trivial (bin_neq _ _ _ _)), ⟨⟨rfl, rfl, trivial⟩, trivial, rfl⟩, rfl, rfl⟩ ?_
    refine aw_cov (cov_prune (s1 := ⟨[(2, (.ptr 0 0 [])), (3, (.ptr 1 0 [])), (19, (.bool (p0.From != p1.From)))], [(0, some (.var (e_api_Place p0))), (1, some (.var (e_api_Place p1)))], 2⟩) ⟨rfl, rfl, rfl, trivial⟩ ⟨rfl, rfl, trivial⟩ (Nat.le_refl _)) ?_
    refine aw_cond rfl (fun hc => ?_) (fun hc => ?_)
    · replace H := ite_t hc H
      refine aw_region (es := [_, _, _, _, _, _]) ⟨Step.plain rfl (does_fieldAddr 42 1 1 2 0 0 [] (.var (e_api_Place p0)) fl42_1), ⟨⟨rfl, trivial⟩, ⟨rfl, trivial⟩, rfl⟩, rfl,
        Step.plain rfl (does_load 3 20 0 (0 + 1) [1] (.var (e_api_Place p0)) (.int .i64 p0.From) ⟨rfl, Nat.le_of_ble_eq_true rfl, trivial⟩ rfl rfl ty3), ⟨⟨rfl, trivial⟩, ⟨rfl, trivial⟩, rfl⟩, rfl,
        Step.plain rfl (does_fieldAddr 42 1 1 3 1 0 [] (.var (e_api_Place p1)) fl42_1), ⟨⟨rfl, trivial⟩, ⟨rfl, trivial⟩, rfl⟩, rfl,
        Step.plain rfl (does_load 3 22 1 (0 + 1) [1] (.var (e_api_Place p1)) (.int .i64 p1.From) ⟨rfl, Nat.le_of_ble_eq_true rfl, trivial⟩ rfl rfl ty3), ⟨⟨rfl, trivial⟩, ⟨rfl, trivial⟩, rfl⟩, rfl,
        Step.plain rfl (does_bin .lss 3 3 (.tmp 21) (.tmp 23) .i64 p0.From p1.From (.bool (decide (p0.From < p1.From))) trivial trivial (bin_lss _ _ _ _)), ⟨⟨rfl, rfl, trivial⟩, trivial, rfl⟩, rfl,
        Step.plain rfl (does_assign (.tmp 24) (.bool (decide (p0.From < p1.From))) trivial), ⟨⟨rfl, trivial⟩, trivial, rfl⟩, rfl, rfl⟩ ?_
      refine aw_cov (cov_prune (s1 := ⟨[(4, (.bool (decide (p0.From < p1.From))))], [], 2⟩) ⟨rfl, trivial⟩ trivial (Nat.le_refl _)) ?_
      refine aw_ret ?_
      refine rt_then ?_
      exact fun a w hr => ⟨_, [(.bool (decide (p0.From < p1.From)))], hr, ⟨⟨_, rfl, .data (.bool (decide (p0.From < p1.From))) trivial⟩, trivial⟩, by decide, by cases H; rfl⟩
    · replace H := ite_f hc H
      refine aw_skip ?_
      refine nx_seq ?_
      refine aw_region (es := [_, _, _, _, _, _]) ⟨Step.plain rfl (does_fieldAddr 42 2 2 2 0 0 [] (.var (e_api_Place p0)) fl42_2), ⟨⟨rfl, trivial⟩, ⟨rfl, trivial⟩, rfl⟩, rfl,
        Step.plain rfl (does_load 3 25 0 (0 + 2) [2] (.var (e_api_Place p0)) (.int .i64 p0.Slot) ⟨rfl, Nat.le_of_ble_eq_true rfl, trivial⟩ rfl rfl ty3), ⟨⟨rfl, trivial⟩, ⟨rfl, trivial⟩, rfl⟩, rfl,
        Step.plain rfl (does_fieldAddr 42 2 2 3 1 0 [] (.var (e_api_Place p1)) fl42_2), ⟨⟨rfl, trivial⟩, ⟨rfl, trivial⟩, rfl⟩, rfl,
        Step.plain rfl (does_load 3 27 1 (0 + 2) [2] (.var (e_api_Place p1)) (.int .i64 p1.Slot) ⟨rfl, Nat.le_of_ble_eq_true rfl, trivial⟩ rfl rfl ty3), ⟨⟨rfl, trivial⟩, ⟨rfl, trivial⟩, rfl⟩, rfl,
        Step.plain rfl (does_bin .lss 3 3 (.tmp 26) (.tmp 28) .i64 p0.Slot p1.Slot (.bool (decide (p0.Slot < p1.Slot))) trivial trivial (bin_lss _ _ _ _)), ⟨⟨rfl, rfl, trivial⟩, trivial, rfl⟩, rfl,
        Step.plain rfl (does_assign (.tmp 29) (.bool (decide (p0.Slot < p1.Slot))) trivial), ⟨⟨rfl, trivial⟩, trivial, rfl⟩, rfl, rfl⟩ ?_
      refine aw_cov (cov_prune (s1 := ⟨[(4, (.bool (decide (p0.Slot < p1.Slot))))], [], 2⟩) ⟨rfl, trivial⟩ trivial (Nat.le_refl _)) ?_
      refine aw_ret ?_
      exact fun a w hr => ⟨_, [(.bool (decide (p0.Slot < p1.Slot)))], hr, ⟨⟨_, rfl, .data (.bool (decide (p0.Slot < p1.Slot))) trivial⟩, trivial⟩, by decide, by cases H; rfl⟩

theorem congressref22_Add_spec (p0 : (_root_.List api_Wait)) (p1 : Int) (p2 : Int) (p3 : (_root_.List api_Entry)) (r : (_root_.List api_Wait)) (H : congressref22_Add p0 p1 p2 p3 = some r) : FSpec Try.prog 13 [(e_s_api_Wait p0), (.int .i64 p1), (.int .u32 p2), (e_s_api_Entry p3)] (e_s_api_Wait r) := by
  refine spec_of (fn := Try.f13) (args := [(e_s_api_Wait p0), (.int .i64 p1), (.int .u32 p2), (e_s_api_Entry p3)]) Try.func13 rfl (Nat.le_of_ble_eq_true rfl) ?_
  rintro ⟨G, w0, W, S, Sp⟩ hG
  cases hG
  unfold congressref22_Add at H
  refine aw_region (es := [_]) ⟨Step.plain rfl (does_nil false 0 9 (fun j => (e_api_Wait (([] : _root_.List api_Wait).getD j z_api_Wait)))), ⟨trivial, trivial, rfl⟩, rfl, rfl⟩ ?_
  refine aw_cov (cov_prune (s1 := ⟨[(0, (e_s_api_Wait p0)), (1, (.int .i64 p1)), (2, (.int .u32 p2)), (3, (e_s_api_Entry p3))], [], 1⟩) ⟨rfl, rfl, rfl, rfl, trivial⟩ trivial (Nat.le_refl _)) ?_
  refine aw_seq ?_
  refine aw_region (es := [_]) ⟨Step.plain rfl (does_assign (.const (.int .i64 0)) (.int .i64 0) (fun _ => rfl)), ⟨trivial, trivial, rfl⟩, rfl, rfl⟩ ?_
  refine aw_cov (cov_prune (s1 := ⟨[(0, (e_s_api_Wait p0)), (1, (.int .i64 p1)), (2, (.int .u32 p2)), (3, (e_s_api_Entry p3)), (9, (.int .i64 0))], [], 1⟩) ⟨rfl, rfl, rfl, rfl, rfl, trivial⟩ trivial (Nat.le_refl _)) ?_
  obtain ⟨wn2, hwn2, Hrn2⟩ := bnd H
  refine aw_meet (fun y29 : (_root_.List api_Wait) => (⟨[(0, (e_s_api_Wait y29))], [], 1⟩ : St)) (fun y29 => Fl.nx y29 = wn2) (fun y29 hy => ?_) (aw_block (aw_runs (fun x1 : (_root_.List api_Wait) × Int × Int × (_root_.List api_Entry) × Int => (⟨[(0, (e_s_api_Wait x1.1)), (1, (.int .i64 x1.2.1)), (2, (.int .u32 x1.2.2.1)), (3, (e_s_api_Entry x1.2.2.2.1)), (9, (.int .i64 x1.2.2.2.2))], [], 1⟩ : St)) hwn2 (cov_prune ⟨rfl, rfl, rfl, rfl, rfl, trivial⟩ trivial (Nat.le_of_ble_eq_true rfl)) (fun x1 st H hsn2 => ?_)))
  · have H := nx_of hy Hrn2
    refine nx_seq ?_
    refine aw_region (es := [_, _]) ⟨Step.plain rfl (does_move (.tmp 0) (e_s_api_Wait y29) trivial), ⟨⟨rfl, trivial⟩, trivial, rfl⟩, rfl,
      Step.plain rfl (does_assign (.tmp 90) (e_s_api_Wait y29) trivial), ⟨⟨rfl, trivial⟩, trivial, rfl⟩, rfl, rfl⟩ ?_
    refine aw_cov (cov_prune (s1 := ⟨[(8, (e_s_api_Wait y29))], [], 1⟩) ⟨rfl, trivial⟩ trivial (Nat.le_refl _)) ?_
    refine aw_ret ?_
    exact fun a w hr => ⟨_, [(e_s_api_Wait y29)], hr, ⟨⟨_, rfl, .data (e_s_api_Wait y29) (d_s_api_Wait y29)⟩, trivial⟩, by decide, by cases H; rfl⟩
  · refine aw_seq ?_
    refine aw_region (es := [_, _, _, _]) ⟨Step.plain rfl (does_move (.tmp 9) (.int .i64 x1.2.2.2.2) trivial), ⟨⟨rfl, trivial⟩, trivial, rfl⟩, rfl,
      Step.plain rfl (does_move (.tmp 3) (e_s_api_Entry x1.2.2.2.1) trivial), ⟨⟨rfl, trivial⟩, trivial, rfl⟩, rfl,
      Step.plain rfl (does_lens 24 6 x1.2.2.2.1.length 16 (fun j => (e_api_Entry (x1.2.2.2.1.getD j z_api_Entry))) el24), ⟨⟨rfl, trivial⟩, trivial, rfl⟩, rfl,
      Step.plain rfl (does_bin .lss 3 3 (.tmp 15) (.tmp 17) .i64 x1.2.2.2.2 (x1.2.2.2.1.length : Int) (.bool (decide (x1.2.2.2.2 < (x1.2.2.2.1.length : Int)))) trivial trivial (bin_lss _ _ _ _)), ⟨⟨rfl, rfl, trivial⟩, trivial, rfl⟩, rfl, rfl⟩ ?_
    refine aw_cov (cov_prune (s1 := ⟨[(0, (e_s_api_Wait x1.1)), (1, (.int .i64 x1.2.1)), (2, (.int .u32 x1.2.2.1)), (3, (e_s_api_Entry x1.2.2.2.1)), (9, (.int .i64 x1.2.2.2.2)), (18, (.bool (decide (x1.2.2.2.2 < (x1.2.2.2.1.length : Int)))))], [], 1⟩) ⟨rfl, rfl, rfl, rfl, rfl, rfl, trivial⟩ trivial (Nat.le_refl _)) ?_
    refine aw_cond rfl (fun hc => ?_) (fun hc => ?_)
    · replace H := ite_t hc H
      refine aw_skip ?_
      refine nx_seq ?_
      refine aw_seq ?_
      refine aw_jn (fun x28 : (_root_.List api_Wait) × Int × Int × (_root_.List api_Entry) × Int => (⟨[(0, (e_s_api_Wait x28.1)), (1, (.int .i64 x28.2.1)), (2, (.int .u32 x28.2.2.1)), (3, (e_s_api_Entry x28.2.2.2.1)), (9, (.int .i64 x28.2.2.2.2))], [], 4⟩ : St)) H (fun x28 H => ?_) (fun j3 H => ?_)
      · refine nx_seq ?_
        refine aw_region1 (es := [_, _, _]) ⟨Step.plain rfl (does_move (.tmp 9) (.int .i64 x28.2.2.2.2) trivial), ⟨⟨rfl, trivial⟩, trivial, rfl⟩, rfl,
          Step.plain rfl (does_bin .add 3 3 (.tmp 19) (.const (.int .i64 1)) .i64 x28.2.2.2.2 1 (.int .i64 (IntKind.i64.wrap (x28.2.2.2.2 + 1))) trivial (fun _ => rfl) (bin_add _ _ _ _)), ⟨⟨rfl, trivial⟩, trivial, rfl⟩, rfl,
          Step.plain rfl (does_assign (.tmp 20) (.int .i64 (IntKind.i64.wrap (x28.2.2.2.2 + 1))) trivial), ⟨⟨rfl, trivial⟩, trivial, rfl⟩, rfl, rfl⟩ ?_
        exact nx_loop (x28.1, x28.2.1, x28.2.2.1, x28.2.2.2.1, (IntKind.i64.wrap (x28.2.2.2.2 + 1))) H (cov_of (fun i => i) ⟨⟨_, rfl, ⟨rfl, (d_s_api_Wait _).plain⟩⟩, ⟨_, rfl, ⟨rfl, trivial⟩⟩, ⟨_, rfl, ⟨rfl, trivial⟩⟩, ⟨_, rfl, ⟨rfl, (d_s_api_Entry _).plain⟩⟩, ⟨_, rfl, ⟨rfl, trivial⟩⟩, trivial⟩ trivial rfl)
      · refine aw_block ?_
        refine aw_seq ?_
        obtain ⟨h4, H⟩ := ib_of H
        refine aw_region (es := [_, _, _, _, _, _]) ⟨Step.plain rfl (does_move (.tmp 3) (e_s_api_Entry x1.2.2.2.1) trivial), ⟨⟨rfl, trivial⟩, trivial, rfl⟩, rfl,
          Step.plain rfl (does_move (.tmp 9) (.int .i64 x1.2.2.2.2) trivial), ⟨⟨rfl, trivial⟩, trivial, rfl⟩, rfl,
          Step.plain rfl (does_indexAddrs 24 6 x1.2.2.2.1.length 21 (fun j => (e_api_Entry (x1.2.2.2.1.getD j z_api_Entry))) (.tmp 22) .i64 x1.2.2.2.2 el24 trivial h4.1 h4.2), ⟨⟨rfl, rfl, trivial⟩, trivial, rfl⟩, rfl,
          Step.plain rfl (does_loadc 45 23 (e_api_Entry (x1.2.2.2.1.getD x1.2.2.2.2.toNat z_api_Entry)) ty45), ⟨⟨rfl, trivial⟩, trivial, rfl⟩, rfl,
          Step.plain rfl (does_buildT 45 #[] [] [] (.st [1, 1, 1, 1, 1, 1]) (c_api_Entry z_api_Entry) (c_api_Entry ({ Kind := 0, Service := 0, Group := 0, Session := 0, Number := 0, Text := ByteArray.empty } : api_Entry)) rfl bo45 trivial trivial (by funext j; match j with | 0 => rfl | 1 => rfl | 2 => rfl | 3 => rfl | 4 => rfl | 5 => rfl | _ + 6 => rfl)), ⟨trivial, trivial, rfl⟩, rfl,
          Step.plain rfl (does_eqT false 45 45 (.tmp 24) (.tmp 25) (e_api_Entry (x1.2.2.2.1.getD x1.2.2.2.2.toNat z_api_Entry)) (e_api_Entry ({ Kind := 0, Service := 0, Group := 0, Session := 0, Number := 0, Text := ByteArray.empty } : api_Entry)) (e_api_Entry z_api_Entry) (b_api_Entry (x1.2.2.2.1.getD x1.2.2.2.2.toNat z_api_Entry) ({ Kind := 0, Service := 0, Group := 0, Session := 0, Number := 0, Text := ByteArray.empty } : api_Entry)) rfl rfl trivial trivial eg45 sh45 (al_api_Entry _ _) (al_api_Entry _ _) (q_api_Entry _ _)), ⟨⟨rfl, rfl, trivial⟩, trivial, rfl⟩, rfl, rfl⟩ ?_
        obtain ⟨v5, hv5, H⟩ := lt_of H
        refine aw_cov (cov_prune (s1 := ⟨[(0, (e_s_api_Wait x1.1)), (1, (.int .i64 x1.2.1)), (2, (.int .u32 x1.2.2.1)), (3, (e_s_api_Entry x1.2.2.2.1)), (9, (.int .i64 x1.2.2.2.2)), (26, (.bool v5))], [], 1⟩) ⟨rfl, rfl, rfl, rfl, rfl, (by subst hv5; rfl), trivial⟩ trivial (Nat.le_refl _)) ?_
        refine aw_cond rfl (fun hc => ?_) (fun hc => ?_)
        · replace H := ite_t hc H
          refine aw_exit ?_
          refine ex_then ?_
          refine ex_here ?_
          exact nx_join (x1.1, x1.2.1, x1.2.2.1, x1.2.2.2.1, x1.2.2.2.2) H (cov_prune ⟨rfl, rfl, rfl, rfl, rfl, trivial⟩ trivial (Nat.le_of_ble_eq_true rfl))
        · replace H := ite_f hc H
          refine aw_skip ?_
          refine nx_seq ?_
          obtain ⟨h6, H⟩ := ib_of H
          refine aw_region (es := [_, _, _, _, _, _, _, _, _, _, _]) ⟨Step.plain rfl (does_move (.tmp 2) (.int .u32 x1.2.2.1) trivial), ⟨⟨rfl, trivial⟩, trivial, rfl⟩, rfl,
            Step.plain rfl (does_move (.tmp 1) (.int .i64 x1.2.1) trivial), ⟨⟨rfl, trivial⟩, trivial, rfl⟩, rfl,
            Step.plain rfl (does_move (.tmp 9) (.int .i64 x1.2.2.2.2) trivial), ⟨⟨rfl, trivial⟩, trivial, rfl⟩, rfl,
            Step.plain rfl (does_buildT 42 #[(0, (.tmp 27)), (1, (.tmp 28)), (2, (.tmp 29))] [(0, (.tmp 27)), (1, (.tmp 28)), (2, (.tmp 29))] [(0, (.int .u32 x1.2.2.1)), (1, (.int .i64 x1.2.1)), (2, (.int .i64 x1.2.2.2.2))] (.st [1, 1, 1]) (c_api_Place z_api_Place) (c_api_Place ({ Round := x1.2.2.1, From := x1.2.1, Slot := x1.2.2.2.2 } : api_Place)) rfl bo42 ⟨⟨rfl, trivial⟩, ⟨rfl, trivial⟩, ⟨rfl, trivial⟩, trivial⟩ ⟨⟨Nat.le_of_ble_eq_true rfl, rfl, rfl⟩, ⟨Nat.le_of_ble_eq_true rfl, rfl, rfl⟩, ⟨Nat.le_of_ble_eq_true rfl, rfl, rfl⟩, trivial⟩ (by funext j; match j with | 0 => rfl | 1 => rfl | 2 => rfl | _ + 3 => rfl)), ⟨⟨rfl, rfl, rfl, trivial⟩, trivial, rfl⟩, rfl,
            Step.plain rfl (does_move (.tmp 3) (e_s_api_Entry x1.2.2.2.1) trivial), ⟨⟨rfl, trivial⟩, trivial, rfl⟩, rfl,
            Step.plain rfl (does_move (.tmp 9) (.int .i64 x1.2.2.2.2) trivial), ⟨⟨rfl, trivial⟩, trivial, rfl⟩, rfl,
            Step.plain rfl (does_indexAddrs 24 6 x1.2.2.2.1.length 31 (fun j => (e_api_Entry (x1.2.2.2.1.getD j z_api_Entry))) (.tmp 32) .i64 x1.2.2.2.2 el24 trivial h6.1 h6.2), ⟨⟨rfl, rfl, trivial⟩, trivial, rfl⟩, rfl,
            Step.plain rfl (does_loadc 45 33 (e_api_Entry (x1.2.2.2.1.getD x1.2.2.2.2.toNat z_api_Entry)) ty45), ⟨⟨rfl, trivial⟩, trivial, rfl⟩, rfl,
            Step.plain rfl (does_buildT 47 #[(0, (.tmp 30)), (1, (.tmp 34))] [(0, (.tmp 30)), (1, (.tmp 34))] [(0, (e_api_Place ({ Round := x1.2.2.1, From := x1.2.1, Slot := x1.2.2.2.2 } : api_Place))), (1, (e_api_Entry (x1.2.2.2.1.getD x1.2.2.2.2.toNat z_api_Entry)))] (.st [3, 6]) (c_api_Wait z_api_Wait) (c_api_Wait ({ Place := ({ Round := x1.2.2.1, From := x1.2.1, Slot := x1.2.2.2.2 } : api_Place), Entry := x1.2.2.2.1.getD x1.2.2.2.2.toNat z_api_Entry } : api_Wait)) rfl bo47 ⟨⟨rfl, trivial⟩, ⟨rfl, trivial⟩, trivial⟩ ⟨⟨Nat.le_of_ble_eq_true rfl, rfl, rfl⟩, ⟨Nat.le_of_ble_eq_true rfl, rfl, rfl⟩, trivial⟩ (by funext j; match j with | 0 => rfl | 1 => rfl | _ + 2 => rfl)), ⟨⟨rfl, rfl, trivial⟩, trivial, rfl⟩, rfl,
            Step.plain rfl (does_alloc 47 1 (e_api_Wait z_api_Wait) zr47), ⟨trivial, trivial, rfl⟩, rfl,
            Step.plain rfl (does_store 47 10 (.tmp 35) 1 0 [] (.var (e_api_Wait z_api_Wait)) (.var (e_api_Wait ({ Place := ({ Round := x1.2.2.1, From := x1.2.1, Slot := x1.2.2.2.2 } : api_Place), Entry := x1.2.2.2.1.getD x1.2.2.2.2.toNat z_api_Entry } : api_Wait))) (e_api_Wait ({ Place := ({ Round := x1.2.2.1, From := x1.2.1, Slot := x1.2.2.2.2 } : api_Place), Entry := x1.2.2.2.1.getD x1.2.2.2.2.toNat z_api_Entry } : api_Wait)) true trivial rfl trivial rfl rfl rfl ty47), ⟨⟨rfl, rfl, trivial⟩, ⟨rfl, trivial⟩, rfl⟩, rfl, rfl⟩ ?_
          obtain ⟨v7, hv7, H⟩ := lt_of H
          refine aw_cov (cov_prune (s1 := ⟨[(0, (e_s_api_Wait x1.1)), (1, (.int .i64 x1.2.1)), (2, (.int .u32 x1.2.2.1)), (3, (e_s_api_Entry x1.2.2.2.1)), (9, (.int .i64 x1.2.2.2.2)), (10, (.ptr 1 0 []))], [(1, some (.var (e_api_Wait v7)))], 2⟩) ⟨rfl, rfl, rfl, rfl, rfl, rfl, trivial⟩ ⟨(by subst hv7; rfl), trivial⟩ (Nat.le_refl _)) ?_
          refine aw_region (es := [_, _]) ⟨Step.plain rfl (does_buildOwn 22 0 9 2 (e_api_Wait z_api_Wait) (fun j => (e_api_Wait (([] : _root_.List api_Wait).getD j z_api_Wait))) #[] [] [] rfl so22 (by decide) trivial trivial (fun j h => match j, h with  | k + 0, h => absurd h (by omega))), ⟨trivial, trivial, rfl⟩, rfl,
            Step.plain rfl (does_assign (.tmp 36) (.own 2) trivial), ⟨⟨rfl, trivial⟩, trivial, rfl⟩, rfl, rfl⟩ ?_
          refine aw_cov (cov_prune (s1 := ⟨[(0, (e_s_api_Wait x1.1)), (1, (.int .i64 x1.2.1)), (2, (.int .u32 x1.2.2.1)), (3, (e_s_api_Entry x1.2.2.2.1)), (9, (.int .i64 x1.2.2.2.2)), (10, (.ptr 1 0 [])), (11, (.own 2))], [(1, some (.var (e_api_Wait v7))), (2, some (.arr 9 ([] : _root_.List api_Wait).length fun j => (e_api_Wait (([] : _root_.List api_Wait).getD j z_api_Wait))))], 3⟩) ⟨rfl, rfl, rfl, rfl, rfl, rfl, rfl, trivial⟩ ⟨rfl, rfl, trivial⟩ (Nat.le_refl _)) ?_
          refine aw_region (es := [_]) ⟨Step.plain rfl (does_assign (.const (.bool false)) (.bool false) (fun _ => rfl)), ⟨trivial, trivial, rfl⟩, rfl, rfl⟩ ?_
          refine aw_cov (cov_prune (s1 := ⟨[(0, (e_s_api_Wait x1.1)), (1, (.int .i64 x1.2.1)), (2, (.int .u32 x1.2.2.1)), (3, (e_s_api_Entry x1.2.2.2.1)), (9, (.int .i64 x1.2.2.2.2)), (10, (.ptr 1 0 [])), (11, (.own 2)), (12, (.bool false))], [(1, some (.var (e_api_Wait v7))), (2, some (.arr 9 ([] : _root_.List api_Wait).length fun j => (e_api_Wait (([] : _root_.List api_Wait).getD j z_api_Wait))))], 3⟩) ⟨rfl, rfl, rfl, rfl, rfl, rfl, rfl, rfl, trivial⟩ ⟨rfl, rfl, trivial⟩ (Nat.le_refl _)) ?_
          refine aw_seq ?_
          refine aw_region (es := [_]) ⟨Step.plain rfl (does_assign (.const (.int .i64 0)) (.int .i64 0) (fun _ => rfl)), ⟨trivial, trivial, rfl⟩, rfl, rfl⟩ ?_
          refine aw_cov (cov_prune (s1 := ⟨[(0, (e_s_api_Wait x1.1)), (1, (.int .i64 x1.2.1)), (2, (.int .u32 x1.2.2.1)), (3, (e_s_api_Entry x1.2.2.2.1)), (9, (.int .i64 x1.2.2.2.2)), (10, (.ptr 1 0 [])), (11, (.own 2)), (12, (.bool false)), (13, (.int .i64 0))], [(1, some (.var (e_api_Wait v7))), (2, some (.arr 9 ([] : _root_.List api_Wait).length fun j => (e_api_Wait (([] : _root_.List api_Wait).getD j z_api_Wait))))], 3⟩) ⟨rfl, rfl, rfl, rfl, rfl, rfl, rfl, rfl, rfl, trivial⟩ ⟨rfl, rfl, trivial⟩ (Nat.le_refl _)) ?_
          obtain ⟨wn9, hwn9, Hrn9⟩ := bnd H
          refine aw_meet (fun y12 : Bool => (⟨[(0, (e_s_api_Wait x1.1)), (1, (.int .i64 x1.2.1)), (2, (.int .u32 x1.2.2.1)), (3, (e_s_api_Entry x1.2.2.2.1)), (9, (.int .i64 x1.2.2.2.2)), (10, (.ptr 1 0 [])), (11, (.own 2)), (12, (.bool y12))], [(1, some (.var (e_api_Wait v7))), (2, some (.arr 9 ([] : _root_.List api_Wait).length fun j => (e_api_Wait (([] : _root_.List api_Wait).getD j z_api_Wait))))], 3⟩ : St)) (fun y12 => Fl.nx y12 = wn9) (fun y12 hy => ?_) (aw_block (aw_runs (fun x8 : Bool × Int => (⟨[(0, (e_s_api_Wait x1.1)), (1, (.int .i64 x1.2.1)), (2, (.int .u32 x1.2.2.1)), (3, (e_s_api_Entry x1.2.2.2.1)), (9, (.int .i64 x1.2.2.2.2)), (10, (.ptr 1 0 [])), (11, (.own 2)), (12, (.bool x8.1)), (13, (.int .i64 x8.2))], [(1, some (.var (e_api_Wait v7))), (2, some (.arr 9 ([] : _root_.List api_Wait).length fun j => (e_api_Wait (([] : _root_.List api_Wait).getD j z_api_Wait))))], 3⟩ : St)) hwn9 (cov_prune ⟨rfl, rfl, rfl, rfl, rfl, rfl, rfl, rfl, rfl, trivial⟩ ⟨rfl, rfl, trivial⟩ (Nat.le_of_ble_eq_true rfl)) (fun x8 st H hsn9 => ?_)))
          · have H := nx_of hy Hrn9
            refine nx_seq ?_
            refine aw_seq ?_
            refine aw_region (es := [_]) ⟨Step.plain rfl (does_assign (.const (.int .i64 0)) (.int .i64 0) (fun _ => rfl)), ⟨trivial, trivial, rfl⟩, rfl, rfl⟩ ?_
            refine aw_cov (cov_prune (s1 := ⟨[(0, (e_s_api_Wait x1.1)), (1, (.int .i64 x1.2.1)), (2, (.int .u32 x1.2.2.1)), (3, (e_s_api_Entry x1.2.2.2.1)), (9, (.int .i64 x1.2.2.2.2)), (10, (.ptr 1 0 [])), (11, (.own 2)), (12, (.bool y12)), (14, (.int .i64 0))], [(1, some (.var (e_api_Wait v7))), (2, some (.arr 9 ([] : _root_.List api_Wait).length fun j => (e_api_Wait (([] : _root_.List api_Wait).getD j z_api_Wait))))], 3⟩) ⟨rfl, rfl, rfl, rfl, rfl, rfl, rfl, rfl, rfl, trivial⟩ ⟨rfl, rfl, trivial⟩ (Nat.le_refl _)) ?_
            obtain ⟨wn14, hwn14, Hrn14⟩ := bnd H
            refine aw_meet (fun y24 : Bool × _root_.List api_Wait => (⟨[(1, (.int .i64 x1.2.1)), (2, (.int .u32 x1.2.2.1)), (3, (e_s_api_Entry x1.2.2.2.1)), (9, (.int .i64 x1.2.2.2.2)), (10, (.ptr 1 0 [])), (11, (.own 2)), (12, (.bool y24.1))], [(1, some (.var (e_api_Wait v7))), (2, some (.arr 9 y24.2.length fun j => (e_api_Wait (y24.2.getD j z_api_Wait))))], 3⟩ : St)) (fun y24 => Fl.nx y24 = wn14) (fun y24 hy => ?_) (aw_block (aw_runs (fun x13 : Bool × Int × _root_.List api_Wait => (⟨[(0, (e_s_api_Wait x1.1)), (1, (.int .i64 x1.2.1)), (2, (.int .u32 x1.2.2.1)), (3, (e_s_api_Entry x1.2.2.2.1)), (9, (.int .i64 x1.2.2.2.2)), (10, (.ptr 1 0 [])), (11, (.own 2)), (12, (.bool x13.1)), (14, (.int .i64 x13.2.1))], [(1, some (.var (e_api_Wait v7))), (2, some (.arr 9 x13.2.2.length fun j => (e_api_Wait (x13.2.2.getD j z_api_Wait))))], 3⟩ : St)) hwn14 (cov_prune ⟨rfl, rfl, rfl, rfl, rfl, rfl, rfl, rfl, rfl, trivial⟩ ⟨rfl, rfl, trivial⟩ (Nat.le_of_ble_eq_true rfl)) (fun x13 st H hsn14 => ?_)))
            · have H := nx_of hy Hrn14
              refine nx_seq ?_
              refine aw_seq ?_
              refine aw_region (es := [_, _]) ⟨Step.plain rfl (does_move (.tmp 12) (.bool y24.1) trivial), ⟨⟨rfl, trivial⟩, trivial, rfl⟩, rfl,
                Step.plain rfl (does_not 4 (.tmp 83) y24.1 trivial), ⟨⟨rfl, trivial⟩, trivial, rfl⟩, rfl, rfl⟩ ?_
              refine aw_cov (cov_prune (s1 := ⟨[(1, (.int .i64 x1.2.1)), (2, (.int .u32 x1.2.2.1)), (3, (e_s_api_Entry x1.2.2.2.1)), (9, (.int .i64 x1.2.2.2.2)), (10, (.ptr 1 0 [])), (11, (.own 2)), (84, (.bool (!y24.1)))], [(1, some (.var (e_api_Wait v7))), (2, some (.arr 9 y24.2.length fun j => (e_api_Wait (y24.2.getD j z_api_Wait))))], 3⟩) ⟨rfl, rfl, rfl, rfl, rfl, rfl, rfl, trivial⟩ ⟨rfl, rfl, trivial⟩ (Nat.le_refl _)) ?_
              refine aw_jn (fun x27 : _root_.List api_Wait => (⟨[(1, (.int .i64 x1.2.1)), (2, (.int .u32 x1.2.2.1)), (3, (e_s_api_Entry x1.2.2.2.1)), (9, (.int .i64 x1.2.2.2.2)), (11, (.own 2))], [(2, some (.arr 9 x27.length fun j => (e_api_Wait (x27.getD j z_api_Wait))))], 4⟩ : St)) H (fun x27 H => ?_) (fun j25 H => ?_)
              · refine nx_seq ?_
                refine aw_region1 (es := [_, _]) ⟨Step.plain rfl (does_move (.tmp 11) (.own 2) trivial), ⟨⟨rfl, trivial⟩, trivial, rfl⟩, rfl,
                  Step.plain rfl (does_assign (.tmp 89) (.own 2) trivial), ⟨⟨rfl, trivial⟩, trivial, rfl⟩, rfl, rfl⟩ ?_
                refine nx_blk ?_
                exact nx_join (x27, x1.2.1, x1.2.2.1, x1.2.2.2.1, x1.2.2.2.2) H (cov_to (fun i => i) [2] ⟨⟨_, rfl, .frz 2 _ _ _ rfl (fun _ => (d_api_Wait _)) (by decide)⟩, ⟨_, rfl, .plain _ (trivial)⟩, ⟨_, rfl, .plain _ (trivial)⟩, ⟨_, rfl, .plain _ ((d_s_api_Entry _).plain)⟩, ⟨_, rfl, .plain _ (trivial)⟩, trivial⟩ trivial rfl rfl)
              · refine aw_cond rfl (fun hc => ?_) (fun hc => ?_)
                · replace H := ite_t hc H
                  obtain ⟨h26, H⟩ := fit_of H
                  refine aw_region1 (es := [_, _, _, _, _]) ⟨Step.plain rfl (does_move (.tmp 11) (.own 2) trivial), ⟨⟨rfl, trivial⟩, trivial, rfl⟩, rfl,
                    Step.plain rfl (does_load 47 10 1 0 [] (.var (e_api_Wait v7)) (e_api_Wait v7) trivial rfl rfl ty47), ⟨⟨rfl, trivial⟩, ⟨rfl, trivial⟩, rfl⟩, rfl,
                    Step.plain rfl (does_buildSl 22 1 9 (e_api_Wait z_api_Wait) (fun j => (e_api_Wait (([v7] : _root_.List api_Wait).getD j z_api_Wait))) #[(0, (.tmp 86))] [(0, (.tmp 86))] [(0, (e_api_Wait v7))] rfl so22 (by decide) ⟨⟨rfl, trivial⟩, trivial⟩ ⟨⟨Nat.le_of_ble_eq_true rfl, rfl, rfl⟩, trivial⟩ (fun j h => match j, h with | 0, _ => rfl | k + 1, h => absurd h (by omega))), ⟨⟨rfl, trivial⟩, trivial, rfl⟩, rfl,
                    Step.plain rfl (does_appendL e_api_Wait z_api_Wait y24.2 ([v7] : _root_.List api_Wait) 22 9 80 2 3 85 87 ap22 h26), ⟨⟨rfl, rfl, trivial⟩, ⟨rfl, trivial⟩, rfl⟩, rfl,
                    Step.plain rfl (does_assign (.tmp 88) (.own 3) trivial), ⟨⟨rfl, trivial⟩, trivial, rfl⟩, rfl, rfl⟩ ?_
                  exact nx_join ((y24.2 ++ ([v7] : _root_.List api_Wait))) H (cov_of (fun i => match i with | 2 => 3 | k => k) ⟨⟨_, rfl, ⟨rfl, trivial⟩⟩, ⟨_, rfl, ⟨rfl, trivial⟩⟩, ⟨_, rfl, ⟨rfl, (d_s_api_Entry _).plain⟩⟩, ⟨_, rfl, ⟨rfl, trivial⟩⟩, ⟨_, rfl, ⟨rfl, Nat.le_of_ble_eq_true rfl⟩⟩, trivial⟩ ⟨⟨Nat.le_of_ble_eq_true rfl, _, _, rfl, rfl, ⟨rfl, rfl, fun _ => .inl ⟨rfl, (d_api_Wait _).plain⟩⟩⟩, trivial⟩ rfl)
                · replace H := ite_f hc H
                  refine aw_skip ?_
                  exact nx_join (y24.2) H (cov_of (fun i => match i with | 2 => 2 | k => k) ⟨⟨_, rfl, ⟨rfl, trivial⟩⟩, ⟨_, rfl, ⟨rfl, trivial⟩⟩, ⟨_, rfl, ⟨rfl, (d_s_api_Entry _).plain⟩⟩, ⟨_, rfl, ⟨rfl, trivial⟩⟩, ⟨_, rfl, ⟨rfl, Nat.le_of_ble_eq_true rfl⟩⟩, trivial⟩ ⟨⟨Nat.le_of_ble_eq_true rfl, _, _, rfl, rfl, ⟨rfl, rfl, fun _ => .inl ⟨rfl, (d_api_Wait _).plain⟩⟩⟩, trivial⟩ rfl)
            · refine aw_seq ?_
              refine aw_region (es := [_, _, _, _]) ⟨Step.plain rfl (does_move (.tmp 14) (.int .i64 x13.2.1) trivial), ⟨⟨rfl, trivial⟩, trivial, rfl⟩, rfl,
                Step.plain rfl (does_move (.tmp 0) (e_s_api_Wait x1.1) trivial), ⟨⟨rfl, trivial⟩, trivial, rfl⟩, rfl,
                Step.plain rfl (does_lens 22 9 x1.1.length 55 (fun j => (e_api_Wait (x1.1.getD j z_api_Wait))) el22), ⟨⟨rfl, trivial⟩, trivial, rfl⟩, rfl,
                Step.plain rfl (does_bin .lss 3 3 (.tmp 54) (.tmp 56) .i64 x13.2.1 (x1.1.length : Int) (.bool (decide (x13.2.1 < (x1.1.length : Int)))) trivial trivial (bin_lss _ _ _ _)), ⟨⟨rfl, rfl, trivial⟩, trivial, rfl⟩, rfl, rfl⟩ ?_
              refine aw_cov (cov_prune (s1 := ⟨[(0, (e_s_api_Wait x1.1)), (1, (.int .i64 x1.2.1)), (2, (.int .u32 x1.2.2.1)), (3, (e_s_api_Entry x1.2.2.2.1)), (9, (.int .i64 x1.2.2.2.2)), (10, (.ptr 1 0 [])), (11, (.own 2)), (12, (.bool x13.1)), (14, (.int .i64 x13.2.1)), (57, (.bool (decide (x13.2.1 < (x1.1.length : Int)))))], [(1, some (.var (e_api_Wait v7))), (2, some (.arr 9 x13.2.2.length fun j => (e_api_Wait (x13.2.2.getD j z_api_Wait))))], 3⟩) ⟨rfl, rfl, rfl, rfl, rfl, rfl, rfl, rfl, rfl, rfl, trivial⟩ ⟨rfl, rfl, trivial⟩ (Nat.le_refl _)) ?_
              refine aw_cond rfl (fun hc => ?_) (fun hc => ?_)
              · replace H := ite_t hc H
                refine aw_skip ?_
                refine nx_seq ?_
                refine aw_seq ?_
                refine aw_block ?_
                refine aw_seq ?_
                obtain ⟨h15, H⟩ := ibg_of H
                obtain ⟨v16, h17, H⟩ := whn_of H
                refine aw_draw (es := [_, _, _, _, _, _, _, _, _, _, _, _]) (mixed) ⟨Step.plain rfl (does_move (.tmp 12) (.bool x13.1) trivial), ⟨⟨rfl, trivial⟩, trivial, rfl⟩, rfl,
                  Step.plain rfl (does_not 4 (.tmp 60) x13.1 trivial), ⟨⟨rfl, trivial⟩, trivial, rfl⟩, rfl,
                  Step.plain rfl (does_move (.tmp 61) (.bool (!x13.1)) trivial), ⟨⟨rfl, trivial⟩, trivial, rfl⟩, rfl,
                  Step.guarded rfl rfl rfl rfl (fun hc => does_fieldAddr 47 0 0 10 1 0 [] (.var (e_api_Wait v7)) fl47_0), ⟨⟨rfl, rfl, trivial⟩, ⟨rfl, trivial⟩, rfl⟩, rfl,
                  Step.guarded rfl rfl rfl rfl (fun hc => Does.strip (n' := [(63, (.opt (!x13.1) (.ptr 1 (0 + 0) [0])))]) (n := [(63, (.ptr 1 (0 + 0) [0]))]) ⟨(.opt _ _ hc), trivial⟩ (does_load 42 63 1 (0 + 0) [0] (.var (e_api_Wait v7)) (e_api_Place v7.Place) ⟨rfl, Nat.le_of_ble_eq_true rfl, trivial⟩ rfl rfl ty42)), ⟨⟨rfl, rfl, trivial⟩, ⟨rfl, trivial⟩, rfl⟩, rfl,
                  Step.guarded rfl rfl rfl rfl (fun hc => does_move (.tmp 0) (e_s_api_Wait x1.1) trivial), ⟨⟨rfl, rfl, trivial⟩, trivial, rfl⟩, rfl,
                  Step.guarded rfl rfl rfl rfl (fun hc => does_move (.tmp 14) (.int .i64 x13.2.1) trivial), ⟨⟨rfl, rfl, trivial⟩, trivial, rfl⟩, rfl,
                  Step.guarded rfl rfl rfl rfl (fun hc => Does.strip (n' := [(65, (.opt (!x13.1) (e_s_api_Wait x1.1))), (66, (.opt (!x13.1) (.int .i64 x13.2.1)))]) (n := [(65, (e_s_api_Wait x1.1)), (66, (.int .i64 x13.2.1))]) ⟨(.opt _ _ hc), (.opt _ _ hc), trivial⟩ (does_indexAddrs 22 9 x1.1.length 65 (fun j => (e_api_Wait (x1.1.getD j z_api_Wait))) (.tmp 66) .i64 x13.2.1 el22 trivial (h15 hc).1 (h15 hc).2)), ⟨⟨rfl, rfl, rfl, trivial⟩, trivial, rfl⟩, rfl,
                  Step.guarded rfl rfl rfl rfl (fun hc => Does.strip (n' := [(67, (.opt (!x13.1) (.cptr (e_api_Wait (x1.1.getD x13.2.1.toNat z_api_Wait)))))]) (n := [(67, (.cptr (e_api_Wait (x1.1.getD x13.2.1.toNat z_api_Wait))))]) ⟨(.opt _ _ hc), trivial⟩ (does_fieldAddrc 47 0 0 67 (e_api_Wait (x1.1.getD x13.2.1.toNat z_api_Wait)) fl47_0 rfl (Nat.le_of_ble_eq_true rfl) rfl)), ⟨⟨rfl, rfl, trivial⟩, trivial, rfl⟩, rfl,
                  Step.guarded rfl rfl rfl rfl (fun hc => Does.strip (n' := [(68, (.opt (!x13.1) (.cptr (e_api_Place ((x1.1.getD x13.2.1.toNat z_api_Wait).Place)))))]) (n := [(68, (.cptr (e_api_Place ((x1.1.getD x13.2.1.toNat z_api_Wait).Place))))]) ⟨(.opt _ _ hc), trivial⟩ (does_loadc 42 68 (e_api_Place ((x1.1.getD x13.2.1.toNat z_api_Wait).Place)) ty42)), ⟨⟨rfl, rfl, trivial⟩, trivial, rfl⟩, rfl,
                  Step.guarded rfl rfl rfl rfl (fun hc => Does.strip (n' := [(64, (.opt (!x13.1) (e_api_Place v7.Place))), (69, (.opt (!x13.1) (e_api_Place ((x1.1.getD x13.2.1.toNat z_api_Wait).Place))))]) (n := [(64, (e_api_Place v7.Place)), (69, (e_api_Place ((x1.1.getD x13.2.1.toNat z_api_Wait).Place)))]) ⟨(.opt _ _ hc), (.opt _ _ hc), trivial⟩ (does_call 21 0 (fun _ => .any) (.func 21) [(.tmp 64), (.tmp 69)] [(e_api_Place v7.Place), (e_api_Place ((x1.1.getD x13.2.1.toNat z_api_Wait).Place))] [] true [(e_api_Place v7.Place), (e_api_Place ((x1.1.getD x13.2.1.toNat z_api_Wait).Place))] (.bool v16) _ _ rfl fo21 rfl ⟨trivial, trivial, trivial⟩ ⟨.data _ (d_api_Place v7.Place), .data _ (d_api_Place ((x1.1.getD x13.2.1.toNat z_api_Wait).Place)), trivial⟩ (congressref09_Before_spec v7.Place ((x1.1.getD x13.2.1.toNat z_api_Wait).Place) _ (h17 hc)) trivial)), ⟨⟨rfl, rfl, rfl, trivial⟩, trivial, rfl⟩, rfl,
                  Step.plain rfl (does_and 62 70 (!x13.1) v16), ⟨⟨rfl, rfl, trivial⟩, trivial, rfl⟩, rfl, rfl⟩ rfl ?_
                refine aw_cov (cov_prune (s1 := ⟨[(0, (e_s_api_Wait x1.1)), (1, (.int .i64 x1.2.1)), (2, (.int .u32 x1.2.2.1)), (3, (e_s_api_Entry x1.2.2.2.1)), (9, (.int .i64 x1.2.2.2.2)), (10, (.ptr 1 0 [])), (11, (.own 2)), (12, (.bool x13.1)), (14, (.int .i64 x13.2.1)), (71, (.bool ((!x13.1) && v16)))], [(1, some (.var (e_api_Wait v7))), (2, some (.arr 9 x13.2.2.length fun j => (e_api_Wait (x13.2.2.getD j z_api_Wait))))], 3⟩) ⟨rfl, rfl, rfl, rfl, rfl, rfl, rfl, rfl, rfl, rfl, trivial⟩ ⟨rfl, rfl, trivial⟩ (Nat.le_refl _)) ?_
                refine aw_jn (fun x20 : Bool × _root_.List api_Wait => (⟨[(0, (e_s_api_Wait x1.1)), (1, (.int .i64 x1.2.1)), (2, (.int .u32 x1.2.2.1)), (3, (e_s_api_Entry x1.2.2.2.1)), (9, (.int .i64 x1.2.2.2.2)), (10, (.ptr 1 0 [])), (11, (.own 2)), (12, (.bool x20.1)), (14, (.int .i64 x13.2.1))], [(1, some (.var (e_api_Wait v7))), (2, some (.arr 9 x20.2.length fun j => (e_api_Wait (x20.2.getD j z_api_Wait))))], 4⟩ : St)) H (fun x20 H => ?_) (fun j18 H => ?_)
                · refine nx_seq ?_
                  obtain ⟨h21, H⟩ := ib_of H
                  obtain ⟨h22, H⟩ := fit_of H
                  refine aw_region1 (es := [_, _, _, _, _, _, _, _]) ⟨Step.plain rfl (does_move (.tmp 11) (.own 2) trivial), ⟨⟨rfl, trivial⟩, trivial, rfl⟩, rfl,
                    Step.plain rfl (does_move (.tmp 0) (e_s_api_Wait x1.1) trivial), ⟨⟨rfl, trivial⟩, trivial, rfl⟩, rfl,
                    Step.plain rfl (does_move (.tmp 14) (.int .i64 x13.2.1) trivial), ⟨⟨rfl, trivial⟩, trivial, rfl⟩, rfl,
                    Step.plain rfl (does_indexAddrs 22 9 x1.1.length 77 (fun j => (e_api_Wait (x1.1.getD j z_api_Wait))) (.tmp 78) .i64 x13.2.1 el22 trivial h21.1 h21.2), ⟨⟨rfl, rfl, trivial⟩, trivial, rfl⟩, rfl,
                    Step.plain rfl (does_loadc 47 79 (e_api_Wait (x1.1.getD x13.2.1.toNat z_api_Wait)) ty47), ⟨⟨rfl, trivial⟩, trivial, rfl⟩, rfl,
                    Step.plain rfl (does_buildSl 22 1 9 (e_api_Wait z_api_Wait) (fun j => (e_api_Wait (([x1.1.getD x13.2.1.toNat z_api_Wait] : _root_.List api_Wait).getD j z_api_Wait))) #[(0, (.tmp 80))] [(0, (.tmp 80))] [(0, (e_api_Wait (x1.1.getD x13.2.1.toNat z_api_Wait)))] rfl so22 (by decide) ⟨⟨rfl, trivial⟩, trivial⟩ ⟨⟨Nat.le_of_ble_eq_true rfl, rfl, rfl⟩, trivial⟩ (fun j h => match j, h with | 0, _ => rfl | k + 1, h => absurd h (by omega))), ⟨⟨rfl, trivial⟩, trivial, rfl⟩, rfl,
                    Step.plain rfl (does_appendL e_api_Wait z_api_Wait x20.2 ([x1.1.getD x13.2.1.toNat z_api_Wait] : _root_.List api_Wait) 22 9 80 2 4 76 81 ap22 h22), ⟨⟨rfl, rfl, trivial⟩, ⟨rfl, trivial⟩, rfl⟩, rfl,
                    Step.plain rfl (does_assign (.tmp 82) (.own 4) trivial), ⟨⟨rfl, trivial⟩, trivial, rfl⟩, rfl, rfl⟩ ?_
                  refine nx_blk ?_
                  refine nx_seq ?_
                  obtain ⟨v23, hv23, H⟩ := lt_of H
                  refine aw_cov (cov_prune (s1 := ⟨[(0, (e_s_api_Wait x1.1)), (1, (.int .i64 x1.2.1)), (2, (.int .u32 x1.2.2.1)), (3, (e_s_api_Entry x1.2.2.2.1)), (9, (.int .i64 x1.2.2.2.2)), (10, (.ptr 1 0 [])), (12, (.bool x20.1)), (14, (.int .i64 x13.2.1)), (11, (.own 4))], [(1, some (.var (e_api_Wait v7))), (4, some (.arr 9 v23.length fun j => (e_api_Wait (v23.getD j z_api_Wait))))], 5⟩) ⟨rfl, rfl, rfl, rfl, rfl, rfl, rfl, rfl, rfl, trivial⟩ ⟨rfl, (by subst hv23; rfl), trivial⟩ (Nat.le_refl _)) ?_
                  refine aw_region1 (es := [_, _, _]) ⟨Step.plain rfl (does_move (.tmp 14) (.int .i64 x13.2.1) trivial), ⟨⟨rfl, trivial⟩, trivial, rfl⟩, rfl,
                    Step.plain rfl (does_bin .add 3 3 (.tmp 58) (.const (.int .i64 1)) .i64 x13.2.1 1 (.int .i64 (IntKind.i64.wrap (x13.2.1 + 1))) trivial (fun _ => rfl) (bin_add _ _ _ _)), ⟨⟨rfl, trivial⟩, trivial, rfl⟩, rfl,
                    Step.plain rfl (does_assign (.tmp 59) (.int .i64 (IntKind.i64.wrap (x13.2.1 + 1))) trivial), ⟨⟨rfl, trivial⟩, trivial, rfl⟩, rfl, rfl⟩ ?_
                  exact nx_loop (x20.1, (IntKind.i64.wrap (x13.2.1 + 1)), v23) H (cov_of (fun i => match i with | 1 => 1 | 2 => 4 | k => k) ⟨⟨_, rfl, ⟨rfl, (d_s_api_Wait _).plain⟩⟩, ⟨_, rfl, ⟨rfl, trivial⟩⟩, ⟨_, rfl, ⟨rfl, trivial⟩⟩, ⟨_, rfl, ⟨rfl, (d_s_api_Entry _).plain⟩⟩, ⟨_, rfl, ⟨rfl, trivial⟩⟩, ⟨_, rfl, ⟨rfl, Nat.le_of_ble_eq_true rfl⟩⟩, ⟨_, rfl, ⟨rfl, Nat.le_of_ble_eq_true rfl⟩⟩, ⟨_, rfl, ⟨rfl, trivial⟩⟩, ⟨_, rfl, ⟨rfl, trivial⟩⟩, trivial⟩ ⟨⟨Nat.le_of_ble_eq_true rfl, _, _, rfl, rfl, .inl ⟨rfl, (d_api_Wait _).plain⟩⟩, ⟨Nat.le_of_ble_eq_true rfl, _, _, rfl, rfl, ⟨rfl, rfl, fun _ => .inl ⟨rfl, (d_api_Wait _).plain⟩⟩⟩, trivial⟩ rfl)
                · refine aw_cond rfl (fun hc => ?_) (fun hc => ?_)
                  · replace H := ite_t hc H
                    obtain ⟨h19, H⟩ := fit_of H
                    refine aw_region (es := [_, _, _, _, _]) ⟨Step.plain rfl (does_move (.tmp 11) (.own 2) trivial), ⟨⟨rfl, trivial⟩, trivial, rfl⟩, rfl,
                      Step.plain rfl (does_load 47 10 1 0 [] (.var (e_api_Wait v7)) (e_api_Wait v7) trivial rfl rfl ty47), ⟨⟨rfl, trivial⟩, ⟨rfl, trivial⟩, rfl⟩, rfl,
                      Step.plain rfl (does_buildSl 22 1 9 (e_api_Wait z_api_Wait) (fun j => (e_api_Wait (([v7] : _root_.List api_Wait).getD j z_api_Wait))) #[(0, (.tmp 73))] [(0, (.tmp 73))] [(0, (e_api_Wait v7))] rfl so22 (by decide) ⟨⟨rfl, trivial⟩, trivial⟩ ⟨⟨Nat.le_of_ble_eq_true rfl, rfl, rfl⟩, trivial⟩ (fun j h => match j, h with | 0, _ => rfl | k + 1, h => absurd h (by omega))), ⟨⟨rfl, trivial⟩, trivial, rfl⟩, rfl,
                      Step.plain rfl (does_appendL e_api_Wait z_api_Wait x13.2.2 ([v7] : _root_.List api_Wait) 22 9 80 2 3 72 74 ap22 h19), ⟨⟨rfl, rfl, trivial⟩, ⟨rfl, trivial⟩, rfl⟩, rfl,
                      Step.plain rfl (does_assign (.tmp 75) (.own 3) trivial), ⟨⟨rfl, trivial⟩, trivial, rfl⟩, rfl, rfl⟩ ?_
                    refine aw_cov (cov_prune (s1 := ⟨[(0, (e_s_api_Wait x1.1)), (1, (.int .i64 x1.2.1)), (2, (.int .u32 x1.2.2.1)), (3, (e_s_api_Entry x1.2.2.2.1)), (9, (.int .i64 x1.2.2.2.2)), (10, (.ptr 1 0 [])), (14, (.int .i64 x13.2.1)), (11, (.own 3))], [(1, some (.var (e_api_Wait v7))), (3, some (.arr 9 (x13.2.2 ++ ([v7] : _root_.List api_Wait)).length fun j => (e_api_Wait ((x13.2.2 ++ ([v7] : _root_.List api_Wait)).getD j z_api_Wait))))], 4⟩) ⟨rfl, rfl, rfl, rfl, rfl, rfl, rfl, rfl, trivial⟩ ⟨rfl, rfl, trivial⟩ (Nat.le_refl _)) ?_
                    refine aw_region1 (es := [_]) ⟨Step.plain rfl (does_assign (.const (.bool true)) (.bool true) (fun _ => rfl)), ⟨trivial, trivial, rfl⟩, rfl, rfl⟩ ?_
                    exact nx_join (true, (x13.2.2 ++ ([v7] : _root_.List api_Wait))) H (cov_of (fun i => match i with | 1 => 1 | 2 => 3 | k => k) ⟨⟨_, rfl, ⟨rfl, (d_s_api_Wait _).plain⟩⟩, ⟨_, rfl, ⟨rfl, trivial⟩⟩, ⟨_, rfl, ⟨rfl, trivial⟩⟩, ⟨_, rfl, ⟨rfl, (d_s_api_Entry _).plain⟩⟩, ⟨_, rfl, ⟨rfl, trivial⟩⟩, ⟨_, rfl, ⟨rfl, Nat.le_of_ble_eq_true rfl⟩⟩, ⟨_, rfl, ⟨rfl, Nat.le_of_ble_eq_true rfl⟩⟩, ⟨_, rfl, ⟨rfl, trivial⟩⟩, ⟨_, rfl, ⟨rfl, trivial⟩⟩, trivial⟩ ⟨⟨Nat.le_of_ble_eq_true rfl, _, _, rfl, rfl, .inl ⟨rfl, (d_api_Wait _).plain⟩⟩, ⟨Nat.le_of_ble_eq_true rfl, _, _, rfl, rfl, ⟨rfl, rfl, fun _ => .inl ⟨rfl, (d_api_Wait _).plain⟩⟩⟩, trivial⟩ rfl)
                  · replace H := ite_f hc H
                    refine aw_skip ?_
                    exact nx_join (x13.1, x13.2.2) H (cov_of (fun i => match i with | 1 => 1 | 2 => 2 | k => k) ⟨⟨_, rfl, ⟨rfl, (d_s_api_Wait _).plain⟩⟩, ⟨_, rfl, ⟨rfl, trivial⟩⟩, ⟨_, rfl, ⟨rfl, trivial⟩⟩, ⟨_, rfl, ⟨rfl, (d_s_api_Entry _).plain⟩⟩, ⟨_, rfl, ⟨rfl, trivial⟩⟩, ⟨_, rfl, ⟨rfl, Nat.le_of_ble_eq_true rfl⟩⟩, ⟨_, rfl, ⟨rfl, Nat.le_of_ble_eq_true rfl⟩⟩, ⟨_, rfl, ⟨rfl, trivial⟩⟩, ⟨_, rfl, ⟨rfl, trivial⟩⟩, trivial⟩ ⟨⟨Nat.le_of_ble_eq_true rfl, _, _, rfl, rfl, .inl ⟨rfl, (d_api_Wait _).plain⟩⟩, ⟨Nat.le_of_ble_eq_true rfl, _, _, rfl, rfl, ⟨rfl, rfl, fun _ => .inl ⟨rfl, (d_api_Wait _).plain⟩⟩⟩, trivial⟩ rfl)
              · replace H := ite_f hc H
                refine aw_exit ?_
                refine ex_then ?_
                refine ex_then ?_
                refine ex_here ?_
                exact nx_ljoin (x13.1, x13.2.2) H hsn14 (cov_prune ⟨rfl, rfl, rfl, rfl, rfl, rfl, rfl, trivial⟩ ⟨rfl, rfl, trivial⟩ (Nat.le_of_ble_eq_true rfl))
          · refine aw_seq ?_
            refine aw_region (es := [_, _, _, _]) ⟨Step.plain rfl (does_move (.tmp 13) (.int .i64 x8.2) trivial), ⟨⟨rfl, trivial⟩, trivial, rfl⟩, rfl,
              Step.plain rfl (does_move (.tmp 0) (e_s_api_Wait x1.1) trivial), ⟨⟨rfl, trivial⟩, trivial, rfl⟩, rfl,
              Step.plain rfl (does_lens 22 9 x1.1.length 38 (fun j => (e_api_Wait (x1.1.getD j z_api_Wait))) el22), ⟨⟨rfl, trivial⟩, trivial, rfl⟩, rfl,
              Step.plain rfl (does_bin .lss 3 3 (.tmp 37) (.tmp 39) .i64 x8.2 (x1.1.length : Int) (.bool (decide (x8.2 < (x1.1.length : Int)))) trivial trivial (bin_lss _ _ _ _)), ⟨⟨rfl, rfl, trivial⟩, trivial, rfl⟩, rfl, rfl⟩ ?_
            refine aw_cov (cov_prune (s1 := ⟨[(0, (e_s_api_Wait x1.1)), (1, (.int .i64 x1.2.1)), (2, (.int .u32 x1.2.2.1)), (3, (e_s_api_Entry x1.2.2.2.1)), (9, (.int .i64 x1.2.2.2.2)), (10, (.ptr 1 0 [])), (11, (.own 2)), (12, (.bool x8.1)), (13, (.int .i64 x8.2)), (40, (.bool (decide (x8.2 < (x1.1.length : Int)))))], [(1, some (.var (e_api_Wait v7))), (2, some (.arr 9 ([] : _root_.List api_Wait).length fun j => (e_api_Wait (([] : _root_.List api_Wait).getD j z_api_Wait))))], 3⟩) ⟨rfl, rfl, rfl, rfl, rfl, rfl, rfl, rfl, rfl, rfl, trivial⟩ ⟨rfl, rfl, trivial⟩ (Nat.le_refl _)) ?_
            refine aw_cond rfl (fun hc => ?_) (fun hc => ?_)
            · replace H := ite_t hc H
              refine aw_skip ?_
              refine nx_seq ?_
              refine aw_seq ?_
              refine aw_block ?_
              obtain ⟨h10, H⟩ := ibg_of H
              refine aw_draw1 (es := [_, _, _, _, _, _, _, _, _, _, _, _]) (mixed) ⟨Step.plain rfl (does_move (.tmp 12) (.bool x8.1) trivial), ⟨⟨rfl, trivial⟩, trivial, rfl⟩, rfl,
                Step.plain rfl (does_move (.tmp 43) (.bool x8.1) trivial), ⟨⟨rfl, trivial⟩, trivial, rfl⟩, rfl,
                Step.guarded rfl rfl rfl rfl (fun hc => does_move (.tmp 0) (e_s_api_Wait x1.1) trivial), ⟨⟨rfl, rfl, trivial⟩, trivial, rfl⟩, rfl,
                Step.guarded rfl rfl rfl rfl (fun hc => does_move (.tmp 13) (.int .i64 x8.2) trivial), ⟨⟨rfl, rfl, trivial⟩, trivial, rfl⟩, rfl,
                Step.guarded rfl rfl rfl rfl (fun hc => Does.strip (n' := [(45, (.opt (!x8.1) (e_s_api_Wait x1.1))), (46, (.opt (!x8.1) (.int .i64 x8.2)))]) (n := [(45, (e_s_api_Wait x1.1)), (46, (.int .i64 x8.2))]) ⟨(.opt _ _ hc), (.opt _ _ hc), trivial⟩ (does_indexAddrs 22 9 x1.1.length 45 (fun j => (e_api_Wait (x1.1.getD j z_api_Wait))) (.tmp 46) .i64 x8.2 el22 trivial (h10 hc).1 (h10 hc).2)), ⟨⟨rfl, rfl, rfl, trivial⟩, trivial, rfl⟩, rfl,
                Step.guarded rfl rfl rfl rfl (fun hc => Does.strip (n' := [(47, (.opt (!x8.1) (.cptr (e_api_Wait (x1.1.getD x8.2.toNat z_api_Wait)))))]) (n := [(47, (.cptr (e_api_Wait (x1.1.getD x8.2.toNat z_api_Wait))))]) ⟨(.opt _ _ hc), trivial⟩ (does_fieldAddrc 47 0 0 47 (e_api_Wait (x1.1.getD x8.2.toNat z_api_Wait)) fl47_0 rfl (Nat.le_of_ble_eq_true rfl) rfl)), ⟨⟨rfl, rfl, trivial⟩, trivial, rfl⟩, rfl,
                Step.guarded rfl rfl rfl rfl (fun hc => Does.strip (n' := [(48, (.opt (!x8.1) (.cptr (e_api_Place ((x1.1.getD x8.2.toNat z_api_Wait).Place)))))]) (n := [(48, (.cptr (e_api_Place ((x1.1.getD x8.2.toNat z_api_Wait).Place))))]) ⟨(.opt _ _ hc), trivial⟩ (does_loadc 42 48 (e_api_Place ((x1.1.getD x8.2.toNat z_api_Wait).Place)) ty42)), ⟨⟨rfl, rfl, trivial⟩, trivial, rfl⟩, rfl,
                Step.guarded rfl rfl rfl rfl (fun hc => does_fieldAddr 47 0 0 10 1 0 [] (.var (e_api_Wait v7)) fl47_0), ⟨⟨rfl, rfl, trivial⟩, ⟨rfl, trivial⟩, rfl⟩, rfl,
                Step.guarded rfl rfl rfl rfl (fun hc => Does.strip (n' := [(50, (.opt (!x8.1) (.ptr 1 (0 + 0) [0])))]) (n := [(50, (.ptr 1 (0 + 0) [0]))]) ⟨(.opt _ _ hc), trivial⟩ (does_load 42 50 1 (0 + 0) [0] (.var (e_api_Wait v7)) (e_api_Place v7.Place) ⟨rfl, Nat.le_of_ble_eq_true rfl, trivial⟩ rfl rfl ty42)), ⟨⟨rfl, rfl, trivial⟩, ⟨rfl, trivial⟩, rfl⟩, rfl,
                Step.guarded rfl rfl rfl rfl (fun hc => Does.strip (n' := [(49, (.opt (!x8.1) (e_api_Place ((x1.1.getD x8.2.toNat z_api_Wait).Place)))), (51, (.opt (!x8.1) (e_api_Place v7.Place)))]) (n := [(49, (e_api_Place ((x1.1.getD x8.2.toNat z_api_Wait).Place))), (51, (e_api_Place v7.Place))]) ⟨(.opt _ _ hc), (.opt _ _ hc), trivial⟩ (does_eqT false 42 42 (.tmp 49) (.tmp 51) (e_api_Place ((x1.1.getD x8.2.toNat z_api_Wait).Place)) (e_api_Place v7.Place) (e_api_Place z_api_Place) (b_api_Place ((x1.1.getD x8.2.toNat z_api_Wait).Place) v7.Place) rfl rfl trivial trivial eg42 sh42 (al_api_Place _ _) (al_api_Place _ _) (q_api_Place _ _))), ⟨⟨rfl, rfl, rfl, trivial⟩, trivial, rfl⟩, rfl,
                Step.plain rfl (does_or 44 52 x8.1 (b_api_Place ((x1.1.getD x8.2.toNat z_api_Wait).Place) v7.Place)), ⟨⟨rfl, rfl, trivial⟩, trivial, rfl⟩, rfl,
                Step.plain rfl (does_assign (.tmp 53) (.bool (x8.1 || (b_api_Place ((x1.1.getD x8.2.toNat z_api_Wait).Place) v7.Place))) trivial), ⟨⟨rfl, trivial⟩, trivial, rfl⟩, rfl, rfl⟩ rfl ?_
              refine nx_blk ?_
              refine nx_seq ?_
              obtain ⟨v11, hv11, H⟩ := lt_of H
              refine aw_cov (cov_prune (s1 := ⟨[(0, (e_s_api_Wait x1.1)), (1, (.int .i64 x1.2.1)), (2, (.int .u32 x1.2.2.1)), (3, (e_s_api_Entry x1.2.2.2.1)), (9, (.int .i64 x1.2.2.2.2)), (10, (.ptr 1 0 [])), (11, (.own 2)), (13, (.int .i64 x8.2)), (12, (.bool v11))], [(1, some (.var (e_api_Wait v7))), (2, some (.arr 9 ([] : _root_.List api_Wait).length fun j => (e_api_Wait (([] : _root_.List api_Wait).getD j z_api_Wait))))], 3⟩) ⟨rfl, rfl, rfl, rfl, rfl, rfl, rfl, rfl, (by subst hv11; rfl), trivial⟩ ⟨rfl, rfl, trivial⟩ (Nat.le_refl _)) ?_
              refine aw_region1 (es := [_, _, _]) ⟨Step.plain rfl (does_move (.tmp 13) (.int .i64 x8.2) trivial), ⟨⟨rfl, trivial⟩, trivial, rfl⟩, rfl,
                Step.plain rfl (does_bin .add 3 3 (.tmp 41) (.const (.int .i64 1)) .i64 x8.2 1 (.int .i64 (IntKind.i64.wrap (x8.2 + 1))) trivial (fun _ => rfl) (bin_add _ _ _ _)), ⟨⟨rfl, trivial⟩, trivial, rfl⟩, rfl,
                Step.plain rfl (does_assign (.tmp 42) (.int .i64 (IntKind.i64.wrap (x8.2 + 1))) trivial), ⟨⟨rfl, trivial⟩, trivial, rfl⟩, rfl, rfl⟩ ?_
              exact nx_loop (v11, (IntKind.i64.wrap (x8.2 + 1))) H (cov_prune ⟨rfl, rfl, rfl, rfl, rfl, rfl, rfl, rfl, rfl, trivial⟩ ⟨rfl, rfl, trivial⟩ (Nat.le_of_ble_eq_true rfl))
            · replace H := ite_f hc H
              refine aw_exit ?_
              refine ex_then ?_
              refine ex_then ?_
              refine ex_here ?_
              exact nx_ljoin (x8.1) H hsn9 (cov_prune ⟨rfl, rfl, rfl, rfl, rfl, rfl, rfl, rfl, trivial⟩ ⟨rfl, rfl, trivial⟩ (Nat.le_of_ble_eq_true rfl))
    · replace H := ite_f hc H
      refine aw_exit ?_
      refine ex_then ?_
      refine ex_then ?_
      refine ex_here ?_
      exact nx_ljoin (x1.1) H hsn2 (cov_prune ⟨rfl, trivial⟩ trivial (Nat.le_of_ble_eq_true rfl))

theorem congressref22_Same_spec (p0 : (_root_.List api_Wait)) (p1 : (_root_.List api_Wait)) (r : Bool) (H : congressref22_Same p0 p1 = some r) : FSpec Try.prog 11 [(e_s_api_Wait p0), (e_s_api_Wait p1)] (.bool r) := by
  refine spec_of (fn := Try.f11) (args := [(e_s_api_Wait p0), (e_s_api_Wait p1)]) Try.func11 rfl (Nat.le_of_ble_eq_true rfl) ?_
  rintro ⟨G, w0, W, S, Sp⟩ hG
  cases hG
  unfold congressref22_Same at H
  refine aw_region (es := [_]) ⟨Step.plain rfl (does_assign (.const (.bool false)) (.bool false) (fun _ => rfl)), ⟨trivial, trivial, rfl⟩, rfl, rfl⟩ ?_
  refine aw_cov (cov_prune (s1 := ⟨[(0, (e_s_api_Wait p0)), (1, (e_s_api_Wait p1))], [], 0⟩) ⟨rfl, rfl, trivial⟩ trivial (Nat.le_refl _)) ?_
  refine aw_seq ?_
  refine aw_region (es := [_, _, _, _, _]) ⟨Step.plain rfl (does_move (.tmp 0) (e_s_api_Wait p0) trivial), ⟨⟨rfl, trivial⟩, trivial, rfl⟩, rfl,
    Step.plain rfl (does_lens 22 9 p0.length 6 (fun j => (e_api_Wait (p0.getD j z_api_Wait))) el22), ⟨⟨rfl, trivial⟩, trivial, rfl⟩, rfl,
    Step.plain rfl (does_move (.tmp 1) (e_s_api_Wait p1) trivial), ⟨⟨rfl, trivial⟩, trivial, rfl⟩, rfl,
    Step.plain rfl (does_lens 22 9 p1.length 8 (fun j => (e_api_Wait (p1.getD j z_api_Wait))) el22), ⟨⟨rfl, trivial⟩, trivial, rfl⟩, rfl,
    Step.plain rfl (does_bin .neq 3 3 (.tmp 7) (.tmp 9) .i64 (p0.length : Int) (p1.length : Int) (.bool ((p0.length : Int) != (p1.length : Int))) trivial trivial (bin_neq _ _ _ _)), ⟨⟨rfl, rfl, trivial⟩, trivial, rfl⟩, rfl, rfl⟩ ?_
  refine aw_cov (cov_prune (s1 := ⟨[(0, (e_s_api_Wait p0)), (1, (e_s_api_Wait p1)), (10, (.bool ((p0.length : Int) != (p1.length : Int))))], [], 0⟩) ⟨rfl, rfl, rfl, trivial⟩ trivial (Nat.le_refl _)) ?_
  refine aw_cond rfl (fun hc => ?_) (fun hc => ?_)
  · replace H := ite_t hc H
    refine aw_region (es := [_]) ⟨Step.plain rfl (does_assign (.const (.bool false)) (.bool false) (fun _ => rfl)), ⟨trivial, trivial, rfl⟩, rfl, rfl⟩ ?_
    refine aw_cov (cov_prune (s1 := ⟨[(4, (.bool false))], [], 0⟩) ⟨rfl, trivial⟩ trivial (Nat.le_refl _)) ?_
    refine aw_ret ?_
    refine rt_then ?_
    exact fun a w hr => ⟨_, [(.bool false)], hr, ⟨⟨_, rfl, .data (.bool false) trivial⟩, trivial⟩, by decide, by cases H; rfl⟩
  · replace H := ite_f hc H
    refine aw_skip ?_
    refine nx_seq ?_
    refine aw_seq ?_
    refine aw_region (es := [_]) ⟨Step.plain rfl (does_assign (.const (.int .i64 0)) (.int .i64 0) (fun _ => rfl)), ⟨trivial, trivial, rfl⟩, rfl, rfl⟩ ?_
    refine aw_cov (cov_prune (s1 := ⟨[(0, (e_s_api_Wait p0)), (1, (e_s_api_Wait p1)), (5, (.int .i64 0))], [], 0⟩) ⟨rfl, rfl, rfl, trivial⟩ trivial (Nat.le_refl _)) ?_
    obtain ⟨wn2, hwn2, Hrn2⟩ := bnd H
    refine aw_meet (fun y6 : Unit => (⟨[], [], 0⟩ : St)) (fun y6 => Fl.nx y6 = wn2) (fun y6 hy => ?_) (aw_block (aw_runs (fun x1 : Int => (⟨[(0, (e_s_api_Wait p0)), (1, (e_s_api_Wait p1)), (5, (.int .i64 x1))], [], 0⟩ : St)) hwn2 (cov_prune ⟨rfl, rfl, rfl, trivial⟩ trivial (Nat.le_of_ble_eq_true rfl)) (fun x1 st H hsn2 => ?_)))
    · have H := nx_of hy Hrn2
      refine nx_seq ?_
      refine aw_region (es := [_]) ⟨Step.plain rfl (does_assign (.const (.bool true)) (.bool true) (fun _ => rfl)), ⟨trivial, trivial, rfl⟩, rfl, rfl⟩ ?_
      refine aw_cov (cov_prune (s1 := ⟨[(4, (.bool true))], [], 0⟩) ⟨rfl, trivial⟩ trivial (Nat.le_refl _)) ?_
      refine aw_ret ?_
      exact fun a w hr => ⟨_, [(.bool true)], hr, ⟨⟨_, rfl, .data (.bool true) trivial⟩, trivial⟩, by decide, by cases H; rfl⟩
    · refine aw_seq ?_
      refine aw_region (es := [_, _, _, _]) ⟨Step.plain rfl (does_move (.tmp 5) (.int .i64 x1) trivial), ⟨⟨rfl, trivial⟩, trivial, rfl⟩, rfl,
        Step.plain rfl (does_move (.tmp 0) (e_s_api_Wait p0) trivial), ⟨⟨rfl, trivial⟩, trivial, rfl⟩, rfl,
        Step.plain rfl (does_lens 22 9 p0.length 12 (fun j => (e_api_Wait (p0.getD j z_api_Wait))) el22), ⟨⟨rfl, trivial⟩, trivial, rfl⟩, rfl,
        Step.plain rfl (does_bin .lss 3 3 (.tmp 11) (.tmp 13) .i64 x1 (p0.length : Int) (.bool (decide (x1 < (p0.length : Int)))) trivial trivial (bin_lss _ _ _ _)), ⟨⟨rfl, rfl, trivial⟩, trivial, rfl⟩, rfl, rfl⟩ ?_
      refine aw_cov (cov_prune (s1 := ⟨[(0, (e_s_api_Wait p0)), (1, (e_s_api_Wait p1)), (5, (.int .i64 x1)), (14, (.bool (decide (x1 < (p0.length : Int)))))], [], 0⟩) ⟨rfl, rfl, rfl, rfl, trivial⟩ trivial (Nat.le_refl _)) ?_
      refine aw_cond rfl (fun hc => ?_) (fun hc => ?_)
      · replace H := ite_t hc H
        refine aw_skip ?_
        refine nx_seq ?_
        refine aw_seq ?_
        refine aw_block ?_
        obtain ⟨h3, H⟩ := ib_of H
        obtain ⟨h4, H⟩ := ib_of H
        refine aw_draw (es := [_, _, _, _, _, _, _, _, _]) (mixed) ⟨Step.plain rfl (does_move (.tmp 0) (e_s_api_Wait p0) trivial), ⟨⟨rfl, trivial⟩, trivial, rfl⟩, rfl,
          Step.plain rfl (does_move (.tmp 5) (.int .i64 x1) trivial), ⟨⟨rfl, trivial⟩, trivial, rfl⟩, rfl,
          Step.plain rfl (does_indexAddrs 22 9 p0.length 17 (fun j => (e_api_Wait (p0.getD j z_api_Wait))) (.tmp 18) .i64 x1 el22 trivial h3.1 h3.2), ⟨⟨rfl, rfl, trivial⟩, trivial, rfl⟩, rfl,
          Step.plain rfl (does_loadc 47 19 (e_api_Wait (p0.getD x1.toNat z_api_Wait)) ty47), ⟨⟨rfl, trivial⟩, trivial, rfl⟩, rfl,
          Step.plain rfl (does_move (.tmp 1) (e_s_api_Wait p1) trivial), ⟨⟨rfl, trivial⟩, trivial, rfl⟩, rfl,
          Step.plain rfl (does_move (.tmp 5) (.int .i64 x1) trivial), ⟨⟨rfl, trivial⟩, trivial, rfl⟩, rfl,
          Step.plain rfl (does_indexAddrs 22 9 p1.length 21 (fun j => (e_api_Wait (p1.getD j z_api_Wait))) (.tmp 22) .i64 x1 el22 trivial h4.1 h4.2), ⟨⟨rfl, rfl, trivial⟩, trivial, rfl⟩, rfl,
          Step.plain rfl (does_loadc 47 23 (e_api_Wait (p1.getD x1.toNat z_api_Wait)) ty47), ⟨⟨rfl, trivial⟩, trivial, rfl⟩, rfl,
          Step.plain rfl (does_eqT true 47 47 (.tmp 20) (.tmp 24) (e_api_Wait (p0.getD x1.toNat z_api_Wait)) (e_api_Wait (p1.getD x1.toNat z_api_Wait)) (e_api_Wait z_api_Wait) (b_api_Wait (p0.getD x1.toNat z_api_Wait) (p1.getD x1.toNat z_api_Wait)) rfl rfl trivial trivial eg47 sh47 (al_api_Wait _ _) (al_api_Wait _ _) (q_api_Wait _ _)), ⟨⟨rfl, rfl, trivial⟩, trivial, rfl⟩, rfl, rfl⟩ rfl ?_
        obtain ⟨v5, hv5, H⟩ := lt_of H
        refine aw_cov (cov_prune (s1 := ⟨[(0, (e_s_api_Wait p0)), (1, (e_s_api_Wait p1)), (5, (.int .i64 x1)), (25, (.bool v5))], [], 0⟩) ⟨rfl, rfl, rfl, (by subst hv5; rfl), trivial⟩ trivial (Nat.le_refl _)) ?_
        refine aw_cond rfl (fun hc => ?_) (fun hc => ?_)
        · replace H := ite_t hc H
          refine aw_region (es := [_]) ⟨Step.plain rfl (does_assign (.const (.bool false)) (.bool false) (fun _ => rfl)), ⟨trivial, trivial, rfl⟩, rfl, rfl⟩ ?_
          refine aw_cov (cov_prune (s1 := ⟨[(4, (.bool false))], [], 0⟩) ⟨rfl, trivial⟩ trivial (Nat.le_refl _)) ?_
          refine aw_ret ?_
          replace H := rt_of H hsn2 Hrn2
          refine rt_blk ?_
          refine rt_then ?_
          refine rt_then ?_
          refine rt_blk ?_
          refine rt_then ?_
          refine rt_then ?_
          exact fun a w hr => ⟨_, [(.bool false)], hr, ⟨⟨_, rfl, .data (.bool false) trivial⟩, trivial⟩, by decide, by cases H; rfl⟩
        · replace H := ite_f hc H
          refine aw_skip ?_
          refine nx_blk ?_
          refine nx_seq ?_
          refine aw_region1 (es := [_, _, _]) ⟨Step.plain rfl (does_move (.tmp 5) (.int .i64 x1) trivial), ⟨⟨rfl, trivial⟩, trivial, rfl⟩, rfl,
            Step.plain rfl (does_bin .add 3 3 (.tmp 15) (.const (.int .i64 1)) .i64 x1 1 (.int .i64 (IntKind.i64.wrap (x1 + 1))) trivial (fun _ => rfl) (bin_add _ _ _ _)), ⟨⟨rfl, trivial⟩, trivial, rfl⟩, rfl,
            Step.plain rfl (does_assign (.tmp 16) (.int .i64 (IntKind.i64.wrap (x1 + 1))) trivial), ⟨⟨rfl, trivial⟩, trivial, rfl⟩, rfl, rfl⟩ ?_
          exact nx_loop ((IntKind.i64.wrap (x1 + 1))) H (cov_prune ⟨rfl, rfl, rfl, trivial⟩ trivial (Nat.le_of_ble_eq_true rfl))
      · replace H := ite_f hc H
        refine aw_exit ?_
        refine ex_then ?_
        refine ex_then ?_
        refine ex_here ?_
        exact nx_ljoin () H hsn2 (cov_prune trivial trivial (Nat.le_of_ble_eq_true rfl))

theorem congressref22_May_spec (p0 : (_root_.List api_Wait)) (r : Bool) (H : congressref22_May p0 = some r) : FSpec Try.prog 16 [(e_s_api_Wait p0)] (.bool r) := by
  refine spec_of (fn := Try.f16) (args := [(e_s_api_Wait p0)]) Try.func16 rfl (Nat.le_of_ble_eq_true rfl) ?_
  rintro ⟨G, w0, W, S, Sp⟩ hG
  cases hG
  unfold congressref22_May at H
  refine aw_region (es := [_]) ⟨Step.plain rfl (does_assign (.const (.bool false)) (.bool false) (fun _ => rfl)), ⟨trivial, trivial, rfl⟩, rfl, rfl⟩ ?_
  refine aw_cov (cov_prune (s1 := ⟨[(0, (e_s_api_Wait p0))], [], 0⟩) ⟨rfl, trivial⟩ trivial (Nat.le_refl _)) ?_
  refine aw_seq ?_
  refine aw_region (es := [_]) ⟨Step.plain rfl (does_assign (.const (.int .i64 0)) (.int .i64 0) (fun _ => rfl)), ⟨trivial, trivial, rfl⟩, rfl, rfl⟩ ?_
  refine aw_cov (cov_prune (s1 := ⟨[(0, (e_s_api_Wait p0)), (3, (.int .i64 0))], [], 0⟩) ⟨rfl, rfl, trivial⟩ trivial (Nat.le_refl _)) ?_
  obtain ⟨wn2, hwn2, Hrn2⟩ := bnd H
  refine aw_meet (fun y9 : Unit => (⟨[], [], 0⟩ : St)) (fun y9 => Fl.nx y9 = wn2) (fun y9 hy => ?_) (aw_block (aw_runs (fun x1 : Int => (⟨[(0, (e_s_api_Wait p0)), (3, (.int .i64 x1))], [], 0⟩ : St)) hwn2 (cov_prune ⟨rfl, rfl, trivial⟩ trivial (Nat.le_of_ble_eq_true rfl)) (fun x1 st H hsn2 => ?_)))
  · have H := nx_of hy Hrn2
    refine nx_seq ?_
    refine aw_region (es := [_]) ⟨Step.plain rfl (does_assign (.const (.bool true)) (.bool true) (fun _ => rfl)), ⟨trivial, trivial, rfl⟩, rfl, rfl⟩ ?_
    refine aw_cov (cov_prune (s1 := ⟨[(2, (.bool true))], [], 0⟩) ⟨rfl, trivial⟩ trivial (Nat.le_refl _)) ?_
    refine aw_ret ?_
    exact fun a w hr => ⟨_, [(.bool true)], hr, ⟨⟨_, rfl, .data (.bool true) trivial⟩, trivial⟩, by decide, by cases H; rfl⟩
  · refine aw_seq ?_
    refine aw_region (es := [_, _, _, _]) ⟨Step.plain rfl (does_move (.tmp 3) (.int .i64 x1) trivial), ⟨⟨rfl, trivial⟩, trivial, rfl⟩, rfl,
      Step.plain rfl (does_move (.tmp 0) (e_s_api_Wait p0) trivial), ⟨⟨rfl, trivial⟩, trivial, rfl⟩, rfl,
      Step.plain rfl (does_lens 22 9 p0.length 5 (fun j => (e_api_Wait (p0.getD j z_api_Wait))) el22), ⟨⟨rfl, trivial⟩, trivial, rfl⟩, rfl,
      Step.plain rfl (does_bin .lss 3 3 (.tmp 4) (.tmp 6) .i64 x1 (p0.length : Int) (.bool (decide (x1 < (p0.length : Int)))) trivial trivial (bin_lss _ _ _ _)), ⟨⟨rfl, rfl, trivial⟩, trivial, rfl⟩, rfl, rfl⟩ ?_
    refine aw_cov (cov_prune (s1 := ⟨[(0, (e_s_api_Wait p0)), (3, (.int .i64 x1)), (7, (.bool (decide (x1 < (p0.length : Int)))))], [], 0⟩) ⟨rfl, rfl, rfl, trivial⟩ trivial (Nat.le_refl _)) ?_
    refine aw_cond rfl (fun hc => ?_) (fun hc => ?_)
    · replace H := ite_t hc H
      refine aw_skip ?_
      refine nx_seq ?_
      refine aw_seq ?_
      refine aw_block ?_
      obtain ⟨h3, H⟩ := ib_of H
      obtain ⟨h4, H⟩ := ibg_of H
      obtain ⟨h5, H⟩ := ibg_of H
      obtain ⟨v6, h7, H⟩ := whn_of H
      refine aw_draw (es := [_, _, _, _, _, _, _, _, _, _, _, _, _, _, _, _, _, _, _, _, _, _, _, _, _, _]) (mixed) ⟨Step.plain rfl (does_move (.tmp 0) (e_s_api_Wait p0) trivial), ⟨⟨rfl, trivial⟩, trivial, rfl⟩, rfl,
        Step.plain rfl (does_move (.tmp 3) (.int .i64 x1) trivial), ⟨⟨rfl, trivial⟩, trivial, rfl⟩, rfl,
        Step.plain rfl (does_indexAddrs 22 9 p0.length 10 (fun j => (e_api_Wait (p0.getD j z_api_Wait))) (.tmp 11) .i64 x1 el22 trivial h3.1 h3.2), ⟨⟨rfl, rfl, trivial⟩, trivial, rfl⟩, rfl,
        Step.plain rfl (does_fieldAddrc 47 1 3 12 (e_api_Wait (p0.getD x1.toNat z_api_Wait)) fl47_1 rfl (Nat.le_of_ble_eq_true rfl) rfl), ⟨⟨rfl, trivial⟩, trivial, rfl⟩, rfl,
        Step.plain rfl (does_loadc 45 13 (e_api_Entry ((p0.getD x1.toNat z_api_Wait).Entry)) ty45), ⟨⟨rfl, trivial⟩, trivial, rfl⟩, rfl,
        Step.plain rfl (does_buildT 45 #[] [] [] (.st [1, 1, 1, 1, 1, 1]) (c_api_Entry z_api_Entry) (c_api_Entry ({ Kind := 0, Service := 0, Group := 0, Session := 0, Number := 0, Text := ByteArray.empty } : api_Entry)) rfl bo45 trivial trivial (by funext j; match j with | 0 => rfl | 1 => rfl | 2 => rfl | 3 => rfl | 4 => rfl | 5 => rfl | _ + 6 => rfl)), ⟨trivial, trivial, rfl⟩, rfl,
        Step.plain rfl (does_eqT false 45 45 (.tmp 14) (.tmp 15) (e_api_Entry ((p0.getD x1.toNat z_api_Wait).Entry)) (e_api_Entry ({ Kind := 0, Service := 0, Group := 0, Session := 0, Number := 0, Text := ByteArray.empty } : api_Entry)) (e_api_Entry z_api_Entry) (b_api_Entry ((p0.getD x1.toNat z_api_Wait).Entry) ({ Kind := 0, Service := 0, Group := 0, Session := 0, Number := 0, Text := ByteArray.empty } : api_Entry)) rfl rfl trivial trivial eg45 sh45 (al_api_Entry _ _) (al_api_Entry _ _) (q_api_Entry _ _)), ⟨⟨rfl, rfl, trivial⟩, trivial, rfl⟩, rfl,
        Step.plain rfl (does_move (.tmp 16) (.bool (b_api_Entry ((p0.getD x1.toNat z_api_Wait).Entry) ({ Kind := 0, Service := 0, Group := 0, Session := 0, Number := 0, Text := ByteArray.empty } : api_Entry))) trivial), ⟨⟨rfl, trivial⟩, trivial, rfl⟩, rfl,
        Step.guarded rfl rfl rfl rfl (fun hc => does_move (.tmp 3) (.int .i64 x1) trivial), ⟨⟨rfl, rfl, trivial⟩, trivial, rfl⟩, rfl,
        Step.guarded rfl rfl rfl rfl (fun hc => Does.strip (n' := [(18, (.opt (!(b_api_Entry ((p0.getD x1.toNat z_api_Wait).Entry) ({ Kind := 0, Service := 0, Group := 0, Session := 0, Number := 0, Text := ByteArray.empty } : api_Entry))) (.int .i64 x1)))]) (n := [(18, (.int .i64 x1))]) ⟨(.opt _ _ hc), trivial⟩ (does_bin .gtr 3 3 (.tmp 18) (.const (.int .i64 0)) .i64 x1 0 (.bool (decide (x1 > 0))) trivial (fun _ => rfl) (bin_gtr _ _ _ _))), ⟨⟨rfl, rfl, trivial⟩, trivial, rfl⟩, rfl,
        Step.guarded rfl rfl rfl rfl (fun hc => Does.strip (n' := [(19, (.opt (!(b_api_Entry ((p0.getD x1.toNat z_api_Wait).Entry) ({ Kind := 0, Service := 0, Group := 0, Session := 0, Number := 0, Text := ByteArray.empty } : api_Entry))) (.bool (decide (x1 > 0)))))]) (n := [(19, (.bool (decide (x1 > 0))))]) ⟨(.opt _ _ hc), trivial⟩ (does_move (.tmp 19) (.bool (decide (x1 > 0))) trivial)), ⟨⟨rfl, rfl, trivial⟩, trivial, rfl⟩, rfl,
        Step.guarded rfl rfl rfl rfl (fun hc => does_move (.tmp 0) (e_s_api_Wait p0) trivial), ⟨⟨rfl, rfl, trivial⟩, trivial, rfl⟩, rfl,
        Step.guarded rfl rfl rfl rfl (fun hc => does_move (.tmp 3) (.int .i64 x1) trivial), ⟨⟨rfl, rfl, trivial⟩, trivial, rfl⟩, rfl,
        Step.guarded rfl rfl rfl rfl (fun hc => Does.strip (n' := [(22, (.opt ((!(b_api_Entry ((p0.getD x1.toNat z_api_Wait).Entry) ({ Kind := 0, Service := 0, Group := 0, Session := 0, Number := 0, Text := ByteArray.empty } : api_Entry))) && (decide (x1 > 0))) (.int .i64 x1)))]) (n := [(22, (.int .i64 x1))]) ⟨(.opt _ _ hc), trivial⟩ (does_bin .sub 3 3 (.tmp 22) (.const (.int .i64 1)) .i64 x1 1 (.int .i64 (IntKind.i64.wrap (x1 - 1))) trivial (fun _ => rfl) (bin_sub _ _ _ _))), ⟨⟨rfl, rfl, trivial⟩, trivial, rfl⟩, rfl,
        Step.guarded rfl rfl rfl rfl (fun hc => Does.strip (n' := [(21, (.opt ((!(b_api_Entry ((p0.getD x1.toNat z_api_Wait).Entry) ({ Kind := 0, Service := 0, Group := 0, Session := 0, Number := 0, Text := ByteArray.empty } : api_Entry))) && (decide (x1 > 0))) (e_s_api_Wait p0))), (23, (.opt ((!(b_api_Entry ((p0.getD x1.toNat z_api_Wait).Entry) ({ Kind := 0, Service := 0, Group := 0, Session := 0, Number := 0, Text := ByteArray.empty } : api_Entry))) && (decide (x1 > 0))) (.int .i64 (IntKind.i64.wrap (x1 - 1)))))]) (n := [(21, (e_s_api_Wait p0)), (23, (.int .i64 (IntKind.i64.wrap (x1 - 1))))]) ⟨(.opt _ _ hc), (.opt _ _ hc), trivial⟩ (does_indexAddrs 22 9 p0.length 21 (fun j => (e_api_Wait (p0.getD j z_api_Wait))) (.tmp 23) .i64 (IntKind.i64.wrap (x1 - 1)) el22 trivial (h4 hc).1 (h4 hc).2)), ⟨⟨rfl, rfl, rfl, trivial⟩, trivial, rfl⟩, rfl,
        Step.guarded rfl rfl rfl rfl (fun hc => Does.strip (n' := [(24, (.opt ((!(b_api_Entry ((p0.getD x1.toNat z_api_Wait).Entry) ({ Kind := 0, Service := 0, Group := 0, Session := 0, Number := 0, Text := ByteArray.empty } : api_Entry))) && (decide (x1 > 0))) (.cptr (e_api_Wait (p0.getD ((IntKind.i64.wrap (x1 - 1)).toNat) z_api_Wait)))))]) (n := [(24, (.cptr (e_api_Wait (p0.getD ((IntKind.i64.wrap (x1 - 1)).toNat) z_api_Wait))))]) ⟨(.opt _ _ hc), trivial⟩ (does_fieldAddrc 47 0 0 24 (e_api_Wait (p0.getD ((IntKind.i64.wrap (x1 - 1)).toNat) z_api_Wait)) fl47_0 rfl (Nat.le_of_ble_eq_true rfl) rfl)), ⟨⟨rfl, rfl, trivial⟩, trivial, rfl⟩, rfl,
        Step.guarded rfl rfl rfl rfl (fun hc => Does.strip (n' := [(25, (.opt ((!(b_api_Entry ((p0.getD x1.toNat z_api_Wait).Entry) ({ Kind := 0, Service := 0, Group := 0, Session := 0, Number := 0, Text := ByteArray.empty } : api_Entry))) && (decide (x1 > 0))) (.cptr (e_api_Place ((p0.getD ((IntKind.i64.wrap (x1 - 1)).toNat) z_api_Wait).Place)))))]) (n := [(25, (.cptr (e_api_Place ((p0.getD ((IntKind.i64.wrap (x1 - 1)).toNat) z_api_Wait).Place))))]) ⟨(.opt _ _ hc), trivial⟩ (does_loadc 42 25 (e_api_Place ((p0.getD ((IntKind.i64.wrap (x1 - 1)).toNat) z_api_Wait).Place)) ty42)), ⟨⟨rfl, rfl, trivial⟩, trivial, rfl⟩, rfl,
        Step.guarded rfl rfl rfl rfl (fun hc => does_move (.tmp 0) (e_s_api_Wait p0) trivial), ⟨⟨rfl, rfl, trivial⟩, trivial, rfl⟩, rfl,
        Step.guarded rfl rfl rfl rfl (fun hc => does_move (.tmp 3) (.int .i64 x1) trivial), ⟨⟨rfl, rfl, trivial⟩, trivial, rfl⟩, rfl,
        Step.guarded rfl rfl rfl rfl (fun hc => Does.strip (n' := [(27, (.opt ((!(b_api_Entry ((p0.getD x1.toNat z_api_Wait).Entry) ({ Kind := 0, Service := 0, Group := 0, Session := 0, Number := 0, Text := ByteArray.empty } : api_Entry))) && (decide (x1 > 0))) (e_s_api_Wait p0))), (28, (.opt ((!(b_api_Entry ((p0.getD x1.toNat z_api_Wait).Entry) ({ Kind := 0, Service := 0, Group := 0, Session := 0, Number := 0, Text := ByteArray.empty } : api_Entry))) && (decide (x1 > 0))) (.int .i64 x1)))]) (n := [(27, (e_s_api_Wait p0)), (28, (.int .i64 x1))]) ⟨(.opt _ _ hc), (.opt _ _ hc), trivial⟩ (does_indexAddrs 22 9 p0.length 27 (fun j => (e_api_Wait (p0.getD j z_api_Wait))) (.tmp 28) .i64 x1 el22 trivial (h5 hc).1 (h5 hc).2)), ⟨⟨rfl, rfl, rfl, trivial⟩, trivial, rfl⟩, rfl,
        Step.guarded rfl rfl rfl rfl (fun hc => Does.strip (n' := [(29, (.opt ((!(b_api_Entry ((p0.getD x1.toNat z_api_Wait).Entry) ({ Kind := 0, Service := 0, Group := 0, Session := 0, Number := 0, Text := ByteArray.empty } : api_Entry))) && (decide (x1 > 0))) (.cptr (e_api_Wait (p0.getD x1.toNat z_api_Wait)))))]) (n := [(29, (.cptr (e_api_Wait (p0.getD x1.toNat z_api_Wait))))]) ⟨(.opt _ _ hc), trivial⟩ (does_fieldAddrc 47 0 0 29 (e_api_Wait (p0.getD x1.toNat z_api_Wait)) fl47_0 rfl (Nat.le_of_ble_eq_true rfl) rfl)), ⟨⟨rfl, rfl, trivial⟩, trivial, rfl⟩, rfl,
        Step.guarded rfl rfl rfl rfl (fun hc => Does.strip (n' := [(30, (.opt ((!(b_api_Entry ((p0.getD x1.toNat z_api_Wait).Entry) ({ Kind := 0, Service := 0, Group := 0, Session := 0, Number := 0, Text := ByteArray.empty } : api_Entry))) && (decide (x1 > 0))) (.cptr (e_api_Place ((p0.getD x1.toNat z_api_Wait).Place)))))]) (n := [(30, (.cptr (e_api_Place ((p0.getD x1.toNat z_api_Wait).Place))))]) ⟨(.opt _ _ hc), trivial⟩ (does_loadc 42 30 (e_api_Place ((p0.getD x1.toNat z_api_Wait).Place)) ty42)), ⟨⟨rfl, rfl, trivial⟩, trivial, rfl⟩, rfl,
        Step.guarded rfl rfl rfl rfl (fun hc => Does.strip (n' := [(26, (.opt ((!(b_api_Entry ((p0.getD x1.toNat z_api_Wait).Entry) ({ Kind := 0, Service := 0, Group := 0, Session := 0, Number := 0, Text := ByteArray.empty } : api_Entry))) && (decide (x1 > 0))) (e_api_Place ((p0.getD ((IntKind.i64.wrap (x1 - 1)).toNat) z_api_Wait).Place)))), (31, (.opt ((!(b_api_Entry ((p0.getD x1.toNat z_api_Wait).Entry) ({ Kind := 0, Service := 0, Group := 0, Session := 0, Number := 0, Text := ByteArray.empty } : api_Entry))) && (decide (x1 > 0))) (e_api_Place ((p0.getD x1.toNat z_api_Wait).Place))))]) (n := [(26, (e_api_Place ((p0.getD ((IntKind.i64.wrap (x1 - 1)).toNat) z_api_Wait).Place))), (31, (e_api_Place ((p0.getD x1.toNat z_api_Wait).Place)))]) ⟨(.opt _ _ hc), (.opt _ _ hc), trivial⟩ (does_call 21 0 (fun _ => .any) (.func 21) [(.tmp 26), (.tmp 31)] [(e_api_Place ((p0.getD ((IntKind.i64.wrap (x1 - 1)).toNat) z_api_Wait).Place)), (e_api_Place ((p0.getD x1.toNat z_api_Wait).Place))] [] true [(e_api_Place ((p0.getD ((IntKind.i64.wrap (x1 - 1)).toNat) z_api_Wait).Place)), (e_api_Place ((p0.getD x1.toNat z_api_Wait).Place))] (.bool v6) _ _ rfl fo21 rfl ⟨trivial, trivial, trivial⟩ ⟨.data _ (d_api_Place ((p0.getD ((IntKind.i64.wrap (x1 - 1)).toNat) z_api_Wait).Place)), .data _ (d_api_Place ((p0.getD x1.toNat z_api_Wait).Place)), trivial⟩ (congressref09_Before_spec ((p0.getD ((IntKind.i64.wrap (x1 - 1)).toNat) z_api_Wait).Place) ((p0.getD x1.toNat z_api_Wait).Place) _ (h7 hc)) trivial)), ⟨⟨rfl, rfl, rfl, trivial⟩, trivial, rfl⟩, rfl,
        Step.guarded rfl rfl rfl rfl (fun hc => Does.strip (n' := [(32, (.opt ((!(b_api_Entry ((p0.getD x1.toNat z_api_Wait).Entry) ({ Kind := 0, Service := 0, Group := 0, Session := 0, Number := 0, Text := ByteArray.empty } : api_Entry))) && (decide (x1 > 0))) (.bool v6)))]) (n := [(32, (.bool v6))]) ⟨(.opt _ _ hc), trivial⟩ (does_not 4 (.tmp 32) v6 trivial)), ⟨⟨rfl, rfl, trivial⟩, trivial, rfl⟩, rfl,
        Step.guarded rfl rfl rfl rfl (fun hc => Does.strip (n' := [(20, (.opt (!(b_api_Entry ((p0.getD x1.toNat z_api_Wait).Entry) ({ Kind := 0, Service := 0, Group := 0, Session := 0, Number := 0, Text := ByteArray.empty } : api_Entry))) (.bool (decide (x1 > 0))))), (33, (.opt ((!(b_api_Entry ((p0.getD x1.toNat z_api_Wait).Entry) ({ Kind := 0, Service := 0, Group := 0, Session := 0, Number := 0, Text := ByteArray.empty } : api_Entry))) && (decide (x1 > 0))) (.bool (!v6))))]) (n := [(20, (.bool (decide (x1 > 0)))), (33, (.opt (decide (x1 > 0)) (.bool (!v6))))]) ⟨(.opt _ _ hc), (.half _ _ hc), trivial⟩ (does_and 20 33 (decide (x1 > 0)) (!v6))), ⟨⟨rfl, rfl, rfl, trivial⟩, trivial, rfl⟩, rfl,
        Step.plain rfl (does_or 17 34 (b_api_Entry ((p0.getD x1.toNat z_api_Wait).Entry) ({ Kind := 0, Service := 0, Group := 0, Session := 0, Number := 0, Text := ByteArray.empty } : api_Entry)) ((decide (x1 > 0)) && (!v6))), ⟨⟨rfl, rfl, trivial⟩, trivial, rfl⟩, rfl, rfl⟩ rfl ?_
      obtain ⟨v8, hv8, H⟩ := lt_of H
      refine aw_cov (cov_prune (s1 := ⟨[(0, (e_s_api_Wait p0)), (3, (.int .i64 x1)), (35, (.bool v8))], [], 0⟩) ⟨rfl, rfl, (by subst hv8; rfl), trivial⟩ trivial (Nat.le_refl _)) ?_
      refine aw_cond rfl (fun hc => ?_) (fun hc => ?_)
      · replace H := ite_t hc H
        refine aw_region (es := [_]) ⟨Step.plain rfl (does_assign (.const (.bool false)) (.bool false) (fun _ => rfl)), ⟨trivial, trivial, rfl⟩, rfl, rfl⟩ ?_
        refine aw_cov (cov_prune (s1 := ⟨[(2, (.bool false))], [], 0⟩) ⟨rfl, trivial⟩ trivial (Nat.le_refl _)) ?_
        refine aw_ret ?_
        replace H := rt_of H hsn2 Hrn2
        refine rt_blk ?_
        refine rt_then ?_
        refine rt_then ?_
        refine rt_blk ?_
        refine rt_then ?_
        refine rt_then ?_
        exact fun a w hr => ⟨_, [(.bool false)], hr, ⟨⟨_, rfl, .data (.bool false) trivial⟩, trivial⟩, by decide, by cases H; rfl⟩
      · replace H := ite_f hc H
        refine aw_skip ?_
        refine nx_blk ?_
        refine nx_seq ?_
        refine aw_region1 (es := [_, _, _]) ⟨Step.plain rfl (does_move (.tmp 3) (.int .i64 x1) trivial), ⟨⟨rfl, trivial⟩, trivial, rfl⟩, rfl,
          Step.plain rfl (does_bin .add 3 3 (.tmp 8) (.const (.int .i64 1)) .i64 x1 1 (.int .i64 (IntKind.i64.wrap (x1 + 1))) trivial (fun _ => rfl) (bin_add _ _ _ _)), ⟨⟨rfl, trivial⟩, trivial, rfl⟩, rfl,
          Step.plain rfl (does_assign (.tmp 9) (.int .i64 (IntKind.i64.wrap (x1 + 1))) trivial), ⟨⟨rfl, trivial⟩, trivial, rfl⟩, rfl, rfl⟩ ?_
        exact nx_loop ((IntKind.i64.wrap (x1 + 1))) H (cov_prune ⟨rfl, rfl, trivial⟩ trivial (Nat.le_of_ble_eq_true rfl))
    · replace H := ite_f hc H
      refine aw_exit ?_
      refine ex_then ?_
      refine ex_then ?_
      refine ex_here ?_
      exact nx_ljoin () H hsn2 (cov_prune trivial trivial (Nat.le_of_ble_eq_true rfl))

theorem congresslaw22_QueueTells_spec (p0 : (_root_.List api_Wait)) (p1 : congresslaw22_Frame) (p2 : congresslaw22_Where) (r : Bool) (H : congresslaw22_QueueTells p0 p1 p2 = some r) : FSpec Try.prog 3 [(e_s_api_Wait p0), (e_congresslaw22_Frame p1), (e_congresslaw22_Where p2)] (.bool r) := by
  refine spec_of (fn := Try.f3) (args := [(e_s_api_Wait p0), (e_congresslaw22_Frame p1), (e_congresslaw22_Where p2)]) Try.func3 rfl (Nat.le_of_ble_eq_true rfl) ?_
  rintro ⟨G, w0, W, S, Sp⟩ hG
  cases hG
  unfold congresslaw22_QueueTells at H
  refine aw_region (es := [_, _, _]) ⟨Step.plain rfl (does_box 26 (.tmp 1) 0 (e_congresslaw22_Frame p1) trivial rfl), ⟨⟨rfl, trivial⟩, trivial, rfl⟩, rfl,
    Step.plain rfl (does_box 31 (.tmp 2) 1 (e_congresslaw22_Where p2) trivial rfl), ⟨⟨rfl, trivial⟩, trivial, rfl⟩, rfl,
    Step.plain rfl (does_assign (.const (.bool false)) (.bool false) (fun _ => rfl)), ⟨trivial, trivial, rfl⟩, rfl, rfl⟩ ?_
  refine aw_cov (cov_prune (s1 := ⟨[(0, (e_s_api_Wait p0)), (4, (.ptr 0 0 [])), (5, (.ptr 1 0 []))], [(0, some (.var (e_congresslaw22_Frame p1))), (1, some (.var (e_congresslaw22_Where p2)))], 2⟩) ⟨rfl, rfl, rfl, trivial⟩ ⟨rfl, rfl, trivial⟩ (Nat.le_refl _)) ?_
  refine aw_seq ?_
  refine aw_region (es := [_, _, _, _, _, _, _, _, _]) ⟨Step.plain rfl (does_move (.tmp 0) (e_s_api_Wait p0) trivial), ⟨⟨rfl, trivial⟩, trivial, rfl⟩, rfl,
    Step.plain rfl (does_lens 22 9 p0.length 11 (fun j => (e_api_Wait (p0.getD j z_api_Wait))) el22), ⟨⟨rfl, trivial⟩, trivial, rfl⟩, rfl,
    Step.plain rfl (does_bin .gtr 3 3 (.tmp 12) (.const (.int .i64 100)) .i64 (p0.length : Int) 100 (.bool (decide ((p0.length : Int) > 100))) trivial (fun _ => rfl) (bin_gtr _ _ _ _)), ⟨⟨rfl, trivial⟩, trivial, rfl⟩, rfl,
    Step.plain rfl (does_move (.tmp 13) (.bool (decide ((p0.length : Int) > 100))) trivial), ⟨⟨rfl, trivial⟩, trivial, rfl⟩, rfl,
    Step.guarded rfl rfl rfl rfl (fun hc => does_fieldAddr 26 2 2 4 0 0 [] (.var (e_congresslaw22_Frame p1)) fl26_2), ⟨⟨rfl, rfl, trivial⟩, ⟨rfl, trivial⟩, rfl⟩, rfl,
    Step.guarded rfl rfl rfl rfl (fun hc => Does.strip (n' := [(15, (.opt (!(decide ((p0.length : Int) > 100))) (.ptr 0 (0 + 2) [2])))]) (n := [(15, (.ptr 0 (0 + 2) [2]))]) ⟨(.opt _ _ hc), trivial⟩ (does_load 24 15 0 (0 + 2) [2] (.var (e_congresslaw22_Frame p1)) (e_s_api_Entry p1.L) ⟨rfl, Nat.le_of_ble_eq_true rfl, trivial⟩ rfl rfl ty24)), ⟨⟨rfl, rfl, trivial⟩, ⟨rfl, trivial⟩, rfl⟩, rfl,
    Step.guarded rfl rfl rfl rfl (fun hc => Does.strip (n' := [(16, (.opt (!(decide ((p0.length : Int) > 100))) (e_s_api_Entry p1.L)))]) (n := [(16, (e_s_api_Entry p1.L))]) ⟨(.opt _ _ hc), trivial⟩ (does_lens 24 6 p1.L.length 16 (fun j => (e_api_Entry (p1.L.getD j z_api_Entry))) el24)), ⟨⟨rfl, rfl, trivial⟩, trivial, rfl⟩, rfl,
    Step.guarded rfl rfl rfl rfl (fun hc => Does.strip (n' := [(17, (.opt (!(decide ((p0.length : Int) > 100))) (.int .i64 (p1.L.length : Int))))]) (n := [(17, (.int .i64 (p1.L.length : Int)))]) ⟨(.opt _ _ hc), trivial⟩ (does_bin .gtr 3 3 (.tmp 17) (.const (.int .i64 20)) .i64 (p1.L.length : Int) 20 (.bool (decide ((p1.L.length : Int) > 20))) trivial (fun _ => rfl) (bin_gtr _ _ _ _))), ⟨⟨rfl, rfl, trivial⟩, trivial, rfl⟩, rfl,
    Step.plain rfl (does_or 14 18 (decide ((p0.length : Int) > 100)) (decide ((p1.L.length : Int) > 20))), ⟨⟨rfl, rfl, trivial⟩, trivial, rfl⟩, rfl, rfl⟩ ?_
  obtain ⟨v1, hv1, H⟩ := lt_of H
  refine aw_cov (cov_prune (s1 := ⟨[(0, (e_s_api_Wait p0)), (4, (.ptr 0 0 [])), (5, (.ptr 1 0 [])), (19, (.bool v1))], [(0, some (.var (e_congresslaw22_Frame p1))), (1, some (.var (e_congresslaw22_Where p2)))], 2⟩) ⟨rfl, rfl, rfl, (by subst hv1; rfl), trivial⟩ ⟨rfl, rfl, trivial⟩ (Nat.le_refl _)) ?_
  refine aw_cond rfl (fun hc => ?_) (fun hc => ?_)
  · replace H := ite_t hc H
    obtain ⟨v2, h3, H⟩ := bnd H
    refine aw_region (es := [_, _]) ⟨Step.plain rfl (does_call 8 0 (fun _ => .any) (.func 8) [] [] [] true [] (.bool v2) _ _ rfl fo8 rfl trivial trivial (congresslaw22_fixed_spec _ h3) trivial), ⟨trivial, trivial, rfl⟩, rfl,
      Step.plain rfl (does_assign (.tmp 20) (.bool v2) trivial), ⟨⟨rfl, trivial⟩, trivial, rfl⟩, rfl, rfl⟩ ?_
    refine aw_cov (cov_prune (s1 := ⟨[(6, (.bool v2))], [], 2⟩) ⟨rfl, trivial⟩ trivial (Nat.le_refl _)) ?_
    refine aw_ret ?_
    refine rt_then ?_
    exact fun a w hr => ⟨_, [(.bool v2)], hr, ⟨⟨_, rfl, .data (.bool v2) trivial⟩, trivial⟩, by decide, by cases H; rfl⟩
  · replace H := ite_f hc H
    refine aw_skip ?_
    refine nx_seq ?_
    obtain ⟨v4, h5, H⟩ := bnd H
    refine aw_region (es := [_, _, _, _, _, _, _, _, _, _, _]) ⟨Step.plain rfl (does_move (.tmp 0) (e_s_api_Wait p0) trivial), ⟨⟨rfl, trivial⟩, trivial, rfl⟩, rfl,
      Step.plain rfl (does_fieldAddr 31 0 0 5 1 0 [] (.var (e_congresslaw22_Where p2)) fl31_0), ⟨⟨rfl, trivial⟩, ⟨rfl, trivial⟩, rfl⟩, rfl,
      Step.plain rfl (does_load 28 23 1 (0 + 0) [0] (.var (e_congresslaw22_Where p2)) (e_a8_u32 p2.C) ⟨rfl, Nat.le_of_ble_eq_true rfl, trivial⟩ rfl rfl ty28), ⟨⟨rfl, trivial⟩, ⟨rfl, trivial⟩, rfl⟩, rfl,
      Step.plain rfl (does_fieldAddr 31 1 8 5 1 0 [] (.var (e_congresslaw22_Where p2)) fl31_1), ⟨⟨rfl, trivial⟩, ⟨rfl, trivial⟩, rfl⟩, rfl,
      Step.plain rfl (does_load 29 25 1 (0 + 8) [1] (.var (e_congresslaw22_Where p2)) (e_a8_u32 p2.M) ⟨rfl, Nat.le_of_ble_eq_true rfl, trivial⟩ rfl rfl ty29), ⟨⟨rfl, trivial⟩, ⟨rfl, trivial⟩, rfl⟩, rfl,
      Step.plain rfl (does_callO 9 0 (fun _ => .any) (.func 9) [(.tmp 22), (.tmp 24), (.tmp 26)] [(e_s_api_Wait p0), (e_a8_u32 p2.C), (e_a8_u32 p2.M)] [] [] true [(e_s_api_Wait p0), (e_a8_u32 p2.C), (e_a8_u32 p2.M)] _ (resV [(.own 2), (.own 3)]) _ 2 2 _ _ rfl fo9 rfl ⟨trivial, trivial, trivial, trivial⟩ ⟨.ro _ _ (.data _ (d_s_api_Wait p0)), .ro _ _ (.data _ (d_a8_u32 p2.C)), .ro _ _ (.data _ (d_a8_u32 p2.M)), trivial⟩ (queue_Ready_spec p0 p2.C p2.M _ h5) rfl (by simp) rfl trivial ⟨⟨Nat.le_of_ble_eq_true rfl, _, rfl, fun _ => (f_api_Wait _)⟩, ⟨Nat.le_of_ble_eq_true rfl, _, rfl, fun _ => (f_api_Wait _)⟩, trivial⟩ (.tup _ _ _ (fun j => match j with | 0 => .own 0 (Nat.le_of_ble_eq_true rfl) | 1 => .own 1 (Nat.le_of_ble_eq_true rfl) | _ + 2 => .data _ trivial))), ⟨⟨rfl, rfl, rfl, trivial⟩, trivial, rfl⟩, rfl,
      Step.plain rfl (does_move (.tmp 27) (resV [(.own 2), (.own 3)]) trivial), ⟨⟨rfl, trivial⟩, trivial, rfl⟩, rfl,
      Step.plain rfl (does_extract 21 0 2 (fun j => [(.own 2), (.own 3)].getD j (.bool false)) (Nat.le_of_ble_eq_true rfl)), ⟨⟨rfl, trivial⟩, trivial, rfl⟩, rfl,
      Step.plain rfl (does_extract 21 1 2 (fun j => [(.own 2), (.own 3)].getD j (.bool false)) (Nat.le_of_ble_eq_true rfl)), ⟨⟨rfl, trivial⟩, trivial, rfl⟩, rfl,
      Step.plain rfl (does_assign (.tmp 28) (.own 2) trivial), ⟨⟨rfl, trivial⟩, trivial, rfl⟩, rfl,
      Step.plain rfl (does_assign (.tmp 29) (.own 3) trivial), ⟨⟨rfl, trivial⟩, trivial, rfl⟩, rfl, rfl⟩ ?_
    refine aw_cov (cov_prune (s1 := ⟨[(0, (e_s_api_Wait p0)), (4, (.ptr 0 0 [])), (5, (.ptr 1 0 [])), (7, (.own 2)), (8, (.own 3))], [(0, some (.var (e_congresslaw22_Frame p1))), (1, some (.var (e_congresslaw22_Where p2))), (2, some (.arr 9 v4.1.length fun j => (e_api_Wait (v4.1.getD j z_api_Wait)))), (3, some (.arr 9 v4.2.length fun j => (e_api_Wait (v4.2.getD j z_api_Wait))))], 4⟩) ⟨rfl, rfl, rfl, rfl, rfl, trivial⟩ ⟨rfl, rfl, rfl, rfl, trivial⟩ (Nat.le_refl _)) ?_
    obtain ⟨v6, h7, H⟩ := bnd H
    refine aw_region (es := [_, _, _, _, _, _, _, _, _, _, _]) ⟨Step.plain rfl (does_move (.tmp 0) (e_s_api_Wait p0) trivial), ⟨⟨rfl, trivial⟩, trivial, rfl⟩, rfl,
      Step.plain rfl (does_fieldAddr 31 0 0 5 1 0 [] (.var (e_congresslaw22_Where p2)) fl31_0), ⟨⟨rfl, trivial⟩, ⟨rfl, trivial⟩, rfl⟩, rfl,
      Step.plain rfl (does_load 28 32 1 (0 + 0) [0] (.var (e_congresslaw22_Where p2)) (e_a8_u32 p2.C) ⟨rfl, Nat.le_of_ble_eq_true rfl, trivial⟩ rfl rfl ty28), ⟨⟨rfl, trivial⟩, ⟨rfl, trivial⟩, rfl⟩, rfl,
      Step.plain rfl (does_fieldAddr 31 1 8 5 1 0 [] (.var (e_congresslaw22_Where p2)) fl31_1), ⟨⟨rfl, trivial⟩, ⟨rfl, trivial⟩, rfl⟩, rfl,
      Step.plain rfl (does_load 29 34 1 (0 + 8) [1] (.var (e_congresslaw22_Where p2)) (e_a8_u32 p2.M) ⟨rfl, Nat.le_of_ble_eq_true rfl, trivial⟩ rfl rfl ty29), ⟨⟨rfl, trivial⟩, ⟨rfl, trivial⟩, rfl⟩, rfl,
      Step.plain rfl (does_callO 10 0 (fun _ => .any) (.func 10) [(.tmp 31), (.tmp 33), (.tmp 35)] [(e_s_api_Wait p0), (e_a8_u32 p2.C), (e_a8_u32 p2.M)] [] [] true [(e_s_api_Wait p0), (e_a8_u32 p2.C), (e_a8_u32 p2.M)] _ (resV [(.own 4), (.own 5)]) _ 4 2 _ _ rfl fo10 rfl ⟨trivial, trivial, trivial, trivial⟩ ⟨.ro _ _ (.data _ (d_s_api_Wait p0)), .ro _ _ (.data _ (d_a8_u32 p2.C)), .ro _ _ (.data _ (d_a8_u32 p2.M)), trivial⟩ (congressref22_Ready_spec p0 p2.C p2.M _ h7) rfl (by simp) rfl trivial ⟨⟨Nat.le_of_ble_eq_true rfl, _, rfl, fun _ => (f_api_Wait _)⟩, ⟨Nat.le_of_ble_eq_true rfl, _, rfl, fun _ => (f_api_Wait _)⟩, trivial⟩ (.tup _ _ _ (fun j => match j with | 0 => .own 0 (Nat.le_of_ble_eq_true rfl) | 1 => .own 1 (Nat.le_of_ble_eq_true rfl) | _ + 2 => .data _ trivial))), ⟨⟨rfl, rfl, rfl, trivial⟩, trivial, rfl⟩, rfl,
      Step.plain rfl (does_move (.tmp 36) (resV [(.own 4), (.own 5)]) trivial), ⟨⟨rfl, trivial⟩, trivial, rfl⟩, rfl,
      Step.plain rfl (does_extract 30 0 2 (fun j => [(.own 4), (.own 5)].getD j (.bool false)) (Nat.le_of_ble_eq_true rfl)), ⟨⟨rfl, trivial⟩, trivial, rfl⟩, rfl,
      Step.plain rfl (does_extract 30 1 2 (fun j => [(.own 4), (.own 5)].getD j (.bool false)) (Nat.le_of_ble_eq_true rfl)), ⟨⟨rfl, trivial⟩, trivial, rfl⟩, rfl,
      Step.plain rfl (does_assign (.tmp 37) (.own 4) trivial), ⟨⟨rfl, trivial⟩, trivial, rfl⟩, rfl,
      Step.plain rfl (does_assign (.tmp 38) (.own 5) trivial), ⟨⟨rfl, trivial⟩, trivial, rfl⟩, rfl, rfl⟩ ?_
    refine aw_cov (cov_prune (s1 := ⟨[(0, (e_s_api_Wait p0)), (4, (.ptr 0 0 [])), (7, (.own 2)), (8, (.own 3)), (9, (.own 4)), (10, (.own 5))], [(0, some (.var (e_congresslaw22_Frame p1))), (2, some (.arr 9 v4.1.length fun j => (e_api_Wait (v4.1.getD j z_api_Wait)))), (3, some (.arr 9 v4.2.length fun j => (e_api_Wait (v4.2.getD j z_api_Wait)))), (4, some (.arr 9 v6.1.length fun j => (e_api_Wait (v6.1.getD j z_api_Wait)))), (5, some (.arr 9 v6.2.length fun j => (e_api_Wait (v6.2.getD j z_api_Wait))))], 6⟩) ⟨rfl, rfl, rfl, rfl, rfl, rfl, trivial⟩ ⟨rfl, rfl, rfl, rfl, rfl, trivial⟩ (Nat.le_refl _)) ?_
    obtain ⟨v8, h9, H⟩ := bnd H
    obtain ⟨v10, h11, H⟩ := whn_of H
    obtain ⟨v12, h13, H⟩ := whn_of H
    obtain ⟨v14, h15, H⟩ := whn_of H
    obtain ⟨v16, h17, H⟩ := whn_of H
    obtain ⟨v18, h19, H⟩ := whn_of H
    obtain ⟨v20, h21, H⟩ := whn_of H
    obtain ⟨v22, h23, H⟩ := whn_of H
    obtain ⟨v24, h25, H⟩ := whn_of H
    obtain ⟨v26, h27, H⟩ := whn_of H
    refine aw_draw (es := [_, _, _, _, _, _, _, _, _, _, _, _, _, _, _, _, _, _, _, _, _, _, _, _, _, _, _, _, _, _, _, _, _, _, _, _, _, _, _, _, _, _, _, _]) (mixed) ⟨Step.plain rfl (does_call 8 0 (fun _ => .any) (.func 8) [] [] [] true [] (.bool v8) _ _ rfl fo8 rfl trivial trivial (congresslaw22_fixed_spec _ h9) trivial), ⟨trivial, trivial, rfl⟩, rfl,
      Step.plain rfl (does_move (.tmp 39) (.bool v8) trivial), ⟨⟨rfl, trivial⟩, trivial, rfl⟩, rfl,
      Step.guarded rfl rfl rfl rfl (fun hc => does_move (.tmp 0) (e_s_api_Wait p0) trivial), ⟨⟨rfl, rfl, trivial⟩, trivial, rfl⟩, rfl,
      Step.guarded rfl rfl rfl rfl (fun hc => does_fieldAddr 26 0 0 4 0 0 [] (.var (e_congresslaw22_Frame p1)) fl26_0), ⟨⟨rfl, rfl, trivial⟩, ⟨rfl, trivial⟩, rfl⟩, rfl,
      Step.guarded rfl rfl rfl rfl (fun hc => Does.strip (n' := [(42, (.opt v8 (.ptr 0 (0 + 0) [0])))]) (n := [(42, (.ptr 0 (0 + 0) [0]))]) ⟨(.opt _ _ hc), trivial⟩ (does_load 3 42 0 (0 + 0) [0] (.var (e_congresslaw22_Frame p1)) (.int .i64 p1.From) ⟨rfl, Nat.le_of_ble_eq_true rfl, trivial⟩ rfl rfl ty3)), ⟨⟨rfl, rfl, trivial⟩, ⟨rfl, trivial⟩, rfl⟩, rfl,
      Step.guarded rfl rfl rfl rfl (fun hc => does_fieldAddr 26 1 1 4 0 0 [] (.var (e_congresslaw22_Frame p1)) fl26_1), ⟨⟨rfl, rfl, trivial⟩, ⟨rfl, trivial⟩, rfl⟩, rfl,
      Step.guarded rfl rfl rfl rfl (fun hc => Does.strip (n' := [(44, (.opt v8 (.ptr 0 (0 + 1) [1])))]) (n := [(44, (.ptr 0 (0 + 1) [1]))]) ⟨(.opt _ _ hc), trivial⟩ (does_load 23 44 0 (0 + 1) [1] (.var (e_congresslaw22_Frame p1)) (.int .u32 p1.Round) ⟨rfl, Nat.le_of_ble_eq_true rfl, trivial⟩ rfl rfl ty23)), ⟨⟨rfl, rfl, trivial⟩, ⟨rfl, trivial⟩, rfl⟩, rfl,
      Step.guarded rfl rfl rfl rfl (fun hc => does_fieldAddr 26 2 2 4 0 0 [] (.var (e_congresslaw22_Frame p1)) fl26_2), ⟨⟨rfl, rfl, trivial⟩, ⟨rfl, trivial⟩, rfl⟩, rfl,
      Step.guarded rfl rfl rfl rfl (fun hc => Does.strip (n' := [(46, (.opt v8 (.ptr 0 (0 + 2) [2])))]) (n := [(46, (.ptr 0 (0 + 2) [2]))]) ⟨(.opt _ _ hc), trivial⟩ (does_load 24 46 0 (0 + 2) [2] (.var (e_congresslaw22_Frame p1)) (e_s_api_Entry p1.L) ⟨rfl, Nat.le_of_ble_eq_true rfl, trivial⟩ rfl rfl ty24)), ⟨⟨rfl, rfl, trivial⟩, ⟨rfl, trivial⟩, rfl⟩, rfl,
      Step.guarded rfl rfl rfl rfl (fun hc => Does.strip (n' := [(41, (.opt v8 (e_s_api_Wait p0))), (43, (.opt v8 (.int .i64 p1.From))), (45, (.opt v8 (.int .u32 p1.Round))), (47, (.opt v8 (e_s_api_Entry p1.L)))]) (n := [(41, (e_s_api_Wait p0)), (43, (.int .i64 p1.From)), (45, (.int .u32 p1.Round)), (47, (e_s_api_Entry p1.L))]) ⟨(.opt _ _ hc), (.opt _ _ hc), (.opt _ _ hc), (.opt _ _ hc), trivial⟩ (does_call 12 0 (fun _ => .any) (.func 12) [(.tmp 41), (.tmp 43), (.tmp 45), (.tmp 47)] [(e_s_api_Wait p0), (.int .i64 p1.From), (.int .u32 p1.Round), (e_s_api_Entry p1.L)] [] false [(e_s_api_Wait p0), (.int .i64 p1.From), (.int .u32 p1.Round), (e_s_api_Entry p1.L)] (e_s_api_Wait v10) _ _ rfl fo12 rfl ⟨trivial, trivial, trivial, trivial, trivial⟩ ⟨.data _ (d_s_api_Wait p0), .data _ trivial, .data _ trivial, .data _ (d_s_api_Entry p1.L), trivial⟩ (queue_Add_data p0 p1.From p1.Round p1.L _ (h11 hc)) (d_s_api_Wait v10))), ⟨⟨rfl, rfl, rfl, rfl, rfl, trivial⟩, trivial, rfl⟩, rfl,
      Step.guarded rfl rfl rfl rfl (fun hc => does_move (.tmp 0) (e_s_api_Wait p0) trivial), ⟨⟨rfl, rfl, trivial⟩, trivial, rfl⟩, rfl,
      Step.guarded rfl rfl rfl rfl (fun hc => does_fieldAddr 26 0 0 4 0 0 [] (.var (e_congresslaw22_Frame p1)) fl26_0), ⟨⟨rfl, rfl, trivial⟩, ⟨rfl, trivial⟩, rfl⟩, rfl,
      Step.guarded rfl rfl rfl rfl (fun hc => Does.strip (n' := [(50, (.opt v8 (.ptr 0 (0 + 0) [0])))]) (n := [(50, (.ptr 0 (0 + 0) [0]))]) ⟨(.opt _ _ hc), trivial⟩ (does_load 3 50 0 (0 + 0) [0] (.var (e_congresslaw22_Frame p1)) (.int .i64 p1.From) ⟨rfl, Nat.le_of_ble_eq_true rfl, trivial⟩ rfl rfl ty3)), ⟨⟨rfl, rfl, trivial⟩, ⟨rfl, trivial⟩, rfl⟩, rfl,
      Step.guarded rfl rfl rfl rfl (fun hc => does_fieldAddr 26 1 1 4 0 0 [] (.var (e_congresslaw22_Frame p1)) fl26_1), ⟨⟨rfl, rfl, trivial⟩, ⟨rfl, trivial⟩, rfl⟩, rfl,
      Step.guarded rfl rfl rfl rfl (fun hc => Does.strip (n' := [(52, (.opt v8 (.ptr 0 (0 + 1) [1])))]) (n := [(52, (.ptr 0 (0 + 1) [1]))]) ⟨(.opt _ _ hc), trivial⟩ (does_load 23 52 0 (0 + 1) [1] (.var (e_congresslaw22_Frame p1)) (.int .u32 p1.Round) ⟨rfl, Nat.le_of_ble_eq_true rfl, trivial⟩ rfl rfl ty23)), ⟨⟨rfl, rfl, trivial⟩, ⟨rfl, trivial⟩, rfl⟩, rfl,
      Step.guarded rfl rfl rfl rfl (fun hc => does_fieldAddr 26 2 2 4 0 0 [] (.var (e_congresslaw22_Frame p1)) fl26_2), ⟨⟨rfl, rfl, trivial⟩, ⟨rfl, trivial⟩, rfl⟩, rfl,
      Step.guarded rfl rfl rfl rfl (fun hc => Does.strip (n' := [(54, (.opt v8 (.ptr 0 (0 + 2) [2])))]) (n := [(54, (.ptr 0 (0 + 2) [2]))]) ⟨(.opt _ _ hc), trivial⟩ (does_load 24 54 0 (0 + 2) [2] (.var (e_congresslaw22_Frame p1)) (e_s_api_Entry p1.L) ⟨rfl, Nat.le_of_ble_eq_true rfl, trivial⟩ rfl rfl ty24)), ⟨⟨rfl, rfl, trivial⟩, ⟨rfl, trivial⟩, rfl⟩, rfl,
      Step.guarded rfl rfl rfl rfl (fun hc => Does.strip (n' := [(49, (.opt v8 (e_s_api_Wait p0))), (51, (.opt v8 (.int .i64 p1.From))), (53, (.opt v8 (.int .u32 p1.Round))), (55, (.opt v8 (e_s_api_Entry p1.L)))]) (n := [(49, (e_s_api_Wait p0)), (51, (.int .i64 p1.From)), (53, (.int .u32 p1.Round)), (55, (e_s_api_Entry p1.L))]) ⟨(.opt _ _ hc), (.opt _ _ hc), (.opt _ _ hc), (.opt _ _ hc), trivial⟩ (does_call 13 0 (fun _ => .any) (.func 13) [(.tmp 49), (.tmp 51), (.tmp 53), (.tmp 55)] [(e_s_api_Wait p0), (.int .i64 p1.From), (.int .u32 p1.Round), (e_s_api_Entry p1.L)] [] false [(e_s_api_Wait p0), (.int .i64 p1.From), (.int .u32 p1.Round), (e_s_api_Entry p1.L)] (e_s_api_Wait v12) _ _ rfl fo13 rfl ⟨trivial, trivial, trivial, trivial, trivial⟩ ⟨.data _ (d_s_api_Wait p0), .data _ trivial, .data _ trivial, .data _ (d_s_api_Entry p1.L), trivial⟩ (congressref22_Add_spec p0 p1.From p1.Round p1.L _ (h13 hc)) (d_s_api_Wait v12))), ⟨⟨rfl, rfl, rfl, rfl, rfl, trivial⟩, trivial, rfl⟩, rfl,
      Step.guarded rfl rfl rfl rfl (fun hc => Does.strip (n' := [(48, (.opt v8 (e_s_api_Wait v10))), (56, (.opt v8 (e_s_api_Wait v12)))]) (n := [(48, (e_s_api_Wait v10)), (56, (e_s_api_Wait v12))]) ⟨(.opt _ _ hc), (.opt _ _ hc), trivial⟩ (does_call 11 0 (fun _ => .any) (.func 11) [(.tmp 48), (.tmp 56)] [(e_s_api_Wait v10), (e_s_api_Wait v12)] [] true [(e_s_api_Wait v10), (e_s_api_Wait v12)] (.bool v14) _ _ rfl fo11 rfl ⟨trivial, trivial, trivial⟩ ⟨.data _ (d_s_api_Wait v10), .data _ (d_s_api_Wait v12), trivial⟩ (congressref22_Same_spec v10 v12 _ (h15 hc)) trivial)), ⟨⟨rfl, rfl, rfl, trivial⟩, trivial, rfl⟩, rfl,
      Step.plain rfl (does_and 40 57 v8 v14), ⟨⟨rfl, rfl, trivial⟩, trivial, rfl⟩, rfl,
      Step.plain rfl (does_move (.tmp 58) (.bool (v8 && v14)) trivial), ⟨⟨rfl, trivial⟩, trivial, rfl⟩, rfl,
      Step.guarded rfl rfl rfl rfl (fun hc => does_move (.tmp 7) (.own 2) trivial), ⟨⟨rfl, rfl, trivial⟩, trivial, rfl⟩, rfl,
      Step.guarded rfl rfl rfl rfl (fun hc => does_move (.tmp 9) (.own 4) trivial), ⟨⟨rfl, rfl, trivial⟩, trivial, rfl⟩, rfl,
      Step.guarded rfl rfl rfl rfl (fun hc => Does.strip (n' := [(60, (.opt (v8 && v14) (.own 2))), (61, (.opt (v8 && v14) (.own 4)))]) (n := [(60, (.own 2)), (61, (.own 4))]) ⟨(.opt _ _ hc), (.opt _ _ hc), trivial⟩ (does_call 11 0 (fun _ => .any) (.func 11) [(.tmp 60), (.tmp 61)] [(.own 2), (.own 4)] [(2, (.arr 9 v4.1.length fun j => (e_api_Wait (v4.1.getD j z_api_Wait)))), (4, (.arr 9 v6.1.length fun j => (e_api_Wait (v6.1.getD j z_api_Wait))))] true [(e_s_api_Wait v4.1), (e_s_api_Wait v6.1)] (.bool v16) _ _ rfl fo11 rfl ⟨trivial, trivial, trivial⟩ ⟨.own 2 _ _ _ (.head _) rfl (fun _ => (d_api_Wait _)), .own 4 _ _ _ (.tail _ (.head _)) rfl (fun _ => (d_api_Wait _)), trivial⟩ (congressref22_Same_spec v4.1 v6.1 _ (h17 hc)) trivial)), ⟨⟨rfl, rfl, rfl, trivial⟩, ⟨rfl, rfl, trivial⟩, rfl⟩, rfl,
      Step.plain rfl (does_and 59 62 (v8 && v14) v16), ⟨⟨rfl, rfl, trivial⟩, trivial, rfl⟩, rfl,
      Step.plain rfl (does_move (.tmp 63) (.bool ((v8 && v14) && v16)) trivial), ⟨⟨rfl, trivial⟩, trivial, rfl⟩, rfl,
      Step.guarded rfl rfl rfl rfl (fun hc => does_move (.tmp 8) (.own 3) trivial), ⟨⟨rfl, rfl, trivial⟩, trivial, rfl⟩, rfl,
      Step.guarded rfl rfl rfl rfl (fun hc => does_move (.tmp 10) (.own 5) trivial), ⟨⟨rfl, rfl, trivial⟩, trivial, rfl⟩, rfl,
      Step.guarded rfl rfl rfl rfl (fun hc => Does.strip (n' := [(65, (.opt ((v8 && v14) && v16) (.own 3))), (66, (.opt ((v8 && v14) && v16) (.own 5)))]) (n := [(65, (.own 3)), (66, (.own 5))]) ⟨(.opt _ _ hc), (.opt _ _ hc), trivial⟩ (does_call 11 0 (fun _ => .any) (.func 11) [(.tmp 65), (.tmp 66)] [(.own 3), (.own 5)] [(3, (.arr 9 v4.2.length fun j => (e_api_Wait (v4.2.getD j z_api_Wait)))), (5, (.arr 9 v6.2.length fun j => (e_api_Wait (v6.2.getD j z_api_Wait))))] true [(e_s_api_Wait v4.2), (e_s_api_Wait v6.2)] (.bool v18) _ _ rfl fo11 rfl ⟨trivial, trivial, trivial⟩ ⟨.own 3 _ _ _ (.head _) rfl (fun _ => (d_api_Wait _)), .own 5 _ _ _ (.tail _ (.head _)) rfl (fun _ => (d_api_Wait _)), trivial⟩ (congressref22_Same_spec v4.2 v6.2 _ (h19 hc)) trivial)), ⟨⟨rfl, rfl, rfl, trivial⟩, ⟨rfl, rfl, trivial⟩, rfl⟩, rfl,
      Step.plain rfl (does_and 64 67 ((v8 && v14) && v16) v18), ⟨⟨rfl, rfl, trivial⟩, trivial, rfl⟩, rfl,
      Step.plain rfl (does_move (.tmp 68) (.bool (((v8 && v14) && v16) && v18)) trivial), ⟨⟨rfl, trivial⟩, trivial, rfl⟩, rfl,
      Step.guarded rfl rfl rfl rfl (fun hc => does_move (.tmp 0) (e_s_api_Wait p0) trivial), ⟨⟨rfl, rfl, trivial⟩, trivial, rfl⟩, rfl,
      Step.guarded rfl rfl rfl rfl (fun hc => Does.strip (n' := [(70, (.opt (((v8 && v14) && v16) && v18) (e_s_api_Wait p0)))]) (n := [(70, (e_s_api_Wait p0))]) ⟨(.opt _ _ hc), trivial⟩ (does_call 14 0 (fun _ => .any) (.func 14) [(.tmp 70)] [(e_s_api_Wait p0)] [] false [(e_s_api_Wait p0)] (e_s_api_Wait v20) _ _ rfl fo14 rfl ⟨trivial, trivial⟩ ⟨.data _ (d_s_api_Wait p0), trivial⟩ (queue_Flush_data p0 _ (h21 hc)) (d_s_api_Wait v20))), ⟨⟨rfl, rfl, trivial⟩, trivial, rfl⟩, rfl,
      Step.guarded rfl rfl rfl rfl (fun hc => does_move (.tmp 0) (e_s_api_Wait p0) trivial), ⟨⟨rfl, rfl, trivial⟩, trivial, rfl⟩, rfl,
      Step.guarded rfl rfl rfl rfl (fun hc => Does.strip (n' := [(71, (.opt (((v8 && v14) && v16) && v18) (e_s_api_Wait v20))), (72, (.opt (((v8 && v14) && v16) && v18) (e_s_api_Wait p0)))]) (n := [(71, (e_s_api_Wait v20)), (72, (e_s_api_Wait p0))]) ⟨(.opt _ _ hc), (.opt _ _ hc), trivial⟩ (does_call 11 0 (fun _ => .any) (.func 11) [(.tmp 71), (.tmp 72)] [(e_s_api_Wait v20), (e_s_api_Wait p0)] [] true [(e_s_api_Wait v20), (e_s_api_Wait p0)] (.bool v22) _ _ rfl fo11 rfl ⟨trivial, trivial, trivial⟩ ⟨.data _ (d_s_api_Wait v20), .data _ (d_s_api_Wait p0), trivial⟩ (congressref22_Same_spec v20 p0 _ (h23 hc)) trivial)), ⟨⟨rfl, rfl, rfl, trivial⟩, trivial, rfl⟩, rfl,
      Step.plain rfl (does_and 69 73 (((v8 && v14) && v16) && v18) v22), ⟨⟨rfl, rfl, trivial⟩, trivial, rfl⟩, rfl,
      Step.plain rfl (does_move (.tmp 74) (.bool ((((v8 && v14) && v16) && v18) && v22)) trivial), ⟨⟨rfl, trivial⟩, trivial, rfl⟩, rfl,
      Step.guarded rfl rfl rfl rfl (fun hc => does_move (.tmp 0) (e_s_api_Wait p0) trivial), ⟨⟨rfl, rfl, trivial⟩, trivial, rfl⟩, rfl,
      Step.guarded rfl rfl rfl rfl (fun hc => Does.strip (n' := [(76, (.opt ((((v8 && v14) && v16) && v18) && v22) (e_s_api_Wait p0)))]) (n := [(76, (e_s_api_Wait p0))]) ⟨(.opt _ _ hc), trivial⟩ (does_call 15 0 (fun _ => .any) (.func 15) [(.tmp 76)] [(e_s_api_Wait p0)] [] true [(e_s_api_Wait p0)] (.bool v24) _ _ rfl fo15 rfl ⟨trivial, trivial⟩ ⟨.data _ (d_s_api_Wait p0), trivial⟩ (queue_May_spec p0 _ (h25 hc)) trivial)), ⟨⟨rfl, rfl, trivial⟩, trivial, rfl⟩, rfl,
      Step.guarded rfl rfl rfl rfl (fun hc => does_move (.tmp 0) (e_s_api_Wait p0) trivial), ⟨⟨rfl, rfl, trivial⟩, trivial, rfl⟩, rfl,
      Step.guarded rfl rfl rfl rfl (fun hc => Does.strip (n' := [(78, (.opt ((((v8 && v14) && v16) && v18) && v22) (e_s_api_Wait p0)))]) (n := [(78, (e_s_api_Wait p0))]) ⟨(.opt _ _ hc), trivial⟩ (does_call 16 0 (fun _ => .any) (.func 16) [(.tmp 78)] [(e_s_api_Wait p0)] [] true [(e_s_api_Wait p0)] (.bool v26) _ _ rfl fo16 rfl ⟨trivial, trivial⟩ ⟨.data _ (d_s_api_Wait p0), trivial⟩ (congressref22_May_spec p0 _ (h27 hc)) trivial)), ⟨⟨rfl, rfl, trivial⟩, trivial, rfl⟩, rfl,
      Step.guarded rfl rfl rfl rfl (fun hc => Does.strip (n' := [(77, (.opt ((((v8 && v14) && v16) && v18) && v22) (.bool v24))), (79, (.opt ((((v8 && v14) && v16) && v18) && v22) (.bool v26)))]) (n := [(77, (.bool v24)), (79, (.bool v26))]) ⟨(.opt _ _ hc), (.opt _ _ hc), trivial⟩ (does_eqBool false 4 4 (.tmp 77) (.tmp 79) v24 v26 trivial trivial rfl)), ⟨⟨rfl, rfl, rfl, trivial⟩, trivial, rfl⟩, rfl,
      Step.plain rfl (does_and 75 80 ((((v8 && v14) && v16) && v18) && v22) (v24 == v26)), ⟨⟨rfl, rfl, trivial⟩, trivial, rfl⟩, rfl,
      Step.plain rfl (does_assign (.tmp 81) (.bool (((((v8 && v14) && v16) && v18) && v22) && (v24 == v26))) trivial), ⟨⟨rfl, trivial⟩, trivial, rfl⟩, rfl, rfl⟩ rfl ?_
    refine aw_cov (cov_prune (s1 := ⟨[(6, (.bool (((((v8 && v14) && v16) && v18) && v22) && (v24 == v26))))], [], 6⟩) ⟨rfl, trivial⟩ trivial (Nat.le_refl _)) ?_
    refine aw_ret ?_
    exact fun a w hr => ⟨_, [(.bool (((((v8 && v14) && v16) && v18) && v22) && (v24 == v26)))], hr, ⟨⟨_, rfl, .data (.bool (((((v8 && v14) && v16) && v18) && v22) && (v24 == v26))) trivial⟩, trivial⟩, by decide, by cases H; rfl⟩

theorem congressref22_Has_spec (p0 : (_root_.List api_Wait)) (p1 : api_Wait) (r : Bool) (H : congressref22_Has p0 p1 = some r) : FSpec Try.prog 17 [(e_s_api_Wait p0), (e_api_Wait p1)] (.bool r) := by
  refine spec_of (fn := Try.f17) (args := [(e_s_api_Wait p0), (e_api_Wait p1)]) Try.func17 rfl (Nat.le_of_ble_eq_true rfl) ?_
  rintro ⟨G, w0, W, S, Sp⟩ hG
  cases hG
  unfold congressref22_Has at H
  refine aw_region (es := [_, _]) ⟨Step.plain rfl (does_box 47 (.tmp 1) 0 (e_api_Wait p1) trivial rfl), ⟨⟨rfl, trivial⟩, trivial, rfl⟩, rfl,
    Step.plain rfl (does_assign (.const (.bool false)) (.bool false) (fun _ => rfl)), ⟨trivial, trivial, rfl⟩, rfl, rfl⟩ ?_
  refine aw_cov (cov_prune (s1 := ⟨[(0, (e_s_api_Wait p0)), (3, (.ptr 0 0 []))], [(0, some (.var (e_api_Wait p1)))], 1⟩) ⟨rfl, rfl, trivial⟩ ⟨rfl, trivial⟩ (Nat.le_refl _)) ?_
  refine aw_seq ?_
  refine aw_region (es := [_]) ⟨Step.plain rfl (does_assign (.const (.int .i64 0)) (.int .i64 0) (fun _ => rfl)), ⟨trivial, trivial, rfl⟩, rfl, rfl⟩ ?_
  refine aw_cov (cov_prune (s1 := ⟨[(0, (e_s_api_Wait p0)), (3, (.ptr 0 0 [])), (5, (.int .i64 0))], [(0, some (.var (e_api_Wait p1)))], 1⟩) ⟨rfl, rfl, rfl, trivial⟩ ⟨rfl, trivial⟩ (Nat.le_refl _)) ?_
  obtain ⟨wn2, hwn2, Hrn2⟩ := bnd H
  refine aw_meet (fun y4 : Unit => (⟨[], [], 1⟩ : St)) (fun y4 => Fl.nx y4 = wn2) (fun y4 hy => ?_) (aw_block (aw_runs (fun x1 : Int => (⟨[(0, (e_s_api_Wait p0)), (3, (.ptr 0 0 [])), (5, (.int .i64 x1))], [(0, some (.var (e_api_Wait p1)))], 1⟩ : St)) hwn2 (cov_prune ⟨rfl, rfl, rfl, trivial⟩ ⟨rfl, trivial⟩ (Nat.le_of_ble_eq_true rfl)) (fun x1 st H hsn2 => ?_)))
  · have H := nx_of hy Hrn2
    refine nx_seq ?_
    refine aw_region (es := [_]) ⟨Step.plain rfl (does_assign (.const (.bool false)) (.bool false) (fun _ => rfl)), ⟨trivial, trivial, rfl⟩, rfl, rfl⟩ ?_
    refine aw_cov (cov_prune (s1 := ⟨[(4, (.bool false))], [], 1⟩) ⟨rfl, trivial⟩ trivial (Nat.le_refl _)) ?_
    refine aw_ret ?_
    exact fun a w hr => ⟨_, [(.bool false)], hr, ⟨⟨_, rfl, .data (.bool false) trivial⟩, trivial⟩, by decide, by cases H; rfl⟩
  · refine aw_seq ?_
    refine aw_region (es := [_, _, _, _]) ⟨Step.plain rfl (does_move (.tmp 5) (.int .i64 x1) trivial), ⟨⟨rfl, trivial⟩, trivial, rfl⟩, rfl,
      Step.plain rfl (does_move (.tmp 0) (e_s_api_Wait p0) trivial), ⟨⟨rfl, trivial⟩, trivial, rfl⟩, rfl,
      Step.plain rfl (does_lens 22 9 p0.length 7 (fun j => (e_api_Wait (p0.getD j z_api_Wait))) el22), ⟨⟨rfl, trivial⟩, trivial, rfl⟩, rfl,
      Step.plain rfl (does_bin .lss 3 3 (.tmp 6) (.tmp 8) .i64 x1 (p0.length : Int) (.bool (decide (x1 < (p0.length : Int)))) trivial trivial (bin_lss _ _ _ _)), ⟨⟨rfl, rfl, trivial⟩, trivial, rfl⟩, rfl, rfl⟩ ?_
    refine aw_cov (cov_prune (s1 := ⟨[(0, (e_s_api_Wait p0)), (3, (.ptr 0 0 [])), (5, (.int .i64 x1)), (9, (.bool (decide (x1 < (p0.length : Int)))))], [(0, some (.var (e_api_Wait p1)))], 1⟩) ⟨rfl, rfl, rfl, rfl, trivial⟩ ⟨rfl, trivial⟩ (Nat.le_refl _)) ?_
    refine aw_cond rfl (fun hc => ?_) (fun hc => ?_)
    · replace H := ite_t hc H
      refine aw_skip ?_
      refine nx_seq ?_
      refine aw_seq ?_
      refine aw_block ?_
      obtain ⟨h3, H⟩ := ib_of H
      refine aw_draw (es := [_, _, _, _, _, _]) (mixed) ⟨Step.plain rfl (does_move (.tmp 0) (e_s_api_Wait p0) trivial), ⟨⟨rfl, trivial⟩, trivial, rfl⟩, rfl,
        Step.plain rfl (does_move (.tmp 5) (.int .i64 x1) trivial), ⟨⟨rfl, trivial⟩, trivial, rfl⟩, rfl,
        Step.plain rfl (does_indexAddrs 22 9 p0.length 12 (fun j => (e_api_Wait (p0.getD j z_api_Wait))) (.tmp 13) .i64 x1 el22 trivial h3.1 h3.2), ⟨⟨rfl, rfl, trivial⟩, trivial, rfl⟩, rfl,
        Step.plain rfl (does_loadc 47 14 (e_api_Wait (p0.getD x1.toNat z_api_Wait)) ty47), ⟨⟨rfl, trivial⟩, trivial, rfl⟩, rfl,
        Step.plain rfl (does_load 47 3 0 0 [] (.var (e_api_Wait p1)) (e_api_Wait p1) trivial rfl rfl ty47), ⟨⟨rfl, trivial⟩, ⟨rfl, trivial⟩, rfl⟩, rfl,
        Step.plain rfl (does_eqT false 47 47 (.tmp 15) (.tmp 16) (e_api_Wait (p0.getD x1.toNat z_api_Wait)) (e_api_Wait p1) (e_api_Wait z_api_Wait) (b_api_Wait (p0.getD x1.toNat z_api_Wait) p1) rfl rfl trivial trivial eg47 sh47 (al_api_Wait _ _) (al_api_Wait _ _) (q_api_Wait _ _)), ⟨⟨rfl, rfl, trivial⟩, trivial, rfl⟩, rfl, rfl⟩ rfl ?_
      refine aw_cov (cov_prune (s1 := ⟨[(0, (e_s_api_Wait p0)), (3, (.ptr 0 0 [])), (5, (.int .i64 x1)), (17, (.bool (b_api_Wait (p0.getD x1.toNat z_api_Wait) p1)))], [(0, some (.var (e_api_Wait p1)))], 1⟩) ⟨rfl, rfl, rfl, rfl, trivial⟩ ⟨rfl, trivial⟩ (Nat.le_refl _)) ?_
      refine aw_cond rfl (fun hc => ?_) (fun hc => ?_)
      · replace H := ite_t hc H
        refine aw_region (es := [_]) ⟨Step.plain rfl (does_assign (.const (.bool true)) (.bool true) (fun _ => rfl)), ⟨trivial, trivial, rfl⟩, rfl, rfl⟩ ?_
        refine aw_cov (cov_prune (s1 := ⟨[(4, (.bool true))], [], 1⟩) ⟨rfl, trivial⟩ trivial (Nat.le_refl _)) ?_
        refine aw_ret ?_
        replace H := rt_of H hsn2 Hrn2
        refine rt_blk ?_
        refine rt_then ?_
        refine rt_then ?_
        refine rt_blk ?_
        refine rt_then ?_
        refine rt_then ?_
        exact fun a w hr => ⟨_, [(.bool true)], hr, ⟨⟨_, rfl, .data (.bool true) trivial⟩, trivial⟩, by decide, by cases H; rfl⟩
      · replace H := ite_f hc H
        refine aw_skip ?_
        refine nx_blk ?_
        refine nx_seq ?_
        refine aw_region1 (es := [_, _, _]) ⟨Step.plain rfl (does_move (.tmp 5) (.int .i64 x1) trivial), ⟨⟨rfl, trivial⟩, trivial, rfl⟩, rfl,
          Step.plain rfl (does_bin .add 3 3 (.tmp 10) (.const (.int .i64 1)) .i64 x1 1 (.int .i64 (IntKind.i64.wrap (x1 + 1))) trivial (fun _ => rfl) (bin_add _ _ _ _)), ⟨⟨rfl, trivial⟩, trivial, rfl⟩, rfl,
          Step.plain rfl (does_assign (.tmp 11) (.int .i64 (IntKind.i64.wrap (x1 + 1))) trivial), ⟨⟨rfl, trivial⟩, trivial, rfl⟩, rfl, rfl⟩ ?_
        exact nx_loop ((IntKind.i64.wrap (x1 + 1))) H (cov_prune ⟨rfl, rfl, rfl, trivial⟩ ⟨rfl, trivial⟩ (Nat.le_of_ble_eq_true rfl))
    · replace H := ite_f hc H
      refine aw_exit ?_
      refine ex_then ?_
      refine ex_then ?_
      refine ex_here ?_
      exact nx_ljoin () H hsn2 (cov_prune trivial trivial (Nat.le_of_ble_eq_true rfl))
end Go.Proofs.Ytclblogdciebnaa
