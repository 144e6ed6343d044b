/- Printed by gen.py. Conditions: none. -/
import Derived.Test.YtdaeajonhfkpaaaFact
import Derived.KernelRfl
set_option linter.unusedVariables false
set_option maxRecDepth 100000
namespace Go.Proofs.Ytdaeajonhfkpaaa
open Go.Eng
set_option maxHeartbeats 1600000
theorem slices_Clone_api_Letter_api_Letter_spec (p0 : (_root_.List api_Letter)) (r : (_root_.List api_Letter)) (H : slices_Clone_api_Letter_api_Letter p0 = some r) : FSpecO Try.prog 20 [(e_s_api_Letter p0)] [] 0 (.own 0) [(0, some (.arr 4 r.length fun j => (e_api_Letter (r.getD j z_api_Letter))))] 1 := by
  refine specO_of (fn := Try.f20) (args := [(e_s_api_Letter p0)]) Try.func20 rfl (Nat.le_of_ble_eq_true rfl) ?_
  rintro ⟨G, w0, W, S, Sp⟩ hG
  cases hG
  unfold slices_Clone_api_Letter_api_Letter at H
  refine aw_region (es := [_]) ⟨Step.plain rfl (does_nil false 0 4 (fun j => (e_api_Letter (([] : _root_.List api_Letter).getD j z_api_Letter)))), ⟨trivial, trivial, rfl⟩, rfl, rfl⟩ ?_
  refine aw_cov (cov_prune (s1 := ⟨[(0, (e_s_api_Letter p0))], [], 1⟩) ⟨rfl, trivial⟩ trivial (Nat.le_refl _)) ?_
  refine aw_seq ?_
  refine aw_region (es := [_, _]) ⟨Step.plain rfl (does_move (.tmp 0) (e_s_api_Letter p0) trivial), ⟨⟨rfl, trivial⟩, trivial, rfl⟩, rfl,
    Step.plain rfl (does_eqnil 22 27 22 3 4 p0.length (fun j => (e_api_Letter (p0.getD j z_api_Letter))) us22), ⟨⟨rfl, trivial⟩, trivial, rfl⟩, rfl, rfl⟩ ?_
  refine aw_cov (cov_prune (s1 := ⟨[(0, (e_s_api_Letter p0)), (4, (.nilq p0.length))], [], 1⟩) ⟨rfl, rfl, trivial⟩ trivial (Nat.le_refl _)) ?_
  obtain ⟨H1, H2⟩ := nilq_of H
  clear H
  refine aw_condq rfl (fun hc => ?_) ?_
  · have H := H1 hc
    refine aw_region (es := [_]) ⟨Step.plain rfl (does_nil false 1 4 (fun j => (e_api_Letter (([] : _root_.List api_Letter).getD j z_api_Letter)))), ⟨trivial, trivial, rfl⟩, rfl, rfl⟩ ?_
    refine aw_cov (cov_prune (s1 := ⟨[(2, (.own 1))], [(1, some (.arr 4 ([] : _root_.List api_Letter).length fun j => (e_api_Letter (([] : _root_.List api_Letter).getD j z_api_Letter))))], 2⟩) ⟨rfl, trivial⟩ ⟨rfl, trivial⟩ (Nat.le_refl _)) ?_
    refine aw_ret ?_
    refine rt_then ?_
    exact fun a w hr => ⟨_, [(.own 0)], reach_of hr (cov_to (s1 := ⟨[(2, (.own 0))], [(0, some (.arr 4 ([] : _root_.List api_Letter).length fun j => (e_api_Letter (([] : _root_.List api_Letter).getD j z_api_Letter))))], 1⟩) (fun i => match i with | 0 => 1 | k => k) [] ⟨⟨_, rfl, .own 0 _ _ (Nat.le_of_ble_eq_true rfl) rfl rfl (Box.like_refl _)⟩, trivial⟩ ⟨⟨Nat.le_of_ble_eq_true rfl, _, _, rfl, rfl, boxTo_arr (fun _ => (d_api_Letter _))⟩, trivial⟩ rfl rfl), ⟨rfl, trivial⟩, by decide, by cases H; rfl, by cases H; exact ⟨rfl, trivial⟩, Nat.le_of_ble_eq_true rfl⟩
  · have H := H2
    refine aw_skip ?_
    refine nx_seq ?_
    obtain ⟨h1, H⟩ := fit_of H
    refine aw_region (es := [_, _, _, _]) ⟨Step.plain rfl (does_buildOwn 22 0 4 1 (e_api_Letter z_api_Letter) (fun j => (e_api_Letter (([] : _root_.List api_Letter).getD j z_api_Letter))) #[] [] [] rfl so22 (by decide) trivial trivial (fun j h => match j, h with  | k + 0, h => absurd h (by omega))), ⟨trivial, trivial, rfl⟩, rfl,
      Step.plain rfl (does_move (.tmp 0) (e_s_api_Letter p0) trivial), ⟨⟨rfl, trivial⟩, trivial, rfl⟩, rfl,
      Step.plain rfl (does_appendL e_api_Letter z_api_Letter ([] : _root_.List api_Letter) p0 22 4 40 1 2 5 6 ap22 h1), ⟨⟨rfl, rfl, trivial⟩, ⟨rfl, trivial⟩, rfl⟩, rfl,
      Step.plain rfl (does_assign (.tmp 7) (.own 2) trivial), ⟨⟨rfl, trivial⟩, trivial, rfl⟩, rfl, rfl⟩ ?_
    refine aw_cov (cov_prune (s1 := ⟨[(2, (.own 2))], [(2, some (.arr 4 (([] : _root_.List api_Letter) ++ p0).length fun j => (e_api_Letter ((([] : _root_.List api_Letter) ++ p0).getD j z_api_Letter))))], 3⟩) ⟨rfl, trivial⟩ ⟨rfl, trivial⟩ (Nat.le_refl _)) ?_
    refine aw_ret ?_
    exact fun a w hr => ⟨_, [(.own 0)], reach_of hr (cov_to (s1 := ⟨[(2, (.own 0))], [(0, some (.arr 4 (([] : _root_.List api_Letter) ++ p0).length fun j => (e_api_Letter ((([] : _root_.List api_Letter) ++ p0).getD j z_api_Letter))))], 1⟩) (fun i => match i with | 0 => 2 | k => k) [] ⟨⟨_, rfl, .own 0 _ _ (Nat.le_of_ble_eq_true rfl) rfl rfl (Box.like_refl _)⟩, trivial⟩ ⟨⟨Nat.le_of_ble_eq_true rfl, _, _, rfl, rfl, boxTo_arr (fun _ => (d_api_Letter _))⟩, trivial⟩ rfl rfl), ⟨rfl, trivial⟩, by decide, by cases H; rfl, by cases H; exact ⟨rfl, trivial⟩, Nat.le_of_ble_eq_true rfl⟩

theorem slices_Clone_api_Letter_api_Letter_data (p0 : (_root_.List api_Letter)) (r : (_root_.List api_Letter)) (H : slices_Clone_api_Letter_api_Letter p0 = some r) : FSpec Try.prog 20 [(e_s_api_Letter p0)] (e_s_api_Letter r) :=
  FSpecO.toData (fz := [0]) (slices_Clone_api_Letter_api_Letter_spec p0 r H) (d_s_api_Letter r) (.frz 0 _ _ _ rfl (fun _ => (d_api_Letter _)) (by decide))

theorem lossy_places_spec (p0 : (_root_.List api_Letter)) (p1 : Int) (p2 : Int) (r : (_root_.List Int)) (H : lossy_places p0 p1 p2 = some r) : FSpecO Try.prog 22 [(e_s_api_Letter p0), (.int .i64 p1), (.int .i64 p2)] [] 0 (.own 0) [(0, some (.arr 1 r.length fun j => (.int .i64 (r.getD j 0))))] 1 := by
  refine specO_of (fn := Try.f22) (args := [(e_s_api_Letter p0), (.int .i64 p1), (.int .i64 p2)]) Try.func22 rfl (Nat.le_of_ble_eq_true rfl) ?_
  rintro ⟨G, w0, W, S, Sp⟩ hG
  cases hG
  unfold lossy_places at H
  refine aw_region (es := [_]) ⟨Step.plain rfl (does_nil false 0 1 (fun j => (.int .i64 (([] : _root_.List Int).getD j 0)))), ⟨trivial, trivial, rfl⟩, rfl, rfl⟩ ?_
  refine aw_cov (cov_prune (s1 := ⟨[(0, (e_s_api_Letter p0)), (1, (.int .i64 p1)), (2, (.int .i64 p2))], [], 1⟩) ⟨rfl, rfl, rfl, trivial⟩ trivial (Nat.le_refl _)) ?_
  refine aw_region (es := [_]) ⟨Step.plain rfl (does_nil false 1 1 (fun j => (.int .i64 (([] : _root_.List Int).getD j 0)))), ⟨trivial, trivial, rfl⟩, rfl, rfl⟩ ?_
  refine aw_cov (cov_prune (s1 := ⟨[(0, (e_s_api_Letter p0)), (1, (.int .i64 p1)), (2, (.int .i64 p2)), (7, (.own 1))], [(1, some (.arr 1 ([] : _root_.List Int).length fun j => (.int .i64 (([] : _root_.List Int).getD j 0))))], 2⟩) ⟨rfl, rfl, rfl, rfl, trivial⟩ ⟨rfl, trivial⟩ (Nat.le_refl _)) ?_
  refine aw_seq ?_
  refine aw_region (es := [_, _, _]) ⟨Step.plain rfl (does_move (.tmp 0) (e_s_api_Letter p0) trivial), ⟨⟨rfl, trivial⟩, trivial, rfl⟩, rfl,
    Step.plain rfl (does_lens 22 4 p0.length 10 (fun j => (e_api_Letter (p0.getD j z_api_Letter))) el22), ⟨⟨rfl, trivial⟩, trivial, rfl⟩, rfl,
    Step.plain rfl (does_move (.const (.int .i64 0)) (.int .i64 0) (fun _ => rfl)), ⟨trivial, trivial, rfl⟩, rfl, rfl⟩ ?_
  refine aw_cov (cov_prune (s1 := ⟨[(1, (.int .i64 p1)), (2, (.int .i64 p2)), (7, (.own 1)), (10, (e_s_api_Letter p0)), (11, (.int .i64 (p0.length : Int))), (12, (.int .i64 0))], [(1, some (.arr 1 ([] : _root_.List Int).length fun j => (.int .i64 (([] : _root_.List Int).getD j 0))))], 2⟩) ⟨rfl, rfl, rfl, rfl, rfl, rfl, trivial⟩ ⟨rfl, trivial⟩ (Nat.le_refl _)) ?_
  obtain ⟨wn2, hwn2, Hrn2⟩ := bnd H
  refine aw_meet (fun y8 : _root_.List Int => (⟨[(7, (.own 1))], [(1, some (.arr 1 y8.length fun j => (.int .i64 (y8.getD j 0))))], 2⟩ : St)) (fun y8 => Fl.nx y8 = wn2) (fun y8 hy => ?_) (aw_block (aw_runs (fun x1 : Int × _root_.List Int => (⟨[(1, (.int .i64 p1)), (2, (.int .i64 p2)), (7, (.own 1)), (10, (e_s_api_Letter p0)), (11, (.int .i64 (p0.length : Int))), (12, (.int .i64 x1.1))], [(1, some (.arr 1 x1.2.length fun j => (.int .i64 (x1.2.getD j 0))))], 2⟩ : St)) hwn2 (cov_prune ⟨rfl, rfl, rfl, rfl, rfl, rfl, trivial⟩ ⟨rfl, trivial⟩ (Nat.le_of_ble_eq_true rfl)) (fun x1 st H hsn2 => ?_)))
  · have H := nx_of hy Hrn2
    refine nx_seq ?_
    refine aw_region (es := [_, _]) ⟨Step.plain rfl (does_move (.tmp 7) (.own 1) trivial), ⟨⟨rfl, trivial⟩, trivial, rfl⟩, rfl,
      Step.plain rfl (does_assign (.tmp 32) (.own 1) trivial), ⟨⟨rfl, trivial⟩, trivial, rfl⟩, rfl, rfl⟩ ?_
    refine aw_cov (cov_prune (s1 := ⟨[(6, (.own 1))], [(1, some (.arr 1 y8.length fun j => (.int .i64 (y8.getD j 0))))], 2⟩) ⟨rfl, trivial⟩ ⟨rfl, trivial⟩ (Nat.le_refl _)) ?_
    refine aw_ret ?_
    exact fun a w hr => ⟨_, [(.own 0)], reach_of hr (cov_to (s1 := ⟨[(6, (.own 0))], [(0, some (.arr 1 y8.length fun j => (.int .i64 (y8.getD j 0))))], 1⟩) (fun i => match i with | 0 => 1 | k => k) [] ⟨⟨_, rfl, .own 0 _ _ (Nat.le_of_ble_eq_true rfl) rfl rfl (Box.like_refl _)⟩, trivial⟩ ⟨⟨Nat.le_of_ble_eq_true rfl, _, _, rfl, rfl, boxTo_arr (fun _ => trivial)⟩, trivial⟩ rfl rfl), ⟨rfl, trivial⟩, by decide, by cases H; rfl, by cases H; exact ⟨rfl, trivial⟩, Nat.le_of_ble_eq_true rfl⟩
  · refine aw_region (es := [_]) ⟨Step.plain rfl (does_bin .lss 3 3 (.tmp 12) (.tmp 11) .i64 x1.1 (p0.length : Int) (.bool (decide (x1.1 < (p0.length : Int)))) trivial trivial (bin_lss _ _ _ _)), ⟨⟨rfl, rfl, trivial⟩, trivial, rfl⟩, rfl, rfl⟩ ?_
    refine aw_cov (cov_prune (s1 := ⟨[(1, (.int .i64 p1)), (2, (.int .i64 p2)), (7, (.own 1)), (10, (e_s_api_Letter p0)), (11, (.int .i64 (p0.length : Int))), (12, (.int .i64 x1.1)), (13, (.bool (decide (x1.1 < (p0.length : Int)))))], [(1, some (.arr 1 x1.2.length fun j => (.int .i64 (x1.2.getD j 0))))], 2⟩) ⟨rfl, rfl, rfl, rfl, rfl, rfl, rfl, trivial⟩ ⟨rfl, trivial⟩ (Nat.le_refl _)) ?_
    refine aw_seq ?_
    refine aw_cond rfl (fun hc => ?_) (fun hc => ?_)
    · replace H := ite_t hc H
      refine aw_skip ?_
      refine nx_seq ?_
      refine aw_seq ?_
      refine aw_jn (fun x7 : _root_.List Int => (⟨[(1, (.int .i64 p1)), (2, (.int .i64 p2)), (7, (.own 1)), (10, (e_s_api_Letter p0)), (11, (.int .i64 (p0.length : Int))), (12, (.int .i64 x1.1))], [(1, some (.arr 1 x7.length fun j => (.int .i64 (x7.getD j 0))))], 4⟩ : St)) H (fun x7 H => ?_) (fun j3 H => ?_)
      · refine nx_seq ?_
        refine aw_region1 (es := [_, _]) ⟨Step.plain rfl (does_bin .add 3 3 (.tmp 12) (.const (.int .i64 1)) .i64 x1.1 1 (.int .i64 (IntKind.i64.wrap (x1.1 + 1))) trivial (fun _ => rfl) (bin_add _ _ _ _)), ⟨⟨rfl, trivial⟩, trivial, rfl⟩, rfl,
          Step.plain rfl (does_move (.tmp 31) (.int .i64 (IntKind.i64.wrap (x1.1 + 1))) trivial), ⟨⟨rfl, trivial⟩, trivial, rfl⟩, rfl, rfl⟩ ?_
        exact nx_loop ((IntKind.i64.wrap (x1.1 + 1)), x7) H (cov_of (fun i => match i with | 1 => 1 | k => k) ⟨⟨_, rfl, ⟨rfl, trivial⟩⟩, ⟨_, rfl, ⟨rfl, trivial⟩⟩, ⟨_, rfl, ⟨rfl, Nat.le_of_ble_eq_true rfl⟩⟩, ⟨_, rfl, ⟨rfl, (d_s_api_Letter _).plain⟩⟩, ⟨_, rfl, ⟨rfl, trivial⟩⟩, ⟨_, rfl, ⟨rfl, trivial⟩⟩, trivial⟩ ⟨⟨Nat.le_of_ble_eq_true rfl, _, _, rfl, rfl, ⟨rfl, rfl, fun _ => ⟨rfl, trivial⟩⟩⟩, trivial⟩ rfl)
      · refine aw_block ?_
        obtain ⟨h4, H⟩ := ib_of H
        refine aw_region (es := [_, _, _, _, _, _]) ⟨Step.plain rfl (does_move (.tmp 12) (.int .i64 x1.1) trivial), ⟨⟨rfl, trivial⟩, trivial, rfl⟩, rfl,
          Step.plain rfl (does_indexAddrs 22 4 p0.length 10 (fun j => (e_api_Letter (p0.getD j z_api_Letter))) (.tmp 12) .i64 x1.1 el22 trivial h4.1 h4.2), ⟨⟨rfl, rfl, trivial⟩, trivial, rfl⟩, rfl,
          Step.plain rfl (does_loadc 27 15 (e_api_Letter (p0.getD x1.1.toNat z_api_Letter)) ty27), ⟨⟨rfl, trivial⟩, trivial, rfl⟩, rfl,
          Step.plain rfl (does_alloc 27 2 (e_api_Letter z_api_Letter) zr27), ⟨trivial, trivial, rfl⟩, rfl,
          Step.plain rfl (does_assign (.tmp 14) (.int .i64 x1.1) trivial), ⟨⟨rfl, trivial⟩, trivial, rfl⟩, rfl,
          Step.plain rfl (does_store 27 9 (.tmp 16) 2 0 [] (.var (e_api_Letter z_api_Letter)) (.var (e_api_Letter (p0.getD x1.1.toNat z_api_Letter))) (e_api_Letter (p0.getD x1.1.toNat z_api_Letter)) true trivial rfl trivial rfl rfl rfl ty27), ⟨⟨rfl, rfl, trivial⟩, ⟨rfl, trivial⟩, rfl⟩, rfl, rfl⟩ ?_
        refine aw_cov (cov_prune (s1 := ⟨[(1, (.int .i64 p1)), (2, (.int .i64 p2)), (7, (.own 1)), (10, (e_s_api_Letter p0)), (11, (.int .i64 (p0.length : Int))), (12, (.int .i64 x1.1)), (9, (.ptr 2 0 [])), (8, (.int .i64 x1.1))], [(1, some (.arr 1 x1.2.length fun j => (.int .i64 (x1.2.getD j 0)))), (2, some (.var (e_api_Letter (p0.getD x1.1.toNat z_api_Letter))))], 3⟩) ⟨rfl, rfl, rfl, rfl, rfl, rfl, rfl, rfl, trivial⟩ ⟨rfl, rfl, trivial⟩ (Nat.le_refl _)) ?_
        refine aw_region (es := [_, _, _, _, _, _, _, _, _, _]) ⟨Step.plain rfl (does_fieldAddr 27 0 0 9 2 0 [] (.var (e_api_Letter (p0.getD x1.1.toNat z_api_Letter))) fl27_0), ⟨⟨rfl, trivial⟩, ⟨rfl, trivial⟩, rfl⟩, rfl,
          Step.plain rfl (does_load 3 17 2 (0 + 0) [0] (.var (e_api_Letter (p0.getD x1.1.toNat z_api_Letter))) (.int .i64 ((p0.getD x1.1.toNat z_api_Letter).From)) ⟨rfl, Nat.le_of_ble_eq_true rfl, trivial⟩ rfl rfl ty3), ⟨⟨rfl, trivial⟩, ⟨rfl, trivial⟩, rfl⟩, rfl,
          Step.plain rfl (does_move (.tmp 1) (.int .i64 p1) trivial), ⟨⟨rfl, trivial⟩, trivial, rfl⟩, rfl,
          Step.plain rfl (does_bin .eql 3 3 (.tmp 18) (.tmp 19) .i64 ((p0.getD x1.1.toNat z_api_Letter).From) p1 (.bool (((p0.getD x1.1.toNat z_api_Letter).From) == p1)) trivial trivial (bin_eql _ _ _ _)), ⟨⟨rfl, rfl, trivial⟩, trivial, rfl⟩, rfl,
          Step.plain rfl (does_move (.tmp 20) (.bool (((p0.getD x1.1.toNat z_api_Letter).From) == p1)) trivial), ⟨⟨rfl, trivial⟩, trivial, rfl⟩, rfl,
          Step.guarded rfl rfl rfl rfl (fun hc => does_fieldAddr 27 1 1 9 2 0 [] (.var (e_api_Letter (p0.getD x1.1.toNat z_api_Letter))) fl27_1), ⟨⟨rfl, rfl, trivial⟩, ⟨rfl, trivial⟩, rfl⟩, rfl,
          Step.guarded rfl rfl rfl rfl (fun hc => Does.strip (n' := [(22, (.opt (((p0.getD x1.1.toNat z_api_Letter).From) == p1) (.ptr 2 (0 + 1) [1])))]) (n := [(22, (.ptr 2 (0 + 1) [1]))]) ⟨(.opt _ _ hc), trivial⟩ (does_load 3 22 2 (0 + 1) [1] (.var (e_api_Letter (p0.getD x1.1.toNat z_api_Letter))) (.int .i64 ((p0.getD x1.1.toNat z_api_Letter).To)) ⟨rfl, Nat.le_of_ble_eq_true rfl, trivial⟩ rfl rfl ty3)), ⟨⟨rfl, rfl, trivial⟩, ⟨rfl, trivial⟩, rfl⟩, rfl,
          Step.guarded rfl rfl rfl rfl (fun hc => does_move (.tmp 2) (.int .i64 p2) trivial), ⟨⟨rfl, rfl, trivial⟩, trivial, rfl⟩, rfl,
          Step.guarded rfl rfl rfl rfl (fun hc => Does.strip (n' := [(23, (.opt (((p0.getD x1.1.toNat z_api_Letter).From) == p1) (.int .i64 ((p0.getD x1.1.toNat z_api_Letter).To)))), (24, (.opt (((p0.getD x1.1.toNat z_api_Letter).From) == p1) (.int .i64 p2)))]) (n := [(23, (.int .i64 ((p0.getD x1.1.toNat z_api_Letter).To))), (24, (.int .i64 p2))]) ⟨(.opt _ _ hc), (.opt _ _ hc), trivial⟩ (does_bin .eql 3 3 (.tmp 23) (.tmp 24) .i64 ((p0.getD x1.1.toNat z_api_Letter).To) p2 (.bool (((p0.getD x1.1.toNat z_api_Letter).To) == p2)) trivial trivial (bin_eql _ _ _ _))), ⟨⟨rfl, rfl, rfl, trivial⟩, trivial, rfl⟩, rfl,
          Step.plain rfl (does_and 21 25 (((p0.getD x1.1.toNat z_api_Letter).From) == p1) (((p0.getD x1.1.toNat z_api_Letter).To) == p2)), ⟨⟨rfl, rfl, trivial⟩, trivial, rfl⟩, rfl, rfl⟩ ?_
        obtain ⟨v5, hv5, H⟩ := lt_of H
        refine aw_cov (cov_prune (s1 := ⟨[(1, (.int .i64 p1)), (2, (.int .i64 p2)), (7, (.own 1)), (10, (e_s_api_Letter p0)), (11, (.int .i64 (p0.length : Int))), (12, (.int .i64 x1.1)), (8, (.int .i64 x1.1)), (26, (.bool v5))], [(1, some (.arr 1 x1.2.length fun j => (.int .i64 (x1.2.getD j 0))))], 3⟩) ⟨rfl, rfl, rfl, rfl, rfl, rfl, rfl, (by subst hv5; rfl), trivial⟩ ⟨rfl, trivial⟩ (Nat.le_refl _)) ?_
        refine aw_cond rfl (fun hc => ?_) (fun hc => ?_)
        · replace H := ite_t hc H
          obtain ⟨h6, H⟩ := fit_of H
          refine aw_region1 (es := [_, _, _, _, _]) ⟨Step.plain rfl (does_move (.tmp 7) (.own 1) trivial), ⟨⟨rfl, trivial⟩, trivial, rfl⟩, rfl,
            Step.plain rfl (does_move (.tmp 8) (.int .i64 x1.1) trivial), ⟨⟨rfl, trivial⟩, trivial, rfl⟩, rfl,
            Step.plain rfl (does_buildSl 46 1 1 (.int .i64 0) (fun j => (.int .i64 (([x1.1] : _root_.List Int).getD j 0))) #[(0, (.tmp 28))] [(0, (.tmp 28))] [(0, (.int .i64 x1.1))] rfl so46 (by decide) ⟨⟨rfl, trivial⟩, trivial⟩ ⟨⟨Nat.le_of_ble_eq_true rfl, rfl, rfl⟩, trivial⟩ (fun j h => match j, h with | 0, _ => rfl | k + 1, h => absurd h (by omega))), ⟨⟨rfl, trivial⟩, trivial, rfl⟩, rfl,
            Step.plain rfl (does_appendL (fun z => V.int .i64 z) 0 x1.2 ([x1.1] : _root_.List Int) 46 1 8 1 3 27 29 ap46 h6), ⟨⟨rfl, rfl, trivial⟩, ⟨rfl, trivial⟩, rfl⟩, rfl,
            Step.plain rfl (does_assign (.tmp 30) (.own 3) trivial), ⟨⟨rfl, trivial⟩, trivial, rfl⟩, rfl, rfl⟩ ?_
          refine nx_blk ?_
          exact nx_join ((x1.2 ++ ([x1.1] : _root_.List Int))) H (cov_of (fun i => match i with | 1 => 3 | k => k) ⟨⟨_, rfl, ⟨rfl, trivial⟩⟩, ⟨_, rfl, ⟨rfl, trivial⟩⟩, ⟨_, rfl, ⟨rfl, Nat.le_of_ble_eq_true rfl⟩⟩, ⟨_, rfl, ⟨rfl, (d_s_api_Letter _).plain⟩⟩, ⟨_, rfl, ⟨rfl, trivial⟩⟩, ⟨_, rfl, ⟨rfl, trivial⟩⟩, trivial⟩ ⟨⟨Nat.le_of_ble_eq_true rfl, _, _, rfl, rfl, ⟨rfl, rfl, fun _ => ⟨rfl, trivial⟩⟩⟩, trivial⟩ rfl)
        · replace H := ite_f hc H
          refine aw_skip ?_
          refine nx_blk ?_
          exact nx_join (x1.2) H (cov_of (fun i => match i with | 1 => 1 | k => k) ⟨⟨_, rfl, ⟨rfl, trivial⟩⟩, ⟨_, rfl, ⟨rfl, trivial⟩⟩, ⟨_, rfl, ⟨rfl, Nat.le_of_ble_eq_true rfl⟩⟩, ⟨_, rfl, ⟨rfl, (d_s_api_Letter _).plain⟩⟩, ⟨_, rfl, ⟨rfl, trivial⟩⟩, ⟨_, rfl, ⟨rfl, trivial⟩⟩, trivial⟩ ⟨⟨Nat.le_of_ble_eq_true rfl, _, _, rfl, rfl, ⟨rfl, rfl, fun _ => ⟨rfl, trivial⟩⟩⟩, trivial⟩ rfl)
    · replace H := ite_f hc H
      refine aw_exit ?_
      refine ex_then ?_
      refine ex_then ?_
      refine ex_here ?_
      exact nx_ljoin (x1.2) H hsn2 (cov_prune ⟨rfl, trivial⟩ ⟨rfl, trivial⟩ (Nat.le_of_ble_eq_true rfl))

theorem lossy_places_data (p0 : (_root_.List api_Letter)) (p1 : Int) (p2 : Int) (r : (_root_.List Int)) (H : lossy_places p0 p1 p2 = some r) : FSpec Try.prog 22 [(e_s_api_Letter p0), (.int .i64 p1), (.int .i64 p2)] (e_s_i64 r) :=
  FSpecO.toData (fz := [0]) (lossy_places_spec p0 p1 p2 r H) (d_s_i64 r) (.frz 0 _ _ _ rfl (fun _ => trivial) (by decide))

theorem lossy_Find_spec (p0 : (_root_.List api_Letter)) (p1 : Int) (p2 : Int) (p3 : Int) (r : Int × Bool) (H : lossy_Find p0 p1 p2 p3 = some r) : FSpec Try.prog 10 [(e_s_api_Letter p0), (.int .i64 p1), (.int .i64 p2), (.int .i64 p3)] (resV [(.int .i64 r.1), (.bool r.2)]) := by
  refine spec_of (fn := Try.f10) (args := [(e_s_api_Letter p0), (.int .i64 p1), (.int .i64 p2), (.int .i64 p3)]) Try.func10 rfl (Nat.le_of_ble_eq_true rfl) ?_
  rintro ⟨G, w0, W, S, Sp⟩ hG
  cases hG
  unfold lossy_Find at H
  refine aw_region (es := [_, _]) ⟨Step.plain rfl (does_assign (.const (.int .i64 0)) (.int .i64 0) (fun _ => rfl)), ⟨trivial, trivial, rfl⟩, rfl,
    Step.plain rfl (does_assign (.const (.bool false)) (.bool false) (fun _ => rfl)), ⟨trivial, trivial, rfl⟩, rfl, rfl⟩ ?_
  refine aw_cov (cov_prune (s1 := ⟨[(0, (e_s_api_Letter p0)), (1, (.int .i64 p1)), (2, (.int .i64 p2)), (3, (.int .i64 p3))], [], 0⟩) ⟨rfl, rfl, rfl, rfl, trivial⟩ trivial (Nat.le_refl _)) ?_
  obtain ⟨v1, h2, H⟩ := bnd H
  refine aw_region (es := [_, _, _, _, _]) ⟨Step.plain rfl (does_move (.tmp 0) (e_s_api_Letter p0) trivial), ⟨⟨rfl, trivial⟩, trivial, rfl⟩, rfl,
    Step.plain rfl (does_move (.tmp 1) (.int .i64 p1) trivial), ⟨⟨rfl, trivial⟩, trivial, rfl⟩, rfl,
    Step.plain rfl (does_move (.tmp 2) (.int .i64 p2) trivial), ⟨⟨rfl, trivial⟩, trivial, rfl⟩, rfl,
    Step.plain rfl (does_callO 22 0 (fun _ => .any) (.func 22) [(.tmp 12), (.tmp 13), (.tmp 14)] [(e_s_api_Letter p0), (.int .i64 p1), (.int .i64 p2)] [] [] true [(e_s_api_Letter p0), (.int .i64 p1), (.int .i64 p2)] _ (.own 0) _ 0 1 _ _ rfl fo22 rfl ⟨trivial, trivial, trivial, trivial⟩ ⟨.ro _ _ (.data _ (d_s_api_Letter p0)), .ro _ _ (.data _ trivial), .ro _ _ (.data _ trivial), trivial⟩ (lossy_places_spec p0 p1 p2 _ h2) rfl (by simp) rfl trivial ⟨⟨Nat.le_of_ble_eq_true rfl, _, rfl, fun _ => trivial⟩, trivial⟩ (.own 0 (Nat.le_of_ble_eq_true rfl))), ⟨⟨rfl, rfl, rfl, trivial⟩, trivial, rfl⟩, rfl,
    Step.plain rfl (does_assign (.tmp 15) (.own 0) trivial), ⟨⟨rfl, trivial⟩, trivial, rfl⟩, rfl, rfl⟩ ?_
  refine aw_cov (cov_prune (s1 := ⟨[(3, (.int .i64 p3)), (10, (.own 0))], [(0, some (.arr 1 v1.length fun j => (.int .i64 (v1.getD j 0))))], 1⟩) ⟨rfl, rfl, trivial⟩ ⟨rfl, trivial⟩ (Nat.le_refl _)) ?_
  refine aw_region (es := [_, _, _]) ⟨Step.plain rfl (does_move (.tmp 10) (.own 0) trivial), ⟨⟨rfl, trivial⟩, trivial, rfl⟩, rfl,
    Step.plain rfl (does_leno 46 1 v1.length 16 0 (fun j => (.int .i64 (v1.getD j 0))) el46), ⟨⟨rfl, trivial⟩, ⟨rfl, trivial⟩, rfl⟩, rfl,
    Step.plain rfl (does_assign (.tmp 17) (.int .i64 (v1.length : Int)) trivial), ⟨⟨rfl, trivial⟩, trivial, rfl⟩, rfl, rfl⟩ ?_
  refine aw_cov (cov_prune (s1 := ⟨[(3, (.int .i64 p3)), (10, (.own 0)), (11, (.int .i64 (v1.length : Int)))], [(0, some (.arr 1 v1.length fun j => (.int .i64 (v1.getD j 0))))], 1⟩) ⟨rfl, rfl, rfl, trivial⟩ ⟨rfl, trivial⟩ (Nat.le_refl _)) ?_
  refine aw_seq ?_
  refine aw_region (es := [_, _]) ⟨Step.plain rfl (does_move (.tmp 11) (.int .i64 (v1.length : Int)) trivial), ⟨⟨rfl, trivial⟩, trivial, rfl⟩, rfl,
    Step.plain rfl (does_bin .eql 3 3 (.tmp 18) (.const (.int .i64 0)) .i64 (v1.length : Int) 0 (.bool ((v1.length : Int) == 0)) trivial (fun _ => rfl) (bin_eql _ _ _ _)), ⟨⟨rfl, trivial⟩, trivial, rfl⟩, rfl, rfl⟩ ?_
  refine aw_cov (cov_prune (s1 := ⟨[(3, (.int .i64 p3)), (10, (.own 0)), (11, (.int .i64 (v1.length : Int))), (19, (.bool ((v1.length : Int) == 0)))], [(0, some (.arr 1 v1.length fun j => (.int .i64 (v1.getD j 0))))], 1⟩) ⟨rfl, rfl, rfl, rfl, trivial⟩ ⟨rfl, trivial⟩ (Nat.le_refl _)) ?_
  refine aw_cond rfl (fun hc => ?_) (fun hc => ?_)
  · replace H := ite_t hc H
    refine aw_region (es := [_, _]) ⟨Step.plain rfl (does_assign (.const (.int .i64 0)) (.int .i64 0) (fun _ => rfl)), ⟨trivial, trivial, rfl⟩, rfl,
      Step.plain rfl (does_assign (.const (.bool false)) (.bool false) (fun _ => rfl)), ⟨trivial, trivial, rfl⟩, rfl, rfl⟩ ?_
    refine aw_cov (cov_prune (s1 := ⟨[(8, (.int .i64 0)), (9, (.bool false))], [], 1⟩) ⟨rfl, rfl, trivial⟩ trivial (Nat.le_refl _)) ?_
    refine aw_ret ?_
    refine rt_then ?_
    exact fun a w hr => ⟨_, [(.int .i64 0), (.bool false)], hr, ⟨⟨_, rfl, .data (.int .i64 0) trivial⟩, ⟨_, rfl, .data (.bool false) trivial⟩, trivial⟩, by decide, by cases H; rfl⟩
  · replace H := ite_f hc H
    refine aw_skip ?_
    refine nx_seq ?_
    obtain ⟨h3, H⟩ := nz_of H
    obtain ⟨h4, H⟩ := nz_of H
    obtain ⟨h5, H⟩ := ib_of H
    refine aw_region (es := [_, _, _, _, _, _, _, _, _, _, _, _]) ⟨Step.plain rfl (does_move (.tmp 10) (.own 0) trivial), ⟨⟨rfl, trivial⟩, trivial, rfl⟩, rfl,
      Step.plain rfl (does_move (.tmp 3) (.int .i64 p3) trivial), ⟨⟨rfl, trivial⟩, trivial, rfl⟩, rfl,
      Step.plain rfl (does_move (.tmp 11) (.int .i64 (v1.length : Int)) trivial), ⟨⟨rfl, trivial⟩, trivial, rfl⟩, rfl,
      Step.plain rfl (does_bin .rem 3 3 (.tmp 21) (.tmp 22) .i64 p3 (v1.length : Int) (.int .i64 (p3.tmod (v1.length : Int))) trivial trivial (bin_rem _ _ _ _ h3)), ⟨⟨rfl, rfl, trivial⟩, trivial, rfl⟩, rfl,
      Step.plain rfl (does_move (.tmp 11) (.int .i64 (v1.length : Int)) trivial), ⟨⟨rfl, trivial⟩, trivial, rfl⟩, rfl,
      Step.plain rfl (does_bin .add 3 3 (.tmp 23) (.tmp 24) .i64 (p3.tmod (v1.length : Int)) (v1.length : Int) (.int .i64 (IntKind.i64.wrap ((p3.tmod (v1.length : Int)) + (v1.length : Int)))) trivial trivial (bin_add _ _ _ _)), ⟨⟨rfl, rfl, trivial⟩, trivial, rfl⟩, rfl,
      Step.plain rfl (does_move (.tmp 11) (.int .i64 (v1.length : Int)) trivial), ⟨⟨rfl, trivial⟩, trivial, rfl⟩, rfl,
      Step.plain rfl (does_bin .rem 3 3 (.tmp 25) (.tmp 26) .i64 (IntKind.i64.wrap ((p3.tmod (v1.length : Int)) + (v1.length : Int))) (v1.length : Int) (.int .i64 ((IntKind.i64.wrap ((p3.tmod (v1.length : Int)) + (v1.length : Int))).tmod (v1.length : Int))) trivial trivial (bin_rem _ _ _ _ h4)), ⟨⟨rfl, rfl, trivial⟩, trivial, rfl⟩, rfl,
      Step.plain rfl (does_indexAddro 46 1 v1.length 20 0 (fun j => (.int .i64 (v1.getD j 0))) (.tmp 27) .i64 ((IntKind.i64.wrap ((p3.tmod (v1.length : Int)) + (v1.length : Int))).tmod (v1.length : Int)) el46 trivial h5.1 h5.2), ⟨⟨rfl, rfl, trivial⟩, ⟨rfl, trivial⟩, rfl⟩, rfl,
      Step.plain rfl (does_load 3 28 0 (((IntKind.i64.wrap ((p3.tmod (v1.length : Int)) + (v1.length : Int))).tmod (v1.length : Int)).toNat * 1) [((IntKind.i64.wrap ((p3.tmod (v1.length : Int)) + (v1.length : Int))).tmod (v1.length : Int)).toNat] (.arr 1 v1.length fun j => (.int .i64 (v1.getD j 0))) (.int .i64 (v1.getD (((IntKind.i64.wrap ((p3.tmod (v1.length : Int)) + (v1.length : Int))).tmod (v1.length : Int)).toNat) 0)) ⟨(ixl h5), trivial⟩ rfl rfl ty3), ⟨⟨rfl, trivial⟩, ⟨rfl, trivial⟩, rfl⟩, rfl,
      Step.plain rfl (does_assign (.tmp 29) (.int .i64 (v1.getD (((IntKind.i64.wrap ((p3.tmod (v1.length : Int)) + (v1.length : Int))).tmod (v1.length : Int)).toNat) 0)) trivial), ⟨⟨rfl, trivial⟩, trivial, rfl⟩, rfl,
      Step.plain rfl (does_assign (.const (.bool true)) (.bool true) (fun _ => rfl)), ⟨trivial, trivial, rfl⟩, rfl, rfl⟩ ?_
    obtain ⟨v6, hv6, H⟩ := lt_of H
    refine aw_cov (cov_prune (s1 := ⟨[(8, (.int .i64 v6)), (9, (.bool true))], [], 1⟩) ⟨(by subst hv6; rfl), rfl, trivial⟩ trivial (Nat.le_refl _)) ?_
    refine aw_ret ?_
    exact fun a w hr => ⟨_, [(.int .i64 v6), (.bool true)], hr, ⟨⟨_, rfl, .data (.int .i64 v6) trivial⟩, ⟨_, rfl, .data (.bool true) trivial⟩, trivial⟩, by decide, by cases H; rfl⟩

theorem slices_Delete_api_Letter_api_Letter_spec (p0 : (_root_.List api_Letter)) (p1 : Int) (p2 : Int) (r : (_root_.List api_Letter)) (H : slices_Delete_api_Letter_api_Letter p0 p1 p2 = some r) : FSpecO Try.prog 21 [(.own 0), (.int .i64 p1), (.int .i64 p2)] [(0, some (.arr 4 p0.length fun j => (e_api_Letter (p0.getD j z_api_Letter))))] 1 (.own 0) [(0, some (.arr 4 r.length fun j => (e_api_Letter (r.getD j z_api_Letter))))] 1 := by
  refine specO_of (fn := Try.f21) (args := [(.own 0), (.int .i64 p1), (.int .i64 p2)]) Try.func21 rfl (Nat.le_of_ble_eq_true rfl) ?_
  rintro ⟨G, w0, W, S, Sp⟩ hG
  cases hG
  unfold slices_Delete_api_Letter_api_Letter at H
  refine aw_region (es := [_]) ⟨Step.plain rfl (does_nil false 1 4 (fun j => (e_api_Letter (([] : _root_.List api_Letter).getD j z_api_Letter)))), ⟨trivial, trivial, rfl⟩, rfl, rfl⟩ ?_
  refine aw_cov (cov_prune (s1 := ⟨[(0, (.own 0)), (1, (.int .i64 p1)), (2, (.int .i64 p2))], [(0, some (.arr 4 p0.length fun j => (e_api_Letter (p0.getD j z_api_Letter))))], 2⟩) ⟨rfl, rfl, rfl, trivial⟩ ⟨rfl, trivial⟩ (Nat.le_refl _)) ?_
  obtain ⟨h1, H⟩ := sb_of H
  obtain ⟨h2, H⟩ := sb_of H
  refine aw_region (es := [_, _, _, _, _, _]) ⟨Step.plain rfl (does_move (.tmp 0) (.own 0) trivial), ⟨⟨rfl, trivial⟩, trivial, rfl⟩, rfl,
    Step.plain rfl (does_move (.tmp 1) (.int .i64 p1) trivial), ⟨⟨rfl, trivial⟩, trivial, rfl⟩, rfl,
    Step.plain rfl (does_move (.tmp 2) (.int .i64 p2) trivial), ⟨⟨rfl, trivial⟩, trivial, rfl⟩, rfl,
    Step.plain rfl (does_move (.tmp 0) (.own 0) trivial), ⟨⟨rfl, trivial⟩, trivial, rfl⟩, rfl,
    Step.plain rfl (does_leno 22 4 p0.length 11 0 (fun j => (e_api_Letter (p0.getD j z_api_Letter))) el22), ⟨⟨rfl, trivial⟩, ⟨rfl, trivial⟩, rfl⟩, rfl,
    Step.plain rfl (does_slice3 22 4 p0.length 8 0 (fun j => (e_api_Letter (p0.getD j z_api_Letter))) (.tmp 9) (.tmp 10) (.tmp 12) .i64 .i64 .i64 p1 p2 (p0.length : Int) el22 trivial trivial trivial h1.1 h1.2.1 h2.2.1 h2.2.2), ⟨⟨rfl, rfl, rfl, rfl, trivial⟩, ⟨rfl, trivial⟩, rfl⟩, rfl, rfl⟩ ?_
  refine aw_cov (cov_prune (s1 := ⟨[(0, (.own 0)), (1, (.int .i64 p1)), (2, (.int .i64 p2))], [(0, some (.arr 4 p0.length fun j => (e_api_Letter (p0.getD j z_api_Letter))))], 2⟩) ⟨rfl, rfl, rfl, trivial⟩ ⟨rfl, trivial⟩ (Nat.le_refl _)) ?_
  refine aw_seq ?_
  refine aw_region (es := [_, _, _]) ⟨Step.plain rfl (does_move (.tmp 1) (.int .i64 p1) trivial), ⟨⟨rfl, trivial⟩, trivial, rfl⟩, rfl,
    Step.plain rfl (does_move (.tmp 2) (.int .i64 p2) trivial), ⟨⟨rfl, trivial⟩, trivial, rfl⟩, rfl,
    Step.plain rfl (does_bin .eql 3 3 (.tmp 14) (.tmp 15) .i64 p1 p2 (.bool (p1 == p2)) trivial trivial (bin_eql _ _ _ _)), ⟨⟨rfl, rfl, trivial⟩, trivial, rfl⟩, rfl, rfl⟩ ?_
  refine aw_cov (cov_prune (s1 := ⟨[(0, (.own 0)), (1, (.int .i64 p1)), (2, (.int .i64 p2)), (16, (.bool (p1 == p2)))], [(0, some (.arr 4 p0.length fun j => (e_api_Letter (p0.getD j z_api_Letter))))], 2⟩) ⟨rfl, rfl, rfl, rfl, trivial⟩ ⟨rfl, trivial⟩ (Nat.le_refl _)) ?_
  refine aw_cond rfl (fun hc => ?_) (fun hc => ?_)
  · replace H := ite_t hc H
    refine aw_region (es := [_, _]) ⟨Step.plain rfl (does_move (.tmp 0) (.own 0) trivial), ⟨⟨rfl, trivial⟩, trivial, rfl⟩, rfl,
      Step.plain rfl (does_assign (.tmp 17) (.own 0) trivial), ⟨⟨rfl, trivial⟩, trivial, rfl⟩, rfl, rfl⟩ ?_
    refine aw_cov (cov_prune (s1 := ⟨[(6, (.own 0))], [(0, some (.arr 4 p0.length fun j => (e_api_Letter (p0.getD j z_api_Letter))))], 2⟩) ⟨rfl, trivial⟩ ⟨rfl, trivial⟩ (Nat.le_refl _)) ?_
    refine aw_ret ?_
    refine rt_then ?_
    exact fun a w hr => ⟨_, [(.own 0)], reach_of hr (cov_to (s1 := ⟨[(6, (.own 0))], [(0, some (.arr 4 p0.length fun j => (e_api_Letter (p0.getD j z_api_Letter))))], 1⟩) (fun i => match i with | 0 => 0 | k => k) [] ⟨⟨_, rfl, .own 0 _ _ (Nat.le_of_ble_eq_true rfl) rfl rfl (Box.like_refl _)⟩, trivial⟩ ⟨⟨Nat.le_of_ble_eq_true rfl, _, _, rfl, rfl, boxTo_arr (fun _ => (d_api_Letter _))⟩, trivial⟩ rfl rfl), ⟨rfl, trivial⟩, by decide, by cases H; rfl, by cases H; exact ⟨rfl, trivial⟩, Nat.le_of_ble_eq_true rfl⟩
  · replace H := ite_f hc H
    refine aw_skip ?_
    refine nx_seq ?_
    refine aw_region (es := [_, _, _]) ⟨Step.plain rfl (does_move (.tmp 0) (.own 0) trivial), ⟨⟨rfl, trivial⟩, trivial, rfl⟩, rfl,
      Step.plain rfl (does_leno 22 4 p0.length 18 0 (fun j => (e_api_Letter (p0.getD j z_api_Letter))) el22), ⟨⟨rfl, trivial⟩, ⟨rfl, trivial⟩, rfl⟩, rfl,
      Step.plain rfl (does_assign (.tmp 19) (.int .i64 (p0.length : Int)) trivial), ⟨⟨rfl, trivial⟩, trivial, rfl⟩, rfl, rfl⟩ ?_
    refine aw_cov (cov_prune (s1 := ⟨[(0, (.own 0)), (1, (.int .i64 p1)), (2, (.int .i64 p2)), (7, (.int .i64 (p0.length : Int)))], [(0, some (.arr 4 p0.length fun j => (e_api_Letter (p0.getD j z_api_Letter))))], 2⟩) ⟨rfl, rfl, rfl, rfl, trivial⟩ ⟨rfl, trivial⟩ (Nat.le_refl _)) ?_
    obtain ⟨h3, H⟩ := sb_of H
    obtain ⟨h4, H⟩ := sb_of H
    obtain ⟨h5, H⟩ := inb_of H
    obtain ⟨h6, H⟩ := inb_of H
    refine aw_draw (es := [_, _, _, _, _, _, _, _]) (mixed) ⟨Step.plain rfl (does_move (.tmp 0) (.own 0) trivial), ⟨⟨rfl, trivial⟩, trivial, rfl⟩, rfl,
      Step.plain rfl (does_move (.tmp 1) (.int .i64 p1) trivial), ⟨⟨rfl, trivial⟩, trivial, rfl⟩, rfl,
      Step.plain rfl (does_sliceo 22 4 p0.length 20 0 0 p1.toNat (fun j => (e_api_Letter (p0.getD j z_api_Letter))) none (some ((.tmp 21), .i64, p1)) _ _ el22 rfl rfl trivial trivial rfl (Int.toNat_of_nonneg (Int.le_trans h3.1 h3.2.1)).symm (by omega) (by omega)), ⟨⟨rfl, rfl, trivial⟩, ⟨rfl, trivial⟩, rfl⟩, rfl,
      Step.plain rfl (does_move (.tmp 0) (.own 0) trivial), ⟨⟨rfl, trivial⟩, trivial, rfl⟩, rfl,
      Step.plain rfl (does_move (.tmp 2) (.int .i64 p2) trivial), ⟨⟨rfl, trivial⟩, trivial, rfl⟩, rfl,
      Step.plain rfl (does_sliceo 22 4 p0.length 23 0 p2.toNat p0.length (fun j => (e_api_Letter (p0.getD j z_api_Letter))) (some ((.tmp 24), .i64, p2)) none _ _ el22 rfl rfl trivial trivial (Int.toNat_of_nonneg h4.1).symm rfl (by omega) (by omega)), ⟨⟨rfl, rfl, trivial⟩, ⟨rfl, trivial⟩, rfl⟩, rfl,
      Step.plain rfl (does_appendVL e_api_Letter z_api_Letter p0 22 4 40 22 25 0 (p1.toNat - 0) p2.toNat (p0.length - p2.toNat) ap22 h5 h6), ⟨⟨rfl, rfl, trivial⟩, ⟨rfl, trivial⟩, rfl⟩, rfl,
      Step.plain rfl (does_assign (.tmp 26) (.view 0 0 ((p1.toNat - 0) + (p0.length - p2.toNat))) trivial), ⟨⟨rfl, trivial⟩, trivial, rfl⟩, rfl, rfl⟩ rfl ?_
    refine aw_cov (cov_prune (s1 := ⟨[(7, (.int .i64 (p0.length : Int))), (0, (.view 0 0 ((p1.toNat - 0) + (p0.length - p2.toNat))))], [(0, some (.arr 4 (shf p0 z_api_Letter (p1.toNat - 0) p2.toNat (p0.length - p2.toNat)).length fun j => (e_api_Letter ((shf p0 z_api_Letter (p1.toNat - 0) p2.toNat (p0.length - p2.toNat)).getD j z_api_Letter))))], 2⟩) ⟨rfl, rfl, trivial⟩ ⟨rfl, trivial⟩ (Nat.le_refl _)) ?_
    obtain ⟨h7, H⟩ := sb_of H
    obtain ⟨h8, H⟩ := inb_of H
    refine aw_region (es := [_, _, _, _, _, _]) ⟨Step.plain rfl (does_move (.tmp 0) (.view 0 0 ((p1.toNat - 0) + (p0.length - p2.toNat))) trivial), ⟨⟨rfl, trivial⟩, trivial, rfl⟩, rfl,
      Step.plain rfl (does_move (.tmp 0) (.view 0 0 ((p1.toNat - 0) + (p0.length - p2.toNat))) trivial), ⟨⟨rfl, trivial⟩, trivial, rfl⟩, rfl,
      Step.plain rfl (does_lenv 22 4 (shf p0 z_api_Letter (p1.toNat - 0) p2.toNat (p0.length - p2.toNat)).length 28 0 ((p1.toNat - 0) + (p0.length - p2.toNat)) (fun j => (e_api_Letter ((shf p0 z_api_Letter (p1.toNat - 0) p2.toNat (p0.length - p2.toNat)).getD j z_api_Letter))) el22), ⟨⟨rfl, trivial⟩, ⟨rfl, trivial⟩, rfl⟩, rfl,
      Step.plain rfl (does_move (.tmp 7) (.int .i64 (p0.length : Int)) trivial), ⟨⟨rfl, trivial⟩, trivial, rfl⟩, rfl,
      Step.plain rfl (does_slicev 22 4 (shf p0 z_api_Letter (p1.toNat - 0) p2.toNat (p0.length - p2.toNat)).length 27 0 ((p1.toNat - 0) + (p0.length - p2.toNat)) (((((p1.toNat - 0) + (p0.length - p2.toNat)) : Nat) : Int).toNat) ((p0.length : Int).toNat) (fun j => (e_api_Letter ((shf p0 z_api_Letter (p1.toNat - 0) p2.toNat (p0.length - p2.toNat)).getD j z_api_Letter))) (some ((.tmp 29), .i64, ((((p1.toNat - 0) + (p0.length - p2.toNat)) : Nat) : Int))) (some ((.tmp 30), .i64, (p0.length : Int))) _ _ el22 rfl rfl trivial trivial (Int.toNat_of_nonneg h7.1).symm (Int.toNat_of_nonneg (Int.le_trans h7.1 h7.2.1)).symm (by omega) (by omega)), ⟨⟨rfl, rfl, rfl, trivial⟩, ⟨rfl, trivial⟩, rfl⟩, rfl,
      Step.plain rfl (does_clearL e_api_Letter z_api_Letter (shf p0 z_api_Letter (p1.toNat - 0) p2.toNat (p0.length - p2.toNat)) 22 4 31 0 (((((p1.toNat - 0) + (p0.length - p2.toNat)) : Nat) : Int).toNat) (((p0.length : Int).toNat) - (((((p1.toNat - 0) + (p0.length - p2.toNat)) : Nat) : Int).toNat)) so22 h8), ⟨⟨rfl, trivial⟩, ⟨rfl, trivial⟩, rfl⟩, rfl, rfl⟩ ?_
    obtain ⟨v9, hv9, H⟩ := lt_of H
    refine aw_cov (cov_prune (s1 := ⟨[(0, (.view 0 0 ((p1.toNat - 0) + (p0.length - p2.toNat))))], [(0, some (.arr 4 v9.length fun j => (e_api_Letter (v9.getD j z_api_Letter))))], 2⟩) ⟨rfl, trivial⟩ ⟨(by subst hv9; rfl), trivial⟩ (Nat.le_refl _)) ?_
    refine aw_region (es := [_, _]) ⟨Step.plain rfl (does_move (.tmp 0) (.view 0 0 ((p1.toNat - 0) + (p0.length - p2.toNat))) trivial), ⟨⟨rfl, trivial⟩, trivial, rfl⟩, rfl,
      Step.plain rfl (does_assign (.tmp 32) (.view 0 0 ((p1.toNat - 0) + (p0.length - p2.toNat))) trivial), ⟨⟨rfl, trivial⟩, trivial, rfl⟩, rfl, rfl⟩ ?_
    refine aw_cov (cov_prune (s1 := ⟨[(6, (.view 0 0 ((p1.toNat - 0) + (p0.length - p2.toNat))))], [(0, some (.arr 4 v9.length fun j => (e_api_Letter (v9.getD j z_api_Letter))))], 2⟩) ⟨rfl, trivial⟩ ⟨rfl, trivial⟩ (Nat.le_refl _)) ?_
    refine aw_ret ?_
    obtain ⟨h10, H⟩ := inb_of H
    exact fun a w hr => ⟨_, [(.own 0)], reach_of hr (cov_to (s1 := ⟨[(6, (.own 0))], [(0, some (.arr 4 (v9.take ((p1.toNat - 0) + (p0.length - p2.toNat))).length fun j => (e_api_Letter ((v9.take ((p1.toNat - 0) + (p0.length - p2.toNat))).getD j z_api_Letter))))], 1⟩) (fun i => match i with | 0 => 0 | k => k) [] ⟨⟨_, rfl, .shr 0 _ _ _ _ _ _ (Nat.le_of_ble_eq_true rfl) rfl rfl (len_take h10)⟩, trivial⟩ ⟨⟨Nat.le_of_ble_eq_true rfl, _, _, rfl, rfl, boxTo_take e_api_Letter _ (fun _ => (d_api_Letter _))⟩, trivial⟩ rfl rfl), ⟨rfl, trivial⟩, by decide, by cases H; rfl, by cases H; exact ⟨rfl, trivial⟩, Nat.le_of_ble_eq_true rfl⟩

theorem lossy_Take_spec (p0 : (_root_.List api_Letter)) (p1 : Int) (p2 : Int) (p3 : Int) (r : (_root_.List api_Letter) × api_Letter × Bool) (H : lossy_Take p0 p1 p2 p3 = some r) : FSpecO Try.prog 8 [(e_s_api_Letter p0), (.int .i64 p1), (.int .i64 p2), (.int .i64 p3)] [] 0 (resV [(.own 0), (e_api_Letter r.2.1), (.bool r.2.2)]) [(0, some (.arr 4 r.1.length fun j => (e_api_Letter (r.1.getD j z_api_Letter))))] 2 := by
  refine specO_of (fn := Try.f8) (args := [(e_s_api_Letter p0), (.int .i64 p1), (.int .i64 p2), (.int .i64 p3)]) Try.func8 rfl (Nat.le_of_ble_eq_true rfl) ?_
  rintro ⟨G, w0, W, S, Sp⟩ hG
  cases hG
  unfold lossy_Take at H
  refine aw_region (es := [_, _, _]) ⟨Step.plain rfl (does_nil false 0 4 (fun j => (e_api_Letter (([] : _root_.List api_Letter).getD j z_api_Letter)))), ⟨trivial, trivial, rfl⟩, rfl,
    Step.plain rfl (does_alloc 27 1 (e_api_Letter z_api_Letter) zr27), ⟨trivial, trivial, rfl⟩, rfl,
    Step.plain rfl (does_assign (.const (.bool false)) (.bool false) (fun _ => rfl)), ⟨trivial, trivial, rfl⟩, rfl, rfl⟩ ?_
  refine aw_cov (cov_prune (s1 := ⟨[(0, (e_s_api_Letter p0)), (1, (.int .i64 p1)), (2, (.int .i64 p2)), (3, (.int .i64 p3)), (9, (.ptr 1 0 []))], [(1, some (.var (e_api_Letter z_api_Letter)))], 2⟩) ⟨rfl, rfl, rfl, rfl, rfl, trivial⟩ ⟨rfl, trivial⟩ (Nat.le_refl _)) ?_
  obtain ⟨v1, h2, H⟩ := bnd H
  refine aw_region (es := [_, _, _]) ⟨Step.plain rfl (does_move (.tmp 0) (e_s_api_Letter p0) trivial), ⟨⟨rfl, trivial⟩, trivial, rfl⟩, rfl,
    Step.plain rfl (does_callO 20 0 (fun _ => .any) (.func 20) [(.tmp 14)] [(e_s_api_Letter p0)] [] [] true [(e_s_api_Letter p0)] _ (.own 2) _ 2 1 _ _ rfl fo20 rfl ⟨trivial, trivial⟩ ⟨.ro _ _ (.data _ (d_s_api_Letter p0)), trivial⟩ (slices_Clone_api_Letter_api_Letter_spec p0 _ h2) rfl (by simp) rfl trivial ⟨⟨Nat.le_of_ble_eq_true rfl, _, rfl, fun _ => (f_api_Letter _)⟩, trivial⟩ (.own 0 (Nat.le_of_ble_eq_true rfl))), ⟨⟨rfl, trivial⟩, trivial, rfl⟩, rfl,
    Step.plain rfl (does_assign (.tmp 15) (.own 2) trivial), ⟨⟨rfl, trivial⟩, trivial, rfl⟩, rfl, rfl⟩ ?_
  refine aw_cov (cov_prune (s1 := ⟨[(0, (e_s_api_Letter p0)), (1, (.int .i64 p1)), (2, (.int .i64 p2)), (3, (.int .i64 p3)), (9, (.ptr 1 0 [])), (11, (.own 2))], [(1, some (.var (e_api_Letter z_api_Letter))), (2, some (.arr 4 v1.length fun j => (e_api_Letter (v1.getD j z_api_Letter))))], 3⟩) ⟨rfl, rfl, rfl, rfl, rfl, rfl, trivial⟩ ⟨rfl, rfl, trivial⟩ (Nat.le_refl _)) ?_
  obtain ⟨v3, h4, H⟩ := bnd H
  refine aw_region (es := [_, _, _, _, _, _, _, _, _, _]) ⟨Step.plain rfl (does_move (.tmp 0) (e_s_api_Letter p0) trivial), ⟨⟨rfl, trivial⟩, trivial, rfl⟩, rfl,
    Step.plain rfl (does_move (.tmp 1) (.int .i64 p1) trivial), ⟨⟨rfl, trivial⟩, trivial, rfl⟩, rfl,
    Step.plain rfl (does_move (.tmp 2) (.int .i64 p2) trivial), ⟨⟨rfl, trivial⟩, trivial, rfl⟩, rfl,
    Step.plain rfl (does_move (.tmp 3) (.int .i64 p3) trivial), ⟨⟨rfl, trivial⟩, trivial, rfl⟩, rfl,
    Step.plain rfl (does_call 10 0 (fun _ => .any) (.func 10) [(.tmp 17), (.tmp 18), (.tmp 19), (.tmp 20)] [(e_s_api_Letter p0), (.int .i64 p1), (.int .i64 p2), (.int .i64 p3)] [] true [(e_s_api_Letter p0), (.int .i64 p1), (.int .i64 p2), (.int .i64 p3)] (resV [(.int .i64 v3.1), (.bool v3.2)]) _ _ rfl fo10 rfl ⟨trivial, trivial, trivial, trivial, trivial⟩ ⟨.data _ (d_s_api_Letter p0), .data _ trivial, .data _ trivial, .data _ trivial, trivial⟩ (lossy_Find_spec p0 p1 p2 p3 _ h4) (res_flat2 trivial trivial)), ⟨⟨rfl, rfl, rfl, rfl, trivial⟩, trivial, rfl⟩, rfl,
    Step.plain rfl (does_move (.tmp 21) (resV [(.int .i64 v3.1), (.bool v3.2)]) trivial), ⟨⟨rfl, trivial⟩, trivial, rfl⟩, rfl,
    Step.plain rfl (does_extract 16 0 2 (fun j => [(.int .i64 v3.1), (.bool v3.2)].getD j (.bool false)) (Nat.le_of_ble_eq_true rfl)), ⟨⟨rfl, trivial⟩, trivial, rfl⟩, rfl,
    Step.plain rfl (does_extract 16 1 2 (fun j => [(.int .i64 v3.1), (.bool v3.2)].getD j (.bool false)) (Nat.le_of_ble_eq_true rfl)), ⟨⟨rfl, trivial⟩, trivial, rfl⟩, rfl,
    Step.plain rfl (does_assign (.tmp 22) (.int .i64 v3.1) trivial), ⟨⟨rfl, trivial⟩, trivial, rfl⟩, rfl,
    Step.plain rfl (does_assign (.tmp 23) (.bool v3.2) trivial), ⟨⟨rfl, trivial⟩, trivial, rfl⟩, rfl, rfl⟩ ?_
  refine aw_cov (cov_prune (s1 := ⟨[(0, (e_s_api_Letter p0)), (9, (.ptr 1 0 [])), (11, (.own 2)), (12, (.int .i64 v3.1)), (13, (.bool v3.2))], [(1, some (.var (e_api_Letter z_api_Letter))), (2, some (.arr 4 v1.length fun j => (e_api_Letter (v1.getD j z_api_Letter))))], 3⟩) ⟨rfl, rfl, rfl, rfl, rfl, trivial⟩ ⟨rfl, rfl, trivial⟩ (Nat.le_refl _)) ?_
  refine aw_seq ?_
  refine aw_region (es := [_, _]) ⟨Step.plain rfl (does_move (.tmp 13) (.bool v3.2) trivial), ⟨⟨rfl, trivial⟩, trivial, rfl⟩, rfl,
    Step.plain rfl (does_not 4 (.tmp 24) v3.2 trivial), ⟨⟨rfl, trivial⟩, trivial, rfl⟩, rfl, rfl⟩ ?_
  refine aw_cov (cov_prune (s1 := ⟨[(0, (e_s_api_Letter p0)), (9, (.ptr 1 0 [])), (11, (.own 2)), (12, (.int .i64 v3.1)), (25, (.bool (!v3.2)))], [(1, some (.var (e_api_Letter z_api_Letter))), (2, some (.arr 4 v1.length fun j => (e_api_Letter (v1.getD j z_api_Letter))))], 3⟩) ⟨rfl, rfl, rfl, rfl, rfl, trivial⟩ ⟨rfl, rfl, trivial⟩ (Nat.le_refl _)) ?_
  refine aw_cond rfl (fun hc => ?_) (fun hc => ?_)
  · replace H := ite_t hc H
    refine aw_region (es := [_, _, _, _, _]) ⟨Step.plain rfl (does_move (.tmp 11) (.own 2) trivial), ⟨⟨rfl, trivial⟩, trivial, rfl⟩, rfl,
      Step.plain rfl (does_buildT 27 #[] [] [] (.st [1, 1, 1, 1]) (c_api_Letter z_api_Letter) (c_api_Letter ({ From := 0, To := 0, Text := ByteArray.empty, Turned := false } : api_Letter)) rfl bo27 trivial trivial (by funext j; match j with | 0 => rfl | 1 => rfl | 2 => rfl | 3 => rfl | _ + 4 => rfl)), ⟨trivial, trivial, rfl⟩, rfl,
      Step.plain rfl (does_assign (.tmp 26) (.own 2) trivial), ⟨⟨rfl, trivial⟩, trivial, rfl⟩, rfl,
      Step.plain rfl (does_store 27 9 (.tmp 27) 1 0 [] (.var (e_api_Letter z_api_Letter)) (.var (e_api_Letter ({ From := 0, To := 0, Text := ByteArray.empty, Turned := false } : api_Letter))) (e_api_Letter ({ From := 0, To := 0, Text := ByteArray.empty, Turned := false } : api_Letter)) true trivial rfl trivial rfl rfl rfl ty27), ⟨⟨rfl, rfl, trivial⟩, ⟨rfl, trivial⟩, rfl⟩, rfl,
      Step.plain rfl (does_assign (.const (.bool false)) (.bool false) (fun _ => rfl)), ⟨trivial, trivial, rfl⟩, rfl, rfl⟩ ?_
    obtain ⟨v5, hv5, H⟩ := lt_of H
    refine aw_cov (cov_prune (s1 := ⟨[(9, (.ptr 1 0 [])), (8, (.own 2)), (10, (.bool false))], [(1, some (.var (e_api_Letter v5))), (2, some (.arr 4 v1.length fun j => (e_api_Letter (v1.getD j z_api_Letter))))], 3⟩) ⟨rfl, rfl, rfl, trivial⟩ ⟨(by subst hv5; rfl), rfl, trivial⟩ (Nat.le_refl _)) ?_
    refine aw_ret ?_
    refine rt_then ?_
    exact fun a w hr => ⟨_, [(.own 0), (e_api_Letter v5), (.bool false)], reach_of hr (cov_to (s1 := ⟨[(8, (.own 0)), (9, (.ptr 1 0 [])), (10, (.bool false))], [(0, some (.arr 4 v1.length fun j => (e_api_Letter (v1.getD j z_api_Letter)))), (1, some (.var (e_api_Letter v5)))], 2⟩) (fun i => match i with | 0 => 2 | 1 => 1 | k => k) [] ⟨⟨_, rfl, .own 0 _ _ (Nat.le_of_ble_eq_true rfl) rfl rfl (Box.like_refl _)⟩, ⟨_, rfl, .ptr 1 _ _ _ _ (Nat.le_of_ble_eq_true rfl) rfl rfl⟩, ⟨_, rfl, .plain _ (trivial)⟩, trivial⟩ ⟨⟨Nat.le_of_ble_eq_true rfl, _, _, rfl, rfl, boxTo_arr (fun _ => (d_api_Letter _))⟩, ⟨Nat.le_of_ble_eq_true rfl, _, _, rfl, rfl, boxTo_var ((d_api_Letter _).plain)⟩, trivial⟩ rfl rfl), ⟨rfl, ⟨1, rfl, rfl, ty27⟩, rfl, trivial⟩, by decide, by cases H; rfl, by cases H; exact ⟨rfl, trivial⟩, Nat.le_of_ble_eq_true rfl⟩
  · replace H := ite_f hc H
    refine aw_skip ?_
    refine nx_seq ?_
    obtain ⟨v6, h7, H⟩ := bnd H
    obtain ⟨h8, H⟩ := ib_of H
    refine aw_draw (es := [_, _, _, _, _, _, _, _, _, _, _, _]) (mixed) ⟨Step.plain rfl (does_move (.tmp 11) (.own 2) trivial), ⟨⟨rfl, trivial⟩, trivial, rfl⟩, rfl,
      Step.plain rfl (does_move (.tmp 12) (.int .i64 v3.1) trivial), ⟨⟨rfl, trivial⟩, trivial, rfl⟩, rfl,
      Step.plain rfl (does_move (.tmp 12) (.int .i64 v3.1) trivial), ⟨⟨rfl, trivial⟩, trivial, rfl⟩, rfl,
      Step.plain rfl (does_bin .add 3 3 (.tmp 30) (.const (.int .i64 1)) .i64 v3.1 1 (.int .i64 (IntKind.i64.wrap (v3.1 + 1))) trivial (fun _ => rfl) (bin_add _ _ _ _)), ⟨⟨rfl, trivial⟩, trivial, rfl⟩, rfl,
      Step.plain rfl (does_callO 21 0 (fun _ => .any) (.func 21) [(.tmp 28), (.tmp 29), (.tmp 31)] [(.own 2), (.int .i64 v3.1), (.int .i64 (IntKind.i64.wrap (v3.1 + 1)))] [] [(2, (.arr 4 v1.length fun j => (e_api_Letter (v1.getD j z_api_Letter))))] true [(.own 0), (.int .i64 v3.1), (.int .i64 (IntKind.i64.wrap (v3.1 + 1)))] _ (.own 3) _ 3 1 _ _ rfl fo21 rfl ⟨trivial, trivial, trivial, trivial⟩ ⟨(.mv 0 _ rfl), .ro _ _ (.data _ trivial), .ro _ _ (.data _ trivial), trivial⟩ (slices_Delete_api_Letter_api_Letter_spec v1 v3.1 (IntKind.i64.wrap (v3.1 + 1)) _ h7) rfl (by simp) rfl ⟨(fun _ => (f_api_Letter _)), trivial⟩ ⟨⟨Nat.le_of_ble_eq_true rfl, _, rfl, fun _ => (f_api_Letter _)⟩, trivial⟩ (.own 0 (Nat.le_of_ble_eq_true rfl))), ⟨⟨rfl, rfl, rfl, trivial⟩, ⟨rfl, trivial⟩, rfl⟩, rfl,
      Step.plain rfl (does_move (.tmp 0) (e_s_api_Letter p0) trivial), ⟨⟨rfl, trivial⟩, trivial, rfl⟩, rfl,
      Step.plain rfl (does_move (.tmp 12) (.int .i64 v3.1) trivial), ⟨⟨rfl, trivial⟩, trivial, rfl⟩, rfl,
      Step.plain rfl (does_indexAddrs 22 4 p0.length 33 (fun j => (e_api_Letter (p0.getD j z_api_Letter))) (.tmp 34) .i64 v3.1 el22 trivial h8.1 h8.2), ⟨⟨rfl, rfl, trivial⟩, trivial, rfl⟩, rfl,
      Step.plain rfl (does_loadc 27 35 (e_api_Letter (p0.getD v3.1.toNat z_api_Letter)) ty27), ⟨⟨rfl, trivial⟩, trivial, rfl⟩, rfl,
      Step.plain rfl (does_assign (.tmp 32) (.own 3) trivial), ⟨⟨rfl, trivial⟩, trivial, rfl⟩, rfl,
      Step.plain rfl (does_store 27 9 (.tmp 36) 1 0 [] (.var (e_api_Letter z_api_Letter)) (.var (e_api_Letter (p0.getD v3.1.toNat z_api_Letter))) (e_api_Letter (p0.getD v3.1.toNat z_api_Letter)) true trivial rfl trivial rfl rfl rfl ty27), ⟨⟨rfl, rfl, trivial⟩, ⟨rfl, trivial⟩, rfl⟩, rfl,
      Step.plain rfl (does_assign (.const (.bool true)) (.bool true) (fun _ => rfl)), ⟨trivial, trivial, rfl⟩, rfl, rfl⟩ rfl ?_
    refine aw_cov (cov_prune (s1 := ⟨[(9, (.ptr 1 0 [])), (8, (.own 3)), (10, (.bool true))], [(1, some (.var (e_api_Letter (p0.getD v3.1.toNat z_api_Letter)))), (3, some (.arr 4 v6.length fun j => (e_api_Letter (v6.getD j z_api_Letter))))], 4⟩) ⟨rfl, rfl, rfl, trivial⟩ ⟨rfl, rfl, trivial⟩ (Nat.le_refl _)) ?_
    refine aw_ret ?_
    exact fun a w hr => ⟨_, [(.own 0), (e_api_Letter (p0.getD v3.1.toNat z_api_Letter)), (.bool true)], reach_of hr (cov_to (s1 := ⟨[(8, (.own 0)), (9, (.ptr 1 0 [])), (10, (.bool true))], [(0, some (.arr 4 v6.length fun j => (e_api_Letter (v6.getD j z_api_Letter)))), (1, some (.var (e_api_Letter (p0.getD v3.1.toNat z_api_Letter))))], 2⟩) (fun i => match i with | 0 => 3 | 1 => 1 | k => k) [] ⟨⟨_, rfl, .own 0 _ _ (Nat.le_of_ble_eq_true rfl) rfl rfl (Box.like_refl _)⟩, ⟨_, rfl, .ptr 1 _ _ _ _ (Nat.le_of_ble_eq_true rfl) rfl rfl⟩, ⟨_, rfl, .plain _ (trivial)⟩, trivial⟩ ⟨⟨Nat.le_of_ble_eq_true rfl, _, _, rfl, rfl, boxTo_arr (fun _ => (d_api_Letter _))⟩, ⟨Nat.le_of_ble_eq_true rfl, _, _, rfl, rfl, boxTo_var ((d_api_Letter _).plain)⟩, trivial⟩ rfl rfl), ⟨rfl, ⟨1, rfl, rfl, ty27⟩, rfl, trivial⟩, by decide, by cases H; rfl, by cases H; exact ⟨rfl, trivial⟩, Nat.le_of_ble_eq_true rfl⟩

theorem lossy_Take_data (p0 : (_root_.List api_Letter)) (p1 : Int) (p2 : Int) (p3 : Int) (r : (_root_.List api_Letter) × api_Letter × Bool) (H : lossy_Take p0 p1 p2 p3 = some r) : FSpec Try.prog 8 [(e_s_api_Letter p0), (.int .i64 p1), (.int .i64 p2), (.int .i64 p3)] (resV [(e_s_api_Letter r.1), (e_api_Letter r.2.1), (.bool r.2.2)]) :=
  FSpecO.toData (fz := [0]) (lossy_Take_spec p0 p1 p2 p3 r H) (res_data3 (d_s_api_Letter r.1) (d_api_Letter r.2.1) trivial) (.tup _ _ _ (fun j => match j with | 0 => .frz 0 _ _ _ rfl (fun _ => (d_api_Letter _)) (by decide) | 1 => .plain _ ((d_api_Letter r.2.1).plain) | 2 => .plain _ (trivial) | _ + 3 => .plain _ trivial))

theorem congressref14_Many_spec (p0 : (_root_.List api_Letter)) (p1 : Int) (p2 : Int) (r : Int) (H : congressref14_Many p0 p1 p2 = some r) : FSpec Try.prog 19 [(e_s_api_Letter p0), (.int .i64 p1), (.int .i64 p2)] (.int .i64 r) := by
  refine spec_of (fn := Try.f19) (args := [(e_s_api_Letter p0), (.int .i64 p1), (.int .i64 p2)]) Try.func19 rfl (Nat.le_of_ble_eq_true rfl) ?_
  rintro ⟨G, w0, W, S, Sp⟩ hG
  cases hG
  unfold congressref14_Many at H
  refine aw_region (es := [_]) ⟨Step.plain rfl (does_assign (.const (.int .i64 0)) (.int .i64 0) (fun _ => rfl)), ⟨trivial, trivial, rfl⟩, rfl, rfl⟩ ?_
  refine aw_cov (cov_prune (s1 := ⟨[(0, (e_s_api_Letter p0)), (1, (.int .i64 p1)), (2, (.int .i64 p2))], [], 0⟩) ⟨rfl, rfl, rfl, trivial⟩ trivial (Nat.le_refl _)) ?_
  refine aw_region (es := [_]) ⟨Step.plain rfl (does_assign (.const (.int .i64 0)) (.int .i64 0) (fun _ => rfl)), ⟨trivial, trivial, rfl⟩, rfl, rfl⟩ ?_
  refine aw_cov (cov_prune (s1 := ⟨[(0, (e_s_api_Letter p0)), (1, (.int .i64 p1)), (2, (.int .i64 p2)), (7, (.int .i64 0))], [], 0⟩) ⟨rfl, rfl, rfl, rfl, trivial⟩ trivial (Nat.le_refl _)) ?_
  refine aw_seq ?_
  refine aw_region (es := [_]) ⟨Step.plain rfl (does_assign (.const (.int .i64 0)) (.int .i64 0) (fun _ => rfl)), ⟨trivial, trivial, rfl⟩, rfl, rfl⟩ ?_
  refine aw_cov (cov_prune (s1 := ⟨[(0, (e_s_api_Letter p0)), (1, (.int .i64 p1)), (2, (.int .i64 p2)), (7, (.int .i64 0)), (8, (.int .i64 0))], [], 0⟩) ⟨rfl, rfl, rfl, rfl, rfl, trivial⟩ trivial (Nat.le_refl _)) ?_
  obtain ⟨wn2, hwn2, Hrn2⟩ := bnd H
  refine aw_meet (fun y8 : Int => (⟨[(7, (.int .i64 y8))], [], 0⟩ : St)) (fun y8 => Fl.nx y8 = wn2) (fun y8 hy => ?_) (aw_block (aw_runs (fun x1 : Int × Int => (⟨[(0, (e_s_api_Letter p0)), (1, (.int .i64 p1)), (2, (.int .i64 p2)), (7, (.int .i64 x1.1)), (8, (.int .i64 x1.2))], [], 0⟩ : St)) hwn2 (cov_prune ⟨rfl, rfl, rfl, rfl, rfl, trivial⟩ trivial (Nat.le_of_ble_eq_true rfl)) (fun x1 st H hsn2 => ?_)))
  · have H := nx_of hy Hrn2
    refine nx_seq ?_
    refine aw_region (es := [_, _]) ⟨Step.plain rfl (does_move (.tmp 7) (.int .i64 y8) trivial), ⟨⟨rfl, trivial⟩, trivial, rfl⟩, rfl,
      Step.plain rfl (does_assign (.tmp 33) (.int .i64 y8) trivial), ⟨⟨rfl, trivial⟩, trivial, rfl⟩, rfl, rfl⟩ ?_
    refine aw_cov (cov_prune (s1 := ⟨[(6, (.int .i64 y8))], [], 0⟩) ⟨rfl, trivial⟩ trivial (Nat.le_refl _)) ?_
    refine aw_ret ?_
    exact fun a w hr => ⟨_, [(.int .i64 y8)], hr, ⟨⟨_, rfl, .data (.int .i64 y8) trivial⟩, trivial⟩, by decide, by cases H; rfl⟩
  · refine aw_seq ?_
    refine aw_region (es := [_, _, _, _]) ⟨Step.plain rfl (does_move (.tmp 8) (.int .i64 x1.2) trivial), ⟨⟨rfl, trivial⟩, trivial, rfl⟩, rfl,
      Step.plain rfl (does_move (.tmp 0) (e_s_api_Letter p0) trivial), ⟨⟨rfl, trivial⟩, trivial, rfl⟩, rfl,
      Step.plain rfl (does_lens 22 4 p0.length 10 (fun j => (e_api_Letter (p0.getD j z_api_Letter))) el22), ⟨⟨rfl, trivial⟩, trivial, rfl⟩, rfl,
      Step.plain rfl (does_bin .lss 3 3 (.tmp 9) (.tmp 11) .i64 x1.2 (p0.length : Int) (.bool (decide (x1.2 < (p0.length : Int)))) trivial trivial (bin_lss _ _ _ _)), ⟨⟨rfl, rfl, trivial⟩, trivial, rfl⟩, rfl, rfl⟩ ?_
    refine aw_cov (cov_prune (s1 := ⟨[(0, (e_s_api_Letter p0)), (1, (.int .i64 p1)), (2, (.int .i64 p2)), (7, (.int .i64 x1.1)), (8, (.int .i64 x1.2)), (12, (.bool (decide (x1.2 < (p0.length : Int)))))], [], 0⟩) ⟨rfl, rfl, rfl, rfl, rfl, rfl, trivial⟩ trivial (Nat.le_refl _)) ?_
    refine aw_cond rfl (fun hc => ?_) (fun hc => ?_)
    · replace H := ite_t hc H
      refine aw_skip ?_
      refine nx_seq ?_
      refine aw_seq ?_
      refine aw_jn (fun x7 : Int => (⟨[(0, (e_s_api_Letter p0)), (1, (.int .i64 p1)), (2, (.int .i64 p2)), (7, (.int .i64 x7)), (8, (.int .i64 x1.2))], [], 0⟩ : St)) H (fun x7 H => ?_) (fun j3 H => ?_)
      · refine nx_seq ?_
        refine aw_region1 (es := [_, _, _]) ⟨Step.plain rfl (does_move (.tmp 8) (.int .i64 x1.2) trivial), ⟨⟨rfl, trivial⟩, trivial, rfl⟩, rfl,
          Step.plain rfl (does_bin .add 3 3 (.tmp 13) (.const (.int .i64 1)) .i64 x1.2 1 (.int .i64 (IntKind.i64.wrap (x1.2 + 1))) trivial (fun _ => rfl) (bin_add _ _ _ _)), ⟨⟨rfl, trivial⟩, trivial, rfl⟩, rfl,
          Step.plain rfl (does_assign (.tmp 14) (.int .i64 (IntKind.i64.wrap (x1.2 + 1))) trivial), ⟨⟨rfl, trivial⟩, trivial, rfl⟩, rfl, rfl⟩ ?_
        exact nx_loop (x7, (IntKind.i64.wrap (x1.2 + 1))) H (cov_prune ⟨rfl, rfl, rfl, rfl, rfl, trivial⟩ trivial (Nat.le_of_ble_eq_true rfl))
      · refine aw_block ?_
        obtain ⟨h4, H⟩ := ib_of H
        obtain ⟨h5, H⟩ := ibg_of H
        refine aw_region (es := [_, _, _, _, _, _, _, _, _, _, _, _, _, _, _, _]) ⟨Step.plain rfl (does_move (.tmp 0) (e_s_api_Letter p0) trivial), ⟨⟨rfl, trivial⟩, trivial, rfl⟩, rfl,
          Step.plain rfl (does_move (.tmp 8) (.int .i64 x1.2) trivial), ⟨⟨rfl, trivial⟩, trivial, rfl⟩, rfl,
          Step.plain rfl (does_indexAddrs 22 4 p0.length 15 (fun j => (e_api_Letter (p0.getD j z_api_Letter))) (.tmp 16) .i64 x1.2 el22 trivial h4.1 h4.2), ⟨⟨rfl, rfl, trivial⟩, trivial, rfl⟩, rfl,
          Step.plain rfl (does_fieldAddrc 27 0 0 17 (e_api_Letter (p0.getD x1.2.toNat z_api_Letter)) fl27_0 rfl (Nat.le_of_ble_eq_true rfl) rfl), ⟨⟨rfl, trivial⟩, trivial, rfl⟩, rfl,
          Step.plain rfl (does_loadc 3 18 (.int .i64 ((p0.getD x1.2.toNat z_api_Letter).From)) ty3), ⟨⟨rfl, trivial⟩, trivial, rfl⟩, rfl,
          Step.plain rfl (does_move (.tmp 1) (.int .i64 p1) trivial), ⟨⟨rfl, trivial⟩, trivial, rfl⟩, rfl,
          Step.plain rfl (does_bin .eql 3 3 (.tmp 19) (.tmp 20) .i64 ((p0.getD x1.2.toNat z_api_Letter).From) p1 (.bool (((p0.getD x1.2.toNat z_api_Letter).From) == p1)) trivial trivial (bin_eql _ _ _ _)), ⟨⟨rfl, rfl, trivial⟩, trivial, rfl⟩, rfl,
          Step.plain rfl (does_move (.tmp 21) (.bool (((p0.getD x1.2.toNat z_api_Letter).From) == p1)) trivial), ⟨⟨rfl, trivial⟩, trivial, rfl⟩, rfl,
          Step.guarded rfl rfl rfl rfl (fun hc => does_move (.tmp 0) (e_s_api_Letter p0) trivial), ⟨⟨rfl, rfl, trivial⟩, trivial, rfl⟩, rfl,
          Step.guarded rfl rfl rfl rfl (fun hc => does_move (.tmp 8) (.int .i64 x1.2) trivial), ⟨⟨rfl, rfl, trivial⟩, trivial, rfl⟩, rfl,
          Step.guarded rfl rfl rfl rfl (fun hc => Does.strip (n' := [(23, (.opt (((p0.getD x1.2.toNat z_api_Letter).From) == p1) (e_s_api_Letter p0))), (24, (.opt (((p0.getD x1.2.toNat z_api_Letter).From) == p1) (.int .i64 x1.2)))]) (n := [(23, (e_s_api_Letter p0)), (24, (.int .i64 x1.2))]) ⟨(.opt _ _ hc), (.opt _ _ hc), trivial⟩ (does_indexAddrs 22 4 p0.length 23 (fun j => (e_api_Letter (p0.getD j z_api_Letter))) (.tmp 24) .i64 x1.2 el22 trivial (h5 hc).1 (h5 hc).2)), ⟨⟨rfl, rfl, rfl, trivial⟩, trivial, rfl⟩, rfl,
          Step.guarded rfl rfl rfl rfl (fun hc => Does.strip (n' := [(25, (.opt (((p0.getD x1.2.toNat z_api_Letter).From) == p1) (.cptr (e_api_Letter (p0.getD x1.2.toNat z_api_Letter)))))]) (n := [(25, (.cptr (e_api_Letter (p0.getD x1.2.toNat z_api_Letter))))]) ⟨(.opt _ _ hc), trivial⟩ (does_fieldAddrc 27 1 1 25 (e_api_Letter (p0.getD x1.2.toNat z_api_Letter)) fl27_1 rfl (Nat.le_of_ble_eq_true rfl) rfl)), ⟨⟨rfl, rfl, trivial⟩, trivial, rfl⟩, rfl,
          Step.guarded rfl rfl rfl rfl (fun hc => Does.strip (n' := [(26, (.opt (((p0.getD x1.2.toNat z_api_Letter).From) == p1) (.cptr (.int .i64 ((p0.getD x1.2.toNat z_api_Letter).To)))))]) (n := [(26, (.cptr (.int .i64 ((p0.getD x1.2.toNat z_api_Letter).To))))]) ⟨(.opt _ _ hc), trivial⟩ (does_loadc 3 26 (.int .i64 ((p0.getD x1.2.toNat z_api_Letter).To)) ty3)), ⟨⟨rfl, rfl, trivial⟩, trivial, rfl⟩, rfl,
          Step.guarded rfl rfl rfl rfl (fun hc => does_move (.tmp 2) (.int .i64 p2) trivial), ⟨⟨rfl, rfl, trivial⟩, trivial, rfl⟩, rfl,
          Step.guarded rfl rfl rfl rfl (fun hc => Does.strip (n' := [(27, (.opt (((p0.getD x1.2.toNat z_api_Letter).From) == p1) (.int .i64 ((p0.getD x1.2.toNat z_api_Letter).To)))), (28, (.opt (((p0.getD x1.2.toNat z_api_Letter).From) == p1) (.int .i64 p2)))]) (n := [(27, (.int .i64 ((p0.getD x1.2.toNat z_api_Letter).To))), (28, (.int .i64 p2))]) ⟨(.opt _ _ hc), (.opt _ _ hc), trivial⟩ (does_bin .eql 3 3 (.tmp 27) (.tmp 28) .i64 ((p0.getD x1.2.toNat z_api_Letter).To) p2 (.bool (((p0.getD x1.2.toNat z_api_Letter).To) == p2)) trivial trivial (bin_eql _ _ _ _))), ⟨⟨rfl, rfl, rfl, trivial⟩, trivial, rfl⟩, rfl,
          Step.plain rfl (does_and 22 29 (((p0.getD x1.2.toNat z_api_Letter).From) == p1) (((p0.getD x1.2.toNat z_api_Letter).To) == p2)), ⟨⟨rfl, rfl, trivial⟩, trivial, rfl⟩, rfl, rfl⟩ ?_
        obtain ⟨v6, hv6, H⟩ := lt_of H
        refine aw_cov (cov_prune (s1 := ⟨[(0, (e_s_api_Letter p0)), (1, (.int .i64 p1)), (2, (.int .i64 p2)), (7, (.int .i64 x1.1)), (8, (.int .i64 x1.2)), (30, (.bool v6))], [], 0⟩) ⟨rfl, rfl, rfl, rfl, rfl, (by subst hv6; rfl), trivial⟩ trivial (Nat.le_refl _)) ?_
        refine aw_cond rfl (fun hc => ?_) (fun hc => ?_)
        · replace H := ite_t hc H
          refine aw_region1 (es := [_, _, _]) ⟨Step.plain rfl (does_move (.tmp 7) (.int .i64 x1.1) trivial), ⟨⟨rfl, trivial⟩, trivial, rfl⟩, rfl,
            Step.plain rfl (does_bin .add 3 3 (.tmp 31) (.const (.int .i64 1)) .i64 x1.1 1 (.int .i64 (IntKind.i64.wrap (x1.1 + 1))) trivial (fun _ => rfl) (bin_add _ _ _ _)), ⟨⟨rfl, trivial⟩, trivial, rfl⟩, rfl,
            Step.plain rfl (does_assign (.tmp 32) (.int .i64 (IntKind.i64.wrap (x1.1 + 1))) trivial), ⟨⟨rfl, trivial⟩, trivial, rfl⟩, rfl, rfl⟩ ?_
          refine nx_blk ?_
          exact nx_join ((IntKind.i64.wrap (x1.1 + 1))) H (cov_prune ⟨rfl, rfl, rfl, rfl, rfl, trivial⟩ trivial (Nat.le_of_ble_eq_true rfl))
        · replace H := ite_f hc H
          refine aw_skip ?_
          refine nx_blk ?_
          exact nx_join (x1.1) H (cov_prune ⟨rfl, rfl, rfl, rfl, rfl, trivial⟩ trivial (Nat.le_of_ble_eq_true rfl))
    · replace H := ite_f hc H
      refine aw_exit ?_
      refine ex_then ?_
      refine ex_then ?_
      refine ex_here ?_
      exact nx_ljoin (x1.1) H hsn2 (cov_prune ⟨rfl, trivial⟩ trivial (Nat.le_of_ble_eq_true rfl))

theorem congressref14_Find_spec (p0 : (_root_.List api_Letter)) (p1 : Int) (p2 : Int) (p3 : Int) (r : Int × Bool) (H : congressref14_Find p0 p1 p2 p3 = some r) : FSpec Try.prog 11 [(e_s_api_Letter p0), (.int .i64 p1), (.int .i64 p2), (.int .i64 p3)] (resV [(.int .i64 r.1), (.bool r.2)]) := by
  refine spec_of (fn := Try.f11) (args := [(e_s_api_Letter p0), (.int .i64 p1), (.int .i64 p2), (.int .i64 p3)]) Try.func11 rfl (Nat.le_of_ble_eq_true rfl) ?_
  rintro ⟨G, w0, W, S, Sp⟩ hG
  cases hG
  unfold congressref14_Find at H
  refine aw_region (es := [_, _]) ⟨Step.plain rfl (does_assign (.const (.int .i64 0)) (.int .i64 0) (fun _ => rfl)), ⟨trivial, trivial, rfl⟩, rfl,
    Step.plain rfl (does_assign (.const (.bool false)) (.bool false) (fun _ => rfl)), ⟨trivial, trivial, rfl⟩, rfl, rfl⟩ ?_
  refine aw_cov (cov_prune (s1 := ⟨[(0, (e_s_api_Letter p0)), (1, (.int .i64 p1)), (2, (.int .i64 p2)), (3, (.int .i64 p3))], [], 0⟩) ⟨rfl, rfl, rfl, rfl, trivial⟩ trivial (Nat.le_refl _)) ?_
  obtain ⟨v1, h2, H⟩ := bnd H
  refine aw_region (es := [_, _, _, _, _]) ⟨Step.plain rfl (does_move (.tmp 0) (e_s_api_Letter p0) trivial), ⟨⟨rfl, trivial⟩, trivial, rfl⟩, rfl,
    Step.plain rfl (does_move (.tmp 1) (.int .i64 p1) trivial), ⟨⟨rfl, trivial⟩, trivial, rfl⟩, rfl,
    Step.plain rfl (does_move (.tmp 2) (.int .i64 p2) trivial), ⟨⟨rfl, trivial⟩, trivial, rfl⟩, rfl,
    Step.plain rfl (does_call 19 0 (fun _ => .any) (.func 19) [(.tmp 13), (.tmp 14), (.tmp 15)] [(e_s_api_Letter p0), (.int .i64 p1), (.int .i64 p2)] [] true [(e_s_api_Letter p0), (.int .i64 p1), (.int .i64 p2)] (.int .i64 v1) _ _ rfl fo19 rfl ⟨trivial, trivial, trivial, trivial⟩ ⟨.data _ (d_s_api_Letter p0), .data _ trivial, .data _ trivial, trivial⟩ (congressref14_Many_spec p0 p1 p2 _ h2) trivial), ⟨⟨rfl, rfl, rfl, trivial⟩, trivial, rfl⟩, rfl,
    Step.plain rfl (does_assign (.tmp 16) (.int .i64 v1) trivial), ⟨⟨rfl, trivial⟩, trivial, rfl⟩, rfl, rfl⟩ ?_
  refine aw_cov (cov_prune (s1 := ⟨[(0, (e_s_api_Letter p0)), (1, (.int .i64 p1)), (2, (.int .i64 p2)), (3, (.int .i64 p3)), (10, (.int .i64 v1))], [], 0⟩) ⟨rfl, rfl, rfl, rfl, rfl, trivial⟩ trivial (Nat.le_refl _)) ?_
  refine aw_seq ?_
  refine aw_region (es := [_, _]) ⟨Step.plain rfl (does_move (.tmp 10) (.int .i64 v1) trivial), ⟨⟨rfl, trivial⟩, trivial, rfl⟩, rfl,
    Step.plain rfl (does_bin .eql 3 3 (.tmp 17) (.const (.int .i64 0)) .i64 v1 0 (.bool (v1 == 0)) trivial (fun _ => rfl) (bin_eql _ _ _ _)), ⟨⟨rfl, trivial⟩, trivial, rfl⟩, rfl, rfl⟩ ?_
  refine aw_cov (cov_prune (s1 := ⟨[(0, (e_s_api_Letter p0)), (1, (.int .i64 p1)), (2, (.int .i64 p2)), (3, (.int .i64 p3)), (10, (.int .i64 v1)), (18, (.bool (v1 == 0)))], [], 0⟩) ⟨rfl, rfl, rfl, rfl, rfl, rfl, trivial⟩ trivial (Nat.le_refl _)) ?_
  refine aw_cond rfl (fun hc => ?_) (fun hc => ?_)
  · replace H := ite_t hc H
    refine aw_region (es := [_, _]) ⟨Step.plain rfl (does_assign (.const (.int .i64 0)) (.int .i64 0) (fun _ => rfl)), ⟨trivial, trivial, rfl⟩, rfl,
      Step.plain rfl (does_assign (.const (.bool false)) (.bool false) (fun _ => rfl)), ⟨trivial, trivial, rfl⟩, rfl, rfl⟩ ?_
    refine aw_cov (cov_prune (s1 := ⟨[(8, (.int .i64 0)), (9, (.bool false))], [], 0⟩) ⟨rfl, rfl, trivial⟩ trivial (Nat.le_refl _)) ?_
    refine aw_ret ?_
    refine rt_then ?_
    exact fun a w hr => ⟨_, [(.int .i64 0), (.bool false)], hr, ⟨⟨_, rfl, .data (.int .i64 0) trivial⟩, ⟨_, rfl, .data (.bool false) trivial⟩, trivial⟩, by decide, by cases H; rfl⟩
  · replace H := ite_f hc H
    refine aw_skip ?_
    refine nx_seq ?_
    obtain ⟨h3, H⟩ := nz_of H
    obtain ⟨h4, H⟩ := nz_of H
    refine aw_region (es := [_, _, _, _, _, _, _, _]) ⟨Step.plain rfl (does_move (.tmp 3) (.int .i64 p3) trivial), ⟨⟨rfl, trivial⟩, trivial, rfl⟩, rfl,
      Step.plain rfl (does_move (.tmp 10) (.int .i64 v1) trivial), ⟨⟨rfl, trivial⟩, trivial, rfl⟩, rfl,
      Step.plain rfl (does_bin .rem 3 3 (.tmp 19) (.tmp 20) .i64 p3 v1 (.int .i64 (p3.tmod v1)) trivial trivial (bin_rem _ _ _ _ h3)), ⟨⟨rfl, rfl, trivial⟩, trivial, rfl⟩, rfl,
      Step.plain rfl (does_move (.tmp 10) (.int .i64 v1) trivial), ⟨⟨rfl, trivial⟩, trivial, rfl⟩, rfl,
      Step.plain rfl (does_bin .add 3 3 (.tmp 21) (.tmp 22) .i64 (p3.tmod v1) v1 (.int .i64 (IntKind.i64.wrap ((p3.tmod v1) + v1))) trivial trivial (bin_add _ _ _ _)), ⟨⟨rfl, rfl, trivial⟩, trivial, rfl⟩, rfl,
      Step.plain rfl (does_move (.tmp 10) (.int .i64 v1) trivial), ⟨⟨rfl, trivial⟩, trivial, rfl⟩, rfl,
      Step.plain rfl (does_bin .rem 3 3 (.tmp 23) (.tmp 24) .i64 (IntKind.i64.wrap ((p3.tmod v1) + v1)) v1 (.int .i64 ((IntKind.i64.wrap ((p3.tmod v1) + v1)).tmod v1)) trivial trivial (bin_rem _ _ _ _ h4)), ⟨⟨rfl, rfl, trivial⟩, trivial, rfl⟩, rfl,
      Step.plain rfl (does_assign (.tmp 25) (.int .i64 ((IntKind.i64.wrap ((p3.tmod v1) + v1)).tmod v1)) trivial), ⟨⟨rfl, trivial⟩, trivial, rfl⟩, rfl, rfl⟩ ?_
    refine aw_cov (cov_prune (s1 := ⟨[(0, (e_s_api_Letter p0)), (1, (.int .i64 p1)), (2, (.int .i64 p2)), (11, (.int .i64 ((IntKind.i64.wrap ((p3.tmod v1) + v1)).tmod v1)))], [], 0⟩) ⟨rfl, rfl, rfl, rfl, trivial⟩ trivial (Nat.le_refl _)) ?_
    refine aw_seq ?_
    refine aw_region (es := [_]) ⟨Step.plain rfl (does_assign (.const (.int .i64 0)) (.int .i64 0) (fun _ => rfl)), ⟨trivial, trivial, rfl⟩, rfl, rfl⟩ ?_
    refine aw_cov (cov_prune (s1 := ⟨[(0, (e_s_api_Letter p0)), (1, (.int .i64 p1)), (2, (.int .i64 p2)), (11, (.int .i64 ((IntKind.i64.wrap ((p3.tmod v1) + v1)).tmod v1))), (12, (.int .i64 0))], [], 0⟩) ⟨rfl, rfl, rfl, rfl, rfl, trivial⟩ trivial (Nat.le_refl _)) ?_
    obtain ⟨wn6, hwn6, Hrn6⟩ := bnd H
    refine aw_meet (fun y12 : Unit => (⟨[], [], 0⟩ : St)) (fun y12 => Fl.nx y12 = wn6) (fun y12 hy => ?_) (aw_block (aw_runs (fun x5 : Int × Int => (⟨[(0, (e_s_api_Letter p0)), (1, (.int .i64 p1)), (2, (.int .i64 p2)), (11, (.int .i64 x5.1)), (12, (.int .i64 x5.2))], [], 0⟩ : St)) hwn6 (cov_prune ⟨rfl, rfl, rfl, rfl, rfl, trivial⟩ trivial (Nat.le_of_ble_eq_true rfl)) (fun x5 st H hsn6 => ?_)))
    · have H := nx_of hy Hrn6
      refine nx_seq ?_
      refine aw_region (es := [_, _]) ⟨Step.plain rfl (does_assign (.const (.int .i64 0)) (.int .i64 0) (fun _ => rfl)), ⟨trivial, trivial, rfl⟩, rfl,
        Step.plain rfl (does_assign (.const (.bool false)) (.bool false) (fun _ => rfl)), ⟨trivial, trivial, rfl⟩, rfl, rfl⟩ ?_
      refine aw_cov (cov_prune (s1 := ⟨[(8, (.int .i64 0)), (9, (.bool false))], [], 0⟩) ⟨rfl, rfl, trivial⟩ trivial (Nat.le_refl _)) ?_
      refine aw_ret ?_
      exact fun a w hr => ⟨_, [(.int .i64 0), (.bool false)], hr, ⟨⟨_, rfl, .data (.int .i64 0) trivial⟩, ⟨_, rfl, .data (.bool false) trivial⟩, trivial⟩, by decide, by cases H; rfl⟩
    · refine aw_seq ?_
      refine aw_region (es := [_, _, _, _]) ⟨Step.plain rfl (does_move (.tmp 12) (.int .i64 x5.2) trivial), ⟨⟨rfl, trivial⟩, trivial, rfl⟩, rfl,
        Step.plain rfl (does_move (.tmp 0) (e_s_api_Letter p0) trivial), ⟨⟨rfl, trivial⟩, trivial, rfl⟩, rfl,
        Step.plain rfl (does_lens 22 4 p0.length 27 (fun j => (e_api_Letter (p0.getD j z_api_Letter))) el22), ⟨⟨rfl, trivial⟩, trivial, rfl⟩, rfl,
        Step.plain rfl (does_bin .lss 3 3 (.tmp 26) (.tmp 28) .i64 x5.2 (p0.length : Int) (.bool (decide (x5.2 < (p0.length : Int)))) trivial trivial (bin_lss _ _ _ _)), ⟨⟨rfl, rfl, trivial⟩, trivial, rfl⟩, rfl, rfl⟩ ?_
      refine aw_cov (cov_prune (s1 := ⟨[(0, (e_s_api_Letter p0)), (1, (.int .i64 p1)), (2, (.int .i64 p2)), (11, (.int .i64 x5.1)), (12, (.int .i64 x5.2)), (29, (.bool (decide (x5.2 < (p0.length : Int)))))], [], 0⟩) ⟨rfl, rfl, rfl, rfl, rfl, rfl, trivial⟩ trivial (Nat.le_refl _)) ?_
      refine aw_cond rfl (fun hc => ?_) (fun hc => ?_)
      · replace H := ite_t hc H
        refine aw_skip ?_
        refine nx_seq ?_
        refine aw_seq ?_
        refine aw_jn (fun x11 : Int => (⟨[(0, (e_s_api_Letter p0)), (1, (.int .i64 p1)), (2, (.int .i64 p2)), (11, (.int .i64 x11)), (12, (.int .i64 x5.2))], [], 0⟩ : St)) H (fun x11 H => ?_) (fun j7 H => ?_)
        · refine nx_seq ?_
          refine aw_region1 (es := [_, _, _]) ⟨Step.plain rfl (does_move (.tmp 12) (.int .i64 x5.2) trivial), ⟨⟨rfl, trivial⟩, trivial, rfl⟩, rfl,
            Step.plain rfl (does_bin .add 3 3 (.tmp 30) (.const (.int .i64 1)) .i64 x5.2 1 (.int .i64 (IntKind.i64.wrap (x5.2 + 1))) trivial (fun _ => rfl) (bin_add _ _ _ _)), ⟨⟨rfl, trivial⟩, trivial, rfl⟩, rfl,
            Step.plain rfl (does_assign (.tmp 31) (.int .i64 (IntKind.i64.wrap (x5.2 + 1))) trivial), ⟨⟨rfl, trivial⟩, trivial, rfl⟩, rfl, rfl⟩ ?_
          exact nx_loop (x11, (IntKind.i64.wrap (x5.2 + 1))) H (cov_prune ⟨rfl, rfl, rfl, rfl, rfl, trivial⟩ trivial (Nat.le_of_ble_eq_true rfl))
        · refine aw_block ?_
          refine aw_seq ?_
          obtain ⟨h8, H⟩ := ib_of H
          obtain ⟨h9, H⟩ := ibg_of H
          refine aw_region (es := [_, _, _, _, _, _, _, _, _, _, _, _, _, _, _, _]) ⟨Step.plain rfl (does_move (.tmp 0) (e_s_api_Letter p0) trivial), ⟨⟨rfl, trivial⟩, trivial, rfl⟩, rfl,
            Step.plain rfl (does_move (.tmp 12) (.int .i64 x5.2) trivial), ⟨⟨rfl, trivial⟩, trivial, rfl⟩, rfl,
            Step.plain rfl (does_indexAddrs 22 4 p0.length 32 (fun j => (e_api_Letter (p0.getD j z_api_Letter))) (.tmp 33) .i64 x5.2 el22 trivial h8.1 h8.2), ⟨⟨rfl, rfl, trivial⟩, trivial, rfl⟩, rfl,
            Step.plain rfl (does_fieldAddrc 27 0 0 34 (e_api_Letter (p0.getD x5.2.toNat z_api_Letter)) fl27_0 rfl (Nat.le_of_ble_eq_true rfl) rfl), ⟨⟨rfl, trivial⟩, trivial, rfl⟩, rfl,
            Step.plain rfl (does_loadc 3 35 (.int .i64 ((p0.getD x5.2.toNat z_api_Letter).From)) ty3), ⟨⟨rfl, trivial⟩, trivial, rfl⟩, rfl,
            Step.plain rfl (does_move (.tmp 1) (.int .i64 p1) trivial), ⟨⟨rfl, trivial⟩, trivial, rfl⟩, rfl,
            Step.plain rfl (does_bin .neq 3 3 (.tmp 36) (.tmp 37) .i64 ((p0.getD x5.2.toNat z_api_Letter).From) p1 (.bool (((p0.getD x5.2.toNat z_api_Letter).From) != p1)) trivial trivial (bin_neq _ _ _ _)), ⟨⟨rfl, rfl, trivial⟩, trivial, rfl⟩, rfl,
            Step.plain rfl (does_move (.tmp 38) (.bool (((p0.getD x5.2.toNat z_api_Letter).From) != p1)) trivial), ⟨⟨rfl, trivial⟩, trivial, rfl⟩, rfl,
            Step.guarded rfl rfl rfl rfl (fun hc => does_move (.tmp 0) (e_s_api_Letter p0) trivial), ⟨⟨rfl, rfl, trivial⟩, trivial, rfl⟩, rfl,
            Step.guarded rfl rfl rfl rfl (fun hc => does_move (.tmp 12) (.int .i64 x5.2) trivial), ⟨⟨rfl, rfl, trivial⟩, trivial, rfl⟩, rfl,
            Step.guarded rfl rfl rfl rfl (fun hc => Does.strip (n' := [(40, (.opt (!(((p0.getD x5.2.toNat z_api_Letter).From) != p1)) (e_s_api_Letter p0))), (41, (.opt (!(((p0.getD x5.2.toNat z_api_Letter).From) != p1)) (.int .i64 x5.2)))]) (n := [(40, (e_s_api_Letter p0)), (41, (.int .i64 x5.2))]) ⟨(.opt _ _ hc), (.opt _ _ hc), trivial⟩ (does_indexAddrs 22 4 p0.length 40 (fun j => (e_api_Letter (p0.getD j z_api_Letter))) (.tmp 41) .i64 x5.2 el22 trivial (h9 hc).1 (h9 hc).2)), ⟨⟨rfl, rfl, rfl, trivial⟩, trivial, rfl⟩, rfl,
            Step.guarded rfl rfl rfl rfl (fun hc => Does.strip (n' := [(42, (.opt (!(((p0.getD x5.2.toNat z_api_Letter).From) != p1)) (.cptr (e_api_Letter (p0.getD x5.2.toNat z_api_Letter)))))]) (n := [(42, (.cptr (e_api_Letter (p0.getD x5.2.toNat z_api_Letter))))]) ⟨(.opt _ _ hc), trivial⟩ (does_fieldAddrc 27 1 1 42 (e_api_Letter (p0.getD x5.2.toNat z_api_Letter)) fl27_1 rfl (Nat.le_of_ble_eq_true rfl) rfl)), ⟨⟨rfl, rfl, trivial⟩, trivial, rfl⟩, rfl,
            Step.guarded rfl rfl rfl rfl (fun hc => Does.strip (n' := [(43, (.opt (!(((p0.getD x5.2.toNat z_api_Letter).From) != p1)) (.cptr (.int .i64 ((p0.getD x5.2.toNat z_api_Letter).To)))))]) (n := [(43, (.cptr (.int .i64 ((p0.getD x5.2.toNat z_api_Letter).To))))]) ⟨(.opt _ _ hc), trivial⟩ (does_loadc 3 43 (.int .i64 ((p0.getD x5.2.toNat z_api_Letter).To)) ty3)), ⟨⟨rfl, rfl, trivial⟩, trivial, rfl⟩, rfl,
            Step.guarded rfl rfl rfl rfl (fun hc => does_move (.tmp 2) (.int .i64 p2) trivial), ⟨⟨rfl, rfl, trivial⟩, trivial, rfl⟩, rfl,
            Step.guarded rfl rfl rfl rfl (fun hc => Does.strip (n' := [(44, (.opt (!(((p0.getD x5.2.toNat z_api_Letter).From) != p1)) (.int .i64 ((p0.getD x5.2.toNat z_api_Letter).To)))), (45, (.opt (!(((p0.getD x5.2.toNat z_api_Letter).From) != p1)) (.int .i64 p2)))]) (n := [(44, (.int .i64 ((p0.getD x5.2.toNat z_api_Letter).To))), (45, (.int .i64 p2))]) ⟨(.opt _ _ hc), (.opt _ _ hc), trivial⟩ (does_bin .neq 3 3 (.tmp 44) (.tmp 45) .i64 ((p0.getD x5.2.toNat z_api_Letter).To) p2 (.bool (((p0.getD x5.2.toNat z_api_Letter).To) != p2)) trivial trivial (bin_neq _ _ _ _))), ⟨⟨rfl, rfl, rfl, trivial⟩, trivial, rfl⟩, rfl,
            Step.plain rfl (does_or 39 46 (((p0.getD x5.2.toNat z_api_Letter).From) != p1) (((p0.getD x5.2.toNat z_api_Letter).To) != p2)), ⟨⟨rfl, rfl, trivial⟩, trivial, rfl⟩, rfl, rfl⟩ ?_
          obtain ⟨v10, hv10, H⟩ := lt_of H
          refine aw_cov (cov_prune (s1 := ⟨[(0, (e_s_api_Letter p0)), (1, (.int .i64 p1)), (2, (.int .i64 p2)), (11, (.int .i64 x5.1)), (12, (.int .i64 x5.2)), (47, (.bool v10))], [], 0⟩) ⟨rfl, rfl, rfl, rfl, rfl, (by subst hv10; rfl), trivial⟩ trivial (Nat.le_refl _)) ?_
          refine aw_cond rfl (fun hc => ?_) (fun hc => ?_)
          · replace H := ite_t hc H
            refine aw_exit ?_
            refine ex_then ?_
            refine ex_here ?_
            exact nx_join (x5.1) H (cov_prune ⟨rfl, rfl, rfl, rfl, rfl, trivial⟩ trivial (Nat.le_of_ble_eq_true rfl))
          · replace H := ite_f hc H
            refine aw_skip ?_
            refine nx_seq ?_
            refine aw_seq ?_
            refine aw_region (es := [_, _]) ⟨Step.plain rfl (does_move (.tmp 11) (.int .i64 x5.1) trivial), ⟨⟨rfl, trivial⟩, trivial, rfl⟩, rfl,
              Step.plain rfl (does_bin .eql 3 3 (.tmp 48) (.const (.int .i64 0)) .i64 x5.1 0 (.bool (x5.1 == 0)) trivial (fun _ => rfl) (bin_eql _ _ _ _)), ⟨⟨rfl, trivial⟩, trivial, rfl⟩, rfl, rfl⟩ ?_
            refine aw_cov (cov_prune (s1 := ⟨[(0, (e_s_api_Letter p0)), (1, (.int .i64 p1)), (2, (.int .i64 p2)), (11, (.int .i64 x5.1)), (12, (.int .i64 x5.2)), (49, (.bool (x5.1 == 0)))], [], 0⟩) ⟨rfl, rfl, rfl, rfl, rfl, rfl, trivial⟩ trivial (Nat.le_refl _)) ?_
            refine aw_cond rfl (fun hc => ?_) (fun hc => ?_)
            · replace H := ite_t hc H
              refine aw_region (es := [_, _, _]) ⟨Step.plain rfl (does_move (.tmp 12) (.int .i64 x5.2) trivial), ⟨⟨rfl, trivial⟩, trivial, rfl⟩, rfl,
                Step.plain rfl (does_assign (.tmp 50) (.int .i64 x5.2) trivial), ⟨⟨rfl, trivial⟩, trivial, rfl⟩, rfl,
                Step.plain rfl (does_assign (.const (.bool true)) (.bool true) (fun _ => rfl)), ⟨trivial, trivial, rfl⟩, rfl, rfl⟩ ?_
              refine aw_cov (cov_prune (s1 := ⟨[(8, (.int .i64 x5.2)), (9, (.bool true))], [], 0⟩) ⟨rfl, rfl, trivial⟩ trivial (Nat.le_refl _)) ?_
              refine aw_ret ?_
              replace H := rt_of H hsn6 Hrn6
              refine rt_then ?_
              refine rt_blk ?_
              refine rt_then ?_
              refine rt_then ?_
              refine rt_then ?_
              refine rt_blk ?_
              refine rt_then ?_
              refine rt_then ?_
              exact fun a w hr => ⟨_, [(.int .i64 x5.2), (.bool true)], hr, ⟨⟨_, rfl, .data (.int .i64 x5.2) trivial⟩, ⟨_, rfl, .data (.bool true) trivial⟩, trivial⟩, by decide, by cases H; rfl⟩
            · replace H := ite_f hc H
              refine aw_skip ?_
              refine nx_seq ?_
              refine aw_region1 (es := [_, _, _]) ⟨Step.plain rfl (does_move (.tmp 11) (.int .i64 x5.1) trivial), ⟨⟨rfl, trivial⟩, trivial, rfl⟩, rfl,
                Step.plain rfl (does_bin .sub 3 3 (.tmp 51) (.const (.int .i64 1)) .i64 x5.1 1 (.int .i64 (IntKind.i64.wrap (x5.1 - 1))) trivial (fun _ => rfl) (bin_sub _ _ _ _)), ⟨⟨rfl, trivial⟩, trivial, rfl⟩, rfl,
                Step.plain rfl (does_assign (.tmp 52) (.int .i64 (IntKind.i64.wrap (x5.1 - 1))) trivial), ⟨⟨rfl, trivial⟩, trivial, rfl⟩, rfl, rfl⟩ ?_
              refine nx_blk ?_
              exact nx_join ((IntKind.i64.wrap (x5.1 - 1))) H (cov_prune ⟨rfl, rfl, rfl, rfl, rfl, trivial⟩ trivial (Nat.le_of_ble_eq_true rfl))
      · replace H := ite_f hc H
        refine aw_exit ?_
        refine ex_then ?_
        refine ex_then ?_
        refine ex_here ?_
        exact nx_ljoin () H hsn6 (cov_prune trivial trivial (Nat.le_of_ble_eq_true rfl))

theorem congressref14_Take_spec (p0 : (_root_.List api_Letter)) (p1 : Int) (p2 : Int) (p3 : Int) (r : (_root_.List api_Letter) × api_Letter × Bool) (H : congressref14_Take p0 p1 p2 p3 = some r) : FSpec Try.prog 9 [(e_s_api_Letter p0), (.int .i64 p1), (.int .i64 p2), (.int .i64 p3)] (resV [(e_s_api_Letter r.1), (e_api_Letter r.2.1), (.bool r.2.2)]) := by
  refine spec_of (fn := Try.f9) (args := [(e_s_api_Letter p0), (.int .i64 p1), (.int .i64 p2), (.int .i64 p3)]) Try.func9 rfl (Nat.le_of_ble_eq_true rfl) ?_
  rintro ⟨G, w0, W, S, Sp⟩ hG
  cases hG
  unfold congressref14_Take at H
  refine aw_region (es := [_, _, _]) ⟨Step.plain rfl (does_nil false 0 4 (fun j => (e_api_Letter (([] : _root_.List api_Letter).getD j z_api_Letter)))), ⟨trivial, trivial, rfl⟩, rfl,
    Step.plain rfl (does_alloc 27 1 (e_api_Letter z_api_Letter) zr27), ⟨trivial, trivial, rfl⟩, rfl,
    Step.plain rfl (does_assign (.const (.bool false)) (.bool false) (fun _ => rfl)), ⟨trivial, trivial, rfl⟩, rfl, rfl⟩ ?_
  refine aw_cov (cov_prune (s1 := ⟨[(0, (e_s_api_Letter p0)), (1, (.int .i64 p1)), (2, (.int .i64 p2)), (3, (.int .i64 p3)), (9, (.ptr 1 0 []))], [(1, some (.var (e_api_Letter z_api_Letter)))], 2⟩) ⟨rfl, rfl, rfl, rfl, rfl, trivial⟩ ⟨rfl, trivial⟩ (Nat.le_refl _)) ?_
  obtain ⟨v1, h2, H⟩ := bnd H
  refine aw_region (es := [_, _, _, _, _, _, _, _, _, _]) ⟨Step.plain rfl (does_move (.tmp 0) (e_s_api_Letter p0) trivial), ⟨⟨rfl, trivial⟩, trivial, rfl⟩, rfl,
    Step.plain rfl (does_move (.tmp 1) (.int .i64 p1) trivial), ⟨⟨rfl, trivial⟩, trivial, rfl⟩, rfl,
    Step.plain rfl (does_move (.tmp 2) (.int .i64 p2) trivial), ⟨⟨rfl, trivial⟩, trivial, rfl⟩, rfl,
    Step.plain rfl (does_move (.tmp 3) (.int .i64 p3) trivial), ⟨⟨rfl, trivial⟩, trivial, rfl⟩, rfl,
    Step.plain rfl (does_call 11 0 (fun _ => .any) (.func 11) [(.tmp 15), (.tmp 16), (.tmp 17), (.tmp 18)] [(e_s_api_Letter p0), (.int .i64 p1), (.int .i64 p2), (.int .i64 p3)] [] true [(e_s_api_Letter p0), (.int .i64 p1), (.int .i64 p2), (.int .i64 p3)] (resV [(.int .i64 v1.1), (.bool v1.2)]) _ _ rfl fo11 rfl ⟨trivial, trivial, trivial, trivial, trivial⟩ ⟨.data _ (d_s_api_Letter p0), .data _ trivial, .data _ trivial, .data _ trivial, trivial⟩ (congressref14_Find_spec p0 p1 p2 p3 _ h2) (res_flat2 trivial trivial)), ⟨⟨rfl, rfl, rfl, rfl, trivial⟩, trivial, rfl⟩, rfl,
    Step.plain rfl (does_move (.tmp 19) (resV [(.int .i64 v1.1), (.bool v1.2)]) trivial), ⟨⟨rfl, trivial⟩, trivial, rfl⟩, rfl,
    Step.plain rfl (does_extract 14 0 2 (fun j => [(.int .i64 v1.1), (.bool v1.2)].getD j (.bool false)) (Nat.le_of_ble_eq_true rfl)), ⟨⟨rfl, trivial⟩, trivial, rfl⟩, rfl,
    Step.plain rfl (does_extract 14 1 2 (fun j => [(.int .i64 v1.1), (.bool v1.2)].getD j (.bool false)) (Nat.le_of_ble_eq_true rfl)), ⟨⟨rfl, trivial⟩, trivial, rfl⟩, rfl,
    Step.plain rfl (does_assign (.tmp 20) (.int .i64 v1.1) trivial), ⟨⟨rfl, trivial⟩, trivial, rfl⟩, rfl,
    Step.plain rfl (does_assign (.tmp 21) (.bool v1.2) trivial), ⟨⟨rfl, trivial⟩, trivial, rfl⟩, rfl, rfl⟩ ?_
  refine aw_cov (cov_prune (s1 := ⟨[(0, (e_s_api_Letter p0)), (9, (.ptr 1 0 [])), (11, (.int .i64 v1.1)), (12, (.bool v1.2))], [(1, some (.var (e_api_Letter z_api_Letter)))], 2⟩) ⟨rfl, rfl, rfl, rfl, trivial⟩ ⟨rfl, trivial⟩ (Nat.le_refl _)) ?_
  refine aw_seq ?_
  refine aw_region (es := [_, _]) ⟨Step.plain rfl (does_move (.tmp 12) (.bool v1.2) trivial), ⟨⟨rfl, trivial⟩, trivial, rfl⟩, rfl,
    Step.plain rfl (does_not 4 (.tmp 22) v1.2 trivial), ⟨⟨rfl, trivial⟩, trivial, rfl⟩, rfl, rfl⟩ ?_
  refine aw_cov (cov_prune (s1 := ⟨[(0, (e_s_api_Letter p0)), (9, (.ptr 1 0 [])), (11, (.int .i64 v1.1)), (23, (.bool (!v1.2)))], [(1, some (.var (e_api_Letter z_api_Letter)))], 2⟩) ⟨rfl, rfl, rfl, rfl, trivial⟩ ⟨rfl, trivial⟩ (Nat.le_refl _)) ?_
  refine aw_cond rfl (fun hc => ?_) (fun hc => ?_)
  · replace H := ite_t hc H
    refine aw_region (es := [_, _, _, _, _]) ⟨Step.plain rfl (does_move (.tmp 0) (e_s_api_Letter p0) trivial), ⟨⟨rfl, trivial⟩, trivial, rfl⟩, rfl,
      Step.plain rfl (does_buildT 27 #[] [] [] (.st [1, 1, 1, 1]) (c_api_Letter z_api_Letter) (c_api_Letter ({ From := 0, To := 0, Text := ByteArray.empty, Turned := false } : api_Letter)) rfl bo27 trivial trivial (by funext j; match j with | 0 => rfl | 1 => rfl | 2 => rfl | 3 => rfl | _ + 4 => rfl)), ⟨trivial, trivial, rfl⟩, rfl,
      Step.plain rfl (does_assign (.tmp 24) (e_s_api_Letter p0) trivial), ⟨⟨rfl, trivial⟩, trivial, rfl⟩, rfl,
      Step.plain rfl (does_store 27 9 (.tmp 25) 1 0 [] (.var (e_api_Letter z_api_Letter)) (.var (e_api_Letter ({ From := 0, To := 0, Text := ByteArray.empty, Turned := false } : api_Letter))) (e_api_Letter ({ From := 0, To := 0, Text := ByteArray.empty, Turned := false } : api_Letter)) true trivial rfl trivial rfl rfl rfl ty27), ⟨⟨rfl, rfl, trivial⟩, ⟨rfl, trivial⟩, rfl⟩, rfl,
      Step.plain rfl (does_assign (.const (.bool false)) (.bool false) (fun _ => rfl)), ⟨trivial, trivial, rfl⟩, rfl, rfl⟩ ?_
    obtain ⟨v3, hv3, H⟩ := lt_of H
    refine aw_cov (cov_prune (s1 := ⟨[(9, (.ptr 1 0 [])), (8, (e_s_api_Letter p0)), (10, (.bool false))], [(1, some (.var (e_api_Letter v3)))], 2⟩) ⟨rfl, rfl, rfl, trivial⟩ ⟨(by subst hv3; rfl), trivial⟩ (Nat.le_refl _)) ?_
    refine aw_ret ?_
    refine rt_then ?_
    exact fun a w hr => ⟨_, [(e_s_api_Letter p0), (e_api_Letter v3), (.bool false)], hr, ⟨⟨_, rfl, .data (e_s_api_Letter p0) (d_s_api_Letter p0)⟩, ⟨1, _, rfl, rfl, .data _ (d_api_Letter v3), ty27⟩, ⟨_, rfl, .data (.bool false) trivial⟩, trivial⟩, by decide, by cases H; rfl⟩
  · replace H := ite_f hc H
    refine aw_skip ?_
    refine nx_seq ?_
    obtain ⟨h4, H⟩ := sb_of H
    obtain ⟨h5, H⟩ := fit_of H
    refine aw_region (es := [_, _, _, _, _, _]) ⟨Step.plain rfl (does_buildOwn 22 0 4 2 (e_api_Letter z_api_Letter) (fun j => (e_api_Letter (([] : _root_.List api_Letter).getD j z_api_Letter))) #[] [] [] rfl so22 (by decide) trivial trivial (fun j h => match j, h with  | k + 0, h => absurd h (by omega))), ⟨trivial, trivial, rfl⟩, rfl,
      Step.plain rfl (does_move (.tmp 0) (e_s_api_Letter p0) trivial), ⟨⟨rfl, trivial⟩, trivial, rfl⟩, rfl,
      Step.plain rfl (does_move (.tmp 11) (.int .i64 v1.1) trivial), ⟨⟨rfl, trivial⟩, trivial, rfl⟩, rfl,
      Step.plain rfl (does_slicesL e_api_Letter z_api_Letter p0 22 4 27 0 v1.1.toNat none (some ((.tmp 28), .i64, v1.1)) _ _ el22 (by decide) rfl rfl trivial trivial rfl (Int.toNat_of_nonneg (Int.le_trans h4.1 h4.2.1)).symm (by omega) (by omega)), ⟨⟨rfl, rfl, trivial⟩, trivial, rfl⟩, rfl,
      Step.plain rfl (does_appendL e_api_Letter z_api_Letter ([] : _root_.List api_Letter) ((p0.take v1.1.toNat).drop 0) 22 4 40 2 3 26 29 ap22 h5), ⟨⟨rfl, rfl, trivial⟩, ⟨rfl, trivial⟩, rfl⟩, rfl,
      Step.plain rfl (does_assign (.tmp 30) (.own 3) trivial), ⟨⟨rfl, trivial⟩, trivial, rfl⟩, rfl, rfl⟩ ?_
    refine aw_cov (cov_prune (s1 := ⟨[(0, (e_s_api_Letter p0)), (9, (.ptr 1 0 [])), (11, (.int .i64 v1.1)), (13, (.own 3))], [(1, some (.var (e_api_Letter z_api_Letter))), (3, some (.arr 4 (([] : _root_.List api_Letter) ++ ((p0.take v1.1.toNat).drop 0)).length fun j => (e_api_Letter ((([] : _root_.List api_Letter) ++ ((p0.take v1.1.toNat).drop 0)).getD j z_api_Letter))))], 4⟩) ⟨rfl, rfl, rfl, rfl, trivial⟩ ⟨rfl, rfl, trivial⟩ (Nat.le_refl _)) ?_
    obtain ⟨h6, H⟩ := sb_of H
    obtain ⟨h7, H⟩ := fit_of H
    refine aw_region (es := [_, _, _, _, _, _, _]) ⟨Step.plain rfl (does_move (.tmp 13) (.own 3) trivial), ⟨⟨rfl, trivial⟩, trivial, rfl⟩, rfl,
      Step.plain rfl (does_move (.tmp 0) (e_s_api_Letter p0) trivial), ⟨⟨rfl, trivial⟩, trivial, rfl⟩, rfl,
      Step.plain rfl (does_move (.tmp 11) (.int .i64 v1.1) trivial), ⟨⟨rfl, trivial⟩, trivial, rfl⟩, rfl,
      Step.plain rfl (does_bin .add 3 3 (.tmp 33) (.const (.int .i64 1)) .i64 v1.1 1 (.int .i64 (IntKind.i64.wrap (v1.1 + 1))) trivial (fun _ => rfl) (bin_add _ _ _ _)), ⟨⟨rfl, trivial⟩, trivial, rfl⟩, rfl,
      Step.plain rfl (does_slicesL e_api_Letter z_api_Letter p0 22 4 32 ((IntKind.i64.wrap (v1.1 + 1)).toNat) p0.length (some ((.tmp 34), .i64, (IntKind.i64.wrap (v1.1 + 1)))) none _ _ el22 (by decide) rfl rfl trivial trivial (Int.toNat_of_nonneg h6.1).symm rfl (by omega) (by omega)), ⟨⟨rfl, rfl, trivial⟩, trivial, rfl⟩, rfl,
      Step.plain rfl (does_appendL e_api_Letter z_api_Letter (([] : _root_.List api_Letter) ++ ((p0.take v1.1.toNat).drop 0)) ((p0.take p0.length).drop ((IntKind.i64.wrap (v1.1 + 1)).toNat)) 22 4 40 3 4 31 35 ap22 h7), ⟨⟨rfl, rfl, trivial⟩, ⟨rfl, trivial⟩, rfl⟩, rfl,
      Step.plain rfl (does_assign (.tmp 36) (.own 4) trivial), ⟨⟨rfl, trivial⟩, trivial, rfl⟩, rfl, rfl⟩ ?_
    obtain ⟨v8, hv8, H⟩ := lt_of H
    refine aw_cov (cov_prune (s1 := ⟨[(0, (e_s_api_Letter p0)), (9, (.ptr 1 0 [])), (11, (.int .i64 v1.1)), (13, (.own 4))], [(1, some (.var (e_api_Letter z_api_Letter))), (4, some (.arr 4 v8.length fun j => (e_api_Letter (v8.getD j z_api_Letter))))], 5⟩) ⟨rfl, rfl, rfl, rfl, trivial⟩ ⟨rfl, (by subst hv8; rfl), trivial⟩ (Nat.le_refl _)) ?_
    obtain ⟨h9, H⟩ := ib_of H
    refine aw_draw (es := [_, _, _, _, _, _, _, _]) (mixed) ⟨Step.plain rfl (does_move (.tmp 13) (.own 4) trivial), ⟨⟨rfl, trivial⟩, trivial, rfl⟩, rfl,
      Step.plain rfl (does_move (.tmp 0) (e_s_api_Letter p0) trivial), ⟨⟨rfl, trivial⟩, trivial, rfl⟩, rfl,
      Step.plain rfl (does_move (.tmp 11) (.int .i64 v1.1) trivial), ⟨⟨rfl, trivial⟩, trivial, rfl⟩, rfl,
      Step.plain rfl (does_indexAddrs 22 4 p0.length 38 (fun j => (e_api_Letter (p0.getD j z_api_Letter))) (.tmp 39) .i64 v1.1 el22 trivial h9.1 h9.2), ⟨⟨rfl, rfl, trivial⟩, trivial, rfl⟩, rfl,
      Step.plain rfl (does_loadc 27 40 (e_api_Letter (p0.getD v1.1.toNat z_api_Letter)) ty27), ⟨⟨rfl, trivial⟩, trivial, rfl⟩, rfl,
      Step.plain rfl (does_assign (.tmp 37) (.own 4) trivial), ⟨⟨rfl, trivial⟩, trivial, rfl⟩, rfl,
      Step.plain rfl (does_store 27 9 (.tmp 41) 1 0 [] (.var (e_api_Letter z_api_Letter)) (.var (e_api_Letter (p0.getD v1.1.toNat z_api_Letter))) (e_api_Letter (p0.getD v1.1.toNat z_api_Letter)) true trivial rfl trivial rfl rfl rfl ty27), ⟨⟨rfl, rfl, trivial⟩, ⟨rfl, trivial⟩, rfl⟩, rfl,
      Step.plain rfl (does_assign (.const (.bool true)) (.bool true) (fun _ => rfl)), ⟨trivial, trivial, rfl⟩, rfl, rfl⟩ rfl ?_
    refine aw_cov (cov_prune (s1 := ⟨[(9, (.ptr 1 0 [])), (8, (.own 4)), (10, (.bool true))], [(1, some (.var (e_api_Letter (p0.getD v1.1.toNat z_api_Letter)))), (4, some (.arr 4 v8.length fun j => (e_api_Letter (v8.getD j z_api_Letter))))], 5⟩) ⟨rfl, rfl, rfl, trivial⟩ ⟨rfl, rfl, trivial⟩ (Nat.le_refl _)) ?_
    refine aw_ret ?_
    exact fun a w hr => ⟨_, [(e_s_api_Letter v8), (e_api_Letter (p0.getD v1.1.toNat z_api_Letter)), (.bool true)], hr, ⟨⟨_, rfl, .own _ _ _ _ rfl (fun _ => (d_api_Letter _))⟩, ⟨1, _, rfl, rfl, .data _ (d_api_Letter (p0.getD v1.1.toNat z_api_Letter)), ty27⟩, ⟨_, rfl, .data (.bool true) trivial⟩, trivial⟩, by decide, by cases H; rfl⟩

theorem lossy_Turn_spec (p0 : (_root_.List api_Letter)) (p1 : Int) (p2 : Int) (p3 : Int) (p4 : Int) (p5 : Int) (r : (_root_.List api_Letter)) (H : lossy_Turn p0 p1 p2 p3 p4 p5 = some r) : FSpecO Try.prog 13 [(e_s_api_Letter p0), (.int .i64 p1), (.int .i64 p2), (.int .i64 p3), (.int .i64 p4), (.int .u32 p5)] [] 0 (.own 0) [(0, some (.arr 4 r.length fun j => (e_api_Letter (r.getD j z_api_Letter))))] 1 := by
  refine specO_of (fn := Try.f13) (args := [(e_s_api_Letter p0), (.int .i64 p1), (.int .i64 p2), (.int .i64 p3), (.int .i64 p4), (.int .u32 p5)]) Try.func13 rfl (Nat.le_of_ble_eq_true rfl) ?_
  rintro ⟨G, w0, W, S, Sp⟩ hG
  cases hG
  unfold lossy_Turn at H
  refine aw_region (es := [_]) ⟨Step.plain rfl (does_nil false 0 4 (fun j => (e_api_Letter (([] : _root_.List api_Letter).getD j z_api_Letter)))), ⟨trivial, trivial, rfl⟩, rfl, rfl⟩ ?_
  refine aw_cov (cov_prune (s1 := ⟨[(0, (e_s_api_Letter p0)), (1, (.int .i64 p1)), (2, (.int .i64 p2)), (3, (.int .i64 p3)), (4, (.int .i64 p4)), (5, (.int .u32 p5))], [], 1⟩) ⟨rfl, rfl, rfl, rfl, rfl, rfl, trivial⟩ trivial (Nat.le_refl _)) ?_
  obtain ⟨v1, h2, H⟩ := bnd H
  refine aw_region (es := [_, _, _]) ⟨Step.plain rfl (does_move (.tmp 0) (e_s_api_Letter p0) trivial), ⟨⟨rfl, trivial⟩, trivial, rfl⟩, rfl,
    Step.plain rfl (does_callO 20 0 (fun _ => .any) (.func 20) [(.tmp 18)] [(e_s_api_Letter p0)] [] [] true [(e_s_api_Letter p0)] _ (.own 1) _ 1 1 _ _ rfl fo20 rfl ⟨trivial, trivial⟩ ⟨.ro _ _ (.data _ (d_s_api_Letter p0)), trivial⟩ (slices_Clone_api_Letter_api_Letter_spec p0 _ h2) rfl (by simp) rfl trivial ⟨⟨Nat.le_of_ble_eq_true rfl, _, rfl, fun _ => (f_api_Letter _)⟩, trivial⟩ (.own 0 (Nat.le_of_ble_eq_true rfl))), ⟨⟨rfl, trivial⟩, trivial, rfl⟩, rfl,
    Step.plain rfl (does_assign (.tmp 19) (.own 1) trivial), ⟨⟨rfl, trivial⟩, trivial, rfl⟩, rfl, rfl⟩ ?_
  refine aw_cov (cov_prune (s1 := ⟨[(0, (e_s_api_Letter p0)), (1, (.int .i64 p1)), (2, (.int .i64 p2)), (3, (.int .i64 p3)), (4, (.int .i64 p4)), (5, (.int .u32 p5)), (13, (.own 1))], [(1, some (.arr 4 v1.length fun j => (e_api_Letter (v1.getD j z_api_Letter))))], 2⟩) ⟨rfl, rfl, rfl, rfl, rfl, rfl, rfl, trivial⟩ ⟨rfl, trivial⟩ (Nat.le_refl _)) ?_
  obtain ⟨v3, h4, H⟩ := bnd H
  refine aw_region (es := [_, _, _, _, _, _, _, _, _, _]) ⟨Step.plain rfl (does_move (.tmp 0) (e_s_api_Letter p0) trivial), ⟨⟨rfl, trivial⟩, trivial, rfl⟩, rfl,
    Step.plain rfl (does_move (.tmp 1) (.int .i64 p1) trivial), ⟨⟨rfl, trivial⟩, trivial, rfl⟩, rfl,
    Step.plain rfl (does_move (.tmp 2) (.int .i64 p2) trivial), ⟨⟨rfl, trivial⟩, trivial, rfl⟩, rfl,
    Step.plain rfl (does_move (.tmp 3) (.int .i64 p3) trivial), ⟨⟨rfl, trivial⟩, trivial, rfl⟩, rfl,
    Step.plain rfl (does_call 10 0 (fun _ => .any) (.func 10) [(.tmp 21), (.tmp 22), (.tmp 23), (.tmp 24)] [(e_s_api_Letter p0), (.int .i64 p1), (.int .i64 p2), (.int .i64 p3)] [] true [(e_s_api_Letter p0), (.int .i64 p1), (.int .i64 p2), (.int .i64 p3)] (resV [(.int .i64 v3.1), (.bool v3.2)]) _ _ rfl fo10 rfl ⟨trivial, trivial, trivial, trivial, trivial⟩ ⟨.data _ (d_s_api_Letter p0), .data _ trivial, .data _ trivial, .data _ trivial, trivial⟩ (lossy_Find_spec p0 p1 p2 p3 _ h4) (res_flat2 trivial trivial)), ⟨⟨rfl, rfl, rfl, rfl, trivial⟩, trivial, rfl⟩, rfl,
    Step.plain rfl (does_move (.tmp 25) (resV [(.int .i64 v3.1), (.bool v3.2)]) trivial), ⟨⟨rfl, trivial⟩, trivial, rfl⟩, rfl,
    Step.plain rfl (does_extract 20 0 2 (fun j => [(.int .i64 v3.1), (.bool v3.2)].getD j (.bool false)) (Nat.le_of_ble_eq_true rfl)), ⟨⟨rfl, trivial⟩, trivial, rfl⟩, rfl,
    Step.plain rfl (does_extract 20 1 2 (fun j => [(.int .i64 v3.1), (.bool v3.2)].getD j (.bool false)) (Nat.le_of_ble_eq_true rfl)), ⟨⟨rfl, trivial⟩, trivial, rfl⟩, rfl,
    Step.plain rfl (does_assign (.tmp 26) (.int .i64 v3.1) trivial), ⟨⟨rfl, trivial⟩, trivial, rfl⟩, rfl,
    Step.plain rfl (does_assign (.tmp 27) (.bool v3.2) trivial), ⟨⟨rfl, trivial⟩, trivial, rfl⟩, rfl, rfl⟩ ?_
  refine aw_cov (cov_prune (s1 := ⟨[(0, (e_s_api_Letter p0)), (4, (.int .i64 p4)), (5, (.int .u32 p5)), (13, (.own 1)), (14, (.int .i64 v3.1)), (15, (.bool v3.2))], [(1, some (.arr 4 v1.length fun j => (e_api_Letter (v1.getD j z_api_Letter))))], 2⟩) ⟨rfl, rfl, rfl, rfl, rfl, rfl, trivial⟩ ⟨rfl, trivial⟩ (Nat.le_refl _)) ?_
  refine aw_seq ?_
  obtain ⟨h5, H⟩ := ibg_of H
  obtain ⟨h6, H⟩ := ibg_of H
  refine aw_region (es := [_, _, _, _, _, _, _, _, _, _, _, _, _, _, _, _, _, _, _, _, _, _, _]) ⟨Step.plain rfl (does_move (.tmp 15) (.bool v3.2) trivial), ⟨⟨rfl, trivial⟩, trivial, rfl⟩, rfl,
    Step.plain rfl (does_not 4 (.tmp 28) v3.2 trivial), ⟨⟨rfl, trivial⟩, trivial, rfl⟩, rfl,
    Step.plain rfl (does_move (.tmp 29) (.bool (!v3.2)) trivial), ⟨⟨rfl, trivial⟩, trivial, rfl⟩, rfl,
    Step.guarded rfl rfl rfl rfl (fun hc => does_move (.tmp 4) (.int .i64 p4) trivial), ⟨⟨rfl, rfl, trivial⟩, trivial, rfl⟩, rfl,
    Step.guarded rfl rfl rfl rfl (fun hc => Does.strip (n' := [(31, (.opt (!(!v3.2)) (.int .i64 p4)))]) (n := [(31, (.int .i64 p4))]) ⟨(.opt _ _ hc), trivial⟩ (does_bin .lss 3 3 (.tmp 31) (.const (.int .i64 0)) .i64 p4 0 (.bool (decide (p4 < 0))) trivial (fun _ => rfl) (bin_lss _ _ _ _))), ⟨⟨rfl, rfl, trivial⟩, trivial, rfl⟩, rfl,
    Step.plain rfl (does_or 30 32 (!v3.2) (decide (p4 < 0))), ⟨⟨rfl, rfl, trivial⟩, trivial, rfl⟩, rfl,
    Step.plain rfl (does_move (.tmp 33) (.bool ((!v3.2) || (decide (p4 < 0)))) trivial), ⟨⟨rfl, trivial⟩, trivial, rfl⟩, rfl,
    Step.guarded rfl rfl rfl rfl (fun hc => does_move (.tmp 4) (.int .i64 p4) trivial), ⟨⟨rfl, rfl, trivial⟩, trivial, rfl⟩, rfl,
    Step.guarded rfl rfl rfl rfl (fun hc => does_move (.tmp 0) (e_s_api_Letter p0) trivial), ⟨⟨rfl, rfl, trivial⟩, trivial, rfl⟩, rfl,
    Step.guarded rfl rfl rfl rfl (fun hc => does_move (.tmp 14) (.int .i64 v3.1) trivial), ⟨⟨rfl, rfl, trivial⟩, trivial, rfl⟩, rfl,
    Step.guarded rfl rfl rfl rfl (fun hc => Does.strip (n' := [(36, (.opt (!((!v3.2) || (decide (p4 < 0)))) (e_s_api_Letter p0))), (37, (.opt (!((!v3.2) || (decide (p4 < 0)))) (.int .i64 v3.1)))]) (n := [(36, (e_s_api_Letter p0)), (37, (.int .i64 v3.1))]) ⟨(.opt _ _ hc), (.opt _ _ hc), trivial⟩ (does_indexAddrs 22 4 p0.length 36 (fun j => (e_api_Letter (p0.getD j z_api_Letter))) (.tmp 37) .i64 v3.1 el22 trivial (h5 hc).1 (h5 hc).2)), ⟨⟨rfl, rfl, rfl, trivial⟩, trivial, rfl⟩, rfl,
    Step.guarded rfl rfl rfl rfl (fun hc => Does.strip (n' := [(38, (.opt (!((!v3.2) || (decide (p4 < 0)))) (.cptr (e_api_Letter (p0.getD v3.1.toNat z_api_Letter)))))]) (n := [(38, (.cptr (e_api_Letter (p0.getD v3.1.toNat z_api_Letter))))]) ⟨(.opt _ _ hc), trivial⟩ (does_fieldAddrc 27 2 2 38 (e_api_Letter (p0.getD v3.1.toNat z_api_Letter)) fl27_2 rfl (Nat.le_of_ble_eq_true rfl) rfl)), ⟨⟨rfl, rfl, trivial⟩, trivial, rfl⟩, rfl,
    Step.guarded rfl rfl rfl rfl (fun hc => Does.strip (n' := [(39, (.opt (!((!v3.2) || (decide (p4 < 0)))) (.cptr (.str ((p0.getD v3.1.toNat z_api_Letter).Text)))))]) (n := [(39, (.cptr (.str ((p0.getD v3.1.toNat z_api_Letter).Text))))]) ⟨(.opt _ _ hc), trivial⟩ (does_loadc 9 39 (.str ((p0.getD v3.1.toNat z_api_Letter).Text)) ty9)), ⟨⟨rfl, rfl, trivial⟩, trivial, rfl⟩, rfl,
    Step.guarded rfl rfl rfl rfl (fun hc => Does.strip (n' := [(40, (.opt (!((!v3.2) || (decide (p4 < 0)))) (.str ((p0.getD v3.1.toNat z_api_Letter).Text))))]) (n := [(40, (.str ((p0.getD v3.1.toNat z_api_Letter).Text)))]) ⟨(.opt _ _ hc), trivial⟩ (does_lenstr 9 40 ((p0.getD v3.1.toNat z_api_Letter).Text) rfl)), ⟨⟨rfl, rfl, trivial⟩, trivial, rfl⟩, rfl,
    Step.guarded rfl rfl rfl rfl (fun hc => Does.strip (n' := [(35, (.opt (!((!v3.2) || (decide (p4 < 0)))) (.int .i64 p4))), (41, (.opt (!((!v3.2) || (decide (p4 < 0)))) (.int .i64 (((p0.getD v3.1.toNat z_api_Letter).Text).size : Int))))]) (n := [(35, (.int .i64 p4)), (41, (.int .i64 (((p0.getD v3.1.toNat z_api_Letter).Text).size : Int)))]) ⟨(.opt _ _ hc), (.opt _ _ hc), trivial⟩ (does_bin .geq 3 3 (.tmp 35) (.tmp 41) .i64 p4 (((p0.getD v3.1.toNat z_api_Letter).Text).size : Int) (.bool (decide (p4 ≥ (((p0.getD v3.1.toNat z_api_Letter).Text).size : Int)))) trivial trivial (bin_geq _ _ _ _))), ⟨⟨rfl, rfl, rfl, trivial⟩, trivial, rfl⟩, rfl,
    Step.plain rfl (does_or 34 42 ((!v3.2) || (decide (p4 < 0))) (decide (p4 ≥ (((p0.getD v3.1.toNat z_api_Letter).Text).size : Int)))), ⟨⟨rfl, rfl, trivial⟩, trivial, rfl⟩, rfl,
    Step.plain rfl (does_move (.tmp 43) (.bool (((!v3.2) || (decide (p4 < 0))) || (decide (p4 ≥ (((p0.getD v3.1.toNat z_api_Letter).Text).size : Int))))) trivial), ⟨⟨rfl, trivial⟩, trivial, rfl⟩, rfl,
    Step.guarded rfl rfl rfl rfl (fun hc => does_move (.tmp 0) (e_s_api_Letter p0) trivial), ⟨⟨rfl, rfl, trivial⟩, trivial, rfl⟩, rfl,
    Step.guarded rfl rfl rfl rfl (fun hc => does_move (.tmp 14) (.int .i64 v3.1) trivial), ⟨⟨rfl, rfl, trivial⟩, trivial, rfl⟩, rfl,
    Step.guarded rfl rfl rfl rfl (fun hc => Does.strip (n' := [(45, (.opt (!(((!v3.2) || (decide (p4 < 0))) || (decide (p4 ≥ (((p0.getD v3.1.toNat z_api_Letter).Text).size : Int))))) (e_s_api_Letter p0))), (46, (.opt (!(((!v3.2) || (decide (p4 < 0))) || (decide (p4 ≥ (((p0.getD v3.1.toNat z_api_Letter).Text).size : Int))))) (.int .i64 v3.1)))]) (n := [(45, (e_s_api_Letter p0)), (46, (.int .i64 v3.1))]) ⟨(.opt _ _ hc), (.opt _ _ hc), trivial⟩ (does_indexAddrs 22 4 p0.length 45 (fun j => (e_api_Letter (p0.getD j z_api_Letter))) (.tmp 46) .i64 v3.1 el22 trivial (h6 hc).1 (h6 hc).2)), ⟨⟨rfl, rfl, rfl, trivial⟩, trivial, rfl⟩, rfl,
    Step.guarded rfl rfl rfl rfl (fun hc => Does.strip (n' := [(47, (.opt (!(((!v3.2) || (decide (p4 < 0))) || (decide (p4 ≥ (((p0.getD v3.1.toNat z_api_Letter).Text).size : Int))))) (.cptr (e_api_Letter (p0.getD v3.1.toNat z_api_Letter)))))]) (n := [(47, (.cptr (e_api_Letter (p0.getD v3.1.toNat z_api_Letter))))]) ⟨(.opt _ _ hc), trivial⟩ (does_fieldAddrc 27 3 3 47 (e_api_Letter (p0.getD v3.1.toNat z_api_Letter)) fl27_3 rfl (Nat.le_of_ble_eq_true rfl) rfl)), ⟨⟨rfl, rfl, trivial⟩, trivial, rfl⟩, rfl,
    Step.guarded rfl rfl rfl rfl (fun hc => Does.strip (n' := [(48, (.opt (!(((!v3.2) || (decide (p4 < 0))) || (decide (p4 ≥ (((p0.getD v3.1.toNat z_api_Letter).Text).size : Int))))) (.cptr (.bool ((p0.getD v3.1.toNat z_api_Letter).Turned)))))]) (n := [(48, (.cptr (.bool ((p0.getD v3.1.toNat z_api_Letter).Turned))))]) ⟨(.opt _ _ hc), trivial⟩ (does_loadc 4 48 (.bool ((p0.getD v3.1.toNat z_api_Letter).Turned)) ty4)), ⟨⟨rfl, rfl, trivial⟩, trivial, rfl⟩, rfl,
    Step.plain rfl (does_or 44 49 (((!v3.2) || (decide (p4 < 0))) || (decide (p4 ≥ (((p0.getD v3.1.toNat z_api_Letter).Text).size : Int)))) ((p0.getD v3.1.toNat z_api_Letter).Turned)), ⟨⟨rfl, rfl, trivial⟩, trivial, rfl⟩, rfl, rfl⟩ ?_
  obtain ⟨v7, hv7, H⟩ := lt_of H
  refine aw_cov (cov_prune (s1 := ⟨[(0, (e_s_api_Letter p0)), (4, (.int .i64 p4)), (5, (.int .u32 p5)), (13, (.own 1)), (14, (.int .i64 v3.1)), (50, (.bool v7))], [(1, some (.arr 4 v1.length fun j => (e_api_Letter (v1.getD j z_api_Letter))))], 2⟩) ⟨rfl, rfl, rfl, rfl, rfl, (by subst hv7; rfl), trivial⟩ ⟨rfl, trivial⟩ (Nat.le_refl _)) ?_
  refine aw_cond rfl (fun hc => ?_) (fun hc => ?_)
  · replace H := ite_t hc H
    refine aw_region (es := [_, _]) ⟨Step.plain rfl (does_move (.tmp 13) (.own 1) trivial), ⟨⟨rfl, trivial⟩, trivial, rfl⟩, rfl,
      Step.plain rfl (does_assign (.tmp 51) (.own 1) trivial), ⟨⟨rfl, trivial⟩, trivial, rfl⟩, rfl, rfl⟩ ?_
    refine aw_cov (cov_prune (s1 := ⟨[(12, (.own 1))], [(1, some (.arr 4 v1.length fun j => (e_api_Letter (v1.getD j z_api_Letter))))], 2⟩) ⟨rfl, trivial⟩ ⟨rfl, trivial⟩ (Nat.le_refl _)) ?_
    refine aw_ret ?_
    refine rt_then ?_
    exact fun a w hr => ⟨_, [(.own 0)], reach_of hr (cov_to (s1 := ⟨[(12, (.own 0))], [(0, some (.arr 4 v1.length fun j => (e_api_Letter (v1.getD j z_api_Letter))))], 1⟩) (fun i => match i with | 0 => 1 | k => k) [] ⟨⟨_, rfl, .own 0 _ _ (Nat.le_of_ble_eq_true rfl) rfl rfl (Box.like_refl _)⟩, trivial⟩ ⟨⟨Nat.le_of_ble_eq_true rfl, _, _, rfl, rfl, boxTo_arr (fun _ => (d_api_Letter _))⟩, trivial⟩ rfl rfl), ⟨rfl, trivial⟩, by decide, by cases H; rfl, by cases H; exact ⟨rfl, trivial⟩, Nat.le_of_ble_eq_true rfl⟩
  · replace H := ite_f hc H
    refine aw_skip ?_
    refine nx_seq ?_
    obtain ⟨h8, H⟩ := ib_of H
    obtain ⟨h9, H⟩ := inb_of H
    refine aw_region (es := [_, _, _, _, _, _, _]) ⟨Step.plain rfl (does_move (.tmp 13) (.own 1) trivial), ⟨⟨rfl, trivial⟩, trivial, rfl⟩, rfl,
      Step.plain rfl (does_move (.tmp 14) (.int .i64 v3.1) trivial), ⟨⟨rfl, trivial⟩, trivial, rfl⟩, rfl,
      Step.plain rfl (does_indexAddro 22 4 v1.length 52 1 (fun j => (e_api_Letter (v1.getD j z_api_Letter))) (.tmp 53) .i64 v3.1 el22 trivial h8.1 h8.2), ⟨⟨rfl, rfl, trivial⟩, ⟨rfl, trivial⟩, rfl⟩, rfl,
      Step.plain rfl (does_fieldAddr 27 2 2 54 1 (v3.1.toNat * 4) [v3.1.toNat] (.arr 4 v1.length fun j => (e_api_Letter (v1.getD j z_api_Letter))) fl27_2), ⟨⟨rfl, trivial⟩, ⟨rfl, trivial⟩, rfl⟩, rfl,
      Step.plain rfl (does_load 9 55 1 ((v3.1.toNat * 4) + 2) [v3.1.toNat, 2] (.arr 4 v1.length fun j => (e_api_Letter (v1.getD j z_api_Letter))) (.str ((v1.getD v3.1.toNat z_api_Letter).Text)) ⟨(ixl h8), ⟨rfl, Nat.le_of_ble_eq_true rfl, trivial⟩⟩ rfl rfl ty9), ⟨⟨rfl, trivial⟩, ⟨rfl, trivial⟩, rfl⟩, rfl,
      Step.plain rfl (does_s2b 9 48 5 2 (.tmp 56) ((v1.getD v3.1.toNat z_api_Letter).Text) trivial us9 us48 ui5 h9), ⟨⟨rfl, trivial⟩, trivial, rfl⟩, rfl,
      Step.plain rfl (does_assign (.tmp 57) (.own 2) trivial), ⟨⟨rfl, trivial⟩, trivial, rfl⟩, rfl, rfl⟩ ?_
    refine aw_cov (cov_prune (s1 := ⟨[(0, (e_s_api_Letter p0)), (4, (.int .i64 p4)), (5, (.int .u32 p5)), (13, (.own 1)), (14, (.int .i64 v3.1)), (16, (.own 2))], [(1, some (.arr 4 v1.length fun j => (e_api_Letter (v1.getD j z_api_Letter)))), (2, some (.arr 1 (bytesOf ((v1.getD v3.1.toNat z_api_Letter).Text)).length fun j => (.int .u8 ((bytesOf ((v1.getD v3.1.toNat z_api_Letter).Text)).getD j 0))))], 3⟩) ⟨rfl, rfl, rfl, rfl, rfl, rfl, trivial⟩ ⟨rfl, rfl, trivial⟩ (Nat.le_refl _)) ?_
    refine aw_seq ?_
    refine aw_region (es := [_, _, _, _, _, _]) ⟨Step.plain rfl (does_move (.tmp 16) (.own 2) trivial), ⟨⟨rfl, trivial⟩, trivial, rfl⟩, rfl,
      Step.plain rfl (does_leno 48 1 (bytesOf ((v1.getD v3.1.toNat z_api_Letter).Text)).length 58 2 (fun j => (.int .u8 ((bytesOf ((v1.getD v3.1.toNat z_api_Letter).Text)).getD j 0))) el48), ⟨⟨rfl, trivial⟩, ⟨rfl, trivial⟩, rfl⟩, rfl,
      Step.plain rfl (does_move (.tmp 4) (.int .i64 p4) trivial), ⟨⟨rfl, trivial⟩, trivial, rfl⟩, rfl,
      Step.plain rfl (does_bin .sub 3 3 (.tmp 59) (.tmp 60) .i64 ((bytesOf ((v1.getD v3.1.toNat z_api_Letter).Text)).length : Int) p4 (.int .i64 (IntKind.i64.wrap (((bytesOf ((v1.getD v3.1.toNat z_api_Letter).Text)).length : Int) - p4))) trivial trivial (bin_sub _ _ _ _)), ⟨⟨rfl, rfl, trivial⟩, trivial, rfl⟩, rfl,
      Step.plain rfl (does_min _ _ (.const (.int .i64 4)) (.tmp 61) rfl .i64 4 (IntKind.i64.wrap (((bytesOf ((v1.getD v3.1.toNat z_api_Letter).Text)).length : Int) - p4)) (fun _ => rfl) trivial), ⟨⟨rfl, trivial⟩, trivial, rfl⟩, rfl,
      Step.plain rfl (does_move (.const (.int .i64 0)) (.int .i64 0) (fun _ => rfl)), ⟨trivial, trivial, rfl⟩, rfl, rfl⟩ ?_
    obtain ⟨v10, hv10, H⟩ := lt_of H
    refine aw_cov (cov_prune (s1 := ⟨[(0, (e_s_api_Letter p0)), (4, (.int .i64 p4)), (5, (.int .u32 p5)), (13, (.own 1)), (14, (.int .i64 v3.1)), (16, (.own 2)), (62, (.int .i64 v10)), (63, (.int .i64 0))], [(1, some (.arr 4 v1.length fun j => (e_api_Letter (v1.getD j z_api_Letter)))), (2, some (.arr 1 (bytesOf ((v1.getD v3.1.toNat z_api_Letter).Text)).length fun j => (.int .u8 ((bytesOf ((v1.getD v3.1.toNat z_api_Letter).Text)).getD j 0))))], 3⟩) ⟨rfl, rfl, rfl, rfl, rfl, rfl, (by subst hv10; rfl), rfl, trivial⟩ ⟨rfl, rfl, trivial⟩ (Nat.le_refl _)) ?_
    obtain ⟨wn12, hwn12, Hrn12⟩ := bnd H
    refine aw_meet (fun y17 : _root_.List Int => (⟨[(0, (e_s_api_Letter p0)), (13, (.own 1)), (14, (.int .i64 v3.1)), (16, (.own 2))], [(1, some (.arr 4 v1.length fun j => (e_api_Letter (v1.getD j z_api_Letter)))), (2, some (.arr 1 y17.length fun j => (.int .u8 (y17.getD j 0))))], 3⟩ : St)) (fun y17 => Fl.nx y17 = wn12) (fun y17 hy => ?_) (aw_block (aw_runs (fun x11 : Int × _root_.List Int => (⟨[(0, (e_s_api_Letter p0)), (4, (.int .i64 p4)), (5, (.int .u32 p5)), (13, (.own 1)), (14, (.int .i64 v3.1)), (16, (.own 2)), (62, (.int .i64 v10)), (63, (.int .i64 x11.1))], [(1, some (.arr 4 v1.length fun j => (e_api_Letter (v1.getD j z_api_Letter)))), (2, some (.arr 1 x11.2.length fun j => (.int .u8 (x11.2.getD j 0))))], 3⟩ : St)) hwn12 (cov_prune ⟨rfl, rfl, rfl, rfl, rfl, rfl, rfl, rfl, trivial⟩ ⟨rfl, rfl, trivial⟩ (Nat.le_of_ble_eq_true rfl)) (fun x11 st H hsn12 => ?_)))
    · have H := nx_of hy Hrn12
      refine nx_seq ?_
      obtain ⟨h18, H⟩ := ib_of H
      obtain ⟨h19, H⟩ := ib_of H
      obtain ⟨h20, H⟩ := ib_of H
      refine aw_draw (es := [_, _, _, _, _, _, _, _, _, _, _, _, _, _, _, _, _, _, _, _]) (mixed) ⟨Step.plain rfl (does_move (.tmp 13) (.own 1) trivial), ⟨⟨rfl, trivial⟩, trivial, rfl⟩, rfl,
        Step.plain rfl (does_move (.tmp 14) (.int .i64 v3.1) trivial), ⟨⟨rfl, trivial⟩, trivial, rfl⟩, rfl,
        Step.plain rfl (does_move (.tmp 13) (.own 1) trivial), ⟨⟨rfl, trivial⟩, trivial, rfl⟩, rfl,
        Step.plain rfl (does_move (.tmp 14) (.int .i64 v3.1) trivial), ⟨⟨rfl, trivial⟩, trivial, rfl⟩, rfl,
        Step.plain rfl (does_move (.tmp 16) (.own 2) trivial), ⟨⟨rfl, trivial⟩, trivial, rfl⟩, rfl,
        Step.plain rfl (does_b2so 48 9 5 84 2 y17 us48 ui5 us9), ⟨⟨rfl, trivial⟩, ⟨rfl, trivial⟩, rfl⟩, rfl,
        Step.plain rfl (does_move (.tmp 16) (.own 2) trivial), ⟨⟨rfl, trivial⟩, trivial, rfl⟩, rfl,
        Step.plain rfl (does_b2so 48 9 5 86 2 y17 us48 ui5 us9), ⟨⟨rfl, trivial⟩, ⟨rfl, trivial⟩, rfl⟩, rfl,
        Step.plain rfl (does_move (.tmp 0) (e_s_api_Letter p0) trivial), ⟨⟨rfl, trivial⟩, trivial, rfl⟩, rfl,
        Step.plain rfl (does_move (.tmp 14) (.int .i64 v3.1) trivial), ⟨⟨rfl, trivial⟩, trivial, rfl⟩, rfl,
        Step.plain rfl (does_indexAddrs 22 4 p0.length 88 (fun j => (e_api_Letter (p0.getD j z_api_Letter))) (.tmp 89) .i64 v3.1 el22 trivial h18.1 h18.2), ⟨⟨rfl, rfl, trivial⟩, trivial, rfl⟩, rfl,
        Step.plain rfl (does_fieldAddrc 27 2 2 90 (e_api_Letter (p0.getD v3.1.toNat z_api_Letter)) fl27_2 rfl (Nat.le_of_ble_eq_true rfl) rfl), ⟨⟨rfl, trivial⟩, trivial, rfl⟩, rfl,
        Step.plain rfl (does_loadc 9 91 (.str ((p0.getD v3.1.toNat z_api_Letter).Text)) ty9), ⟨⟨rfl, trivial⟩, trivial, rfl⟩, rfl,
        Step.plain rfl (does_eqStr true 9 9 (.tmp 87) (.tmp 92) (strOf y17) ((p0.getD v3.1.toNat z_api_Letter).Text) trivial trivial), ⟨⟨rfl, rfl, trivial⟩, trivial, rfl⟩, rfl,
        Step.plain rfl (does_indexAddro 22 4 v1.length 80 1 (fun j => (e_api_Letter (v1.getD j z_api_Letter))) (.tmp 81) .i64 v3.1 el22 trivial h19.1 h19.2), ⟨⟨rfl, rfl, trivial⟩, ⟨rfl, trivial⟩, rfl⟩, rfl,
        Step.plain rfl (does_fieldAddr 27 2 2 94 1 (v3.1.toNat * 4) [v3.1.toNat] (.arr 4 v1.length fun j => (e_api_Letter (v1.getD j z_api_Letter))) fl27_2), ⟨⟨rfl, trivial⟩, ⟨rfl, trivial⟩, rfl⟩, rfl,
        Step.plain rfl (does_store 9 95 (.tmp 85) 1 ((v3.1.toNat * 4) + 2) [v3.1.toNat, 2] (.arr 4 v1.length fun j => (e_api_Letter (v1.getD j z_api_Letter))) (.arr 4 (v1.set v3.1.toNat ({ v1.getD v3.1.toNat z_api_Letter with Text := (strOf y17) })).length fun j => (e_api_Letter ((v1.set v3.1.toNat ({ v1.getD v3.1.toNat z_api_Letter with Text := (strOf y17) })).getD j z_api_Letter))) (.str (strOf y17)) false trivial rfl ⟨(ixl h19), ⟨rfl, Nat.le_of_ble_eq_true rfl, trivial⟩⟩ rfl rfl (set_arr e_api_Letter z_api_Letter _ (ixl h19) (set_cons rfl (st_api_Letter_2 _ _))) ty9), ⟨⟨rfl, rfl, trivial⟩, ⟨rfl, trivial⟩, rfl⟩, rfl,
        Step.plain rfl (does_indexAddro 22 4 (v1.set v3.1.toNat ({ v1.getD v3.1.toNat z_api_Letter with Text := (strOf y17) })).length 82 1 (fun j => (e_api_Letter ((v1.set v3.1.toNat ({ v1.getD v3.1.toNat z_api_Letter with Text := (strOf y17) })).getD j z_api_Letter))) (.tmp 83) .i64 v3.1 el22 trivial h20.1 h20.2), ⟨⟨rfl, rfl, trivial⟩, ⟨rfl, trivial⟩, rfl⟩, rfl,
        Step.plain rfl (does_fieldAddr 27 3 3 96 1 (v3.1.toNat * 4) [v3.1.toNat] (.arr 4 (v1.set v3.1.toNat ({ v1.getD v3.1.toNat z_api_Letter with Text := (strOf y17) })).length fun j => (e_api_Letter ((v1.set v3.1.toNat ({ v1.getD v3.1.toNat z_api_Letter with Text := (strOf y17) })).getD j z_api_Letter))) fl27_3), ⟨⟨rfl, trivial⟩, ⟨rfl, trivial⟩, rfl⟩, rfl,
        Step.plain rfl (does_store 4 97 (.tmp 93) 1 ((v3.1.toNat * 4) + 3) [v3.1.toNat, 3] (.arr 4 (v1.set v3.1.toNat ({ v1.getD v3.1.toNat z_api_Letter with Text := (strOf y17) })).length fun j => (e_api_Letter ((v1.set v3.1.toNat ({ v1.getD v3.1.toNat z_api_Letter with Text := (strOf y17) })).getD j z_api_Letter))) (.arr 4 ((v1.set v3.1.toNat ({ v1.getD v3.1.toNat z_api_Letter with Text := (strOf y17) })).set v3.1.toNat ({ (v1.set v3.1.toNat ({ v1.getD v3.1.toNat z_api_Letter with Text := (strOf y17) })).getD v3.1.toNat z_api_Letter with Turned := ((strOf y17) != ((p0.getD v3.1.toNat z_api_Letter).Text)) })).length fun j => (e_api_Letter (((v1.set v3.1.toNat ({ v1.getD v3.1.toNat z_api_Letter with Text := (strOf y17) })).set v3.1.toNat ({ (v1.set v3.1.toNat ({ v1.getD v3.1.toNat z_api_Letter with Text := (strOf y17) })).getD v3.1.toNat z_api_Letter with Turned := ((strOf y17) != ((p0.getD v3.1.toNat z_api_Letter).Text)) })).getD j z_api_Letter))) (.bool ((strOf y17) != ((p0.getD v3.1.toNat z_api_Letter).Text))) false trivial rfl ⟨(ixl h20), ⟨rfl, Nat.le_of_ble_eq_true rfl, trivial⟩⟩ rfl rfl (set_arr e_api_Letter z_api_Letter _ (ixl h20) (set_cons rfl (st_api_Letter_3 _ _))) ty4), ⟨⟨rfl, rfl, trivial⟩, ⟨rfl, trivial⟩, rfl⟩, rfl, rfl⟩ rfl ?_
      obtain ⟨v21, hv21, H⟩ := lt_of H
      refine aw_cov (cov_prune (s1 := ⟨[(13, (.own 1))], [(1, some (.arr 4 v21.length fun j => (e_api_Letter (v21.getD j z_api_Letter))))], 3⟩) ⟨rfl, trivial⟩ ⟨(by subst hv21; rfl), trivial⟩ (Nat.le_refl _)) ?_
      refine aw_region (es := [_, _]) ⟨Step.plain rfl (does_move (.tmp 13) (.own 1) trivial), ⟨⟨rfl, trivial⟩, trivial, rfl⟩, rfl,
        Step.plain rfl (does_assign (.tmp 98) (.own 1) trivial), ⟨⟨rfl, trivial⟩, trivial, rfl⟩, rfl, rfl⟩ ?_
      refine aw_cov (cov_prune (s1 := ⟨[(12, (.own 1))], [(1, some (.arr 4 v21.length fun j => (e_api_Letter (v21.getD j z_api_Letter))))], 3⟩) ⟨rfl, trivial⟩ ⟨rfl, trivial⟩ (Nat.le_refl _)) ?_
      refine aw_ret ?_
      exact fun a w hr => ⟨_, [(.own 0)], reach_of hr (cov_to (s1 := ⟨[(12, (.own 0))], [(0, some (.arr 4 v21.length fun j => (e_api_Letter (v21.getD j z_api_Letter))))], 1⟩) (fun i => match i with | 0 => 1 | k => k) [] ⟨⟨_, rfl, .own 0 _ _ (Nat.le_of_ble_eq_true rfl) rfl rfl (Box.like_refl _)⟩, trivial⟩ ⟨⟨Nat.le_of_ble_eq_true rfl, _, _, rfl, rfl, boxTo_arr (fun _ => (d_api_Letter _))⟩, trivial⟩ rfl rfl), ⟨rfl, trivial⟩, by decide, by cases H; rfl, by cases H; exact ⟨rfl, trivial⟩, Nat.le_of_ble_eq_true rfl⟩
    · refine aw_region (es := [_]) ⟨Step.plain rfl (does_bin .lss 3 3 (.tmp 63) (.tmp 62) .i64 x11.1 v10 (.bool (decide (x11.1 < v10))) trivial trivial (bin_lss _ _ _ _)), ⟨⟨rfl, rfl, trivial⟩, trivial, rfl⟩, rfl, rfl⟩ ?_
      refine aw_cov (cov_prune (s1 := ⟨[(0, (e_s_api_Letter p0)), (4, (.int .i64 p4)), (5, (.int .u32 p5)), (13, (.own 1)), (14, (.int .i64 v3.1)), (16, (.own 2)), (62, (.int .i64 v10)), (63, (.int .i64 x11.1)), (64, (.bool (decide (x11.1 < v10))))], [(1, some (.arr 4 v1.length fun j => (e_api_Letter (v1.getD j z_api_Letter)))), (2, some (.arr 1 x11.2.length fun j => (.int .u8 (x11.2.getD j 0))))], 3⟩) ⟨rfl, rfl, rfl, rfl, rfl, rfl, rfl, rfl, rfl, trivial⟩ ⟨rfl, rfl, trivial⟩ (Nat.le_refl _)) ?_
      refine aw_seq ?_
      refine aw_cond rfl (fun hc => ?_) (fun hc => ?_)
      · replace H := ite_t hc H
        refine aw_skip ?_
        refine nx_seq ?_
        refine aw_seq ?_
        refine aw_block ?_
        refine aw_region (es := [_, _]) ⟨Step.plain rfl (does_move (.tmp 63) (.int .i64 x11.1) trivial), ⟨⟨rfl, trivial⟩, trivial, rfl⟩, rfl,
          Step.plain rfl (does_assign (.tmp 65) (.int .i64 x11.1) trivial), ⟨⟨rfl, trivial⟩, trivial, rfl⟩, rfl, rfl⟩ ?_
        refine aw_cov (cov_prune (s1 := ⟨[(0, (e_s_api_Letter p0)), (4, (.int .i64 p4)), (5, (.int .u32 p5)), (13, (.own 1)), (14, (.int .i64 v3.1)), (16, (.own 2)), (62, (.int .i64 v10)), (63, (.int .i64 x11.1)), (17, (.int .i64 x11.1))], [(1, some (.arr 4 v1.length fun j => (e_api_Letter (v1.getD j z_api_Letter)))), (2, some (.arr 1 x11.2.length fun j => (.int .u8 (x11.2.getD j 0))))], 3⟩) ⟨rfl, rfl, rfl, rfl, rfl, rfl, rfl, rfl, rfl, trivial⟩ ⟨rfl, rfl, trivial⟩ (Nat.le_refl _)) ?_
        obtain ⟨h13, H⟩ := ib_of H
        obtain ⟨h14, H⟩ := nn_of H
        obtain ⟨h15, H⟩ := ib_of H
        refine aw_draw1 (es := [_, _, _, _, _, _, _, _, _, _, _, _, _, _]) (mixed) ⟨Step.plain rfl (does_move (.tmp 16) (.own 2) trivial), ⟨⟨rfl, trivial⟩, trivial, rfl⟩, rfl,
          Step.plain rfl (does_move (.tmp 4) (.int .i64 p4) trivial), ⟨⟨rfl, trivial⟩, trivial, rfl⟩, rfl,
          Step.plain rfl (does_move (.tmp 17) (.int .i64 x11.1) trivial), ⟨⟨rfl, trivial⟩, trivial, rfl⟩, rfl,
          Step.plain rfl (does_bin .add 3 3 (.tmp 67) (.tmp 68) .i64 p4 x11.1 (.int .i64 (IntKind.i64.wrap (p4 + x11.1))) trivial trivial (bin_add _ _ _ _)), ⟨⟨rfl, rfl, trivial⟩, trivial, rfl⟩, rfl,
          Step.plain rfl (does_indexAddro 48 1 x11.2.length 66 2 (fun j => (.int .u8 (x11.2.getD j 0))) (.tmp 69) .i64 (IntKind.i64.wrap (p4 + x11.1)) el48 trivial h13.1 h13.2), ⟨⟨rfl, rfl, trivial⟩, ⟨rfl, trivial⟩, rfl⟩, rfl,
          Step.plain rfl (does_load 5 70 2 ((IntKind.i64.wrap (p4 + x11.1)).toNat * 1) [(IntKind.i64.wrap (p4 + x11.1)).toNat] (.arr 1 x11.2.length fun j => (.int .u8 (x11.2.getD j 0))) (.int .u8 (x11.2.getD ((IntKind.i64.wrap (p4 + x11.1)).toNat) 0)) ⟨(ixl h13), trivial⟩ rfl rfl ty5), ⟨⟨rfl, trivial⟩, ⟨rfl, trivial⟩, rfl⟩, rfl,
          Step.plain rfl (does_move (.tmp 5) (.int .u32 p5) trivial), ⟨⟨rfl, trivial⟩, trivial, rfl⟩, rfl,
          Step.plain rfl (does_move (.tmp 17) (.int .i64 x11.1) trivial), ⟨⟨rfl, trivial⟩, trivial, rfl⟩, rfl,
          Step.plain rfl (does_bin .mul 3 3 (.const (.int .i64 8)) (.tmp 73) .i64 8 x11.1 (.int .i64 (IntKind.i64.wrap (8 * x11.1))) (fun _ => rfl) trivial (bin_mul _ _ _ _)), ⟨⟨rfl, trivial⟩, trivial, rfl⟩, rfl,
          Step.plain rfl (does_shift .shr 23 3 (.tmp 72) (.tmp 74) .u32 .i64 p5 (IntKind.i64.wrap (8 * x11.1)) (.int .u32 (ishr .u32 p5 (IntKind.i64.wrap (8 * x11.1)))) trivial trivial (bin_shr _ _ _ _ _ h14)), ⟨⟨rfl, rfl, trivial⟩, trivial, rfl⟩, rfl,
          Step.plain rfl (does_convInt 23 5 (.tmp 75) .u32 .u8 (ishr .u32 p5 (IntKind.i64.wrap (8 * x11.1))) trivial rfl rfl), ⟨⟨rfl, trivial⟩, trivial, rfl⟩, rfl,
          Step.plain rfl (does_bin .xor 5 5 (.tmp 71) (.tmp 76) .u8 (x11.2.getD ((IntKind.i64.wrap (p4 + x11.1)).toNat) 0) (IntKind.u8.wrap ((ishr .u32 p5 (IntKind.i64.wrap (8 * x11.1))))) (.int .u8 (ixor .u8 (x11.2.getD ((IntKind.i64.wrap (p4 + x11.1)).toNat) 0) (IntKind.u8.wrap ((ishr .u32 p5 (IntKind.i64.wrap (8 * x11.1))))))) trivial trivial (bin_xor _ _ _ _)), ⟨⟨rfl, rfl, trivial⟩, trivial, rfl⟩, rfl,
          Step.plain rfl (does_indexAddro 48 1 x11.2.length 66 2 (fun j => (.int .u8 (x11.2.getD j 0))) (.tmp 69) .i64 (IntKind.i64.wrap (p4 + x11.1)) el48 trivial h15.1 h15.2), ⟨⟨rfl, rfl, trivial⟩, ⟨rfl, trivial⟩, rfl⟩, rfl,
          Step.plain rfl (does_store 5 78 (.tmp 77) 2 ((IntKind.i64.wrap (p4 + x11.1)).toNat * 1) [(IntKind.i64.wrap (p4 + x11.1)).toNat] (.arr 1 x11.2.length fun j => (.int .u8 (x11.2.getD j 0))) (.arr 1 (x11.2.set ((IntKind.i64.wrap (p4 + x11.1)).toNat) (ixor .u8 (x11.2.getD ((IntKind.i64.wrap (p4 + x11.1)).toNat) 0) (IntKind.u8.wrap ((ishr .u32 p5 (IntKind.i64.wrap (8 * x11.1))))))).length fun j => (.int .u8 ((x11.2.set ((IntKind.i64.wrap (p4 + x11.1)).toNat) (ixor .u8 (x11.2.getD ((IntKind.i64.wrap (p4 + x11.1)).toNat) 0) (IntKind.u8.wrap ((ishr .u32 p5 (IntKind.i64.wrap (8 * x11.1))))))).getD j 0))) (.int .u8 (ixor .u8 (x11.2.getD ((IntKind.i64.wrap (p4 + x11.1)).toNat) 0) (IntKind.u8.wrap ((ishr .u32 p5 (IntKind.i64.wrap (8 * x11.1))))))) false trivial rfl ⟨(ixl h15), trivial⟩ rfl rfl (set_arr (fun z => V.int .u8 z) 0 _ (ixl h15) rfl) ty5), ⟨⟨rfl, rfl, trivial⟩, ⟨rfl, trivial⟩, rfl⟩, rfl, rfl⟩ rfl ?_
        refine nx_blk ?_
        refine nx_seq ?_
        obtain ⟨v16, hv16, H⟩ := lt_of H
        refine aw_cov (cov_prune (s1 := ⟨[(0, (e_s_api_Letter p0)), (4, (.int .i64 p4)), (5, (.int .u32 p5)), (13, (.own 1)), (14, (.int .i64 v3.1)), (16, (.own 2)), (62, (.int .i64 v10)), (63, (.int .i64 x11.1))], [(1, some (.arr 4 v1.length fun j => (e_api_Letter (v1.getD j z_api_Letter)))), (2, some (.arr 1 v16.length fun j => (.int .u8 (v16.getD j 0))))], 3⟩) ⟨rfl, rfl, rfl, rfl, rfl, rfl, rfl, rfl, trivial⟩ ⟨rfl, (by subst hv16; rfl), trivial⟩ (Nat.le_refl _)) ?_
        refine aw_region1 (es := [_, _]) ⟨Step.plain rfl (does_bin .add 3 3 (.tmp 63) (.const (.int .i64 1)) .i64 x11.1 1 (.int .i64 (IntKind.i64.wrap (x11.1 + 1))) trivial (fun _ => rfl) (bin_add _ _ _ _)), ⟨⟨rfl, trivial⟩, trivial, rfl⟩, rfl,
          Step.plain rfl (does_move (.tmp 79) (.int .i64 (IntKind.i64.wrap (x11.1 + 1))) trivial), ⟨⟨rfl, trivial⟩, trivial, rfl⟩, rfl, rfl⟩ ?_
        exact nx_loop ((IntKind.i64.wrap (x11.1 + 1)), v16) H (cov_prune ⟨rfl, rfl, rfl, rfl, rfl, rfl, rfl, rfl, trivial⟩ ⟨rfl, rfl, trivial⟩ (Nat.le_of_ble_eq_true rfl))
      · replace H := ite_f hc H
        refine aw_exit ?_
        refine ex_then ?_
        refine ex_then ?_
        refine ex_here ?_
        exact nx_ljoin (x11.2) H hsn12 (cov_prune ⟨rfl, rfl, rfl, rfl, trivial⟩ ⟨rfl, rfl, trivial⟩ (Nat.le_of_ble_eq_true rfl))

theorem lossy_Turn_data (p0 : (_root_.List api_Letter)) (p1 : Int) (p2 : Int) (p3 : Int) (p4 : Int) (p5 : Int) (r : (_root_.List api_Letter)) (H : lossy_Turn p0 p1 p2 p3 p4 p5 = some r) : FSpec Try.prog 13 [(e_s_api_Letter p0), (.int .i64 p1), (.int .i64 p2), (.int .i64 p3), (.int .i64 p4), (.int .u32 p5)] (e_s_api_Letter r) :=
  FSpecO.toData (fz := [0]) (lossy_Turn_spec p0 p1 p2 p3 p4 p5 r H) (d_s_api_Letter r) (.frz 0 _ _ _ rfl (fun _ => (d_api_Letter _)) (by decide))
end Go.Proofs.Ytdaeajonhfkpaaa
