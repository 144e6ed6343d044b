/- Printed by gen.py. Conditions: none. -/
import Derived.Test.YtdaeajonhfkpaaaSp2
import Derived.KernelRfl
set_option linter.unusedVariables false
set_option maxRecDepth 100000
namespace Go.Proofs.Ytdaeajonhfkpaaa
open Go.Eng
set_option maxHeartbeats 1600000
theorem congressref14_Put_spec (p0 : (_root_.List api_Letter)) (p1 : (_root_.List api_Letter)) (r : (_root_.List api_Letter)) (H : congressref14_Put p0 p1 = some r) : FSpecO Try.prog 17 [(e_s_api_Letter p0), (e_s_api_Letter p1)] [] 0 (.own 0) [(0, some (.arr 4 r.length fun j => (e_api_Letter (r.getD j z_api_Letter))))] 1 := by
  refine specO_of (fn := Try.f17) (args := [(e_s_api_Letter p0), (e_s_api_Letter p1)]) Try.func17 rfl (Nat.le_of_ble_eq_true rfl) ?_
  rintro ⟨G, w0, W, S, Sp⟩ hG
  cases hG
  unfold congressref14_Put at H
  refine aw_region (es := [_]) ⟨Step.plain rfl (does_nil false 0 4 (fun j => (e_api_Letter (([] : _root_.List api_Letter).getD j z_api_Letter)))), ⟨trivial, trivial, rfl⟩, rfl, rfl⟩ ?_
  refine aw_cov (cov_prune (s1 := ⟨[(0, (e_s_api_Letter p0)), (1, (e_s_api_Letter p1))], [], 1⟩) ⟨rfl, rfl, trivial⟩ trivial (Nat.le_refl _)) ?_
  obtain ⟨h1, H⟩ := fit_of H
  refine aw_region (es := [_, _, _, _]) ⟨Step.plain rfl (does_buildOwn 22 0 4 1 (e_api_Letter z_api_Letter) (fun j => (e_api_Letter (([] : _root_.List api_Letter).getD j z_api_Letter))) #[] [] [] rfl so22 (by decide) trivial trivial (fun j h => match j, h with  | k + 0, h => absurd h (by omega))), ⟨trivial, trivial, rfl⟩, rfl,
    Step.plain rfl (does_move (.tmp 0) (e_s_api_Letter p0) trivial), ⟨⟨rfl, trivial⟩, trivial, rfl⟩, rfl,
    Step.plain rfl (does_appendL e_api_Letter z_api_Letter ([] : _root_.List api_Letter) p0 22 4 40 1 2 7 8 ap22 h1), ⟨⟨rfl, rfl, trivial⟩, ⟨rfl, trivial⟩, rfl⟩, rfl,
    Step.plain rfl (does_assign (.tmp 9) (.own 2) trivial), ⟨⟨rfl, trivial⟩, trivial, rfl⟩, rfl, rfl⟩ ?_
  refine aw_cov (cov_prune (s1 := ⟨[(1, (e_s_api_Letter p1)), (5, (.own 2))], [(2, some (.arr 4 (([] : _root_.List api_Letter) ++ p0).length fun j => (e_api_Letter ((([] : _root_.List api_Letter) ++ p0).getD j z_api_Letter))))], 3⟩) ⟨rfl, rfl, trivial⟩ ⟨rfl, trivial⟩ (Nat.le_refl _)) ?_
  refine aw_seq ?_
  refine aw_region (es := [_]) ⟨Step.plain rfl (does_assign (.const (.int .i64 0)) (.int .i64 0) (fun _ => rfl)), ⟨trivial, trivial, rfl⟩, rfl, rfl⟩ ?_
  refine aw_cov (cov_prune (s1 := ⟨[(1, (e_s_api_Letter p1)), (5, (.own 2)), (6, (.int .i64 0))], [(2, some (.arr 4 (([] : _root_.List api_Letter) ++ p0).length fun j => (e_api_Letter ((([] : _root_.List api_Letter) ++ p0).getD j z_api_Letter))))], 3⟩) ⟨rfl, rfl, rfl, trivial⟩ ⟨rfl, trivial⟩ (Nat.le_refl _)) ?_
  obtain ⟨wn3, hwn3, Hrn3⟩ := bnd H
  refine aw_meet (fun y8 : _root_.List api_Letter => (⟨[(5, (.own 2))], [(2, some (.arr 4 y8.length fun j => (e_api_Letter (y8.getD j z_api_Letter))))], 3⟩ : St)) (fun y8 => Fl.nx y8 = wn3) (fun y8 hy => ?_) (aw_block (aw_runs (fun x2 : Int × _root_.List api_Letter => (⟨[(1, (e_s_api_Letter p1)), (5, (.own 2)), (6, (.int .i64 x2.1))], [(2, some (.arr 4 x2.2.length fun j => (e_api_Letter (x2.2.getD j z_api_Letter))))], 3⟩ : St)) hwn3 (cov_prune ⟨rfl, rfl, rfl, trivial⟩ ⟨rfl, trivial⟩ (Nat.le_of_ble_eq_true rfl)) (fun x2 st H hsn3 => ?_)))
  · have H := nx_of hy Hrn3
    refine nx_seq ?_
    refine aw_region (es := [_, _]) ⟨Step.plain rfl (does_move (.tmp 5) (.own 2) trivial), ⟨⟨rfl, trivial⟩, trivial, rfl⟩, rfl,
      Step.plain rfl (does_assign (.tmp 26) (.own 2) trivial), ⟨⟨rfl, trivial⟩, trivial, rfl⟩, rfl, rfl⟩ ?_
    refine aw_cov (cov_prune (s1 := ⟨[(4, (.own 2))], [(2, some (.arr 4 y8.length fun j => (e_api_Letter (y8.getD j z_api_Letter))))], 3⟩) ⟨rfl, trivial⟩ ⟨rfl, trivial⟩ (Nat.le_refl _)) ?_
    refine aw_ret ?_
    exact fun a w hr => ⟨_, [(.own 0)], reach_of hr (cov_to (s1 := ⟨[(4, (.own 0))], [(0, some (.arr 4 y8.length fun j => (e_api_Letter (y8.getD j z_api_Letter))))], 1⟩) (fun i => match i with | 0 => 2 | k => k) [] ⟨⟨_, rfl, .own 0 _ _ (Nat.le_of_ble_eq_true rfl) rfl rfl (Box.like_refl _)⟩, trivial⟩ ⟨⟨Nat.le_of_ble_eq_true rfl, _, _, rfl, rfl, boxTo_arr (fun _ => (d_api_Letter _))⟩, trivial⟩ rfl rfl), ⟨rfl, trivial⟩, by decide, by cases H; rfl, by cases H; exact ⟨rfl, trivial⟩, Nat.le_of_ble_eq_true rfl⟩
  · refine aw_seq ?_
    refine aw_region (es := [_, _, _, _]) ⟨Step.plain rfl (does_move (.tmp 6) (.int .i64 x2.1) trivial), ⟨⟨rfl, trivial⟩, trivial, rfl⟩, rfl,
      Step.plain rfl (does_move (.tmp 1) (e_s_api_Letter p1) trivial), ⟨⟨rfl, trivial⟩, trivial, rfl⟩, rfl,
      Step.plain rfl (does_lens 22 4 p1.length 11 (fun j => (e_api_Letter (p1.getD j z_api_Letter))) el22), ⟨⟨rfl, trivial⟩, trivial, rfl⟩, rfl,
      Step.plain rfl (does_bin .lss 3 3 (.tmp 10) (.tmp 12) .i64 x2.1 (p1.length : Int) (.bool (decide (x2.1 < (p1.length : Int)))) trivial trivial (bin_lss _ _ _ _)), ⟨⟨rfl, rfl, trivial⟩, trivial, rfl⟩, rfl, rfl⟩ ?_
    refine aw_cov (cov_prune (s1 := ⟨[(1, (e_s_api_Letter p1)), (5, (.own 2)), (6, (.int .i64 x2.1)), (13, (.bool (decide (x2.1 < (p1.length : Int)))))], [(2, some (.arr 4 x2.2.length fun j => (e_api_Letter (x2.2.getD j z_api_Letter))))], 3⟩) ⟨rfl, rfl, rfl, rfl, trivial⟩ ⟨rfl, trivial⟩ (Nat.le_refl _)) ?_
    refine aw_cond rfl (fun hc => ?_) (fun hc => ?_)
    · replace H := ite_t hc H
      refine aw_skip ?_
      refine nx_seq ?_
      refine aw_seq ?_
      refine aw_jn (fun x7 : _root_.List api_Letter => (⟨[(1, (e_s_api_Letter p1)), (5, (.own 2)), (6, (.int .i64 x2.1))], [(2, some (.arr 4 x7.length fun j => (e_api_Letter (x7.getD j z_api_Letter))))], 4⟩ : St)) H (fun x7 H => ?_) (fun j4 H => ?_)
      · refine nx_seq ?_
        refine aw_region1 (es := [_, _, _]) ⟨Step.plain rfl (does_move (.tmp 6) (.int .i64 x2.1) trivial), ⟨⟨rfl, trivial⟩, trivial, rfl⟩, rfl,
          Step.plain rfl (does_bin .add 3 3 (.tmp 14) (.const (.int .i64 1)) .i64 x2.1 1 (.int .i64 (IntKind.i64.wrap (x2.1 + 1))) trivial (fun _ => rfl) (bin_add _ _ _ _)), ⟨⟨rfl, trivial⟩, trivial, rfl⟩, rfl,
          Step.plain rfl (does_assign (.tmp 15) (.int .i64 (IntKind.i64.wrap (x2.1 + 1))) trivial), ⟨⟨rfl, trivial⟩, trivial, rfl⟩, rfl, rfl⟩ ?_
        exact nx_loop ((IntKind.i64.wrap (x2.1 + 1)), x7) H (cov_of (fun i => match i with | 2 => 2 | k => k) ⟨⟨_, rfl, ⟨rfl, (d_s_api_Letter _).plain⟩⟩, ⟨_, rfl, ⟨rfl, Nat.le_of_ble_eq_true rfl⟩⟩, ⟨_, rfl, ⟨rfl, trivial⟩⟩, trivial⟩ ⟨⟨Nat.le_of_ble_eq_true rfl, _, _, rfl, rfl, ⟨rfl, rfl, fun _ => .inl ⟨rfl, (d_api_Letter _).plain⟩⟩⟩, trivial⟩ rfl)
      · refine aw_block ?_
        refine aw_region (es := [_, _, _]) ⟨Step.plain rfl (does_move (.tmp 5) (.own 2) trivial), ⟨⟨rfl, trivial⟩, trivial, rfl⟩, rfl,
          Step.plain rfl (does_leno 22 4 x2.2.length 16 2 (fun j => (e_api_Letter (x2.2.getD j z_api_Letter))) el22), ⟨⟨rfl, trivial⟩, ⟨rfl, trivial⟩, rfl⟩, rfl,
          Step.plain rfl (does_bin .lss 3 3 (.tmp 17) (.const (.int .i64 4096)) .i64 (x2.2.length : Int) 4096 (.bool (decide ((x2.2.length : Int) < 4096))) trivial (fun _ => rfl) (bin_lss _ _ _ _)), ⟨⟨rfl, trivial⟩, trivial, rfl⟩, rfl, rfl⟩ ?_
        refine aw_cov (cov_prune (s1 := ⟨[(1, (e_s_api_Letter p1)), (5, (.own 2)), (6, (.int .i64 x2.1)), (18, (.bool (decide ((x2.2.length : Int) < 4096))))], [(2, some (.arr 4 x2.2.length fun j => (e_api_Letter (x2.2.getD j z_api_Letter))))], 3⟩) ⟨rfl, rfl, rfl, rfl, trivial⟩ ⟨rfl, trivial⟩ (Nat.le_refl _)) ?_
        refine aw_cond rfl (fun hc => ?_) (fun hc => ?_)
        · replace H := ite_t hc H
          obtain ⟨h5, H⟩ := ib_of H
          obtain ⟨h6, H⟩ := fit_of H
          refine aw_region1 (es := [_, _, _, _, _, _, _, _]) ⟨Step.plain rfl (does_move (.tmp 5) (.own 2) trivial), ⟨⟨rfl, trivial⟩, trivial, rfl⟩, rfl,
            Step.plain rfl (does_move (.tmp 1) (e_s_api_Letter p1) trivial), ⟨⟨rfl, trivial⟩, trivial, rfl⟩, rfl,
            Step.plain rfl (does_move (.tmp 6) (.int .i64 x2.1) trivial), ⟨⟨rfl, trivial⟩, trivial, rfl⟩, rfl,
            Step.plain rfl (does_indexAddrs 22 4 p1.length 20 (fun j => (e_api_Letter (p1.getD j z_api_Letter))) (.tmp 21) .i64 x2.1 el22 trivial h5.1 h5.2), ⟨⟨rfl, rfl, trivial⟩, trivial, rfl⟩, rfl,
            Step.plain rfl (does_loadc 27 22 (e_api_Letter (p1.getD x2.1.toNat z_api_Letter)) ty27), ⟨⟨rfl, trivial⟩, trivial, rfl⟩, rfl,
            Step.plain rfl (does_buildSl 22 1 4 (e_api_Letter z_api_Letter) (fun j => (e_api_Letter (([p1.getD x2.1.toNat z_api_Letter] : _root_.List api_Letter).getD j z_api_Letter))) #[(0, (.tmp 23))] [(0, (.tmp 23))] [(0, (e_api_Letter (p1.getD x2.1.toNat z_api_Letter)))] rfl so22 (by decide) ⟨⟨rfl, trivial⟩, trivial⟩ ⟨⟨Nat.le_of_ble_eq_true rfl, rfl, rfl⟩, trivial⟩ (fun j h => match j, h with | 0, _ => rfl | k + 1, h => absurd h (by omega))), ⟨⟨rfl, trivial⟩, trivial, rfl⟩, rfl,
            Step.plain rfl (does_appendL e_api_Letter z_api_Letter x2.2 ([p1.getD x2.1.toNat z_api_Letter] : _root_.List api_Letter) 22 4 40 2 3 19 24 ap22 h6), ⟨⟨rfl, rfl, trivial⟩, ⟨rfl, trivial⟩, rfl⟩, rfl,
            Step.plain rfl (does_assign (.tmp 25) (.own 3) trivial), ⟨⟨rfl, trivial⟩, trivial, rfl⟩, rfl, rfl⟩ ?_
          refine nx_blk ?_
          exact nx_join ((x2.2 ++ ([p1.getD x2.1.toNat z_api_Letter] : _root_.List api_Letter))) H (cov_of (fun i => match i with | 2 => 3 | k => k) ⟨⟨_, rfl, ⟨rfl, (d_s_api_Letter _).plain⟩⟩, ⟨_, rfl, ⟨rfl, Nat.le_of_ble_eq_true rfl⟩⟩, ⟨_, rfl, ⟨rfl, trivial⟩⟩, trivial⟩ ⟨⟨Nat.le_of_ble_eq_true rfl, _, _, rfl, rfl, ⟨rfl, rfl, fun _ => .inl ⟨rfl, (d_api_Letter _).plain⟩⟩⟩, trivial⟩ rfl)
        · replace H := ite_f hc H
          refine aw_skip ?_
          refine nx_blk ?_
          exact nx_join (x2.2) H (cov_of (fun i => match i with | 2 => 2 | k => k) ⟨⟨_, rfl, ⟨rfl, (d_s_api_Letter _).plain⟩⟩, ⟨_, rfl, ⟨rfl, Nat.le_of_ble_eq_true rfl⟩⟩, ⟨_, rfl, ⟨rfl, trivial⟩⟩, trivial⟩ ⟨⟨Nat.le_of_ble_eq_true rfl, _, _, rfl, rfl, ⟨rfl, rfl, fun _ => .inl ⟨rfl, (d_api_Letter _).plain⟩⟩⟩, trivial⟩ rfl)
    · replace H := ite_f hc H
      refine aw_exit ?_
      refine ex_then ?_
      refine ex_then ?_
      refine ex_here ?_
      exact nx_ljoin (x2.2) H hsn3 (cov_prune ⟨rfl, trivial⟩ ⟨rfl, trivial⟩ (Nat.le_of_ble_eq_true rfl))

theorem congressref14_Put_data (p0 : (_root_.List api_Letter)) (p1 : (_root_.List api_Letter)) (r : (_root_.List api_Letter)) (H : congressref14_Put p0 p1 = some r) : FSpec Try.prog 17 [(e_s_api_Letter p0), (e_s_api_Letter p1)] (e_s_api_Letter r) :=
  FSpecO.toData (fz := [0]) (congressref14_Put_spec p0 p1 r H) (d_s_api_Letter r) (.frz 0 _ _ _ rfl (fun _ => (d_api_Letter _)) (by decide))

theorem congresslaw14_LossyTells_spec (p0 : (_root_.List api_Letter)) (p1 : (_root_.List api_Letter)) (p2 : congresslaw14_Pick) (r : Bool) (H : congresslaw14_LossyTells p0 p1 p2 = some r) : FSpec Try.prog 3 [(e_s_api_Letter p0), (e_s_api_Letter p1), (e_congresslaw14_Pick p2)] (.bool r) := by
  refine spec_of (fn := Try.f3) (args := [(e_s_api_Letter p0), (e_s_api_Letter p1), (e_congresslaw14_Pick p2)]) Try.func3 rfl (Nat.le_of_ble_eq_true rfl) ?_
  rintro ⟨G, w0, W, S, Sp⟩ hG
  cases hG
  unfold congresslaw14_LossyTells at H
  refine aw_region (es := [_, _]) ⟨Step.plain rfl (does_box 25 (.tmp 2) 0 (e_congresslaw14_Pick p2) trivial rfl), ⟨⟨rfl, trivial⟩, trivial, rfl⟩, rfl,
    Step.plain rfl (does_assign (.const (.bool false)) (.bool false) (fun _ => rfl)), ⟨trivial, trivial, rfl⟩, rfl, rfl⟩ ?_
  refine aw_cov (cov_prune (s1 := ⟨[(0, (e_s_api_Letter p0)), (1, (e_s_api_Letter p1)), (5, (.ptr 0 0 []))], [(0, some (.var (e_congresslaw14_Pick p2)))], 1⟩) ⟨rfl, rfl, rfl, trivial⟩ ⟨rfl, trivial⟩ (Nat.le_refl _)) ?_
  obtain ⟨v1, h2, H⟩ := bnd H
  refine aw_region (es := [_, _, _, _, _, _, _, _, _, _, _, _, _, _, _, _]) ⟨Step.plain rfl (does_move (.tmp 0) (e_s_api_Letter p0) trivial), ⟨⟨rfl, trivial⟩, trivial, rfl⟩, rfl,
    Step.plain rfl (does_fieldAddr 25 0 0 5 0 0 [] (.var (e_congresslaw14_Pick p2)) fl25_0), ⟨⟨rfl, trivial⟩, ⟨rfl, trivial⟩, rfl⟩, rfl,
    Step.plain rfl (does_load 3 20 0 (0 + 0) [0] (.var (e_congresslaw14_Pick p2)) (.int .i64 p2.From) ⟨rfl, Nat.le_of_ble_eq_true rfl, trivial⟩ rfl rfl ty3), ⟨⟨rfl, trivial⟩, ⟨rfl, trivial⟩, rfl⟩, rfl,
    Step.plain rfl (does_fieldAddr 25 1 1 5 0 0 [] (.var (e_congresslaw14_Pick p2)) fl25_1), ⟨⟨rfl, trivial⟩, ⟨rfl, trivial⟩, rfl⟩, rfl,
    Step.plain rfl (does_load 3 22 0 (0 + 1) [1] (.var (e_congresslaw14_Pick p2)) (.int .i64 p2.To) ⟨rfl, Nat.le_of_ble_eq_true rfl, trivial⟩ rfl rfl ty3), ⟨⟨rfl, trivial⟩, ⟨rfl, trivial⟩, rfl⟩, rfl,
    Step.plain rfl (does_fieldAddr 25 2 2 5 0 0 [] (.var (e_congresslaw14_Pick p2)) fl25_2), ⟨⟨rfl, trivial⟩, ⟨rfl, trivial⟩, rfl⟩, rfl,
    Step.plain rfl (does_load 3 24 0 (0 + 2) [2] (.var (e_congresslaw14_Pick p2)) (.int .i64 p2.Index) ⟨rfl, Nat.le_of_ble_eq_true rfl, trivial⟩ rfl rfl ty3), ⟨⟨rfl, trivial⟩, ⟨rfl, trivial⟩, rfl⟩, rfl,
    Step.plain rfl (does_callO 8 0 (fun _ => .any) (.func 8) [(.tmp 19), (.tmp 21), (.tmp 23), (.tmp 25)] [(e_s_api_Letter p0), (.int .i64 p2.From), (.int .i64 p2.To), (.int .i64 p2.Index)] [] [] true [(e_s_api_Letter p0), (.int .i64 p2.From), (.int .i64 p2.To), (.int .i64 p2.Index)] _ (resV [(.own 1), (e_api_Letter v1.2.1), (.bool v1.2.2)]) _ 1 2 _ _ rfl fo8 rfl ⟨trivial, trivial, trivial, trivial, trivial⟩ ⟨.ro _ _ (.data _ (d_s_api_Letter p0)), .ro _ _ (.data _ trivial), .ro _ _ (.data _ trivial), .ro _ _ (.data _ trivial), trivial⟩ (lossy_Take_spec p0 p2.From p2.To p2.Index _ h2) rfl (by simp) rfl trivial ⟨⟨Nat.le_of_ble_eq_true rfl, _, rfl, fun _ => (f_api_Letter _)⟩, trivial⟩ (.tup _ _ _ (fun j => match j with | 0 => .own 0 (Nat.le_of_ble_eq_true rfl) | 1 => .data _ ((f_api_Letter v1.2.1)) | 2 => .data _ (trivial) | _ + 3 => .data _ trivial))), ⟨⟨rfl, rfl, rfl, rfl, trivial⟩, trivial, rfl⟩, rfl,
    Step.plain rfl (does_move (.tmp 26) (resV [(.own 1), (e_api_Letter v1.2.1), (.bool v1.2.2)]) trivial), ⟨⟨rfl, trivial⟩, trivial, rfl⟩, rfl,
    Step.plain rfl (does_extract 18 0 3 (fun j => [(.own 1), (e_api_Letter v1.2.1), (.bool v1.2.2)].getD j (.bool false)) (Nat.le_of_ble_eq_true rfl)), ⟨⟨rfl, trivial⟩, trivial, rfl⟩, rfl,
    Step.plain rfl (does_extract 18 1 3 (fun j => [(.own 1), (e_api_Letter v1.2.1), (.bool v1.2.2)].getD j (.bool false)) (Nat.le_of_ble_eq_true rfl)), ⟨⟨rfl, trivial⟩, trivial, rfl⟩, rfl,
    Step.plain rfl (does_extract 18 2 3 (fun j => [(.own 1), (e_api_Letter v1.2.1), (.bool v1.2.2)].getD j (.bool false)) (Nat.le_of_ble_eq_true rfl)), ⟨⟨rfl, trivial⟩, trivial, rfl⟩, rfl,
    Step.plain rfl (does_alloc 27 3 (e_api_Letter z_api_Letter) zr27), ⟨trivial, trivial, rfl⟩, rfl,
    Step.plain rfl (does_assign (.tmp 27) (.own 1) trivial), ⟨⟨rfl, trivial⟩, trivial, rfl⟩, rfl,
    Step.plain rfl (does_store 27 8 (.tmp 28) 3 0 [] (.var (e_api_Letter z_api_Letter)) (.var (e_api_Letter v1.2.1)) (e_api_Letter v1.2.1) true trivial rfl trivial rfl rfl rfl ty27), ⟨⟨rfl, rfl, trivial⟩, ⟨rfl, trivial⟩, rfl⟩, rfl,
    Step.plain rfl (does_assign (.tmp 29) (.bool v1.2.2) trivial), ⟨⟨rfl, trivial⟩, trivial, rfl⟩, rfl, rfl⟩ ?_
  refine aw_cov (cov_prune (s1 := ⟨[(0, (e_s_api_Letter p0)), (1, (e_s_api_Letter p1)), (5, (.ptr 0 0 [])), (8, (.ptr 3 0 [])), (7, (.own 1)), (9, (.bool v1.2.2))], [(0, some (.var (e_congresslaw14_Pick p2))), (1, some (.arr 4 v1.1.length fun j => (e_api_Letter (v1.1.getD j z_api_Letter)))), (3, some (.var (e_api_Letter v1.2.1)))], 4⟩) ⟨rfl, rfl, rfl, rfl, rfl, rfl, trivial⟩ ⟨rfl, rfl, rfl, trivial⟩ (Nat.le_refl _)) ?_
  obtain ⟨v3, h4, H⟩ := bnd H
  refine aw_region (es := [_, _, _, _, _, _, _, _, _, _, _, _, _, _, _, _]) ⟨Step.plain rfl (does_move (.tmp 0) (e_s_api_Letter p0) trivial), ⟨⟨rfl, trivial⟩, trivial, rfl⟩, rfl,
    Step.plain rfl (does_fieldAddr 25 0 0 5 0 0 [] (.var (e_congresslaw14_Pick p2)) fl25_0), ⟨⟨rfl, trivial⟩, ⟨rfl, trivial⟩, rfl⟩, rfl,
    Step.plain rfl (does_load 3 32 0 (0 + 0) [0] (.var (e_congresslaw14_Pick p2)) (.int .i64 p2.From) ⟨rfl, Nat.le_of_ble_eq_true rfl, trivial⟩ rfl rfl ty3), ⟨⟨rfl, trivial⟩, ⟨rfl, trivial⟩, rfl⟩, rfl,
    Step.plain rfl (does_fieldAddr 25 1 1 5 0 0 [] (.var (e_congresslaw14_Pick p2)) fl25_1), ⟨⟨rfl, trivial⟩, ⟨rfl, trivial⟩, rfl⟩, rfl,
    Step.plain rfl (does_load 3 34 0 (0 + 1) [1] (.var (e_congresslaw14_Pick p2)) (.int .i64 p2.To) ⟨rfl, Nat.le_of_ble_eq_true rfl, trivial⟩ rfl rfl ty3), ⟨⟨rfl, trivial⟩, ⟨rfl, trivial⟩, rfl⟩, rfl,
    Step.plain rfl (does_fieldAddr 25 2 2 5 0 0 [] (.var (e_congresslaw14_Pick p2)) fl25_2), ⟨⟨rfl, trivial⟩, ⟨rfl, trivial⟩, rfl⟩, rfl,
    Step.plain rfl (does_load 3 36 0 (0 + 2) [2] (.var (e_congresslaw14_Pick p2)) (.int .i64 p2.Index) ⟨rfl, Nat.le_of_ble_eq_true rfl, trivial⟩ rfl rfl ty3), ⟨⟨rfl, trivial⟩, ⟨rfl, trivial⟩, rfl⟩, rfl,
    Step.plain rfl (does_call 9 0 (fun _ => .any) (.func 9) [(.tmp 31), (.tmp 33), (.tmp 35), (.tmp 37)] [(e_s_api_Letter p0), (.int .i64 p2.From), (.int .i64 p2.To), (.int .i64 p2.Index)] [] false [(e_s_api_Letter p0), (.int .i64 p2.From), (.int .i64 p2.To), (.int .i64 p2.Index)] (resV [(e_s_api_Letter v3.1), (e_api_Letter v3.2.1), (.bool v3.2.2)]) _ _ rfl fo9 rfl ⟨trivial, trivial, trivial, trivial, trivial⟩ ⟨.data _ (d_s_api_Letter p0), .data _ trivial, .data _ trivial, .data _ trivial, trivial⟩ (congressref14_Take_spec p0 p2.From p2.To p2.Index _ h4) (res_data3 (d_s_api_Letter v3.1) (d_api_Letter v3.2.1) trivial)), ⟨⟨rfl, rfl, rfl, rfl, trivial⟩, trivial, rfl⟩, rfl,
    Step.plain rfl (does_move (.tmp 38) (resV [(e_s_api_Letter v3.1), (e_api_Letter v3.2.1), (.bool v3.2.2)]) trivial), ⟨⟨rfl, trivial⟩, trivial, rfl⟩, rfl,
    Step.plain rfl (does_extract 30 0 3 (fun j => [(e_s_api_Letter v3.1), (e_api_Letter v3.2.1), (.bool v3.2.2)].getD j (.bool false)) (Nat.le_of_ble_eq_true rfl)), ⟨⟨rfl, trivial⟩, trivial, rfl⟩, rfl,
    Step.plain rfl (does_extract 30 1 3 (fun j => [(e_s_api_Letter v3.1), (e_api_Letter v3.2.1), (.bool v3.2.2)].getD j (.bool false)) (Nat.le_of_ble_eq_true rfl)), ⟨⟨rfl, trivial⟩, trivial, rfl⟩, rfl,
    Step.plain rfl (does_extract 30 2 3 (fun j => [(e_s_api_Letter v3.1), (e_api_Letter v3.2.1), (.bool v3.2.2)].getD j (.bool false)) (Nat.le_of_ble_eq_true rfl)), ⟨⟨rfl, trivial⟩, trivial, rfl⟩, rfl,
    Step.plain rfl (does_alloc 27 4 (e_api_Letter z_api_Letter) zr27), ⟨trivial, trivial, rfl⟩, rfl,
    Step.plain rfl (does_assign (.tmp 39) (e_s_api_Letter v3.1) trivial), ⟨⟨rfl, trivial⟩, trivial, rfl⟩, rfl,
    Step.plain rfl (does_store 27 11 (.tmp 40) 4 0 [] (.var (e_api_Letter z_api_Letter)) (.var (e_api_Letter v3.2.1)) (e_api_Letter v3.2.1) true trivial rfl trivial rfl rfl rfl ty27), ⟨⟨rfl, rfl, trivial⟩, ⟨rfl, trivial⟩, rfl⟩, rfl,
    Step.plain rfl (does_assign (.tmp 41) (.bool v3.2.2) trivial), ⟨⟨rfl, trivial⟩, trivial, rfl⟩, rfl, rfl⟩ ?_
  refine aw_cov (cov_prune (s1 := ⟨[(0, (e_s_api_Letter p0)), (1, (e_s_api_Letter p1)), (5, (.ptr 0 0 [])), (8, (.ptr 3 0 [])), (7, (.own 1)), (9, (.bool v1.2.2)), (11, (.ptr 4 0 [])), (10, (e_s_api_Letter v3.1)), (12, (.bool v3.2.2))], [(0, some (.var (e_congresslaw14_Pick p2))), (1, some (.arr 4 v1.1.length fun j => (e_api_Letter (v1.1.getD j z_api_Letter)))), (3, some (.var (e_api_Letter v1.2.1))), (4, some (.var (e_api_Letter v3.2.1)))], 5⟩) ⟨rfl, rfl, rfl, rfl, rfl, rfl, rfl, rfl, rfl, trivial⟩ ⟨rfl, rfl, rfl, rfl, trivial⟩ (Nat.le_refl _)) ?_
  obtain ⟨v5, h6, H⟩ := bnd H
  refine aw_region (es := [_, _, _, _, _, _, _, _, _, _, _, _, _]) ⟨Step.plain rfl (does_move (.tmp 0) (e_s_api_Letter p0) trivial), ⟨⟨rfl, trivial⟩, trivial, rfl⟩, rfl,
    Step.plain rfl (does_fieldAddr 25 0 0 5 0 0 [] (.var (e_congresslaw14_Pick p2)) fl25_0), ⟨⟨rfl, trivial⟩, ⟨rfl, trivial⟩, rfl⟩, rfl,
    Step.plain rfl (does_load 3 44 0 (0 + 0) [0] (.var (e_congresslaw14_Pick p2)) (.int .i64 p2.From) ⟨rfl, Nat.le_of_ble_eq_true rfl, trivial⟩ rfl rfl ty3), ⟨⟨rfl, trivial⟩, ⟨rfl, trivial⟩, rfl⟩, rfl,
    Step.plain rfl (does_fieldAddr 25 1 1 5 0 0 [] (.var (e_congresslaw14_Pick p2)) fl25_1), ⟨⟨rfl, trivial⟩, ⟨rfl, trivial⟩, rfl⟩, rfl,
    Step.plain rfl (does_load 3 46 0 (0 + 1) [1] (.var (e_congresslaw14_Pick p2)) (.int .i64 p2.To) ⟨rfl, Nat.le_of_ble_eq_true rfl, trivial⟩ rfl rfl ty3), ⟨⟨rfl, trivial⟩, ⟨rfl, trivial⟩, rfl⟩, rfl,
    Step.plain rfl (does_fieldAddr 25 2 2 5 0 0 [] (.var (e_congresslaw14_Pick p2)) fl25_2), ⟨⟨rfl, trivial⟩, ⟨rfl, trivial⟩, rfl⟩, rfl,
    Step.plain rfl (does_load 3 48 0 (0 + 2) [2] (.var (e_congresslaw14_Pick p2)) (.int .i64 p2.Index) ⟨rfl, Nat.le_of_ble_eq_true rfl, trivial⟩ rfl rfl ty3), ⟨⟨rfl, trivial⟩, ⟨rfl, trivial⟩, rfl⟩, rfl,
    Step.plain rfl (does_call 10 0 (fun _ => .any) (.func 10) [(.tmp 43), (.tmp 45), (.tmp 47), (.tmp 49)] [(e_s_api_Letter p0), (.int .i64 p2.From), (.int .i64 p2.To), (.int .i64 p2.Index)] [] true [(e_s_api_Letter p0), (.int .i64 p2.From), (.int .i64 p2.To), (.int .i64 p2.Index)] (resV [(.int .i64 v5.1), (.bool v5.2)]) _ _ rfl fo10 rfl ⟨trivial, trivial, trivial, trivial, trivial⟩ ⟨.data _ (d_s_api_Letter p0), .data _ trivial, .data _ trivial, .data _ trivial, trivial⟩ (lossy_Find_spec p0 p2.From p2.To p2.Index _ h6) (res_flat2 trivial trivial)), ⟨⟨rfl, rfl, rfl, rfl, trivial⟩, trivial, rfl⟩, rfl,
    Step.plain rfl (does_move (.tmp 50) (resV [(.int .i64 v5.1), (.bool v5.2)]) trivial), ⟨⟨rfl, trivial⟩, trivial, rfl⟩, rfl,
    Step.plain rfl (does_extract 42 0 2 (fun j => [(.int .i64 v5.1), (.bool v5.2)].getD j (.bool false)) (Nat.le_of_ble_eq_true rfl)), ⟨⟨rfl, trivial⟩, trivial, rfl⟩, rfl,
    Step.plain rfl (does_extract 42 1 2 (fun j => [(.int .i64 v5.1), (.bool v5.2)].getD j (.bool false)) (Nat.le_of_ble_eq_true rfl)), ⟨⟨rfl, trivial⟩, trivial, rfl⟩, rfl,
    Step.plain rfl (does_assign (.tmp 51) (.int .i64 v5.1) trivial), ⟨⟨rfl, trivial⟩, trivial, rfl⟩, rfl,
    Step.plain rfl (does_assign (.tmp 52) (.bool v5.2) trivial), ⟨⟨rfl, trivial⟩, trivial, rfl⟩, rfl, rfl⟩ ?_
  refine aw_cov (cov_prune (s1 := ⟨[(0, (e_s_api_Letter p0)), (1, (e_s_api_Letter p1)), (5, (.ptr 0 0 [])), (8, (.ptr 3 0 [])), (7, (.own 1)), (9, (.bool v1.2.2)), (11, (.ptr 4 0 [])), (10, (e_s_api_Letter v3.1)), (12, (.bool v3.2.2)), (13, (.int .i64 v5.1)), (14, (.bool v5.2))], [(0, some (.var (e_congresslaw14_Pick p2))), (1, some (.arr 4 v1.1.length fun j => (e_api_Letter (v1.1.getD j z_api_Letter)))), (3, some (.var (e_api_Letter v1.2.1))), (4, some (.var (e_api_Letter v3.2.1)))], 5⟩) ⟨rfl, rfl, rfl, rfl, rfl, rfl, rfl, rfl, rfl, rfl, rfl, trivial⟩ ⟨rfl, rfl, rfl, rfl, trivial⟩ (Nat.le_refl _)) ?_
  obtain ⟨v7, h8, H⟩ := bnd H
  refine aw_region (es := [_, _, _, _, _, _, _, _, _, _, _, _, _]) ⟨Step.plain rfl (does_move (.tmp 0) (e_s_api_Letter p0) trivial), ⟨⟨rfl, trivial⟩, trivial, rfl⟩, rfl,
    Step.plain rfl (does_fieldAddr 25 0 0 5 0 0 [] (.var (e_congresslaw14_Pick p2)) fl25_0), ⟨⟨rfl, trivial⟩, ⟨rfl, trivial⟩, rfl⟩, rfl,
    Step.plain rfl (does_load 3 55 0 (0 + 0) [0] (.var (e_congresslaw14_Pick p2)) (.int .i64 p2.From) ⟨rfl, Nat.le_of_ble_eq_true rfl, trivial⟩ rfl rfl ty3), ⟨⟨rfl, trivial⟩, ⟨rfl, trivial⟩, rfl⟩, rfl,
    Step.plain rfl (does_fieldAddr 25 1 1 5 0 0 [] (.var (e_congresslaw14_Pick p2)) fl25_1), ⟨⟨rfl, trivial⟩, ⟨rfl, trivial⟩, rfl⟩, rfl,
    Step.plain rfl (does_load 3 57 0 (0 + 1) [1] (.var (e_congresslaw14_Pick p2)) (.int .i64 p2.To) ⟨rfl, Nat.le_of_ble_eq_true rfl, trivial⟩ rfl rfl ty3), ⟨⟨rfl, trivial⟩, ⟨rfl, trivial⟩, rfl⟩, rfl,
    Step.plain rfl (does_fieldAddr 25 2 2 5 0 0 [] (.var (e_congresslaw14_Pick p2)) fl25_2), ⟨⟨rfl, trivial⟩, ⟨rfl, trivial⟩, rfl⟩, rfl,
    Step.plain rfl (does_load 3 59 0 (0 + 2) [2] (.var (e_congresslaw14_Pick p2)) (.int .i64 p2.Index) ⟨rfl, Nat.le_of_ble_eq_true rfl, trivial⟩ rfl rfl ty3), ⟨⟨rfl, trivial⟩, ⟨rfl, trivial⟩, rfl⟩, rfl,
    Step.plain rfl (does_call 11 0 (fun _ => .any) (.func 11) [(.tmp 54), (.tmp 56), (.tmp 58), (.tmp 60)] [(e_s_api_Letter p0), (.int .i64 p2.From), (.int .i64 p2.To), (.int .i64 p2.Index)] [] true [(e_s_api_Letter p0), (.int .i64 p2.From), (.int .i64 p2.To), (.int .i64 p2.Index)] (resV [(.int .i64 v7.1), (.bool v7.2)]) _ _ rfl fo11 rfl ⟨trivial, trivial, trivial, trivial, trivial⟩ ⟨.data _ (d_s_api_Letter p0), .data _ trivial, .data _ trivial, .data _ trivial, trivial⟩ (congressref14_Find_spec p0 p2.From p2.To p2.Index _ h8) (res_flat2 trivial trivial)), ⟨⟨rfl, rfl, rfl, rfl, trivial⟩, trivial, rfl⟩, rfl,
    Step.plain rfl (does_move (.tmp 61) (resV [(.int .i64 v7.1), (.bool v7.2)]) trivial), ⟨⟨rfl, trivial⟩, trivial, rfl⟩, rfl,
    Step.plain rfl (does_extract 53 0 2 (fun j => [(.int .i64 v7.1), (.bool v7.2)].getD j (.bool false)) (Nat.le_of_ble_eq_true rfl)), ⟨⟨rfl, trivial⟩, trivial, rfl⟩, rfl,
    Step.plain rfl (does_extract 53 1 2 (fun j => [(.int .i64 v7.1), (.bool v7.2)].getD j (.bool false)) (Nat.le_of_ble_eq_true rfl)), ⟨⟨rfl, trivial⟩, trivial, rfl⟩, rfl,
    Step.plain rfl (does_assign (.tmp 62) (.int .i64 v7.1) trivial), ⟨⟨rfl, trivial⟩, trivial, rfl⟩, rfl,
    Step.plain rfl (does_assign (.tmp 63) (.bool v7.2) trivial), ⟨⟨rfl, trivial⟩, trivial, rfl⟩, rfl, rfl⟩ ?_
  refine aw_cov (cov_prune (s1 := ⟨[(0, (e_s_api_Letter p0)), (1, (e_s_api_Letter p1)), (5, (.ptr 0 0 [])), (8, (.ptr 3 0 [])), (7, (.own 1)), (9, (.bool v1.2.2)), (11, (.ptr 4 0 [])), (10, (e_s_api_Letter v3.1)), (12, (.bool v3.2.2)), (13, (.int .i64 v5.1)), (14, (.bool v5.2)), (15, (.int .i64 v7.1)), (16, (.bool v7.2))], [(0, some (.var (e_congresslaw14_Pick p2))), (1, some (.arr 4 v1.1.length fun j => (e_api_Letter (v1.1.getD j z_api_Letter)))), (3, some (.var (e_api_Letter v1.2.1))), (4, some (.var (e_api_Letter v3.2.1)))], 5⟩) ⟨rfl, rfl, rfl, rfl, rfl, rfl, rfl, rfl, rfl, rfl, rfl, rfl, rfl, trivial⟩ ⟨rfl, rfl, rfl, rfl, trivial⟩ (Nat.le_refl _)) ?_
  obtain ⟨v9, h10, H⟩ := bnd H
  obtain ⟨v11, h12, H⟩ := bnd H
  obtain ⟨v13, h14, H⟩ := bnd H
  refine aw_draw (es := [_, _, _, _, _, _, _, _, _, _, _, _, _, _, _, _, _, _, _, _, _, _, _, _, _, _]) (mixed) ⟨Step.plain rfl (does_move (.tmp 0) (e_s_api_Letter p0) trivial), ⟨⟨rfl, trivial⟩, trivial, rfl⟩, rfl,
    Step.plain rfl (does_fieldAddr 25 0 0 5 0 0 [] (.var (e_congresslaw14_Pick p2)) fl25_0), ⟨⟨rfl, trivial⟩, ⟨rfl, trivial⟩, rfl⟩, rfl,
    Step.plain rfl (does_load 3 65 0 (0 + 0) [0] (.var (e_congresslaw14_Pick p2)) (.int .i64 p2.From) ⟨rfl, Nat.le_of_ble_eq_true rfl, trivial⟩ rfl rfl ty3), ⟨⟨rfl, trivial⟩, ⟨rfl, trivial⟩, rfl⟩, rfl,
    Step.plain rfl (does_fieldAddr 25 1 1 5 0 0 [] (.var (e_congresslaw14_Pick p2)) fl25_1), ⟨⟨rfl, trivial⟩, ⟨rfl, trivial⟩, rfl⟩, rfl,
    Step.plain rfl (does_load 3 67 0 (0 + 1) [1] (.var (e_congresslaw14_Pick p2)) (.int .i64 p2.To) ⟨rfl, Nat.le_of_ble_eq_true rfl, trivial⟩ rfl rfl ty3), ⟨⟨rfl, trivial⟩, ⟨rfl, trivial⟩, rfl⟩, rfl,
    Step.plain rfl (does_fieldAddr 25 2 2 5 0 0 [] (.var (e_congresslaw14_Pick p2)) fl25_2), ⟨⟨rfl, trivial⟩, ⟨rfl, trivial⟩, rfl⟩, rfl,
    Step.plain rfl (does_load 3 69 0 (0 + 2) [2] (.var (e_congresslaw14_Pick p2)) (.int .i64 p2.Index) ⟨rfl, Nat.le_of_ble_eq_true rfl, trivial⟩ rfl rfl ty3), ⟨⟨rfl, trivial⟩, ⟨rfl, trivial⟩, rfl⟩, rfl,
    Step.plain rfl (does_fieldAddr 25 3 3 5 0 0 [] (.var (e_congresslaw14_Pick p2)) fl25_3), ⟨⟨rfl, trivial⟩, ⟨rfl, trivial⟩, rfl⟩, rfl,
    Step.plain rfl (does_load 3 71 0 (0 + 3) [3] (.var (e_congresslaw14_Pick p2)) (.int .i64 p2.At) ⟨rfl, Nat.le_of_ble_eq_true rfl, trivial⟩ rfl rfl ty3), ⟨⟨rfl, trivial⟩, ⟨rfl, trivial⟩, rfl⟩, rfl,
    Step.plain rfl (does_fieldAddr 25 4 4 5 0 0 [] (.var (e_congresslaw14_Pick p2)) fl25_4), ⟨⟨rfl, trivial⟩, ⟨rfl, trivial⟩, rfl⟩, rfl,
    Step.plain rfl (does_load 23 73 0 (0 + 4) [4] (.var (e_congresslaw14_Pick p2)) (.int .u32 p2.Mask) ⟨rfl, Nat.le_of_ble_eq_true rfl, trivial⟩ rfl rfl ty23), ⟨⟨rfl, trivial⟩, ⟨rfl, trivial⟩, rfl⟩, rfl,
    Step.plain rfl (does_callO 13 0 (fun _ => .any) (.func 13) [(.tmp 64), (.tmp 66), (.tmp 68), (.tmp 70), (.tmp 72), (.tmp 74)] [(e_s_api_Letter p0), (.int .i64 p2.From), (.int .i64 p2.To), (.int .i64 p2.Index), (.int .i64 p2.At), (.int .u32 p2.Mask)] [] [] true [(e_s_api_Letter p0), (.int .i64 p2.From), (.int .i64 p2.To), (.int .i64 p2.Index), (.int .i64 p2.At), (.int .u32 p2.Mask)] _ (.own 5) _ 5 1 _ _ rfl fo13 rfl ⟨trivial, trivial, trivial, trivial, trivial, trivial, trivial⟩ ⟨.ro _ _ (.data _ (d_s_api_Letter p0)), .ro _ _ (.data _ trivial), .ro _ _ (.data _ trivial), .ro _ _ (.data _ trivial), .ro _ _ (.data _ trivial), .ro _ _ (.data _ trivial), trivial⟩ (lossy_Turn_spec p0 p2.From p2.To p2.Index p2.At p2.Mask _ h10) rfl (by simp) rfl trivial ⟨⟨Nat.le_of_ble_eq_true rfl, _, rfl, fun _ => (f_api_Letter _)⟩, trivial⟩ (.own 0 (Nat.le_of_ble_eq_true rfl))), ⟨⟨rfl, rfl, rfl, rfl, rfl, rfl, trivial⟩, trivial, rfl⟩, rfl,
    Step.plain rfl (does_move (.tmp 0) (e_s_api_Letter p0) trivial), ⟨⟨rfl, trivial⟩, trivial, rfl⟩, rfl,
    Step.plain rfl (does_fieldAddr 25 0 0 5 0 0 [] (.var (e_congresslaw14_Pick p2)) fl25_0), ⟨⟨rfl, trivial⟩, ⟨rfl, trivial⟩, rfl⟩, rfl,
    Step.plain rfl (does_load 3 77 0 (0 + 0) [0] (.var (e_congresslaw14_Pick p2)) (.int .i64 p2.From) ⟨rfl, Nat.le_of_ble_eq_true rfl, trivial⟩ rfl rfl ty3), ⟨⟨rfl, trivial⟩, ⟨rfl, trivial⟩, rfl⟩, rfl,
    Step.plain rfl (does_fieldAddr 25 1 1 5 0 0 [] (.var (e_congresslaw14_Pick p2)) fl25_1), ⟨⟨rfl, trivial⟩, ⟨rfl, trivial⟩, rfl⟩, rfl,
    Step.plain rfl (does_load 3 79 0 (0 + 1) [1] (.var (e_congresslaw14_Pick p2)) (.int .i64 p2.To) ⟨rfl, Nat.le_of_ble_eq_true rfl, trivial⟩ rfl rfl ty3), ⟨⟨rfl, trivial⟩, ⟨rfl, trivial⟩, rfl⟩, rfl,
    Step.plain rfl (does_fieldAddr 25 2 2 5 0 0 [] (.var (e_congresslaw14_Pick p2)) fl25_2), ⟨⟨rfl, trivial⟩, ⟨rfl, trivial⟩, rfl⟩, rfl,
    Step.plain rfl (does_load 3 81 0 (0 + 2) [2] (.var (e_congresslaw14_Pick p2)) (.int .i64 p2.Index) ⟨rfl, Nat.le_of_ble_eq_true rfl, trivial⟩ rfl rfl ty3), ⟨⟨rfl, trivial⟩, ⟨rfl, trivial⟩, rfl⟩, rfl,
    Step.plain rfl (does_fieldAddr 25 3 3 5 0 0 [] (.var (e_congresslaw14_Pick p2)) fl25_3), ⟨⟨rfl, trivial⟩, ⟨rfl, trivial⟩, rfl⟩, rfl,
    Step.plain rfl (does_load 3 83 0 (0 + 3) [3] (.var (e_congresslaw14_Pick p2)) (.int .i64 p2.At) ⟨rfl, Nat.le_of_ble_eq_true rfl, trivial⟩ rfl rfl ty3), ⟨⟨rfl, trivial⟩, ⟨rfl, trivial⟩, rfl⟩, rfl,
    Step.plain rfl (does_fieldAddr 25 4 4 5 0 0 [] (.var (e_congresslaw14_Pick p2)) fl25_4), ⟨⟨rfl, trivial⟩, ⟨rfl, trivial⟩, rfl⟩, rfl,
    Step.plain rfl (does_load 23 85 0 (0 + 4) [4] (.var (e_congresslaw14_Pick p2)) (.int .u32 p2.Mask) ⟨rfl, Nat.le_of_ble_eq_true rfl, trivial⟩ rfl rfl ty23), ⟨⟨rfl, trivial⟩, ⟨rfl, trivial⟩, rfl⟩, rfl,
    Step.plain rfl (does_callO 14 0 (fun _ => .any) (.func 14) [(.tmp 76), (.tmp 78), (.tmp 80), (.tmp 82), (.tmp 84), (.tmp 86)] [(e_s_api_Letter p0), (.int .i64 p2.From), (.int .i64 p2.To), (.int .i64 p2.Index), (.int .i64 p2.At), (.int .u32 p2.Mask)] [] [] true [(e_s_api_Letter p0), (.int .i64 p2.From), (.int .i64 p2.To), (.int .i64 p2.Index), (.int .i64 p2.At), (.int .u32 p2.Mask)] _ (.own 6) _ 6 1 _ _ rfl fo14 rfl ⟨trivial, trivial, trivial, trivial, trivial, trivial, trivial⟩ ⟨.ro _ _ (.data _ (d_s_api_Letter p0)), .ro _ _ (.data _ trivial), .ro _ _ (.data _ trivial), .ro _ _ (.data _ trivial), .ro _ _ (.data _ trivial), .ro _ _ (.data _ trivial), trivial⟩ (congressref14_Turn_spec p0 p2.From p2.To p2.Index p2.At p2.Mask _ h12) rfl (by simp) rfl trivial ⟨⟨Nat.le_of_ble_eq_true rfl, _, rfl, fun _ => (f_api_Letter _)⟩, trivial⟩ (.own 0 (Nat.le_of_ble_eq_true rfl))), ⟨⟨rfl, rfl, rfl, rfl, rfl, rfl, trivial⟩, trivial, rfl⟩, rfl,
    Step.plain rfl (does_call 12 0 (fun _ => .any) (.func 12) [(.tmp 75), (.tmp 87)] [(.own 5), (.own 6)] [(5, (.arr 4 v9.length fun j => (e_api_Letter (v9.getD j z_api_Letter)))), (6, (.arr 4 v11.length fun j => (e_api_Letter (v11.getD j z_api_Letter))))] true [(e_s_api_Letter v9), (e_s_api_Letter v11)] (.bool v13) _ _ rfl fo12 rfl ⟨trivial, trivial, trivial⟩ ⟨.own 5 _ _ _ (.head _) rfl (fun _ => (d_api_Letter _)), .own 6 _ _ _ (.tail _ (.head _)) rfl (fun _ => (d_api_Letter _)), trivial⟩ (congressref14_Same_spec v9 v11 _ h14) trivial), ⟨⟨rfl, rfl, trivial⟩, ⟨rfl, rfl, trivial⟩, rfl⟩, rfl,
    Step.plain rfl (does_assign (.tmp 88) (.bool v13) trivial), ⟨⟨rfl, trivial⟩, trivial, rfl⟩, rfl, rfl⟩ rfl ?_
  refine aw_cov (cov_prune (s1 := ⟨[(0, (e_s_api_Letter p0)), (1, (e_s_api_Letter p1)), (5, (.ptr 0 0 [])), (8, (.ptr 3 0 [])), (7, (.own 1)), (9, (.bool v1.2.2)), (11, (.ptr 4 0 [])), (10, (e_s_api_Letter v3.1)), (12, (.bool v3.2.2)), (13, (.int .i64 v5.1)), (14, (.bool v5.2)), (15, (.int .i64 v7.1)), (16, (.bool v7.2)), (17, (.bool v13))], [(0, some (.var (e_congresslaw14_Pick p2))), (1, some (.arr 4 v1.1.length fun j => (e_api_Letter (v1.1.getD j z_api_Letter)))), (3, some (.var (e_api_Letter v1.2.1))), (4, some (.var (e_api_Letter v3.2.1)))], 7⟩) ⟨rfl, rfl, rfl, rfl, rfl, rfl, rfl, rfl, rfl, rfl, rfl, rfl, rfl, rfl, trivial⟩ ⟨rfl, rfl, rfl, rfl, trivial⟩ (Nat.le_refl _)) ?_
  obtain ⟨v15, h16, H⟩ := bnd H
  obtain ⟨v17, h18, H⟩ := whn_of H
  obtain ⟨v19, h20, H⟩ := whn_of H
  obtain ⟨v21, h22, H⟩ := whn_of H
  obtain ⟨v23, h24, H⟩ := whn_of H
  obtain ⟨v25, h26, H⟩ := whn_of H
  obtain ⟨v27, h28, H⟩ := whn_of H
  refine aw_draw (es := [_, _, _, _, _, _, _, _, _, _, _, _, _, _, _, _, _, _, _, _, _, _, _, _, _, _, _, _, _, _, _, _, _, _, _, _, _, _, _, _, _, _, _, _, _, _, _, _, _, _, _, _, _, _]) (mixed) ⟨Step.plain rfl (does_call 15 0 (fun _ => .any) (.func 15) [] [] [] true [] (.bool v15) _ _ rfl fo15 rfl trivial trivial (congresslaw14_fixed_spec _ h16) trivial), ⟨trivial, trivial, rfl⟩, rfl,
    Step.plain rfl (does_move (.tmp 89) (.bool v15) trivial), ⟨⟨rfl, trivial⟩, trivial, rfl⟩, rfl,
    Step.guarded rfl rfl rfl rfl (fun hc => does_move (.tmp 7) (.own 1) trivial), ⟨⟨rfl, rfl, trivial⟩, trivial, rfl⟩, rfl,
    Step.guarded rfl rfl rfl rfl (fun hc => does_move (.tmp 10) (e_s_api_Letter v3.1) trivial), ⟨⟨rfl, rfl, trivial⟩, trivial, rfl⟩, rfl,
    Step.guarded rfl rfl rfl rfl (fun hc => Does.strip (n' := [(91, (.opt v15 (.own 1))), (92, (.opt v15 (e_s_api_Letter v3.1)))]) (n := [(91, (.own 1)), (92, (e_s_api_Letter v3.1))]) ⟨(.opt _ _ hc), (.opt _ _ hc), trivial⟩ (does_call 12 0 (fun _ => .any) (.func 12) [(.tmp 91), (.tmp 92)] [(.own 1), (e_s_api_Letter v3.1)] [(1, (.arr 4 v1.1.length fun j => (e_api_Letter (v1.1.getD j z_api_Letter))))] true [(e_s_api_Letter v1.1), (e_s_api_Letter v3.1)] (.bool v17) _ _ rfl fo12 rfl ⟨trivial, trivial, trivial⟩ ⟨.own 1 _ _ _ (.head _) rfl (fun _ => (d_api_Letter _)), .data _ (d_s_api_Letter v3.1), trivial⟩ (congressref14_Same_spec v1.1 v3.1 _ (h18 hc)) trivial)), ⟨⟨rfl, rfl, rfl, trivial⟩, ⟨rfl, trivial⟩, rfl⟩, rfl,
    Step.plain rfl (does_and 90 93 v15 v17), ⟨⟨rfl, rfl, trivial⟩, trivial, rfl⟩, rfl,
    Step.plain rfl (does_move (.tmp 94) (.bool (v15 && v17)) trivial), ⟨⟨rfl, trivial⟩, trivial, rfl⟩, rfl,
    Step.guarded rfl rfl rfl rfl (fun hc => does_load 27 8 3 0 [] (.var (e_api_Letter v1.2.1)) (e_api_Letter v1.2.1) trivial rfl rfl ty27), ⟨⟨rfl, rfl, trivial⟩, ⟨rfl, trivial⟩, rfl⟩, rfl,
    Step.guarded rfl rfl rfl rfl (fun hc => does_load 27 11 4 0 [] (.var (e_api_Letter v3.2.1)) (e_api_Letter v3.2.1) trivial rfl rfl ty27), ⟨⟨rfl, rfl, trivial⟩, ⟨rfl, trivial⟩, rfl⟩, rfl,
    Step.guarded rfl rfl rfl rfl (fun hc => Does.strip (n' := [(96, (.opt (v15 && v17) (e_api_Letter v1.2.1))), (97, (.opt (v15 && v17) (e_api_Letter v3.2.1)))]) (n := [(96, (e_api_Letter v1.2.1)), (97, (e_api_Letter v3.2.1))]) ⟨(.opt _ _ hc), (.opt _ _ hc), trivial⟩ (does_eqT false 27 27 (.tmp 96) (.tmp 97) (e_api_Letter v1.2.1) (e_api_Letter v3.2.1) (e_api_Letter z_api_Letter) (b_api_Letter v1.2.1 v3.2.1) rfl rfl trivial trivial eg27 sh27 (al_api_Letter _ _) (al_api_Letter _ _) (q_api_Letter _ _))), ⟨⟨rfl, rfl, rfl, trivial⟩, trivial, rfl⟩, rfl,
    Step.plain rfl (does_and 95 98 (v15 && v17) (b_api_Letter v1.2.1 v3.2.1)), ⟨⟨rfl, rfl, trivial⟩, trivial, rfl⟩, rfl,
    Step.plain rfl (does_move (.tmp 99) (.bool ((v15 && v17) && (b_api_Letter v1.2.1 v3.2.1))) trivial), ⟨⟨rfl, trivial⟩, trivial, rfl⟩, rfl,
    Step.guarded rfl rfl rfl rfl (fun hc => does_move (.tmp 9) (.bool v1.2.2) trivial), ⟨⟨rfl, rfl, trivial⟩, trivial, rfl⟩, rfl,
    Step.guarded rfl rfl rfl rfl (fun hc => does_move (.tmp 12) (.bool v3.2.2) trivial), ⟨⟨rfl, rfl, trivial⟩, trivial, rfl⟩, rfl,
    Step.guarded rfl rfl rfl rfl (fun hc => Does.strip (n' := [(101, (.opt ((v15 && v17) && (b_api_Letter v1.2.1 v3.2.1)) (.bool v1.2.2))), (102, (.opt ((v15 && v17) && (b_api_Letter v1.2.1 v3.2.1)) (.bool v3.2.2)))]) (n := [(101, (.bool v1.2.2)), (102, (.bool v3.2.2))]) ⟨(.opt _ _ hc), (.opt _ _ hc), trivial⟩ (does_eqBool false 4 4 (.tmp 101) (.tmp 102) v1.2.2 v3.2.2 trivial trivial rfl)), ⟨⟨rfl, rfl, rfl, trivial⟩, trivial, rfl⟩, rfl,
    Step.plain rfl (does_and 100 103 ((v15 && v17) && (b_api_Letter v1.2.1 v3.2.1)) (v1.2.2 == v3.2.2)), ⟨⟨rfl, rfl, trivial⟩, trivial, rfl⟩, rfl,
    Step.plain rfl (does_move (.tmp 104) (.bool (((v15 && v17) && (b_api_Letter v1.2.1 v3.2.1)) && (v1.2.2 == v3.2.2))) trivial), ⟨⟨rfl, trivial⟩, trivial, rfl⟩, rfl,
    Step.guarded rfl rfl rfl rfl (fun hc => does_move (.tmp 13) (.int .i64 v5.1) trivial), ⟨⟨rfl, rfl, trivial⟩, trivial, rfl⟩, rfl,
    Step.guarded rfl rfl rfl rfl (fun hc => does_move (.tmp 15) (.int .i64 v7.1) trivial), ⟨⟨rfl, rfl, trivial⟩, trivial, rfl⟩, rfl,
    Step.guarded rfl rfl rfl rfl (fun hc => Does.strip (n' := [(106, (.opt (((v15 && v17) && (b_api_Letter v1.2.1 v3.2.1)) && (v1.2.2 == v3.2.2)) (.int .i64 v5.1))), (107, (.opt (((v15 && v17) && (b_api_Letter v1.2.1 v3.2.1)) && (v1.2.2 == v3.2.2)) (.int .i64 v7.1)))]) (n := [(106, (.int .i64 v5.1)), (107, (.int .i64 v7.1))]) ⟨(.opt _ _ hc), (.opt _ _ hc), trivial⟩ (does_bin .eql 3 3 (.tmp 106) (.tmp 107) .i64 v5.1 v7.1 (.bool (v5.1 == v7.1)) trivial trivial (bin_eql _ _ _ _))), ⟨⟨rfl, rfl, rfl, trivial⟩, trivial, rfl⟩, rfl,
    Step.plain rfl (does_and 105 108 (((v15 && v17) && (b_api_Letter v1.2.1 v3.2.1)) && (v1.2.2 == v3.2.2)) (v5.1 == v7.1)), ⟨⟨rfl, rfl, trivial⟩, trivial, rfl⟩, rfl,
    Step.plain rfl (does_move (.tmp 109) (.bool ((((v15 && v17) && (b_api_Letter v1.2.1 v3.2.1)) && (v1.2.2 == v3.2.2)) && (v5.1 == v7.1))) trivial), ⟨⟨rfl, trivial⟩, trivial, rfl⟩, rfl,
    Step.guarded rfl rfl rfl rfl (fun hc => does_move (.tmp 14) (.bool v5.2) trivial), ⟨⟨rfl, rfl, trivial⟩, trivial, rfl⟩, rfl,
    Step.guarded rfl rfl rfl rfl (fun hc => does_move (.tmp 16) (.bool v7.2) trivial), ⟨⟨rfl, rfl, trivial⟩, trivial, rfl⟩, rfl,
    Step.guarded rfl rfl rfl rfl (fun hc => Does.strip (n' := [(111, (.opt ((((v15 && v17) && (b_api_Letter v1.2.1 v3.2.1)) && (v1.2.2 == v3.2.2)) && (v5.1 == v7.1)) (.bool v5.2))), (112, (.opt ((((v15 && v17) && (b_api_Letter v1.2.1 v3.2.1)) && (v1.2.2 == v3.2.2)) && (v5.1 == v7.1)) (.bool v7.2)))]) (n := [(111, (.bool v5.2)), (112, (.bool v7.2))]) ⟨(.opt _ _ hc), (.opt _ _ hc), trivial⟩ (does_eqBool false 4 4 (.tmp 111) (.tmp 112) v5.2 v7.2 trivial trivial rfl)), ⟨⟨rfl, rfl, rfl, trivial⟩, trivial, rfl⟩, rfl,
    Step.plain rfl (does_and 110 113 ((((v15 && v17) && (b_api_Letter v1.2.1 v3.2.1)) && (v1.2.2 == v3.2.2)) && (v5.1 == v7.1)) (v5.2 == v7.2)), ⟨⟨rfl, rfl, trivial⟩, trivial, rfl⟩, rfl,
    Step.plain rfl (does_move (.tmp 114) (.bool (((((v15 && v17) && (b_api_Letter v1.2.1 v3.2.1)) && (v1.2.2 == v3.2.2)) && (v5.1 == v7.1)) && (v5.2 == v7.2))) trivial), ⟨⟨rfl, trivial⟩, trivial, rfl⟩, rfl,
    Step.guarded rfl rfl rfl rfl (fun hc => does_move (.tmp 17) (.bool v13) trivial), ⟨⟨rfl, rfl, trivial⟩, trivial, rfl⟩, rfl,
    Step.plain rfl (does_and 115 116 (((((v15 && v17) && (b_api_Letter v1.2.1 v3.2.1)) && (v1.2.2 == v3.2.2)) && (v5.1 == v7.1)) && (v5.2 == v7.2)) v13), ⟨⟨rfl, rfl, trivial⟩, trivial, rfl⟩, rfl,
    Step.plain rfl (does_move (.tmp 117) (.bool ((((((v15 && v17) && (b_api_Letter v1.2.1 v3.2.1)) && (v1.2.2 == v3.2.2)) && (v5.1 == v7.1)) && (v5.2 == v7.2)) && v13)) trivial), ⟨⟨rfl, trivial⟩, trivial, rfl⟩, rfl,
    Step.guarded rfl rfl rfl rfl (fun hc => does_move (.tmp 0) (e_s_api_Letter p0) trivial), ⟨⟨rfl, rfl, trivial⟩, trivial, rfl⟩, rfl,
    Step.guarded rfl rfl rfl rfl (fun hc => does_move (.tmp 1) (e_s_api_Letter p1) trivial), ⟨⟨rfl, rfl, trivial⟩, trivial, rfl⟩, rfl,
    Step.guarded rfl rfl rfl rfl (fun hc => Does.strip (n' := [(119, (.opt ((((((v15 && v17) && (b_api_Letter v1.2.1 v3.2.1)) && (v1.2.2 == v3.2.2)) && (v5.1 == v7.1)) && (v5.2 == v7.2)) && v13) (e_s_api_Letter p0))), (120, (.opt ((((((v15 && v17) && (b_api_Letter v1.2.1 v3.2.1)) && (v1.2.2 == v3.2.2)) && (v5.1 == v7.1)) && (v5.2 == v7.2)) && v13) (e_s_api_Letter p1)))]) (n := [(119, (e_s_api_Letter p0)), (120, (e_s_api_Letter p1))]) ⟨(.opt _ _ hc), (.opt _ _ hc), trivial⟩ (does_call 16 0 (fun _ => .any) (.func 16) [(.tmp 119), (.tmp 120)] [(e_s_api_Letter p0), (e_s_api_Letter p1)] [] false [(e_s_api_Letter p0), (e_s_api_Letter p1)] (e_s_api_Letter v19) _ _ rfl fo16 rfl ⟨trivial, trivial, trivial⟩ ⟨.data _ (d_s_api_Letter p0), .data _ (d_s_api_Letter p1), trivial⟩ (lossy_Put_data p0 p1 _ (h20 hc)) (d_s_api_Letter v19))), ⟨⟨rfl, rfl, rfl, trivial⟩, trivial, rfl⟩, rfl,
    Step.guarded rfl rfl rfl rfl (fun hc => does_move (.tmp 0) (e_s_api_Letter p0) trivial), ⟨⟨rfl, rfl, trivial⟩, trivial, rfl⟩, rfl,
    Step.guarded rfl rfl rfl rfl (fun hc => does_move (.tmp 1) (e_s_api_Letter p1) trivial), ⟨⟨rfl, rfl, trivial⟩, trivial, rfl⟩, rfl,
    Step.guarded rfl rfl rfl rfl (fun hc => Does.strip (n' := [(122, (.opt ((((((v15 && v17) && (b_api_Letter v1.2.1 v3.2.1)) && (v1.2.2 == v3.2.2)) && (v5.1 == v7.1)) && (v5.2 == v7.2)) && v13) (e_s_api_Letter p0))), (123, (.opt ((((((v15 && v17) && (b_api_Letter v1.2.1 v3.2.1)) && (v1.2.2 == v3.2.2)) && (v5.1 == v7.1)) && (v5.2 == v7.2)) && v13) (e_s_api_Letter p1)))]) (n := [(122, (e_s_api_Letter p0)), (123, (e_s_api_Letter p1))]) ⟨(.opt _ _ hc), (.opt _ _ hc), trivial⟩ (does_call 17 0 (fun _ => .any) (.func 17) [(.tmp 122), (.tmp 123)] [(e_s_api_Letter p0), (e_s_api_Letter p1)] [] false [(e_s_api_Letter p0), (e_s_api_Letter p1)] (e_s_api_Letter v21) _ _ rfl fo17 rfl ⟨trivial, trivial, trivial⟩ ⟨.data _ (d_s_api_Letter p0), .data _ (d_s_api_Letter p1), trivial⟩ (congressref14_Put_data p0 p1 _ (h22 hc)) (d_s_api_Letter v21))), ⟨⟨rfl, rfl, rfl, trivial⟩, trivial, rfl⟩, rfl,
    Step.guarded rfl rfl rfl rfl (fun hc => Does.strip (n' := [(121, (.opt ((((((v15 && v17) && (b_api_Letter v1.2.1 v3.2.1)) && (v1.2.2 == v3.2.2)) && (v5.1 == v7.1)) && (v5.2 == v7.2)) && v13) (e_s_api_Letter v19))), (124, (.opt ((((((v15 && v17) && (b_api_Letter v1.2.1 v3.2.1)) && (v1.2.2 == v3.2.2)) && (v5.1 == v7.1)) && (v5.2 == v7.2)) && v13) (e_s_api_Letter v21)))]) (n := [(121, (e_s_api_Letter v19)), (124, (e_s_api_Letter v21))]) ⟨(.opt _ _ hc), (.opt _ _ hc), trivial⟩ (does_call 12 0 (fun _ => .any) (.func 12) [(.tmp 121), (.tmp 124)] [(e_s_api_Letter v19), (e_s_api_Letter v21)] [] true [(e_s_api_Letter v19), (e_s_api_Letter v21)] (.bool v23) _ _ rfl fo12 rfl ⟨trivial, trivial, trivial⟩ ⟨.data _ (d_s_api_Letter v19), .data _ (d_s_api_Letter v21), trivial⟩ (congressref14_Same_spec v19 v21 _ (h24 hc)) trivial)), ⟨⟨rfl, rfl, rfl, trivial⟩, trivial, rfl⟩, rfl,
    Step.plain rfl (does_and 118 125 ((((((v15 && v17) && (b_api_Letter v1.2.1 v3.2.1)) && (v1.2.2 == v3.2.2)) && (v5.1 == v7.1)) && (v5.2 == v7.2)) && v13) v23), ⟨⟨rfl, rfl, trivial⟩, trivial, rfl⟩, rfl,
    Step.plain rfl (does_move (.tmp 126) (.bool (((((((v15 && v17) && (b_api_Letter v1.2.1 v3.2.1)) && (v1.2.2 == v3.2.2)) && (v5.1 == v7.1)) && (v5.2 == v7.2)) && v13) && v23)) trivial), ⟨⟨rfl, trivial⟩, trivial, rfl⟩, rfl,
    Step.guarded rfl rfl rfl rfl (fun hc => does_move (.tmp 0) (e_s_api_Letter p0) trivial), ⟨⟨rfl, rfl, trivial⟩, trivial, rfl⟩, rfl,
    Step.guarded rfl rfl rfl rfl (fun hc => does_fieldAddr 25 0 0 5 0 0 [] (.var (e_congresslaw14_Pick p2)) fl25_0), ⟨⟨rfl, rfl, trivial⟩, ⟨rfl, trivial⟩, rfl⟩, rfl,
    Step.guarded rfl rfl rfl rfl (fun hc => Does.strip (n' := [(129, (.opt (((((((v15 && v17) && (b_api_Letter v1.2.1 v3.2.1)) && (v1.2.2 == v3.2.2)) && (v5.1 == v7.1)) && (v5.2 == v7.2)) && v13) && v23) (.ptr 0 (0 + 0) [0])))]) (n := [(129, (.ptr 0 (0 + 0) [0]))]) ⟨(.opt _ _ hc), trivial⟩ (does_load 3 129 0 (0 + 0) [0] (.var (e_congresslaw14_Pick p2)) (.int .i64 p2.From) ⟨rfl, Nat.le_of_ble_eq_true rfl, trivial⟩ rfl rfl ty3)), ⟨⟨rfl, rfl, trivial⟩, ⟨rfl, trivial⟩, rfl⟩, rfl,
    Step.guarded rfl rfl rfl rfl (fun hc => does_fieldAddr 25 1 1 5 0 0 [] (.var (e_congresslaw14_Pick p2)) fl25_1), ⟨⟨rfl, rfl, trivial⟩, ⟨rfl, trivial⟩, rfl⟩, rfl,
    Step.guarded rfl rfl rfl rfl (fun hc => Does.strip (n' := [(131, (.opt (((((((v15 && v17) && (b_api_Letter v1.2.1 v3.2.1)) && (v1.2.2 == v3.2.2)) && (v5.1 == v7.1)) && (v5.2 == v7.2)) && v13) && v23) (.ptr 0 (0 + 1) [1])))]) (n := [(131, (.ptr 0 (0 + 1) [1]))]) ⟨(.opt _ _ hc), trivial⟩ (does_load 3 131 0 (0 + 1) [1] (.var (e_congresslaw14_Pick p2)) (.int .i64 p2.To) ⟨rfl, Nat.le_of_ble_eq_true rfl, trivial⟩ rfl rfl ty3)), ⟨⟨rfl, rfl, trivial⟩, ⟨rfl, trivial⟩, rfl⟩, rfl,
    Step.guarded rfl rfl rfl rfl (fun hc => Does.strip (n' := [(128, (.opt (((((((v15 && v17) && (b_api_Letter v1.2.1 v3.2.1)) && (v1.2.2 == v3.2.2)) && (v5.1 == v7.1)) && (v5.2 == v7.2)) && v13) && v23) (e_s_api_Letter p0))), (130, (.opt (((((((v15 && v17) && (b_api_Letter v1.2.1 v3.2.1)) && (v1.2.2 == v3.2.2)) && (v5.1 == v7.1)) && (v5.2 == v7.2)) && v13) && v23) (.int .i64 p2.From))), (132, (.opt (((((((v15 && v17) && (b_api_Letter v1.2.1 v3.2.1)) && (v1.2.2 == v3.2.2)) && (v5.1 == v7.1)) && (v5.2 == v7.2)) && v13) && v23) (.int .i64 p2.To)))]) (n := [(128, (e_s_api_Letter p0)), (130, (.int .i64 p2.From)), (132, (.int .i64 p2.To))]) ⟨(.opt _ _ hc), (.opt _ _ hc), (.opt _ _ hc), trivial⟩ (does_call 18 0 (fun _ => .any) (.func 18) [(.tmp 128), (.tmp 130), (.tmp 132)] [(e_s_api_Letter p0), (.int .i64 p2.From), (.int .i64 p2.To)] [] true [(e_s_api_Letter p0), (.int .i64 p2.From), (.int .i64 p2.To)] (.int .i64 v25) _ _ rfl fo18 rfl ⟨trivial, trivial, trivial, trivial⟩ ⟨.data _ (d_s_api_Letter p0), .data _ trivial, .data _ trivial, trivial⟩ (lossy_Many_spec p0 p2.From p2.To _ (h26 hc)) trivial)), ⟨⟨rfl, rfl, rfl, rfl, trivial⟩, trivial, rfl⟩, rfl,
    Step.guarded rfl rfl rfl rfl (fun hc => does_move (.tmp 0) (e_s_api_Letter p0) trivial), ⟨⟨rfl, rfl, trivial⟩, trivial, rfl⟩, rfl,
    Step.guarded rfl rfl rfl rfl (fun hc => does_fieldAddr 25 0 0 5 0 0 [] (.var (e_congresslaw14_Pick p2)) fl25_0), ⟨⟨rfl, rfl, trivial⟩, ⟨rfl, trivial⟩, rfl⟩, rfl,
    Step.guarded rfl rfl rfl rfl (fun hc => Does.strip (n' := [(135, (.opt (((((((v15 && v17) && (b_api_Letter v1.2.1 v3.2.1)) && (v1.2.2 == v3.2.2)) && (v5.1 == v7.1)) && (v5.2 == v7.2)) && v13) && v23) (.ptr 0 (0 + 0) [0])))]) (n := [(135, (.ptr 0 (0 + 0) [0]))]) ⟨(.opt _ _ hc), trivial⟩ (does_load 3 135 0 (0 + 0) [0] (.var (e_congresslaw14_Pick p2)) (.int .i64 p2.From) ⟨rfl, Nat.le_of_ble_eq_true rfl, trivial⟩ rfl rfl ty3)), ⟨⟨rfl, rfl, trivial⟩, ⟨rfl, trivial⟩, rfl⟩, rfl,
    Step.guarded rfl rfl rfl rfl (fun hc => does_fieldAddr 25 1 1 5 0 0 [] (.var (e_congresslaw14_Pick p2)) fl25_1), ⟨⟨rfl, rfl, trivial⟩, ⟨rfl, trivial⟩, rfl⟩, rfl,
    Step.guarded rfl rfl rfl rfl (fun hc => Does.strip (n' := [(137, (.opt (((((((v15 && v17) && (b_api_Letter v1.2.1 v3.2.1)) && (v1.2.2 == v3.2.2)) && (v5.1 == v7.1)) && (v5.2 == v7.2)) && v13) && v23) (.ptr 0 (0 + 1) [1])))]) (n := [(137, (.ptr 0 (0 + 1) [1]))]) ⟨(.opt _ _ hc), trivial⟩ (does_load 3 137 0 (0 + 1) [1] (.var (e_congresslaw14_Pick p2)) (.int .i64 p2.To) ⟨rfl, Nat.le_of_ble_eq_true rfl, trivial⟩ rfl rfl ty3)), ⟨⟨rfl, rfl, trivial⟩, ⟨rfl, trivial⟩, rfl⟩, rfl,
    Step.guarded rfl rfl rfl rfl (fun hc => Does.strip (n' := [(134, (.opt (((((((v15 && v17) && (b_api_Letter v1.2.1 v3.2.1)) && (v1.2.2 == v3.2.2)) && (v5.1 == v7.1)) && (v5.2 == v7.2)) && v13) && v23) (e_s_api_Letter p0))), (136, (.opt (((((((v15 && v17) && (b_api_Letter v1.2.1 v3.2.1)) && (v1.2.2 == v3.2.2)) && (v5.1 == v7.1)) && (v5.2 == v7.2)) && v13) && v23) (.int .i64 p2.From))), (138, (.opt (((((((v15 && v17) && (b_api_Letter v1.2.1 v3.2.1)) && (v1.2.2 == v3.2.2)) && (v5.1 == v7.1)) && (v5.2 == v7.2)) && v13) && v23) (.int .i64 p2.To)))]) (n := [(134, (e_s_api_Letter p0)), (136, (.int .i64 p2.From)), (138, (.int .i64 p2.To))]) ⟨(.opt _ _ hc), (.opt _ _ hc), (.opt _ _ hc), trivial⟩ (does_call 19 0 (fun _ => .any) (.func 19) [(.tmp 134), (.tmp 136), (.tmp 138)] [(e_s_api_Letter p0), (.int .i64 p2.From), (.int .i64 p2.To)] [] true [(e_s_api_Letter p0), (.int .i64 p2.From), (.int .i64 p2.To)] (.int .i64 v27) _ _ rfl fo19 rfl ⟨trivial, trivial, trivial, trivial⟩ ⟨.data _ (d_s_api_Letter p0), .data _ trivial, .data _ trivial, trivial⟩ (congressref14_Many_spec p0 p2.From p2.To _ (h28 hc)) trivial)), ⟨⟨rfl, rfl, rfl, rfl, trivial⟩, trivial, rfl⟩, rfl,
    Step.guarded rfl rfl rfl rfl (fun hc => Does.strip (n' := [(133, (.opt (((((((v15 && v17) && (b_api_Letter v1.2.1 v3.2.1)) && (v1.2.2 == v3.2.2)) && (v5.1 == v7.1)) && (v5.2 == v7.2)) && v13) && v23) (.int .i64 v25))), (139, (.opt (((((((v15 && v17) && (b_api_Letter v1.2.1 v3.2.1)) && (v1.2.2 == v3.2.2)) && (v5.1 == v7.1)) && (v5.2 == v7.2)) && v13) && v23) (.int .i64 v27)))]) (n := [(133, (.int .i64 v25)), (139, (.int .i64 v27))]) ⟨(.opt _ _ hc), (.opt _ _ hc), trivial⟩ (does_bin .eql 3 3 (.tmp 133) (.tmp 139) .i64 v25 v27 (.bool (v25 == v27)) trivial trivial (bin_eql _ _ _ _))), ⟨⟨rfl, rfl, rfl, trivial⟩, trivial, rfl⟩, rfl,
    Step.plain rfl (does_and 127 140 (((((((v15 && v17) && (b_api_Letter v1.2.1 v3.2.1)) && (v1.2.2 == v3.2.2)) && (v5.1 == v7.1)) && (v5.2 == v7.2)) && v13) && v23) (v25 == v27)), ⟨⟨rfl, rfl, trivial⟩, trivial, rfl⟩, rfl,
    Step.plain rfl (does_assign (.tmp 141) (.bool ((((((((v15 && v17) && (b_api_Letter v1.2.1 v3.2.1)) && (v1.2.2 == v3.2.2)) && (v5.1 == v7.1)) && (v5.2 == v7.2)) && v13) && v23) && (v25 == v27))) trivial), ⟨⟨rfl, trivial⟩, trivial, rfl⟩, rfl, rfl⟩ rfl ?_
  obtain ⟨v29, hv29, H⟩ := lt_of H
  refine aw_cov (cov_prune (s1 := ⟨[(6, (.bool v29))], [], 7⟩) ⟨(by subst hv29; rfl), trivial⟩ trivial (Nat.le_refl _)) ?_
  refine aw_ret ?_
  exact fun a w hr => ⟨_, [(.bool v29)], hr, ⟨⟨_, rfl, .data (.bool v29) trivial⟩, trivial⟩, by decide, by cases H; rfl⟩

theorem congresslaw14_LossyBlind_spec (p0 : (_root_.List api_Letter)) (p1 : (_root_.List ByteArray)) (p2 : congresslaw14_Pick) (r : Bool) (H : congresslaw14_LossyBlind p0 p1 p2 = some r) : FSpec Try.prog 4 [(e_s_api_Letter p0), (e_s_str p1), (e_congresslaw14_Pick p2)] (.bool r) := by
  refine spec_of (fn := Try.f4) (args := [(e_s_api_Letter p0), (e_s_str p1), (e_congresslaw14_Pick p2)]) Try.func4 rfl (Nat.le_of_ble_eq_true rfl) ?_
  rintro ⟨G, w0, W, S, Sp⟩ hG
  cases hG
  unfold congresslaw14_LossyBlind at H
  refine aw_region (es := [_, _]) ⟨Step.plain rfl (does_box 25 (.tmp 2) 0 (e_congresslaw14_Pick p2) trivial rfl), ⟨⟨rfl, trivial⟩, trivial, rfl⟩, rfl,
    Step.plain rfl (does_assign (.const (.bool false)) (.bool false) (fun _ => rfl)), ⟨trivial, trivial, rfl⟩, rfl, rfl⟩ ?_
  refine aw_cov (cov_prune (s1 := ⟨[(0, (e_s_api_Letter p0)), (1, (e_s_str p1)), (5, (.ptr 0 0 []))], [(0, some (.var (e_congresslaw14_Pick p2)))], 1⟩) ⟨rfl, rfl, rfl, trivial⟩ ⟨rfl, trivial⟩ (Nat.le_refl _)) ?_
  obtain ⟨h1, H⟩ := fit_of H
  refine aw_region (es := [_, _, _, _]) ⟨Step.plain rfl (does_buildOwn 22 0 4 1 (e_api_Letter z_api_Letter) (fun j => (e_api_Letter (([] : _root_.List api_Letter).getD j z_api_Letter))) #[] [] [] rfl so22 (by decide) trivial trivial (fun j h => match j, h with  | k + 0, h => absurd h (by omega))), ⟨trivial, trivial, rfl⟩, rfl,
    Step.plain rfl (does_move (.tmp 0) (e_s_api_Letter p0) trivial), ⟨⟨rfl, trivial⟩, trivial, rfl⟩, rfl,
    Step.plain rfl (does_appendL e_api_Letter z_api_Letter ([] : _root_.List api_Letter) p0 22 4 40 1 2 20 21 ap22 h1), ⟨⟨rfl, rfl, trivial⟩, ⟨rfl, trivial⟩, rfl⟩, rfl,
    Step.plain rfl (does_assign (.tmp 22) (.own 2) trivial), ⟨⟨rfl, trivial⟩, trivial, rfl⟩, rfl, rfl⟩ ?_
  refine aw_cov (cov_prune (s1 := ⟨[(0, (e_s_api_Letter p0)), (1, (e_s_str p1)), (5, (.ptr 0 0 [])), (7, (.own 2))], [(0, some (.var (e_congresslaw14_Pick p2))), (2, some (.arr 4 (([] : _root_.List api_Letter) ++ p0).length fun j => (e_api_Letter ((([] : _root_.List api_Letter) ++ p0).getD j z_api_Letter))))], 3⟩) ⟨rfl, rfl, rfl, rfl, trivial⟩ ⟨rfl, rfl, trivial⟩ (Nat.le_refl _)) ?_
  refine aw_seq ?_
  refine aw_region (es := [_]) ⟨Step.plain rfl (does_assign (.const (.int .i64 0)) (.int .i64 0) (fun _ => rfl)), ⟨trivial, trivial, rfl⟩, rfl, rfl⟩ ?_
  refine aw_cov (cov_prune (s1 := ⟨[(0, (e_s_api_Letter p0)), (1, (e_s_str p1)), (5, (.ptr 0 0 [])), (7, (.own 2)), (8, (.int .i64 0))], [(0, some (.var (e_congresslaw14_Pick p2))), (2, some (.arr 4 (([] : _root_.List api_Letter) ++ p0).length fun j => (e_api_Letter ((([] : _root_.List api_Letter) ++ p0).getD j z_api_Letter))))], 3⟩) ⟨rfl, rfl, rfl, rfl, rfl, trivial⟩ ⟨rfl, rfl, trivial⟩ (Nat.le_refl _)) ?_
  obtain ⟨wn3, hwn3, Hrn3⟩ := bnd H
  refine aw_meet (fun y10 : _root_.List api_Letter => (⟨[(0, (e_s_api_Letter p0)), (5, (.ptr 0 0 [])), (7, (.own 2))], [(0, some (.var (e_congresslaw14_Pick p2))), (2, some (.arr 4 y10.length fun j => (e_api_Letter (y10.getD j z_api_Letter))))], 3⟩ : St)) (fun y10 => Fl.nx y10 = wn3) (fun y10 hy => ?_) (aw_block (aw_runs (fun x2 : Int × _root_.List api_Letter => (⟨[(0, (e_s_api_Letter p0)), (1, (e_s_str p1)), (5, (.ptr 0 0 [])), (7, (.own 2)), (8, (.int .i64 x2.1))], [(0, some (.var (e_congresslaw14_Pick p2))), (2, some (.arr 4 x2.2.length fun j => (e_api_Letter (x2.2.getD j z_api_Letter))))], 3⟩ : St)) hwn3 (cov_prune ⟨rfl, rfl, rfl, rfl, rfl, trivial⟩ ⟨rfl, rfl, trivial⟩ (Nat.le_of_ble_eq_true rfl)) (fun x2 st H hsn3 => ?_)))
  · have H := nx_of hy Hrn3
    refine nx_seq ?_
    obtain ⟨v11, h12, H⟩ := bnd H
    refine aw_region (es := [_, _, _, _, _, _, _, _, _, _, _, _, _]) ⟨Step.plain rfl (does_move (.tmp 0) (e_s_api_Letter p0) trivial), ⟨⟨rfl, trivial⟩, trivial, rfl⟩, rfl,
      Step.plain rfl (does_fieldAddr 25 0 0 5 0 0 [] (.var (e_congresslaw14_Pick p2)) fl25_0), ⟨⟨rfl, trivial⟩, ⟨rfl, trivial⟩, rfl⟩, rfl,
      Step.plain rfl (does_load 3 47 0 (0 + 0) [0] (.var (e_congresslaw14_Pick p2)) (.int .i64 p2.From) ⟨rfl, Nat.le_of_ble_eq_true rfl, trivial⟩ rfl rfl ty3), ⟨⟨rfl, trivial⟩, ⟨rfl, trivial⟩, rfl⟩, rfl,
      Step.plain rfl (does_fieldAddr 25 1 1 5 0 0 [] (.var (e_congresslaw14_Pick p2)) fl25_1), ⟨⟨rfl, trivial⟩, ⟨rfl, trivial⟩, rfl⟩, rfl,
      Step.plain rfl (does_load 3 49 0 (0 + 1) [1] (.var (e_congresslaw14_Pick p2)) (.int .i64 p2.To) ⟨rfl, Nat.le_of_ble_eq_true rfl, trivial⟩ rfl rfl ty3), ⟨⟨rfl, trivial⟩, ⟨rfl, trivial⟩, rfl⟩, rfl,
      Step.plain rfl (does_fieldAddr 25 2 2 5 0 0 [] (.var (e_congresslaw14_Pick p2)) fl25_2), ⟨⟨rfl, trivial⟩, ⟨rfl, trivial⟩, rfl⟩, rfl,
      Step.plain rfl (does_load 3 51 0 (0 + 2) [2] (.var (e_congresslaw14_Pick p2)) (.int .i64 p2.Index) ⟨rfl, Nat.le_of_ble_eq_true rfl, trivial⟩ rfl rfl ty3), ⟨⟨rfl, trivial⟩, ⟨rfl, trivial⟩, rfl⟩, rfl,
      Step.plain rfl (does_call 10 0 (fun _ => .any) (.func 10) [(.tmp 46), (.tmp 48), (.tmp 50), (.tmp 52)] [(e_s_api_Letter p0), (.int .i64 p2.From), (.int .i64 p2.To), (.int .i64 p2.Index)] [] true [(e_s_api_Letter p0), (.int .i64 p2.From), (.int .i64 p2.To), (.int .i64 p2.Index)] (resV [(.int .i64 v11.1), (.bool v11.2)]) _ _ rfl fo10 rfl ⟨trivial, trivial, trivial, trivial, trivial⟩ ⟨.data _ (d_s_api_Letter p0), .data _ trivial, .data _ trivial, .data _ trivial, trivial⟩ (lossy_Find_spec p0 p2.From p2.To p2.Index _ h12) (res_flat2 trivial trivial)), ⟨⟨rfl, rfl, rfl, rfl, trivial⟩, trivial, rfl⟩, rfl,
      Step.plain rfl (does_move (.tmp 53) (resV [(.int .i64 v11.1), (.bool v11.2)]) trivial), ⟨⟨rfl, trivial⟩, trivial, rfl⟩, rfl,
      Step.plain rfl (does_extract 45 0 2 (fun j => [(.int .i64 v11.1), (.bool v11.2)].getD j (.bool false)) (Nat.le_of_ble_eq_true rfl)), ⟨⟨rfl, trivial⟩, trivial, rfl⟩, rfl,
      Step.plain rfl (does_extract 45 1 2 (fun j => [(.int .i64 v11.1), (.bool v11.2)].getD j (.bool false)) (Nat.le_of_ble_eq_true rfl)), ⟨⟨rfl, trivial⟩, trivial, rfl⟩, rfl,
      Step.plain rfl (does_assign (.tmp 54) (.int .i64 v11.1) trivial), ⟨⟨rfl, trivial⟩, trivial, rfl⟩, rfl,
      Step.plain rfl (does_assign (.tmp 55) (.bool v11.2) trivial), ⟨⟨rfl, trivial⟩, trivial, rfl⟩, rfl, rfl⟩ ?_
    refine aw_cov (cov_prune (s1 := ⟨[(0, (e_s_api_Letter p0)), (5, (.ptr 0 0 [])), (7, (.own 2)), (9, (.int .i64 v11.1)), (10, (.bool v11.2))], [(0, some (.var (e_congresslaw14_Pick p2))), (2, some (.arr 4 y10.length fun j => (e_api_Letter (y10.getD j z_api_Letter))))], 3⟩) ⟨rfl, rfl, rfl, rfl, rfl, trivial⟩ ⟨rfl, rfl, trivial⟩ (Nat.le_refl _)) ?_
    obtain ⟨v13, h14, H⟩ := bnd H
    refine aw_region (es := [_, _, _, _, _, _, _, _, _, _, _, _, _]) ⟨Step.plain rfl (does_move (.tmp 7) (.own 2) trivial), ⟨⟨rfl, trivial⟩, trivial, rfl⟩, rfl,
      Step.plain rfl (does_fieldAddr 25 0 0 5 0 0 [] (.var (e_congresslaw14_Pick p2)) fl25_0), ⟨⟨rfl, trivial⟩, ⟨rfl, trivial⟩, rfl⟩, rfl,
      Step.plain rfl (does_load 3 58 0 (0 + 0) [0] (.var (e_congresslaw14_Pick p2)) (.int .i64 p2.From) ⟨rfl, Nat.le_of_ble_eq_true rfl, trivial⟩ rfl rfl ty3), ⟨⟨rfl, trivial⟩, ⟨rfl, trivial⟩, rfl⟩, rfl,
      Step.plain rfl (does_fieldAddr 25 1 1 5 0 0 [] (.var (e_congresslaw14_Pick p2)) fl25_1), ⟨⟨rfl, trivial⟩, ⟨rfl, trivial⟩, rfl⟩, rfl,
      Step.plain rfl (does_load 3 60 0 (0 + 1) [1] (.var (e_congresslaw14_Pick p2)) (.int .i64 p2.To) ⟨rfl, Nat.le_of_ble_eq_true rfl, trivial⟩ rfl rfl ty3), ⟨⟨rfl, trivial⟩, ⟨rfl, trivial⟩, rfl⟩, rfl,
      Step.plain rfl (does_fieldAddr 25 2 2 5 0 0 [] (.var (e_congresslaw14_Pick p2)) fl25_2), ⟨⟨rfl, trivial⟩, ⟨rfl, trivial⟩, rfl⟩, rfl,
      Step.plain rfl (does_load 3 62 0 (0 + 2) [2] (.var (e_congresslaw14_Pick p2)) (.int .i64 p2.Index) ⟨rfl, Nat.le_of_ble_eq_true rfl, trivial⟩ rfl rfl ty3), ⟨⟨rfl, trivial⟩, ⟨rfl, trivial⟩, rfl⟩, rfl,
      Step.plain rfl (does_call 10 0 (fun _ => .any) (.func 10) [(.tmp 57), (.tmp 59), (.tmp 61), (.tmp 63)] [(.own 2), (.int .i64 p2.From), (.int .i64 p2.To), (.int .i64 p2.Index)] [(2, (.arr 4 y10.length fun j => (e_api_Letter (y10.getD j z_api_Letter))))] true [(e_s_api_Letter y10), (.int .i64 p2.From), (.int .i64 p2.To), (.int .i64 p2.Index)] (resV [(.int .i64 v13.1), (.bool v13.2)]) _ _ rfl fo10 rfl ⟨trivial, trivial, trivial, trivial, trivial⟩ ⟨.own 2 _ _ _ (.head _) rfl (fun _ => (d_api_Letter _)), .data _ trivial, .data _ trivial, .data _ trivial, trivial⟩ (lossy_Find_spec y10 p2.From p2.To p2.Index _ h14) (res_flat2 trivial trivial)), ⟨⟨rfl, rfl, rfl, rfl, trivial⟩, ⟨rfl, trivial⟩, rfl⟩, rfl,
      Step.plain rfl (does_move (.tmp 64) (resV [(.int .i64 v13.1), (.bool v13.2)]) trivial), ⟨⟨rfl, trivial⟩, trivial, rfl⟩, rfl,
      Step.plain rfl (does_extract 56 0 2 (fun j => [(.int .i64 v13.1), (.bool v13.2)].getD j (.bool false)) (Nat.le_of_ble_eq_true rfl)), ⟨⟨rfl, trivial⟩, trivial, rfl⟩, rfl,
      Step.plain rfl (does_extract 56 1 2 (fun j => [(.int .i64 v13.1), (.bool v13.2)].getD j (.bool false)) (Nat.le_of_ble_eq_true rfl)), ⟨⟨rfl, trivial⟩, trivial, rfl⟩, rfl,
      Step.plain rfl (does_assign (.tmp 65) (.int .i64 v13.1) trivial), ⟨⟨rfl, trivial⟩, trivial, rfl⟩, rfl,
      Step.plain rfl (does_assign (.tmp 66) (.bool v13.2) trivial), ⟨⟨rfl, trivial⟩, trivial, rfl⟩, rfl, rfl⟩ ?_
    refine aw_cov (cov_prune (s1 := ⟨[(0, (e_s_api_Letter p0)), (5, (.ptr 0 0 [])), (7, (.own 2)), (9, (.int .i64 v11.1)), (10, (.bool v11.2)), (11, (.int .i64 v13.1)), (12, (.bool v13.2))], [(0, some (.var (e_congresslaw14_Pick p2))), (2, some (.arr 4 y10.length fun j => (e_api_Letter (y10.getD j z_api_Letter))))], 3⟩) ⟨rfl, rfl, rfl, rfl, rfl, rfl, rfl, trivial⟩ ⟨rfl, rfl, trivial⟩ (Nat.le_refl _)) ?_
    obtain ⟨v15, h16, H⟩ := bnd H
    refine aw_region (es := [_, _, _, _, _, _, _, _, _, _, _, _, _, _, _, _]) ⟨Step.plain rfl (does_move (.tmp 0) (e_s_api_Letter p0) trivial), ⟨⟨rfl, trivial⟩, trivial, rfl⟩, rfl,
      Step.plain rfl (does_fieldAddr 25 0 0 5 0 0 [] (.var (e_congresslaw14_Pick p2)) fl25_0), ⟨⟨rfl, trivial⟩, ⟨rfl, trivial⟩, rfl⟩, rfl,
      Step.plain rfl (does_load 3 69 0 (0 + 0) [0] (.var (e_congresslaw14_Pick p2)) (.int .i64 p2.From) ⟨rfl, Nat.le_of_ble_eq_true rfl, trivial⟩ rfl rfl ty3), ⟨⟨rfl, trivial⟩, ⟨rfl, trivial⟩, rfl⟩, rfl,
      Step.plain rfl (does_fieldAddr 25 1 1 5 0 0 [] (.var (e_congresslaw14_Pick p2)) fl25_1), ⟨⟨rfl, trivial⟩, ⟨rfl, trivial⟩, rfl⟩, rfl,
      Step.plain rfl (does_load 3 71 0 (0 + 1) [1] (.var (e_congresslaw14_Pick p2)) (.int .i64 p2.To) ⟨rfl, Nat.le_of_ble_eq_true rfl, trivial⟩ rfl rfl ty3), ⟨⟨rfl, trivial⟩, ⟨rfl, trivial⟩, rfl⟩, rfl,
      Step.plain rfl (does_fieldAddr 25 2 2 5 0 0 [] (.var (e_congresslaw14_Pick p2)) fl25_2), ⟨⟨rfl, trivial⟩, ⟨rfl, trivial⟩, rfl⟩, rfl,
      Step.plain rfl (does_load 3 73 0 (0 + 2) [2] (.var (e_congresslaw14_Pick p2)) (.int .i64 p2.Index) ⟨rfl, Nat.le_of_ble_eq_true rfl, trivial⟩ rfl rfl ty3), ⟨⟨rfl, trivial⟩, ⟨rfl, trivial⟩, rfl⟩, rfl,
      Step.plain rfl (does_callO 8 0 (fun _ => .any) (.func 8) [(.tmp 68), (.tmp 70), (.tmp 72), (.tmp 74)] [(e_s_api_Letter p0), (.int .i64 p2.From), (.int .i64 p2.To), (.int .i64 p2.Index)] [] [] true [(e_s_api_Letter p0), (.int .i64 p2.From), (.int .i64 p2.To), (.int .i64 p2.Index)] _ (resV [(.own 3), (e_api_Letter v15.2.1), (.bool v15.2.2)]) _ 3 2 _ _ rfl fo8 rfl ⟨trivial, trivial, trivial, trivial, trivial⟩ ⟨.ro _ _ (.data _ (d_s_api_Letter p0)), .ro _ _ (.data _ trivial), .ro _ _ (.data _ trivial), .ro _ _ (.data _ trivial), trivial⟩ (lossy_Take_spec p0 p2.From p2.To p2.Index _ h16) rfl (by simp) rfl trivial ⟨⟨Nat.le_of_ble_eq_true rfl, _, rfl, fun _ => (f_api_Letter _)⟩, trivial⟩ (.tup _ _ _ (fun j => match j with | 0 => .own 0 (Nat.le_of_ble_eq_true rfl) | 1 => .data _ ((f_api_Letter v15.2.1)) | 2 => .data _ (trivial) | _ + 3 => .data _ trivial))), ⟨⟨rfl, rfl, rfl, rfl, trivial⟩, trivial, rfl⟩, rfl,
      Step.plain rfl (does_move (.tmp 75) (resV [(.own 3), (e_api_Letter v15.2.1), (.bool v15.2.2)]) trivial), ⟨⟨rfl, trivial⟩, trivial, rfl⟩, rfl,
      Step.plain rfl (does_extract 67 0 3 (fun j => [(.own 3), (e_api_Letter v15.2.1), (.bool v15.2.2)].getD j (.bool false)) (Nat.le_of_ble_eq_true rfl)), ⟨⟨rfl, trivial⟩, trivial, rfl⟩, rfl,
      Step.plain rfl (does_extract 67 1 3 (fun j => [(.own 3), (e_api_Letter v15.2.1), (.bool v15.2.2)].getD j (.bool false)) (Nat.le_of_ble_eq_true rfl)), ⟨⟨rfl, trivial⟩, trivial, rfl⟩, rfl,
      Step.plain rfl (does_extract 67 2 3 (fun j => [(.own 3), (e_api_Letter v15.2.1), (.bool v15.2.2)].getD j (.bool false)) (Nat.le_of_ble_eq_true rfl)), ⟨⟨rfl, trivial⟩, trivial, rfl⟩, rfl,
      Step.plain rfl (does_alloc 27 5 (e_api_Letter z_api_Letter) zr27), ⟨trivial, trivial, rfl⟩, rfl,
      Step.plain rfl (does_assign (.tmp 76) (.own 3) trivial), ⟨⟨rfl, trivial⟩, trivial, rfl⟩, rfl,
      Step.plain rfl (does_store 27 14 (.tmp 77) 5 0 [] (.var (e_api_Letter z_api_Letter)) (.var (e_api_Letter v15.2.1)) (e_api_Letter v15.2.1) true trivial rfl trivial rfl rfl rfl ty27), ⟨⟨rfl, rfl, trivial⟩, ⟨rfl, trivial⟩, rfl⟩, rfl,
      Step.plain rfl (does_assign (.tmp 78) (.bool v15.2.2) trivial), ⟨⟨rfl, trivial⟩, trivial, rfl⟩, rfl, rfl⟩ ?_
    refine aw_cov (cov_prune (s1 := ⟨[(5, (.ptr 0 0 [])), (7, (.own 2)), (9, (.int .i64 v11.1)), (10, (.bool v11.2)), (11, (.int .i64 v13.1)), (12, (.bool v13.2)), (14, (.ptr 5 0 [])), (13, (.own 3))], [(0, some (.var (e_congresslaw14_Pick p2))), (2, some (.arr 4 y10.length fun j => (e_api_Letter (y10.getD j z_api_Letter)))), (3, some (.arr 4 v15.1.length fun j => (e_api_Letter (v15.1.getD j z_api_Letter)))), (5, some (.var (e_api_Letter v15.2.1)))], 6⟩) ⟨rfl, rfl, rfl, rfl, rfl, rfl, rfl, rfl, trivial⟩ ⟨rfl, rfl, rfl, rfl, trivial⟩ (Nat.le_refl _)) ?_
    obtain ⟨v17, h18, H⟩ := bnd H
    refine aw_region (es := [_, _, _, _, _, _, _, _, _, _, _, _, _, _, _, _]) ⟨Step.plain rfl (does_move (.tmp 7) (.own 2) trivial), ⟨⟨rfl, trivial⟩, trivial, rfl⟩, rfl,
      Step.plain rfl (does_fieldAddr 25 0 0 5 0 0 [] (.var (e_congresslaw14_Pick p2)) fl25_0), ⟨⟨rfl, trivial⟩, ⟨rfl, trivial⟩, rfl⟩, rfl,
      Step.plain rfl (does_load 3 81 0 (0 + 0) [0] (.var (e_congresslaw14_Pick p2)) (.int .i64 p2.From) ⟨rfl, Nat.le_of_ble_eq_true rfl, trivial⟩ rfl rfl ty3), ⟨⟨rfl, trivial⟩, ⟨rfl, trivial⟩, rfl⟩, rfl,
      Step.plain rfl (does_fieldAddr 25 1 1 5 0 0 [] (.var (e_congresslaw14_Pick p2)) fl25_1), ⟨⟨rfl, trivial⟩, ⟨rfl, trivial⟩, rfl⟩, rfl,
      Step.plain rfl (does_load 3 83 0 (0 + 1) [1] (.var (e_congresslaw14_Pick p2)) (.int .i64 p2.To) ⟨rfl, Nat.le_of_ble_eq_true rfl, trivial⟩ rfl rfl ty3), ⟨⟨rfl, trivial⟩, ⟨rfl, trivial⟩, rfl⟩, rfl,
      Step.plain rfl (does_fieldAddr 25 2 2 5 0 0 [] (.var (e_congresslaw14_Pick p2)) fl25_2), ⟨⟨rfl, trivial⟩, ⟨rfl, trivial⟩, rfl⟩, rfl,
      Step.plain rfl (does_load 3 85 0 (0 + 2) [2] (.var (e_congresslaw14_Pick p2)) (.int .i64 p2.Index) ⟨rfl, Nat.le_of_ble_eq_true rfl, trivial⟩ rfl rfl ty3), ⟨⟨rfl, trivial⟩, ⟨rfl, trivial⟩, rfl⟩, rfl,
      Step.plain rfl (does_callO 8 0 (fun _ => .any) (.func 8) [(.tmp 80), (.tmp 82), (.tmp 84), (.tmp 86)] [(.own 2), (.int .i64 p2.From), (.int .i64 p2.To), (.int .i64 p2.Index)] [(2, (.arr 4 y10.length fun j => (e_api_Letter (y10.getD j z_api_Letter))))] [] true [(e_s_api_Letter y10), (.int .i64 p2.From), (.int .i64 p2.To), (.int .i64 p2.Index)] _ (resV [(.own 6), (e_api_Letter v17.2.1), (.bool v17.2.2)]) _ 6 2 _ _ rfl fo8 rfl ⟨trivial, trivial, trivial, trivial, trivial⟩ ⟨.ro _ _ (.own 2 _ _ _ (.head _) rfl (fun _ => (d_api_Letter _))), .ro _ _ (.data _ trivial), .ro _ _ (.data _ trivial), .ro _ _ (.data _ trivial), trivial⟩ (lossy_Take_spec y10 p2.From p2.To p2.Index _ h18) rfl (by simp) rfl trivial ⟨⟨Nat.le_of_ble_eq_true rfl, _, rfl, fun _ => (f_api_Letter _)⟩, trivial⟩ (.tup _ _ _ (fun j => match j with | 0 => .own 0 (Nat.le_of_ble_eq_true rfl) | 1 => .data _ ((f_api_Letter v17.2.1)) | 2 => .data _ (trivial) | _ + 3 => .data _ trivial))), ⟨⟨rfl, rfl, rfl, rfl, trivial⟩, ⟨rfl, trivial⟩, rfl⟩, rfl,
      Step.plain rfl (does_move (.tmp 87) (resV [(.own 6), (e_api_Letter v17.2.1), (.bool v17.2.2)]) trivial), ⟨⟨rfl, trivial⟩, trivial, rfl⟩, rfl,
      Step.plain rfl (does_extract 79 0 3 (fun j => [(.own 6), (e_api_Letter v17.2.1), (.bool v17.2.2)].getD j (.bool false)) (Nat.le_of_ble_eq_true rfl)), ⟨⟨rfl, trivial⟩, trivial, rfl⟩, rfl,
      Step.plain rfl (does_extract 79 1 3 (fun j => [(.own 6), (e_api_Letter v17.2.1), (.bool v17.2.2)].getD j (.bool false)) (Nat.le_of_ble_eq_true rfl)), ⟨⟨rfl, trivial⟩, trivial, rfl⟩, rfl,
      Step.plain rfl (does_extract 79 2 3 (fun j => [(.own 6), (e_api_Letter v17.2.1), (.bool v17.2.2)].getD j (.bool false)) (Nat.le_of_ble_eq_true rfl)), ⟨⟨rfl, trivial⟩, trivial, rfl⟩, rfl,
      Step.plain rfl (does_alloc 27 8 (e_api_Letter z_api_Letter) zr27), ⟨trivial, trivial, rfl⟩, rfl,
      Step.plain rfl (does_assign (.tmp 88) (.own 6) trivial), ⟨⟨rfl, trivial⟩, trivial, rfl⟩, rfl,
      Step.plain rfl (does_store 27 17 (.tmp 89) 8 0 [] (.var (e_api_Letter z_api_Letter)) (.var (e_api_Letter v17.2.1)) (e_api_Letter v17.2.1) true trivial rfl trivial rfl rfl rfl ty27), ⟨⟨rfl, rfl, trivial⟩, ⟨rfl, trivial⟩, rfl⟩, rfl,
      Step.plain rfl (does_assign (.tmp 90) (.bool v17.2.2) trivial), ⟨⟨rfl, trivial⟩, trivial, rfl⟩, rfl, rfl⟩ ?_
    refine aw_cov (cov_prune (s1 := ⟨[(9, (.int .i64 v11.1)), (10, (.bool v11.2)), (11, (.int .i64 v13.1)), (12, (.bool v13.2)), (14, (.ptr 5 0 [])), (13, (.own 3)), (17, (.ptr 8 0 [])), (16, (.own 6))], [(3, some (.arr 4 v15.1.length fun j => (e_api_Letter (v15.1.getD j z_api_Letter)))), (5, some (.var (e_api_Letter v15.2.1))), (6, some (.arr 4 v17.1.length fun j => (e_api_Letter (v17.1.getD j z_api_Letter)))), (8, some (.var (e_api_Letter v17.2.1)))], 9⟩) ⟨rfl, rfl, rfl, rfl, rfl, rfl, rfl, rfl, trivial⟩ ⟨rfl, rfl, rfl, rfl, trivial⟩ (Nat.le_refl _)) ?_
    refine aw_seq ?_
    obtain ⟨v19, h20, H⟩ := bnd H
    refine aw_region (es := [_, _, _, _, _, _, _, _, _, _, _, _, _, _, _, _, _, _, _, _, _, _, _, _, _, _, _, _, _, _, _, _, _]) ⟨Step.plain rfl (does_call 15 0 (fun _ => .any) (.func 15) [] [] [] true [] (.bool v19) _ _ rfl fo15 rfl trivial trivial (congresslaw14_fixed_spec _ h20) trivial), ⟨trivial, trivial, rfl⟩, rfl,
      Step.plain rfl (does_not 4 (.tmp 91) v19 trivial), ⟨⟨rfl, trivial⟩, trivial, rfl⟩, rfl,
      Step.plain rfl (does_move (.tmp 92) (.bool (!v19)) trivial), ⟨⟨rfl, trivial⟩, trivial, rfl⟩, rfl,
      Step.guarded rfl rfl rfl rfl (fun hc => does_move (.tmp 9) (.int .i64 v11.1) trivial), ⟨⟨rfl, rfl, trivial⟩, trivial, rfl⟩, rfl,
      Step.guarded rfl rfl rfl rfl (fun hc => does_move (.tmp 11) (.int .i64 v13.1) trivial), ⟨⟨rfl, rfl, trivial⟩, trivial, rfl⟩, rfl,
      Step.guarded rfl rfl rfl rfl (fun hc => Does.strip (n' := [(94, (.opt (!(!v19)) (.int .i64 v11.1))), (95, (.opt (!(!v19)) (.int .i64 v13.1)))]) (n := [(94, (.int .i64 v11.1)), (95, (.int .i64 v13.1))]) ⟨(.opt _ _ hc), (.opt _ _ hc), trivial⟩ (does_bin .neq 3 3 (.tmp 94) (.tmp 95) .i64 v11.1 v13.1 (.bool (v11.1 != v13.1)) trivial trivial (bin_neq _ _ _ _))), ⟨⟨rfl, rfl, rfl, trivial⟩, trivial, rfl⟩, rfl,
      Step.plain rfl (does_or 93 96 (!v19) (v11.1 != v13.1)), ⟨⟨rfl, rfl, trivial⟩, trivial, rfl⟩, rfl,
      Step.plain rfl (does_move (.tmp 97) (.bool ((!v19) || (v11.1 != v13.1))) trivial), ⟨⟨rfl, trivial⟩, trivial, rfl⟩, rfl,
      Step.guarded rfl rfl rfl rfl (fun hc => does_move (.tmp 10) (.bool v11.2) trivial), ⟨⟨rfl, rfl, trivial⟩, trivial, rfl⟩, rfl,
      Step.guarded rfl rfl rfl rfl (fun hc => does_move (.tmp 12) (.bool v13.2) trivial), ⟨⟨rfl, rfl, trivial⟩, trivial, rfl⟩, rfl,
      Step.guarded rfl rfl rfl rfl (fun hc => Does.strip (n' := [(99, (.opt (!((!v19) || (v11.1 != v13.1))) (.bool v11.2))), (100, (.opt (!((!v19) || (v11.1 != v13.1))) (.bool v13.2)))]) (n := [(99, (.bool v11.2)), (100, (.bool v13.2))]) ⟨(.opt _ _ hc), (.opt _ _ hc), trivial⟩ (does_eqBool true 4 4 (.tmp 99) (.tmp 100) v11.2 v13.2 trivial trivial rfl)), ⟨⟨rfl, rfl, rfl, trivial⟩, trivial, rfl⟩, rfl,
      Step.plain rfl (does_or 98 101 ((!v19) || (v11.1 != v13.1)) (v11.2 != v13.2)), ⟨⟨rfl, rfl, trivial⟩, trivial, rfl⟩, rfl,
      Step.plain rfl (does_move (.tmp 102) (.bool (((!v19) || (v11.1 != v13.1)) || (v11.2 != v13.2))) trivial), ⟨⟨rfl, trivial⟩, trivial, rfl⟩, rfl,
      Step.guarded rfl rfl rfl rfl (fun hc => does_move (.tmp 13) (.own 3) trivial), ⟨⟨rfl, rfl, trivial⟩, trivial, rfl⟩, rfl,
      Step.guarded rfl rfl rfl rfl (fun hc => Does.strip (n' := [(104, (.opt (!(((!v19) || (v11.1 != v13.1)) || (v11.2 != v13.2))) (.own 3)))]) (n := [(104, (.own 3))]) ⟨(.opt _ _ hc), trivial⟩ (does_leno 22 4 v15.1.length 104 3 (fun j => (e_api_Letter (v15.1.getD j z_api_Letter))) el22)), ⟨⟨rfl, rfl, trivial⟩, ⟨rfl, trivial⟩, rfl⟩, rfl,
      Step.guarded rfl rfl rfl rfl (fun hc => does_move (.tmp 16) (.own 6) trivial), ⟨⟨rfl, rfl, trivial⟩, trivial, rfl⟩, rfl,
      Step.guarded rfl rfl rfl rfl (fun hc => Does.strip (n' := [(106, (.opt (!(((!v19) || (v11.1 != v13.1)) || (v11.2 != v13.2))) (.own 6)))]) (n := [(106, (.own 6))]) ⟨(.opt _ _ hc), trivial⟩ (does_leno 22 4 v17.1.length 106 6 (fun j => (e_api_Letter (v17.1.getD j z_api_Letter))) el22)), ⟨⟨rfl, rfl, trivial⟩, ⟨rfl, trivial⟩, rfl⟩, rfl,
      Step.guarded rfl rfl rfl rfl (fun hc => Does.strip (n' := [(105, (.opt (!(((!v19) || (v11.1 != v13.1)) || (v11.2 != v13.2))) (.int .i64 (v15.1.length : Int)))), (107, (.opt (!(((!v19) || (v11.1 != v13.1)) || (v11.2 != v13.2))) (.int .i64 (v17.1.length : Int))))]) (n := [(105, (.int .i64 (v15.1.length : Int))), (107, (.int .i64 (v17.1.length : Int)))]) ⟨(.opt _ _ hc), (.opt _ _ hc), trivial⟩ (does_bin .neq 3 3 (.tmp 105) (.tmp 107) .i64 (v15.1.length : Int) (v17.1.length : Int) (.bool ((v15.1.length : Int) != (v17.1.length : Int))) trivial trivial (bin_neq _ _ _ _))), ⟨⟨rfl, rfl, rfl, trivial⟩, trivial, rfl⟩, rfl,
      Step.plain rfl (does_or 103 108 (((!v19) || (v11.1 != v13.1)) || (v11.2 != v13.2)) ((v15.1.length : Int) != (v17.1.length : Int))), ⟨⟨rfl, rfl, trivial⟩, trivial, rfl⟩, rfl,
      Step.plain rfl (does_move (.tmp 109) (.bool ((((!v19) || (v11.1 != v13.1)) || (v11.2 != v13.2)) || ((v15.1.length : Int) != (v17.1.length : Int)))) trivial), ⟨⟨rfl, trivial⟩, trivial, rfl⟩, rfl,
      Step.guarded rfl rfl rfl rfl (fun hc => does_fieldAddr 27 0 0 14 5 0 [] (.var (e_api_Letter v15.2.1)) fl27_0), ⟨⟨rfl, rfl, trivial⟩, ⟨rfl, trivial⟩, rfl⟩, rfl,
      Step.guarded rfl rfl rfl rfl (fun hc => Does.strip (n' := [(111, (.opt (!((((!v19) || (v11.1 != v13.1)) || (v11.2 != v13.2)) || ((v15.1.length : Int) != (v17.1.length : Int)))) (.ptr 5 (0 + 0) [0])))]) (n := [(111, (.ptr 5 (0 + 0) [0]))]) ⟨(.opt _ _ hc), trivial⟩ (does_load 3 111 5 (0 + 0) [0] (.var (e_api_Letter v15.2.1)) (.int .i64 v15.2.1.From) ⟨rfl, Nat.le_of_ble_eq_true rfl, trivial⟩ rfl rfl ty3)), ⟨⟨rfl, rfl, trivial⟩, ⟨rfl, trivial⟩, rfl⟩, rfl,
      Step.guarded rfl rfl rfl rfl (fun hc => does_fieldAddr 27 0 0 17 8 0 [] (.var (e_api_Letter v17.2.1)) fl27_0), ⟨⟨rfl, rfl, trivial⟩, ⟨rfl, trivial⟩, rfl⟩, rfl,
      Step.guarded rfl rfl rfl rfl (fun hc => Does.strip (n' := [(113, (.opt (!((((!v19) || (v11.1 != v13.1)) || (v11.2 != v13.2)) || ((v15.1.length : Int) != (v17.1.length : Int)))) (.ptr 8 (0 + 0) [0])))]) (n := [(113, (.ptr 8 (0 + 0) [0]))]) ⟨(.opt _ _ hc), trivial⟩ (does_load 3 113 8 (0 + 0) [0] (.var (e_api_Letter v17.2.1)) (.int .i64 v17.2.1.From) ⟨rfl, Nat.le_of_ble_eq_true rfl, trivial⟩ rfl rfl ty3)), ⟨⟨rfl, rfl, trivial⟩, ⟨rfl, trivial⟩, rfl⟩, rfl,
      Step.guarded rfl rfl rfl rfl (fun hc => Does.strip (n' := [(112, (.opt (!((((!v19) || (v11.1 != v13.1)) || (v11.2 != v13.2)) || ((v15.1.length : Int) != (v17.1.length : Int)))) (.int .i64 v15.2.1.From))), (114, (.opt (!((((!v19) || (v11.1 != v13.1)) || (v11.2 != v13.2)) || ((v15.1.length : Int) != (v17.1.length : Int)))) (.int .i64 v17.2.1.From)))]) (n := [(112, (.int .i64 v15.2.1.From)), (114, (.int .i64 v17.2.1.From))]) ⟨(.opt _ _ hc), (.opt _ _ hc), trivial⟩ (does_bin .neq 3 3 (.tmp 112) (.tmp 114) .i64 v15.2.1.From v17.2.1.From (.bool (v15.2.1.From != v17.2.1.From)) trivial trivial (bin_neq _ _ _ _))), ⟨⟨rfl, rfl, rfl, trivial⟩, trivial, rfl⟩, rfl,
      Step.plain rfl (does_or 110 115 ((((!v19) || (v11.1 != v13.1)) || (v11.2 != v13.2)) || ((v15.1.length : Int) != (v17.1.length : Int))) (v15.2.1.From != v17.2.1.From)), ⟨⟨rfl, rfl, trivial⟩, trivial, rfl⟩, rfl,
      Step.plain rfl (does_move (.tmp 116) (.bool (((((!v19) || (v11.1 != v13.1)) || (v11.2 != v13.2)) || ((v15.1.length : Int) != (v17.1.length : Int))) || (v15.2.1.From != v17.2.1.From))) trivial), ⟨⟨rfl, trivial⟩, trivial, rfl⟩, rfl,
      Step.guarded rfl rfl rfl rfl (fun hc => does_fieldAddr 27 1 1 14 5 0 [] (.var (e_api_Letter v15.2.1)) fl27_1), ⟨⟨rfl, rfl, trivial⟩, ⟨rfl, trivial⟩, rfl⟩, rfl,
      Step.guarded rfl rfl rfl rfl (fun hc => Does.strip (n' := [(118, (.opt (!(((((!v19) || (v11.1 != v13.1)) || (v11.2 != v13.2)) || ((v15.1.length : Int) != (v17.1.length : Int))) || (v15.2.1.From != v17.2.1.From))) (.ptr 5 (0 + 1) [1])))]) (n := [(118, (.ptr 5 (0 + 1) [1]))]) ⟨(.opt _ _ hc), trivial⟩ (does_load 3 118 5 (0 + 1) [1] (.var (e_api_Letter v15.2.1)) (.int .i64 v15.2.1.To) ⟨rfl, Nat.le_of_ble_eq_true rfl, trivial⟩ rfl rfl ty3)), ⟨⟨rfl, rfl, trivial⟩, ⟨rfl, trivial⟩, rfl⟩, rfl,
      Step.guarded rfl rfl rfl rfl (fun hc => does_fieldAddr 27 1 1 17 8 0 [] (.var (e_api_Letter v17.2.1)) fl27_1), ⟨⟨rfl, rfl, trivial⟩, ⟨rfl, trivial⟩, rfl⟩, rfl,
      Step.guarded rfl rfl rfl rfl (fun hc => Does.strip (n' := [(120, (.opt (!(((((!v19) || (v11.1 != v13.1)) || (v11.2 != v13.2)) || ((v15.1.length : Int) != (v17.1.length : Int))) || (v15.2.1.From != v17.2.1.From))) (.ptr 8 (0 + 1) [1])))]) (n := [(120, (.ptr 8 (0 + 1) [1]))]) ⟨(.opt _ _ hc), trivial⟩ (does_load 3 120 8 (0 + 1) [1] (.var (e_api_Letter v17.2.1)) (.int .i64 v17.2.1.To) ⟨rfl, Nat.le_of_ble_eq_true rfl, trivial⟩ rfl rfl ty3)), ⟨⟨rfl, rfl, trivial⟩, ⟨rfl, trivial⟩, rfl⟩, rfl,
      Step.guarded rfl rfl rfl rfl (fun hc => Does.strip (n' := [(119, (.opt (!(((((!v19) || (v11.1 != v13.1)) || (v11.2 != v13.2)) || ((v15.1.length : Int) != (v17.1.length : Int))) || (v15.2.1.From != v17.2.1.From))) (.int .i64 v15.2.1.To))), (121, (.opt (!(((((!v19) || (v11.1 != v13.1)) || (v11.2 != v13.2)) || ((v15.1.length : Int) != (v17.1.length : Int))) || (v15.2.1.From != v17.2.1.From))) (.int .i64 v17.2.1.To)))]) (n := [(119, (.int .i64 v15.2.1.To)), (121, (.int .i64 v17.2.1.To))]) ⟨(.opt _ _ hc), (.opt _ _ hc), trivial⟩ (does_bin .neq 3 3 (.tmp 119) (.tmp 121) .i64 v15.2.1.To v17.2.1.To (.bool (v15.2.1.To != v17.2.1.To)) trivial trivial (bin_neq _ _ _ _))), ⟨⟨rfl, rfl, rfl, trivial⟩, trivial, rfl⟩, rfl,
      Step.plain rfl (does_or 117 122 (((((!v19) || (v11.1 != v13.1)) || (v11.2 != v13.2)) || ((v15.1.length : Int) != (v17.1.length : Int))) || (v15.2.1.From != v17.2.1.From)) (v15.2.1.To != v17.2.1.To)), ⟨⟨rfl, rfl, trivial⟩, trivial, rfl⟩, rfl, rfl⟩ ?_
    obtain ⟨v21, hv21, H⟩ := lt_of H
    refine aw_cov (cov_prune (s1 := ⟨[(13, (.own 3)), (16, (.own 6)), (123, (.bool v21))], [(3, some (.arr 4 v15.1.length fun j => (e_api_Letter (v15.1.getD j z_api_Letter)))), (6, some (.arr 4 v17.1.length fun j => (e_api_Letter (v17.1.getD j z_api_Letter))))], 9⟩) ⟨rfl, rfl, (by subst hv21; rfl), trivial⟩ ⟨rfl, rfl, trivial⟩ (Nat.le_refl _)) ?_
    refine aw_cond rfl (fun hc => ?_) (fun hc => ?_)
    · replace H := ite_t hc H
      refine aw_region (es := [_]) ⟨Step.plain rfl (does_assign (.const (.bool false)) (.bool false) (fun _ => rfl)), ⟨trivial, trivial, rfl⟩, rfl, rfl⟩ ?_
      refine aw_cov (cov_prune (s1 := ⟨[(6, (.bool false))], [], 9⟩) ⟨rfl, trivial⟩ trivial (Nat.le_refl _)) ?_
      refine aw_ret ?_
      refine rt_then ?_
      exact fun a w hr => ⟨_, [(.bool false)], hr, ⟨⟨_, rfl, .data (.bool false) trivial⟩, trivial⟩, by decide, by cases H; rfl⟩
    · replace H := ite_f hc H
      refine aw_skip ?_
      refine nx_seq ?_
      refine aw_seq ?_
      refine aw_region (es := [_]) ⟨Step.plain rfl (does_assign (.const (.int .i64 0)) (.int .i64 0) (fun _ => rfl)), ⟨trivial, trivial, rfl⟩, rfl, rfl⟩ ?_
      refine aw_cov (cov_prune (s1 := ⟨[(13, (.own 3)), (16, (.own 6)), (19, (.int .i64 0))], [(3, some (.arr 4 v15.1.length fun j => (e_api_Letter (v15.1.getD j z_api_Letter)))), (6, some (.arr 4 v17.1.length fun j => (e_api_Letter (v17.1.getD j z_api_Letter))))], 9⟩) ⟨rfl, rfl, rfl, trivial⟩ ⟨rfl, rfl, trivial⟩ (Nat.le_refl _)) ?_
      obtain ⟨wn23, hwn23, Hrn23⟩ := bnd H
      refine aw_meet (fun y29 : Unit => (⟨[], [], 9⟩ : St)) (fun y29 => Fl.nx y29 = wn23) (fun y29 hy => ?_) (aw_block (aw_runs (fun x22 : Int => (⟨[(13, (.own 3)), (16, (.own 6)), (19, (.int .i64 x22))], [(3, some (.arr 4 v15.1.length fun j => (e_api_Letter (v15.1.getD j z_api_Letter)))), (6, some (.arr 4 v17.1.length fun j => (e_api_Letter (v17.1.getD j z_api_Letter))))], 9⟩ : St)) hwn23 (cov_prune ⟨rfl, rfl, rfl, trivial⟩ ⟨rfl, rfl, trivial⟩ (Nat.le_of_ble_eq_true rfl)) (fun x22 st H hsn23 => ?_)))
      · have H := nx_of hy Hrn23
        refine nx_seq ?_
        refine aw_region (es := [_]) ⟨Step.plain rfl (does_assign (.const (.bool true)) (.bool true) (fun _ => rfl)), ⟨trivial, trivial, rfl⟩, rfl, rfl⟩ ?_
        refine aw_cov (cov_prune (s1 := ⟨[(6, (.bool true))], [], 9⟩) ⟨rfl, trivial⟩ trivial (Nat.le_refl _)) ?_
        refine aw_ret ?_
        exact fun a w hr => ⟨_, [(.bool true)], hr, ⟨⟨_, rfl, .data (.bool true) trivial⟩, trivial⟩, by decide, by cases H; rfl⟩
      · refine aw_seq ?_
        refine aw_region (es := [_, _, _, _]) ⟨Step.plain rfl (does_move (.tmp 19) (.int .i64 x22) trivial), ⟨⟨rfl, trivial⟩, trivial, rfl⟩, rfl,
          Step.plain rfl (does_move (.tmp 13) (.own 3) trivial), ⟨⟨rfl, trivial⟩, trivial, rfl⟩, rfl,
          Step.plain rfl (does_leno 22 4 v15.1.length 125 3 (fun j => (e_api_Letter (v15.1.getD j z_api_Letter))) el22), ⟨⟨rfl, trivial⟩, ⟨rfl, trivial⟩, rfl⟩, rfl,
          Step.plain rfl (does_bin .lss 3 3 (.tmp 124) (.tmp 126) .i64 x22 (v15.1.length : Int) (.bool (decide (x22 < (v15.1.length : Int)))) trivial trivial (bin_lss _ _ _ _)), ⟨⟨rfl, rfl, trivial⟩, trivial, rfl⟩, rfl, rfl⟩ ?_
        refine aw_cov (cov_prune (s1 := ⟨[(13, (.own 3)), (16, (.own 6)), (19, (.int .i64 x22)), (127, (.bool (decide (x22 < (v15.1.length : Int)))))], [(3, some (.arr 4 v15.1.length fun j => (e_api_Letter (v15.1.getD j z_api_Letter)))), (6, some (.arr 4 v17.1.length fun j => (e_api_Letter (v17.1.getD j z_api_Letter))))], 9⟩) ⟨rfl, rfl, rfl, rfl, trivial⟩ ⟨rfl, rfl, trivial⟩ (Nat.le_refl _)) ?_
        refine aw_cond rfl (fun hc => ?_) (fun hc => ?_)
        · replace H := ite_t hc H
          refine aw_skip ?_
          refine nx_seq ?_
          refine aw_seq ?_
          refine aw_block ?_
          obtain ⟨h24, H⟩ := ib_of H
          obtain ⟨h25, H⟩ := ib_of H
          obtain ⟨h26, H⟩ := ibg_of H
          obtain ⟨h27, H⟩ := ibg_of H
          refine aw_draw (es := [_, _, _, _, _, _, _, _, _, _, _, _, _, _, _, _, _, _, _, _, _, _, _, _]) (mixed) ⟨Step.plain rfl (does_move (.tmp 13) (.own 3) trivial), ⟨⟨rfl, trivial⟩, trivial, rfl⟩, rfl,
            Step.plain rfl (does_move (.tmp 19) (.int .i64 x22) trivial), ⟨⟨rfl, trivial⟩, trivial, rfl⟩, rfl,
            Step.plain rfl (does_indexAddro 22 4 v15.1.length 130 3 (fun j => (e_api_Letter (v15.1.getD j z_api_Letter))) (.tmp 131) .i64 x22 el22 trivial h24.1 h24.2), ⟨⟨rfl, rfl, trivial⟩, ⟨rfl, trivial⟩, rfl⟩, rfl,
            Step.plain rfl (does_fieldAddr 27 0 0 132 3 (x22.toNat * 4) [x22.toNat] (.arr 4 v15.1.length fun j => (e_api_Letter (v15.1.getD j z_api_Letter))) fl27_0), ⟨⟨rfl, trivial⟩, ⟨rfl, trivial⟩, rfl⟩, rfl,
            Step.plain rfl (does_load 3 133 3 ((x22.toNat * 4) + 0) [x22.toNat, 0] (.arr 4 v15.1.length fun j => (e_api_Letter (v15.1.getD j z_api_Letter))) (.int .i64 ((v15.1.getD x22.toNat z_api_Letter).From)) ⟨(ixl h24), ⟨rfl, Nat.le_of_ble_eq_true rfl, trivial⟩⟩ rfl rfl ty3), ⟨⟨rfl, trivial⟩, ⟨rfl, trivial⟩, rfl⟩, rfl,
            Step.plain rfl (does_move (.tmp 16) (.own 6) trivial), ⟨⟨rfl, trivial⟩, trivial, rfl⟩, rfl,
            Step.plain rfl (does_move (.tmp 19) (.int .i64 x22) trivial), ⟨⟨rfl, trivial⟩, trivial, rfl⟩, rfl,
            Step.plain rfl (does_indexAddro 22 4 v17.1.length 135 6 (fun j => (e_api_Letter (v17.1.getD j z_api_Letter))) (.tmp 136) .i64 x22 el22 trivial h25.1 h25.2), ⟨⟨rfl, rfl, trivial⟩, ⟨rfl, trivial⟩, rfl⟩, rfl,
            Step.plain rfl (does_fieldAddr 27 0 0 137 6 (x22.toNat * 4) [x22.toNat] (.arr 4 v17.1.length fun j => (e_api_Letter (v17.1.getD j z_api_Letter))) fl27_0), ⟨⟨rfl, trivial⟩, ⟨rfl, trivial⟩, rfl⟩, rfl,
            Step.plain rfl (does_load 3 138 6 ((x22.toNat * 4) + 0) [x22.toNat, 0] (.arr 4 v17.1.length fun j => (e_api_Letter (v17.1.getD j z_api_Letter))) (.int .i64 ((v17.1.getD x22.toNat z_api_Letter).From)) ⟨(ixl h25), ⟨rfl, Nat.le_of_ble_eq_true rfl, trivial⟩⟩ rfl rfl ty3), ⟨⟨rfl, trivial⟩, ⟨rfl, trivial⟩, rfl⟩, rfl,
            Step.plain rfl (does_bin .neq 3 3 (.tmp 134) (.tmp 139) .i64 ((v15.1.getD x22.toNat z_api_Letter).From) ((v17.1.getD x22.toNat z_api_Letter).From) (.bool (((v15.1.getD x22.toNat z_api_Letter).From) != ((v17.1.getD x22.toNat z_api_Letter).From))) trivial trivial (bin_neq _ _ _ _)), ⟨⟨rfl, rfl, trivial⟩, trivial, rfl⟩, rfl,
            Step.plain rfl (does_move (.tmp 140) (.bool (((v15.1.getD x22.toNat z_api_Letter).From) != ((v17.1.getD x22.toNat z_api_Letter).From))) trivial), ⟨⟨rfl, trivial⟩, trivial, rfl⟩, rfl,
            Step.guarded rfl rfl rfl rfl (fun hc => does_move (.tmp 13) (.own 3) trivial), ⟨⟨rfl, rfl, trivial⟩, trivial, rfl⟩, rfl,
            Step.guarded rfl rfl rfl rfl (fun hc => does_move (.tmp 19) (.int .i64 x22) trivial), ⟨⟨rfl, rfl, trivial⟩, trivial, rfl⟩, rfl,
            Step.guarded rfl rfl rfl rfl (fun hc => Does.strip (n' := [(142, (.opt (!(((v15.1.getD x22.toNat z_api_Letter).From) != ((v17.1.getD x22.toNat z_api_Letter).From))) (.own 3))), (143, (.opt (!(((v15.1.getD x22.toNat z_api_Letter).From) != ((v17.1.getD x22.toNat z_api_Letter).From))) (.int .i64 x22)))]) (n := [(142, (.own 3)), (143, (.int .i64 x22))]) ⟨(.opt _ _ hc), (.opt _ _ hc), trivial⟩ (does_indexAddro 22 4 v15.1.length 142 3 (fun j => (e_api_Letter (v15.1.getD j z_api_Letter))) (.tmp 143) .i64 x22 el22 trivial (h26 hc).1 (h26 hc).2)), ⟨⟨rfl, rfl, rfl, trivial⟩, ⟨rfl, trivial⟩, rfl⟩, rfl,
            Step.guarded rfl rfl rfl rfl (fun hc => Does.strip (n' := [(144, (.opt (!(((v15.1.getD x22.toNat z_api_Letter).From) != ((v17.1.getD x22.toNat z_api_Letter).From))) (.ptr 3 (x22.toNat * 4) [x22.toNat])))]) (n := [(144, (.ptr 3 (x22.toNat * 4) [x22.toNat]))]) ⟨(.opt _ _ hc), trivial⟩ (does_fieldAddr 27 1 1 144 3 (x22.toNat * 4) [x22.toNat] (.arr 4 v15.1.length fun j => (e_api_Letter (v15.1.getD j z_api_Letter))) fl27_1)), ⟨⟨rfl, rfl, trivial⟩, ⟨rfl, trivial⟩, rfl⟩, rfl,
            Step.guarded rfl rfl rfl rfl (fun hc => Does.strip (n' := [(145, (.opt (!(((v15.1.getD x22.toNat z_api_Letter).From) != ((v17.1.getD x22.toNat z_api_Letter).From))) (.ptr 3 ((x22.toNat * 4) + 1) [x22.toNat, 1])))]) (n := [(145, (.ptr 3 ((x22.toNat * 4) + 1) [x22.toNat, 1]))]) ⟨(.opt _ _ hc), trivial⟩ (does_load 3 145 3 ((x22.toNat * 4) + 1) [x22.toNat, 1] (.arr 4 v15.1.length fun j => (e_api_Letter (v15.1.getD j z_api_Letter))) (.int .i64 ((v15.1.getD x22.toNat z_api_Letter).To)) ⟨(ixl (h26 hc)), ⟨rfl, Nat.le_of_ble_eq_true rfl, trivial⟩⟩ rfl rfl ty3)), ⟨⟨rfl, rfl, trivial⟩, ⟨rfl, trivial⟩, rfl⟩, rfl,
            Step.guarded rfl rfl rfl rfl (fun hc => does_move (.tmp 16) (.own 6) trivial), ⟨⟨rfl, rfl, trivial⟩, trivial, rfl⟩, rfl,
            Step.guarded rfl rfl rfl rfl (fun hc => does_move (.tmp 19) (.int .i64 x22) trivial), ⟨⟨rfl, rfl, trivial⟩, trivial, rfl⟩, rfl,
            Step.guarded rfl rfl rfl rfl (fun hc => Does.strip (n' := [(147, (.opt (!(((v15.1.getD x22.toNat z_api_Letter).From) != ((v17.1.getD x22.toNat z_api_Letter).From))) (.own 6))), (148, (.opt (!(((v15.1.getD x22.toNat z_api_Letter).From) != ((v17.1.getD x22.toNat z_api_Letter).From))) (.int .i64 x22)))]) (n := [(147, (.own 6)), (148, (.int .i64 x22))]) ⟨(.opt _ _ hc), (.opt _ _ hc), trivial⟩ (does_indexAddro 22 4 v17.1.length 147 6 (fun j => (e_api_Letter (v17.1.getD j z_api_Letter))) (.tmp 148) .i64 x22 el22 trivial (h27 hc).1 (h27 hc).2)), ⟨⟨rfl, rfl, rfl, trivial⟩, ⟨rfl, trivial⟩, rfl⟩, rfl,
            Step.guarded rfl rfl rfl rfl (fun hc => Does.strip (n' := [(149, (.opt (!(((v15.1.getD x22.toNat z_api_Letter).From) != ((v17.1.getD x22.toNat z_api_Letter).From))) (.ptr 6 (x22.toNat * 4) [x22.toNat])))]) (n := [(149, (.ptr 6 (x22.toNat * 4) [x22.toNat]))]) ⟨(.opt _ _ hc), trivial⟩ (does_fieldAddr 27 1 1 149 6 (x22.toNat * 4) [x22.toNat] (.arr 4 v17.1.length fun j => (e_api_Letter (v17.1.getD j z_api_Letter))) fl27_1)), ⟨⟨rfl, rfl, trivial⟩, ⟨rfl, trivial⟩, rfl⟩, rfl,
            Step.guarded rfl rfl rfl rfl (fun hc => Does.strip (n' := [(150, (.opt (!(((v15.1.getD x22.toNat z_api_Letter).From) != ((v17.1.getD x22.toNat z_api_Letter).From))) (.ptr 6 ((x22.toNat * 4) + 1) [x22.toNat, 1])))]) (n := [(150, (.ptr 6 ((x22.toNat * 4) + 1) [x22.toNat, 1]))]) ⟨(.opt _ _ hc), trivial⟩ (does_load 3 150 6 ((x22.toNat * 4) + 1) [x22.toNat, 1] (.arr 4 v17.1.length fun j => (e_api_Letter (v17.1.getD j z_api_Letter))) (.int .i64 ((v17.1.getD x22.toNat z_api_Letter).To)) ⟨(ixl (h27 hc)), ⟨rfl, Nat.le_of_ble_eq_true rfl, trivial⟩⟩ rfl rfl ty3)), ⟨⟨rfl, rfl, trivial⟩, ⟨rfl, trivial⟩, rfl⟩, rfl,
            Step.guarded rfl rfl rfl rfl (fun hc => Does.strip (n' := [(146, (.opt (!(((v15.1.getD x22.toNat z_api_Letter).From) != ((v17.1.getD x22.toNat z_api_Letter).From))) (.int .i64 ((v15.1.getD x22.toNat z_api_Letter).To)))), (151, (.opt (!(((v15.1.getD x22.toNat z_api_Letter).From) != ((v17.1.getD x22.toNat z_api_Letter).From))) (.int .i64 ((v17.1.getD x22.toNat z_api_Letter).To))))]) (n := [(146, (.int .i64 ((v15.1.getD x22.toNat z_api_Letter).To))), (151, (.int .i64 ((v17.1.getD x22.toNat z_api_Letter).To)))]) ⟨(.opt _ _ hc), (.opt _ _ hc), trivial⟩ (does_bin .neq 3 3 (.tmp 146) (.tmp 151) .i64 ((v15.1.getD x22.toNat z_api_Letter).To) ((v17.1.getD x22.toNat z_api_Letter).To) (.bool (((v15.1.getD x22.toNat z_api_Letter).To) != ((v17.1.getD x22.toNat z_api_Letter).To))) trivial trivial (bin_neq _ _ _ _))), ⟨⟨rfl, rfl, rfl, trivial⟩, trivial, rfl⟩, rfl,
            Step.plain rfl (does_or 141 152 (((v15.1.getD x22.toNat z_api_Letter).From) != ((v17.1.getD x22.toNat z_api_Letter).From)) (((v15.1.getD x22.toNat z_api_Letter).To) != ((v17.1.getD x22.toNat z_api_Letter).To))), ⟨⟨rfl, rfl, trivial⟩, trivial, rfl⟩, rfl, rfl⟩ rfl ?_
          obtain ⟨v28, hv28, H⟩ := lt_of H
          refine aw_cov (cov_prune (s1 := ⟨[(13, (.own 3)), (16, (.own 6)), (19, (.int .i64 x22)), (153, (.bool v28))], [(3, some (.arr 4 v15.1.length fun j => (e_api_Letter (v15.1.getD j z_api_Letter)))), (6, some (.arr 4 v17.1.length fun j => (e_api_Letter (v17.1.getD j z_api_Letter))))], 9⟩) ⟨rfl, rfl, rfl, (by subst hv28; rfl), trivial⟩ ⟨rfl, rfl, trivial⟩ (Nat.le_refl _)) ?_
          refine aw_cond rfl (fun hc => ?_) (fun hc => ?_)
          · replace H := ite_t hc H
            refine aw_region (es := [_]) ⟨Step.plain rfl (does_assign (.const (.bool false)) (.bool false) (fun _ => rfl)), ⟨trivial, trivial, rfl⟩, rfl, rfl⟩ ?_
            refine aw_cov (cov_prune (s1 := ⟨[(6, (.bool false))], [], 9⟩) ⟨rfl, trivial⟩ trivial (Nat.le_refl _)) ?_
            refine aw_ret ?_
            replace H := rt_of H hsn23 Hrn23
            refine rt_blk ?_
            refine rt_then ?_
            refine rt_then ?_
            refine rt_blk ?_
            refine rt_then ?_
            refine rt_then ?_
            exact fun a w hr => ⟨_, [(.bool false)], hr, ⟨⟨_, rfl, .data (.bool false) trivial⟩, trivial⟩, by decide, by cases H; rfl⟩
          · replace H := ite_f hc H
            refine aw_skip ?_
            refine nx_blk ?_
            refine nx_seq ?_
            refine aw_region1 (es := [_, _, _]) ⟨Step.plain rfl (does_move (.tmp 19) (.int .i64 x22) trivial), ⟨⟨rfl, trivial⟩, trivial, rfl⟩, rfl,
              Step.plain rfl (does_bin .add 3 3 (.tmp 128) (.const (.int .i64 1)) .i64 x22 1 (.int .i64 (IntKind.i64.wrap (x22 + 1))) trivial (fun _ => rfl) (bin_add _ _ _ _)), ⟨⟨rfl, trivial⟩, trivial, rfl⟩, rfl,
              Step.plain rfl (does_assign (.tmp 129) (.int .i64 (IntKind.i64.wrap (x22 + 1))) trivial), ⟨⟨rfl, trivial⟩, trivial, rfl⟩, rfl, rfl⟩ ?_
            exact nx_loop ((IntKind.i64.wrap (x22 + 1))) H (cov_prune ⟨rfl, rfl, rfl, trivial⟩ ⟨rfl, rfl, trivial⟩ (Nat.le_of_ble_eq_true rfl))
        · replace H := ite_f hc H
          refine aw_exit ?_
          refine ex_then ?_
          refine ex_then ?_
          refine ex_here ?_
          exact nx_ljoin () H hsn23 (cov_prune trivial trivial (Nat.le_of_ble_eq_true rfl))
  · refine aw_seq ?_
    refine aw_region (es := [_, _, _, _]) ⟨Step.plain rfl (does_move (.tmp 8) (.int .i64 x2.1) trivial), ⟨⟨rfl, trivial⟩, trivial, rfl⟩, rfl,
      Step.plain rfl (does_move (.tmp 7) (.own 2) trivial), ⟨⟨rfl, trivial⟩, trivial, rfl⟩, rfl,
      Step.plain rfl (does_leno 22 4 x2.2.length 24 2 (fun j => (e_api_Letter (x2.2.getD j z_api_Letter))) el22), ⟨⟨rfl, trivial⟩, ⟨rfl, trivial⟩, rfl⟩, rfl,
      Step.plain rfl (does_bin .lss 3 3 (.tmp 23) (.tmp 25) .i64 x2.1 (x2.2.length : Int) (.bool (decide (x2.1 < (x2.2.length : Int)))) trivial trivial (bin_lss _ _ _ _)), ⟨⟨rfl, rfl, trivial⟩, trivial, rfl⟩, rfl, rfl⟩ ?_
    refine aw_cov (cov_prune (s1 := ⟨[(0, (e_s_api_Letter p0)), (1, (e_s_str p1)), (5, (.ptr 0 0 [])), (7, (.own 2)), (8, (.int .i64 x2.1)), (26, (.bool (decide (x2.1 < (x2.2.length : Int)))))], [(0, some (.var (e_congresslaw14_Pick p2))), (2, some (.arr 4 x2.2.length fun j => (e_api_Letter (x2.2.getD j z_api_Letter))))], 3⟩) ⟨rfl, rfl, rfl, rfl, rfl, rfl, trivial⟩ ⟨rfl, rfl, trivial⟩ (Nat.le_refl _)) ?_
    refine aw_cond rfl (fun hc => ?_) (fun hc => ?_)
    · replace H := ite_t hc H
      refine aw_skip ?_
      refine nx_seq ?_
      refine aw_seq ?_
      refine aw_jn (fun x9 : _root_.List api_Letter => (⟨[(0, (e_s_api_Letter p0)), (1, (e_s_str p1)), (5, (.ptr 0 0 [])), (7, (.own 2)), (8, (.int .i64 x2.1))], [(0, some (.var (e_congresslaw14_Pick p2))), (2, some (.arr 4 x9.length fun j => (e_api_Letter (x9.getD j z_api_Letter))))], 3⟩ : St)) H (fun x9 H => ?_) (fun j4 H => ?_)
      · refine nx_seq ?_
        refine aw_region1 (es := [_, _, _]) ⟨Step.plain rfl (does_move (.tmp 8) (.int .i64 x2.1) trivial), ⟨⟨rfl, trivial⟩, trivial, rfl⟩, rfl,
          Step.plain rfl (does_bin .add 3 3 (.tmp 27) (.const (.int .i64 1)) .i64 x2.1 1 (.int .i64 (IntKind.i64.wrap (x2.1 + 1))) trivial (fun _ => rfl) (bin_add _ _ _ _)), ⟨⟨rfl, trivial⟩, trivial, rfl⟩, rfl,
          Step.plain rfl (does_assign (.tmp 28) (.int .i64 (IntKind.i64.wrap (x2.1 + 1))) trivial), ⟨⟨rfl, trivial⟩, trivial, rfl⟩, rfl, rfl⟩ ?_
        exact nx_loop ((IntKind.i64.wrap (x2.1 + 1)), x9) H (cov_prune ⟨rfl, rfl, rfl, rfl, rfl, trivial⟩ ⟨rfl, rfl, trivial⟩ (Nat.le_of_ble_eq_true rfl))
      · refine aw_block ?_
        obtain ⟨h5, H⟩ := ib_of H
        refine aw_region (es := [_, _, _, _, _]) ⟨Step.plain rfl (does_move (.tmp 7) (.own 2) trivial), ⟨⟨rfl, trivial⟩, trivial, rfl⟩, rfl,
          Step.plain rfl (does_move (.tmp 8) (.int .i64 x2.1) trivial), ⟨⟨rfl, trivial⟩, trivial, rfl⟩, rfl,
          Step.plain rfl (does_indexAddro 22 4 x2.2.length 29 2 (fun j => (e_api_Letter (x2.2.getD j z_api_Letter))) (.tmp 30) .i64 x2.1 el22 trivial h5.1 h5.2), ⟨⟨rfl, rfl, trivial⟩, ⟨rfl, trivial⟩, rfl⟩, rfl,
          Step.plain rfl (does_fieldAddr 27 2 2 31 2 (x2.1.toNat * 4) [x2.1.toNat] (.arr 4 x2.2.length fun j => (e_api_Letter (x2.2.getD j z_api_Letter))) fl27_2), ⟨⟨rfl, trivial⟩, ⟨rfl, trivial⟩, rfl⟩, rfl,
          Step.plain rfl (does_store 9 32 (.const (.string ByteArray.empty)) 2 ((x2.1.toNat * 4) + 2) [x2.1.toNat, 2] (.arr 4 x2.2.length fun j => (e_api_Letter (x2.2.getD j z_api_Letter))) (.arr 4 (x2.2.set x2.1.toNat ({ x2.2.getD x2.1.toNat z_api_Letter with Text := ByteArray.empty })).length fun j => (e_api_Letter ((x2.2.set x2.1.toNat ({ x2.2.getD x2.1.toNat z_api_Letter with Text := ByteArray.empty })).getD j z_api_Letter))) (.str ByteArray.empty) false (fun _ => rfl) rfl ⟨(ixl h5), ⟨rfl, Nat.le_of_ble_eq_true rfl, trivial⟩⟩ rfl rfl (set_arr e_api_Letter z_api_Letter _ (ixl h5) (set_cons rfl (st_api_Letter_2 _ _))) ty9), ⟨⟨rfl, trivial⟩, ⟨rfl, trivial⟩, rfl⟩, rfl, rfl⟩ ?_
        obtain ⟨v6, hv6, H⟩ := lt_of H
        refine aw_cov (cov_prune (s1 := ⟨[(0, (e_s_api_Letter p0)), (1, (e_s_str p1)), (5, (.ptr 0 0 [])), (7, (.own 2)), (8, (.int .i64 x2.1))], [(0, some (.var (e_congresslaw14_Pick p2))), (2, some (.arr 4 v6.length fun j => (e_api_Letter (v6.getD j z_api_Letter))))], 3⟩) ⟨rfl, rfl, rfl, rfl, rfl, trivial⟩ ⟨rfl, (by subst hv6; rfl), trivial⟩ (Nat.le_refl _)) ?_
        refine aw_region (es := [_, _, _, _]) ⟨Step.plain rfl (does_move (.tmp 8) (.int .i64 x2.1) trivial), ⟨⟨rfl, trivial⟩, trivial, rfl⟩, rfl,
          Step.plain rfl (does_move (.tmp 1) (e_s_str p1) trivial), ⟨⟨rfl, trivial⟩, trivial, rfl⟩, rfl,
          Step.plain rfl (does_lens 39 1 p1.length 34 (fun j => (.str (p1.getD j ByteArray.empty))) el39), ⟨⟨rfl, trivial⟩, trivial, rfl⟩, rfl,
          Step.plain rfl (does_bin .lss 3 3 (.tmp 33) (.tmp 35) .i64 x2.1 (p1.length : Int) (.bool (decide (x2.1 < (p1.length : Int)))) trivial trivial (bin_lss _ _ _ _)), ⟨⟨rfl, rfl, trivial⟩, trivial, rfl⟩, rfl, rfl⟩ ?_
        refine aw_cov (cov_prune (s1 := ⟨[(0, (e_s_api_Letter p0)), (1, (e_s_str p1)), (5, (.ptr 0 0 [])), (7, (.own 2)), (8, (.int .i64 x2.1)), (36, (.bool (decide (x2.1 < (p1.length : Int)))))], [(0, some (.var (e_congresslaw14_Pick p2))), (2, some (.arr 4 v6.length fun j => (e_api_Letter (v6.getD j z_api_Letter))))], 3⟩) ⟨rfl, rfl, rfl, rfl, rfl, rfl, trivial⟩ ⟨rfl, rfl, trivial⟩ (Nat.le_refl _)) ?_
        refine aw_cond rfl (fun hc => ?_) (fun hc => ?_)
        · replace H := ite_t hc H
          obtain ⟨h7, H⟩ := ib_of H
          obtain ⟨h8, H⟩ := ib_of H
          refine aw_region1 (es := [_, _, _, _, _, _, _, _, _]) ⟨Step.plain rfl (does_move (.tmp 7) (.own 2) trivial), ⟨⟨rfl, trivial⟩, trivial, rfl⟩, rfl,
            Step.plain rfl (does_move (.tmp 8) (.int .i64 x2.1) trivial), ⟨⟨rfl, trivial⟩, trivial, rfl⟩, rfl,
            Step.plain rfl (does_move (.tmp 1) (e_s_str p1) trivial), ⟨⟨rfl, trivial⟩, trivial, rfl⟩, rfl,
            Step.plain rfl (does_move (.tmp 8) (.int .i64 x2.1) trivial), ⟨⟨rfl, trivial⟩, trivial, rfl⟩, rfl,
            Step.plain rfl (does_indexAddrs 39 1 p1.length 39 (fun j => (.str (p1.getD j ByteArray.empty))) (.tmp 40) .i64 x2.1 el39 trivial h7.1 h7.2), ⟨⟨rfl, rfl, trivial⟩, trivial, rfl⟩, rfl,
            Step.plain rfl (does_loadc 9 41 (.str (p1.getD x2.1.toNat ByteArray.empty)) ty9), ⟨⟨rfl, trivial⟩, trivial, rfl⟩, rfl,
            Step.plain rfl (does_indexAddro 22 4 v6.length 37 2 (fun j => (e_api_Letter (v6.getD j z_api_Letter))) (.tmp 38) .i64 x2.1 el22 trivial h8.1 h8.2), ⟨⟨rfl, rfl, trivial⟩, ⟨rfl, trivial⟩, rfl⟩, rfl,
            Step.plain rfl (does_fieldAddr 27 2 2 43 2 (x2.1.toNat * 4) [x2.1.toNat] (.arr 4 v6.length fun j => (e_api_Letter (v6.getD j z_api_Letter))) fl27_2), ⟨⟨rfl, trivial⟩, ⟨rfl, trivial⟩, rfl⟩, rfl,
            Step.plain rfl (does_store 9 44 (.tmp 42) 2 ((x2.1.toNat * 4) + 2) [x2.1.toNat, 2] (.arr 4 v6.length fun j => (e_api_Letter (v6.getD j z_api_Letter))) (.arr 4 (v6.set x2.1.toNat ({ v6.getD x2.1.toNat z_api_Letter with Text := p1.getD x2.1.toNat ByteArray.empty })).length fun j => (e_api_Letter ((v6.set x2.1.toNat ({ v6.getD x2.1.toNat z_api_Letter with Text := p1.getD x2.1.toNat ByteArray.empty })).getD j z_api_Letter))) (.str (p1.getD x2.1.toNat ByteArray.empty)) false trivial rfl ⟨(ixl h8), ⟨rfl, Nat.le_of_ble_eq_true rfl, trivial⟩⟩ rfl rfl (set_arr e_api_Letter z_api_Letter _ (ixl h8) (set_cons rfl (st_api_Letter_2 _ _))) ty9), ⟨⟨rfl, rfl, trivial⟩, ⟨rfl, trivial⟩, rfl⟩, rfl, rfl⟩ ?_
          refine nx_blk ?_
          exact nx_join (v6.set x2.1.toNat ({ v6.getD x2.1.toNat z_api_Letter with Text := p1.getD x2.1.toNat ByteArray.empty })) H (cov_prune ⟨rfl, rfl, rfl, rfl, rfl, trivial⟩ ⟨rfl, rfl, trivial⟩ (Nat.le_of_ble_eq_true rfl))
        · replace H := ite_f hc H
          refine aw_skip ?_
          refine nx_blk ?_
          exact nx_join (v6) H (cov_prune ⟨rfl, rfl, rfl, rfl, rfl, trivial⟩ ⟨rfl, rfl, trivial⟩ (Nat.le_of_ble_eq_true rfl))
    · replace H := ite_f hc H
      refine aw_exit ?_
      refine ex_then ?_
      refine ex_then ?_
      refine ex_here ?_
      exact nx_ljoin (x2.2) H hsn3 (cov_prune ⟨rfl, rfl, rfl, trivial⟩ ⟨rfl, rfl, trivial⟩ (Nat.le_of_ble_eq_true rfl))
end Go.Proofs.Ytdaeajonhfkpaaa
