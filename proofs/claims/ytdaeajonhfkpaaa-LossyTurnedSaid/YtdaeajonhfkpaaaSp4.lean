/- Printed by gen.py. Conditions: none. -/
import Derived.Test.YtdaeajonhfkpaaaSp3
import Derived.KernelRfl
set_option linter.unusedVariables false
set_option maxRecDepth 100000
namespace Go.Proofs.Ytdaeajonhfkpaaa
open Go.Eng
set_option maxHeartbeats 1600000
theorem congresslaw14_LossyOrder_spec (p0 : (_root_.List api_Letter)) (p1 : Int) (p2 : Int) (r : Bool) (H : congresslaw14_LossyOrder p0 p1 p2 = some r) : FSpec Try.prog 5 [(e_s_api_Letter p0), (.int .i64 p1), (.int .i64 p2)] (.bool r) := by
  refine spec_of (fn := Try.f5) (args := [(e_s_api_Letter p0), (.int .i64 p1), (.int .i64 p2)]) Try.func5 rfl (Nat.le_of_ble_eq_true rfl) ?_
  rintro ⟨G, w0, W, S, Sp⟩ hG
  cases hG
  unfold congresslaw14_LossyOrder at H
  refine aw_region (es := [_]) ⟨Step.plain rfl (does_assign (.const (.bool false)) (.bool false) (fun _ => rfl)), ⟨trivial, trivial, rfl⟩, rfl, rfl⟩ ?_
  refine aw_cov (cov_prune (s1 := ⟨[(0, (e_s_api_Letter p0)), (1, (.int .i64 p1)), (2, (.int .i64 p2))], [], 0⟩) ⟨rfl, rfl, rfl, trivial⟩ trivial (Nat.le_refl _)) ?_
  refine aw_seq ?_
  obtain ⟨v1, h2, H⟩ := bnd H
  refine aw_region (es := [_, _, _, _, _, _, _]) ⟨Step.plain rfl (does_call 15 0 (fun _ => .any) (.func 15) [] [] [] true [] (.bool v1) _ _ rfl fo15 rfl trivial trivial (congresslaw14_fixed_spec _ h2) trivial), ⟨trivial, trivial, rfl⟩, rfl,
    Step.plain rfl (does_not 4 (.tmp 16) v1 trivial), ⟨⟨rfl, trivial⟩, trivial, rfl⟩, rfl,
    Step.plain rfl (does_move (.tmp 17) (.bool (!v1)) trivial), ⟨⟨rfl, trivial⟩, trivial, rfl⟩, rfl,
    Step.guarded rfl rfl rfl rfl (fun hc => does_move (.tmp 0) (e_s_api_Letter p0) trivial), ⟨⟨rfl, rfl, trivial⟩, trivial, rfl⟩, rfl,
    Step.guarded rfl rfl rfl rfl (fun hc => Does.strip (n' := [(19, (.opt (!(!v1)) (e_s_api_Letter p0)))]) (n := [(19, (e_s_api_Letter p0))]) ⟨(.opt _ _ hc), trivial⟩ (does_lens 22 4 p0.length 19 (fun j => (e_api_Letter (p0.getD j z_api_Letter))) el22)), ⟨⟨rfl, rfl, trivial⟩, trivial, rfl⟩, rfl,
    Step.guarded rfl rfl rfl rfl (fun hc => Does.strip (n' := [(20, (.opt (!(!v1)) (.int .i64 (p0.length : Int))))]) (n := [(20, (.int .i64 (p0.length : Int)))]) ⟨(.opt _ _ hc), trivial⟩ (does_bin .gtr 3 3 (.tmp 20) (.const (.int .i64 200)) .i64 (p0.length : Int) 200 (.bool (decide ((p0.length : Int) > 200))) trivial (fun _ => rfl) (bin_gtr _ _ _ _))), ⟨⟨rfl, rfl, trivial⟩, trivial, rfl⟩, rfl,
    Step.plain rfl (does_or 18 21 (!v1) (decide ((p0.length : Int) > 200))), ⟨⟨rfl, rfl, trivial⟩, trivial, rfl⟩, rfl, rfl⟩ ?_
  refine aw_cov (cov_prune (s1 := ⟨[(0, (e_s_api_Letter p0)), (1, (.int .i64 p1)), (2, (.int .i64 p2)), (22, (.bool ((!v1) || (decide ((p0.length : Int) > 200)))))], [], 0⟩) ⟨rfl, rfl, rfl, rfl, trivial⟩ trivial (Nat.le_refl _)) ?_
  refine aw_cond rfl (fun hc => ?_) (fun hc => ?_)
  · replace H := ite_t hc H
    obtain ⟨v3, h4, H⟩ := bnd H
    refine aw_region (es := [_, _]) ⟨Step.plain rfl (does_call 15 0 (fun _ => .any) (.func 15) [] [] [] true [] (.bool v3) _ _ rfl fo15 rfl trivial trivial (congresslaw14_fixed_spec _ h4) trivial), ⟨trivial, trivial, rfl⟩, rfl,
      Step.plain rfl (does_assign (.tmp 23) (.bool v3) trivial), ⟨⟨rfl, trivial⟩, trivial, rfl⟩, rfl, rfl⟩ ?_
    refine aw_cov (cov_prune (s1 := ⟨[(6, (.bool v3))], [], 0⟩) ⟨rfl, trivial⟩ trivial (Nat.le_refl _)) ?_
    refine aw_ret ?_
    refine rt_then ?_
    exact fun a w hr => ⟨_, [(.bool v3)], hr, ⟨⟨_, rfl, .data (.bool v3) trivial⟩, trivial⟩, by decide, by cases H; rfl⟩
  · replace H := ite_f hc H
    refine aw_skip ?_
    refine nx_seq ?_
    obtain ⟨h5, H⟩ := fit_of H
    refine aw_region (es := [_, _, _, _]) ⟨Step.plain rfl (does_buildOwn 22 0 4 0 (e_api_Letter z_api_Letter) (fun j => (e_api_Letter (([] : _root_.List api_Letter).getD j z_api_Letter))) #[] [] [] rfl so22 (by decide) trivial trivial (fun j h => match j, h with  | k + 0, h => absurd h (by omega))), ⟨trivial, trivial, rfl⟩, rfl,
      Step.plain rfl (does_move (.tmp 0) (e_s_api_Letter p0) trivial), ⟨⟨rfl, trivial⟩, trivial, rfl⟩, rfl,
      Step.plain rfl (does_appendL e_api_Letter z_api_Letter ([] : _root_.List api_Letter) p0 22 4 40 0 1 24 25 ap22 h5), ⟨⟨rfl, rfl, trivial⟩, ⟨rfl, trivial⟩, rfl⟩, rfl,
      Step.plain rfl (does_assign (.tmp 26) (.own 1) trivial), ⟨⟨rfl, trivial⟩, trivial, rfl⟩, rfl, rfl⟩ ?_
    refine aw_cov (cov_prune (s1 := ⟨[(0, (e_s_api_Letter p0)), (1, (.int .i64 p1)), (2, (.int .i64 p2)), (7, (.own 1))], [(1, some (.arr 4 (([] : _root_.List api_Letter) ++ p0).length fun j => (e_api_Letter ((([] : _root_.List api_Letter) ++ p0).getD j z_api_Letter))))], 2⟩) ⟨rfl, rfl, rfl, rfl, trivial⟩ ⟨rfl, trivial⟩ (Nat.le_refl _)) ?_
    refine aw_region (es := [_, _]) ⟨Step.plain rfl (does_buildOwn 22 0 4 2 (e_api_Letter z_api_Letter) (fun j => (e_api_Letter (([] : _root_.List api_Letter).getD j z_api_Letter))) #[] [] [] rfl so22 (by decide) trivial trivial (fun j h => match j, h with  | k + 0, h => absurd h (by omega))), ⟨trivial, trivial, rfl⟩, rfl,
      Step.plain rfl (does_assign (.tmp 27) (.own 2) trivial), ⟨⟨rfl, trivial⟩, trivial, rfl⟩, rfl, rfl⟩ ?_
    refine aw_cov (cov_prune (s1 := ⟨[(0, (e_s_api_Letter p0)), (1, (.int .i64 p1)), (2, (.int .i64 p2)), (7, (.own 1)), (8, (.own 2))], [(1, some (.arr 4 (([] : _root_.List api_Letter) ++ p0).length fun j => (e_api_Letter ((([] : _root_.List api_Letter) ++ p0).getD j z_api_Letter)))), (2, some (.arr 4 ([] : _root_.List api_Letter).length fun j => (e_api_Letter (([] : _root_.List api_Letter).getD j z_api_Letter))))], 3⟩) ⟨rfl, rfl, rfl, rfl, rfl, trivial⟩ ⟨rfl, rfl, trivial⟩ (Nat.le_refl _)) ?_
    refine aw_seq ?_
    refine aw_region (es := [_]) ⟨Step.plain rfl (does_assign (.const (.int .i64 0)) (.int .i64 0) (fun _ => rfl)), ⟨trivial, trivial, rfl⟩, rfl, rfl⟩ ?_
    refine aw_cov (cov_prune (s1 := ⟨[(0, (e_s_api_Letter p0)), (1, (.int .i64 p1)), (2, (.int .i64 p2)), (7, (.own 1)), (8, (.own 2)), (9, (.int .i64 0))], [(1, some (.arr 4 (([] : _root_.List api_Letter) ++ p0).length fun j => (e_api_Letter ((([] : _root_.List api_Letter) ++ p0).getD j z_api_Letter)))), (2, some (.arr 4 ([] : _root_.List api_Letter).length fun j => (e_api_Letter (([] : _root_.List api_Letter).getD j z_api_Letter))))], 3⟩) ⟨rfl, rfl, rfl, rfl, rfl, rfl, trivial⟩ ⟨rfl, rfl, trivial⟩ (Nat.le_refl _)) ?_
    obtain ⟨wn7, hwn7, Hrn7⟩ := bnd H
    refine aw_meet (fun y20 : _root_.List api_Letter × _root_.List api_Letter => (⟨[(1, (.int .i64 p1)), (2, (.int .i64 p2)), (7, (.own 1)), (8, (.own 2))], [(1, some (.arr 4 y20.1.length fun j => (e_api_Letter (y20.1.getD j z_api_Letter)))), (2, some (.arr 4 y20.2.length fun j => (e_api_Letter (y20.2.getD j z_api_Letter))))], 3⟩ : St)) (fun y20 => Fl.nx y20 = wn7) (fun y20 hy => ?_) (aw_block (aw_runs (fun x6 : Int × _root_.List api_Letter × _root_.List api_Letter => (⟨[(0, (e_s_api_Letter p0)), (1, (.int .i64 p1)), (2, (.int .i64 p2)), (7, (.own 1)), (8, (.own 2)), (9, (.int .i64 x6.1))], [(1, some (.arr 4 x6.2.1.length fun j => (e_api_Letter (x6.2.1.getD j z_api_Letter)))), (2, some (.arr 4 x6.2.2.length fun j => (e_api_Letter (x6.2.2.getD j z_api_Letter))))], 3⟩ : St)) hwn7 (cov_prune ⟨rfl, rfl, rfl, rfl, rfl, rfl, trivial⟩ ⟨rfl, rfl, trivial⟩ (Nat.le_of_ble_eq_true rfl)) (fun x6 st H hsn7 => ?_)))
    · have H := nx_of hy Hrn7
      refine nx_seq ?_
      obtain ⟨v21, h22, H⟩ := bnd H
      refine aw_region (es := [_, _, _, _, _, _, _, _, _, _, _, _]) ⟨Step.plain rfl (does_move (.tmp 7) (.own 1) trivial), ⟨⟨rfl, trivial⟩, trivial, rfl⟩, rfl,
        Step.plain rfl (does_move (.tmp 1) (.int .i64 p1) trivial), ⟨⟨rfl, trivial⟩, trivial, rfl⟩, rfl,
        Step.plain rfl (does_move (.tmp 2) (.int .i64 p2) trivial), ⟨⟨rfl, trivial⟩, trivial, rfl⟩, rfl,
        Step.plain rfl (does_callO 8 0 (fun _ => .any) (.func 8) [(.tmp 77), (.tmp 78), (.tmp 79), (.const (.int .i64 0))] [(.own 1), (.int .i64 p1), (.int .i64 p2), (.int .i64 0)] [(1, (.arr 4 y20.1.length fun j => (e_api_Letter (y20.1.getD j z_api_Letter))))] [] true [(e_s_api_Letter y20.1), (.int .i64 p1), (.int .i64 p2), (.int .i64 0)] _ (resV [(.own 3), (e_api_Letter v21.2.1), (.bool v21.2.2)]) _ 3 2 _ _ rfl fo8 rfl ⟨trivial, trivial, trivial, (fun _ => rfl), trivial⟩ ⟨.ro _ _ (.own 1 _ _ _ (.head _) rfl (fun _ => (d_api_Letter _))), .ro _ _ (.data _ trivial), .ro _ _ (.data _ trivial), .ro _ _ (.data _ trivial), trivial⟩ (lossy_Take_spec y20.1 p1 p2 0 _ h22) rfl (by simp) rfl trivial ⟨⟨Nat.le_of_ble_eq_true rfl, _, rfl, fun _ => (f_api_Letter _)⟩, trivial⟩ (.tup _ _ _ (fun j => match j with | 0 => .own 0 (Nat.le_of_ble_eq_true rfl) | 1 => .data _ ((f_api_Letter v21.2.1)) | 2 => .data _ (trivial) | _ + 3 => .data _ trivial))), ⟨⟨rfl, rfl, rfl, trivial⟩, ⟨rfl, trivial⟩, rfl⟩, rfl,
        Step.plain rfl (does_move (.tmp 80) (resV [(.own 3), (e_api_Letter v21.2.1), (.bool v21.2.2)]) trivial), ⟨⟨rfl, trivial⟩, trivial, rfl⟩, rfl,
        Step.plain rfl (does_extract 76 0 3 (fun j => [(.own 3), (e_api_Letter v21.2.1), (.bool v21.2.2)].getD j (.bool false)) (Nat.le_of_ble_eq_true rfl)), ⟨⟨rfl, trivial⟩, trivial, rfl⟩, rfl,
        Step.plain rfl (does_extract 76 1 3 (fun j => [(.own 3), (e_api_Letter v21.2.1), (.bool v21.2.2)].getD j (.bool false)) (Nat.le_of_ble_eq_true rfl)), ⟨⟨rfl, trivial⟩, trivial, rfl⟩, rfl,
        Step.plain rfl (does_extract 76 2 3 (fun j => [(.own 3), (e_api_Letter v21.2.1), (.bool v21.2.2)].getD j (.bool false)) (Nat.le_of_ble_eq_true rfl)), ⟨⟨rfl, trivial⟩, trivial, rfl⟩, rfl,
        Step.plain rfl (does_alloc 27 5 (e_api_Letter z_api_Letter) zr27), ⟨trivial, trivial, rfl⟩, rfl,
        Step.plain rfl (does_assign (.tmp 81) (.own 3) trivial), ⟨⟨rfl, trivial⟩, trivial, rfl⟩, rfl,
        Step.plain rfl (does_store 27 14 (.tmp 82) 5 0 [] (.var (e_api_Letter z_api_Letter)) (.var (e_api_Letter v21.2.1)) (e_api_Letter v21.2.1) true trivial rfl trivial rfl rfl rfl ty27), ⟨⟨rfl, rfl, trivial⟩, ⟨rfl, trivial⟩, rfl⟩, rfl,
        Step.plain rfl (does_assign (.tmp 83) (.bool v21.2.2) trivial), ⟨⟨rfl, trivial⟩, trivial, rfl⟩, rfl, rfl⟩ ?_
      refine aw_cov (cov_prune (s1 := ⟨[(7, (.own 1)), (8, (.own 2)), (15, (.bool v21.2.2))], [(1, some (.arr 4 y20.1.length fun j => (e_api_Letter (y20.1.getD j z_api_Letter)))), (2, some (.arr 4 y20.2.length fun j => (e_api_Letter (y20.2.getD j z_api_Letter))))], 6⟩) ⟨rfl, rfl, rfl, trivial⟩ ⟨rfl, rfl, trivial⟩ (Nat.le_refl _)) ?_
      obtain ⟨v23, h24, H⟩ := whn_of H
      refine aw_region (es := [_, _, _, _, _, _, _, _]) ⟨Step.plain rfl (does_move (.tmp 15) (.bool v21.2.2) trivial), ⟨⟨rfl, trivial⟩, trivial, rfl⟩, rfl,
        Step.plain rfl (does_not 4 (.tmp 84) v21.2.2 trivial), ⟨⟨rfl, trivial⟩, trivial, rfl⟩, rfl,
        Step.plain rfl (does_move (.tmp 85) (.bool (!v21.2.2)) trivial), ⟨⟨rfl, trivial⟩, trivial, rfl⟩, rfl,
        Step.guarded rfl rfl rfl rfl (fun hc => does_move (.tmp 7) (.own 1) trivial), ⟨⟨rfl, rfl, trivial⟩, trivial, rfl⟩, rfl,
        Step.guarded rfl rfl rfl rfl (fun hc => does_move (.tmp 8) (.own 2) trivial), ⟨⟨rfl, rfl, trivial⟩, trivial, rfl⟩, rfl,
        Step.guarded rfl rfl rfl rfl (fun hc => Does.strip (n' := [(87, (.opt (!v21.2.2) (.own 1))), (88, (.opt (!v21.2.2) (.own 2)))]) (n := [(87, (.own 1)), (88, (.own 2))]) ⟨(.opt _ _ hc), (.opt _ _ hc), trivial⟩ (does_call 12 0 (fun _ => .any) (.func 12) [(.tmp 87), (.tmp 88)] [(.own 1), (.own 2)] [(1, (.arr 4 y20.1.length fun j => (e_api_Letter (y20.1.getD j z_api_Letter)))), (2, (.arr 4 y20.2.length fun j => (e_api_Letter (y20.2.getD j z_api_Letter))))] true [(e_s_api_Letter y20.1), (e_s_api_Letter y20.2)] (.bool v23) _ _ rfl fo12 rfl ⟨trivial, trivial, trivial⟩ ⟨.own 1 _ _ _ (.head _) rfl (fun _ => (d_api_Letter _)), .own 2 _ _ _ (.tail _ (.head _)) rfl (fun _ => (d_api_Letter _)), trivial⟩ (congressref14_Same_spec y20.1 y20.2 _ (h24 hc)) trivial)), ⟨⟨rfl, rfl, rfl, trivial⟩, ⟨rfl, rfl, trivial⟩, rfl⟩, rfl,
        Step.plain rfl (does_and 86 89 (!v21.2.2) v23), ⟨⟨rfl, rfl, trivial⟩, trivial, rfl⟩, rfl,
        Step.plain rfl (does_assign (.tmp 90) (.bool ((!v21.2.2) && v23)) trivial), ⟨⟨rfl, trivial⟩, trivial, rfl⟩, rfl, rfl⟩ ?_
      refine aw_cov (cov_prune (s1 := ⟨[(6, (.bool ((!v21.2.2) && v23)))], [], 6⟩) ⟨rfl, trivial⟩ trivial (Nat.le_refl _)) ?_
      refine aw_ret ?_
      exact fun a w hr => ⟨_, [(.bool ((!v21.2.2) && v23))], hr, ⟨⟨_, rfl, .data (.bool ((!v21.2.2) && v23)) trivial⟩, trivial⟩, by decide, by cases H; rfl⟩
    · refine aw_seq ?_
      refine aw_region (es := [_, _, _, _]) ⟨Step.plain rfl (does_move (.tmp 9) (.int .i64 x6.1) trivial), ⟨⟨rfl, trivial⟩, trivial, rfl⟩, rfl,
        Step.plain rfl (does_move (.tmp 0) (e_s_api_Letter p0) trivial), ⟨⟨rfl, trivial⟩, trivial, rfl⟩, rfl,
        Step.plain rfl (does_lens 22 4 p0.length 29 (fun j => (e_api_Letter (p0.getD j z_api_Letter))) el22), ⟨⟨rfl, trivial⟩, trivial, rfl⟩, rfl,
        Step.plain rfl (does_bin .lss 3 3 (.tmp 28) (.tmp 30) .i64 x6.1 (p0.length : Int) (.bool (decide (x6.1 < (p0.length : Int)))) trivial trivial (bin_lss _ _ _ _)), ⟨⟨rfl, rfl, trivial⟩, trivial, rfl⟩, rfl, rfl⟩ ?_
      refine aw_cov (cov_prune (s1 := ⟨[(0, (e_s_api_Letter p0)), (1, (.int .i64 p1)), (2, (.int .i64 p2)), (7, (.own 1)), (8, (.own 2)), (9, (.int .i64 x6.1)), (31, (.bool (decide (x6.1 < (p0.length : Int)))))], [(1, some (.arr 4 x6.2.1.length fun j => (e_api_Letter (x6.2.1.getD j z_api_Letter)))), (2, some (.arr 4 x6.2.2.length fun j => (e_api_Letter (x6.2.2.getD j z_api_Letter))))], 3⟩) ⟨rfl, rfl, rfl, rfl, rfl, rfl, rfl, trivial⟩ ⟨rfl, rfl, trivial⟩ (Nat.le_refl _)) ?_
      refine aw_cond rfl (fun hc => ?_) (fun hc => ?_)
      · replace H := ite_t hc H
        refine aw_skip ?_
        refine nx_seq ?_
        refine aw_seq ?_
        refine aw_jn (fun x19 : _root_.List api_Letter × _root_.List api_Letter => (⟨[(0, (e_s_api_Letter p0)), (1, (.int .i64 p1)), (2, (.int .i64 p2)), (7, (.own 1)), (8, (.own 2)), (9, (.int .i64 x6.1))], [(1, some (.arr 4 x19.1.length fun j => (e_api_Letter (x19.1.getD j z_api_Letter)))), (2, some (.arr 4 x19.2.length fun j => (e_api_Letter (x19.2.getD j z_api_Letter))))], 6⟩ : St)) H (fun x19 H => ?_) (fun j8 H => ?_)
        · refine nx_seq ?_
          refine aw_region1 (es := [_, _, _]) ⟨Step.plain rfl (does_move (.tmp 9) (.int .i64 x6.1) trivial), ⟨⟨rfl, trivial⟩, trivial, rfl⟩, rfl,
            Step.plain rfl (does_bin .add 3 3 (.tmp 32) (.const (.int .i64 1)) .i64 x6.1 1 (.int .i64 (IntKind.i64.wrap (x6.1 + 1))) trivial (fun _ => rfl) (bin_add _ _ _ _)), ⟨⟨rfl, trivial⟩, trivial, rfl⟩, rfl,
            Step.plain rfl (does_assign (.tmp 33) (.int .i64 (IntKind.i64.wrap (x6.1 + 1))) trivial), ⟨⟨rfl, trivial⟩, trivial, rfl⟩, rfl, rfl⟩ ?_
          exact nx_loop ((IntKind.i64.wrap (x6.1 + 1)), x19.1, x19.2) H (cov_of (fun i => match i with | 1 => 1 | 2 => 2 | k => k) ⟨⟨_, rfl, ⟨rfl, (d_s_api_Letter _).plain⟩⟩, ⟨_, rfl, ⟨rfl, trivial⟩⟩, ⟨_, rfl, ⟨rfl, trivial⟩⟩, ⟨_, rfl, ⟨rfl, Nat.le_of_ble_eq_true rfl⟩⟩, ⟨_, rfl, ⟨rfl, Nat.le_of_ble_eq_true rfl⟩⟩, ⟨_, rfl, ⟨rfl, trivial⟩⟩, trivial⟩ ⟨⟨Nat.le_of_ble_eq_true rfl, _, _, rfl, rfl, ⟨rfl, rfl, fun _ => .inl ⟨rfl, (d_api_Letter _).plain⟩⟩⟩, ⟨Nat.le_of_ble_eq_true rfl, _, _, rfl, rfl, ⟨rfl, rfl, fun _ => .inl ⟨rfl, (d_api_Letter _).plain⟩⟩⟩, trivial⟩ rfl)
        · refine aw_block ?_
          refine aw_seq ?_
          obtain ⟨h9, H⟩ := ib_of H
          obtain ⟨h10, H⟩ := ibg_of H
          refine aw_region (es := [_, _, _, _, _, _, _, _, _, _, _, _, _, _, _, _]) ⟨Step.plain rfl (does_move (.tmp 0) (e_s_api_Letter p0) trivial), ⟨⟨rfl, trivial⟩, trivial, rfl⟩, rfl,
            Step.plain rfl (does_move (.tmp 9) (.int .i64 x6.1) trivial), ⟨⟨rfl, trivial⟩, trivial, rfl⟩, rfl,
            Step.plain rfl (does_indexAddrs 22 4 p0.length 34 (fun j => (e_api_Letter (p0.getD j z_api_Letter))) (.tmp 35) .i64 x6.1 el22 trivial h9.1 h9.2), ⟨⟨rfl, rfl, trivial⟩, trivial, rfl⟩, rfl,
            Step.plain rfl (does_fieldAddrc 27 0 0 36 (e_api_Letter (p0.getD x6.1.toNat z_api_Letter)) fl27_0 rfl (Nat.le_of_ble_eq_true rfl) rfl), ⟨⟨rfl, trivial⟩, trivial, rfl⟩, rfl,
            Step.plain rfl (does_loadc 3 37 (.int .i64 ((p0.getD x6.1.toNat z_api_Letter).From)) ty3), ⟨⟨rfl, trivial⟩, trivial, rfl⟩, rfl,
            Step.plain rfl (does_move (.tmp 1) (.int .i64 p1) trivial), ⟨⟨rfl, trivial⟩, trivial, rfl⟩, rfl,
            Step.plain rfl (does_bin .neq 3 3 (.tmp 38) (.tmp 39) .i64 ((p0.getD x6.1.toNat z_api_Letter).From) p1 (.bool (((p0.getD x6.1.toNat z_api_Letter).From) != p1)) trivial trivial (bin_neq _ _ _ _)), ⟨⟨rfl, rfl, trivial⟩, trivial, rfl⟩, rfl,
            Step.plain rfl (does_move (.tmp 40) (.bool (((p0.getD x6.1.toNat z_api_Letter).From) != p1)) trivial), ⟨⟨rfl, trivial⟩, trivial, rfl⟩, rfl,
            Step.guarded rfl rfl rfl rfl (fun hc => does_move (.tmp 0) (e_s_api_Letter p0) trivial), ⟨⟨rfl, rfl, trivial⟩, trivial, rfl⟩, rfl,
            Step.guarded rfl rfl rfl rfl (fun hc => does_move (.tmp 9) (.int .i64 x6.1) trivial), ⟨⟨rfl, rfl, trivial⟩, trivial, rfl⟩, rfl,
            Step.guarded rfl rfl rfl rfl (fun hc => Does.strip (n' := [(42, (.opt (!(((p0.getD x6.1.toNat z_api_Letter).From) != p1)) (e_s_api_Letter p0))), (43, (.opt (!(((p0.getD x6.1.toNat z_api_Letter).From) != p1)) (.int .i64 x6.1)))]) (n := [(42, (e_s_api_Letter p0)), (43, (.int .i64 x6.1))]) ⟨(.opt _ _ hc), (.opt _ _ hc), trivial⟩ (does_indexAddrs 22 4 p0.length 42 (fun j => (e_api_Letter (p0.getD j z_api_Letter))) (.tmp 43) .i64 x6.1 el22 trivial (h10 hc).1 (h10 hc).2)), ⟨⟨rfl, rfl, rfl, trivial⟩, trivial, rfl⟩, rfl,
            Step.guarded rfl rfl rfl rfl (fun hc => Does.strip (n' := [(44, (.opt (!(((p0.getD x6.1.toNat z_api_Letter).From) != p1)) (.cptr (e_api_Letter (p0.getD x6.1.toNat z_api_Letter)))))]) (n := [(44, (.cptr (e_api_Letter (p0.getD x6.1.toNat z_api_Letter))))]) ⟨(.opt _ _ hc), trivial⟩ (does_fieldAddrc 27 1 1 44 (e_api_Letter (p0.getD x6.1.toNat z_api_Letter)) fl27_1 rfl (Nat.le_of_ble_eq_true rfl) rfl)), ⟨⟨rfl, rfl, trivial⟩, trivial, rfl⟩, rfl,
            Step.guarded rfl rfl rfl rfl (fun hc => Does.strip (n' := [(45, (.opt (!(((p0.getD x6.1.toNat z_api_Letter).From) != p1)) (.cptr (.int .i64 ((p0.getD x6.1.toNat z_api_Letter).To)))))]) (n := [(45, (.cptr (.int .i64 ((p0.getD x6.1.toNat z_api_Letter).To))))]) ⟨(.opt _ _ hc), trivial⟩ (does_loadc 3 45 (.int .i64 ((p0.getD x6.1.toNat z_api_Letter).To)) ty3)), ⟨⟨rfl, rfl, trivial⟩, trivial, rfl⟩, rfl,
            Step.guarded rfl rfl rfl rfl (fun hc => does_move (.tmp 2) (.int .i64 p2) trivial), ⟨⟨rfl, rfl, trivial⟩, trivial, rfl⟩, rfl,
            Step.guarded rfl rfl rfl rfl (fun hc => Does.strip (n' := [(46, (.opt (!(((p0.getD x6.1.toNat z_api_Letter).From) != p1)) (.int .i64 ((p0.getD x6.1.toNat z_api_Letter).To)))), (47, (.opt (!(((p0.getD x6.1.toNat z_api_Letter).From) != p1)) (.int .i64 p2)))]) (n := [(46, (.int .i64 ((p0.getD x6.1.toNat z_api_Letter).To))), (47, (.int .i64 p2))]) ⟨(.opt _ _ hc), (.opt _ _ hc), trivial⟩ (does_bin .neq 3 3 (.tmp 46) (.tmp 47) .i64 ((p0.getD x6.1.toNat z_api_Letter).To) p2 (.bool (((p0.getD x6.1.toNat z_api_Letter).To) != p2)) trivial trivial (bin_neq _ _ _ _))), ⟨⟨rfl, rfl, rfl, trivial⟩, trivial, rfl⟩, rfl,
            Step.plain rfl (does_or 41 48 (((p0.getD x6.1.toNat z_api_Letter).From) != p1) (((p0.getD x6.1.toNat z_api_Letter).To) != p2)), ⟨⟨rfl, rfl, trivial⟩, trivial, rfl⟩, rfl, rfl⟩ ?_
          obtain ⟨v11, hv11, H⟩ := lt_of H
          refine aw_cov (cov_prune (s1 := ⟨[(0, (e_s_api_Letter p0)), (1, (.int .i64 p1)), (2, (.int .i64 p2)), (7, (.own 1)), (8, (.own 2)), (9, (.int .i64 x6.1)), (49, (.bool v11))], [(1, some (.arr 4 x6.2.1.length fun j => (e_api_Letter (x6.2.1.getD j z_api_Letter)))), (2, some (.arr 4 x6.2.2.length fun j => (e_api_Letter (x6.2.2.getD j z_api_Letter))))], 3⟩) ⟨rfl, rfl, rfl, rfl, rfl, rfl, (by subst hv11; rfl), trivial⟩ ⟨rfl, rfl, trivial⟩ (Nat.le_refl _)) ?_
          refine aw_cond rfl (fun hc => ?_) (fun hc => ?_)
          · replace H := ite_t hc H
            obtain ⟨h12, H⟩ := ib_of H
            obtain ⟨h13, H⟩ := fit_of H
            refine aw_region (es := [_, _, _, _, _, _, _, _]) ⟨Step.plain rfl (does_move (.tmp 8) (.own 2) trivial), ⟨⟨rfl, trivial⟩, trivial, rfl⟩, rfl,
              Step.plain rfl (does_move (.tmp 0) (e_s_api_Letter p0) trivial), ⟨⟨rfl, trivial⟩, trivial, rfl⟩, rfl,
              Step.plain rfl (does_move (.tmp 9) (.int .i64 x6.1) trivial), ⟨⟨rfl, trivial⟩, trivial, rfl⟩, rfl,
              Step.plain rfl (does_indexAddrs 22 4 p0.length 51 (fun j => (e_api_Letter (p0.getD j z_api_Letter))) (.tmp 52) .i64 x6.1 el22 trivial h12.1 h12.2), ⟨⟨rfl, rfl, trivial⟩, trivial, rfl⟩, rfl,
              Step.plain rfl (does_loadc 27 53 (e_api_Letter (p0.getD x6.1.toNat z_api_Letter)) ty27), ⟨⟨rfl, trivial⟩, trivial, rfl⟩, rfl,
              Step.plain rfl (does_buildSl 22 1 4 (e_api_Letter z_api_Letter) (fun j => (e_api_Letter (([p0.getD x6.1.toNat z_api_Letter] : _root_.List api_Letter).getD j z_api_Letter))) #[(0, (.tmp 54))] [(0, (.tmp 54))] [(0, (e_api_Letter (p0.getD x6.1.toNat z_api_Letter)))] rfl so22 (by decide) ⟨⟨rfl, trivial⟩, trivial⟩ ⟨⟨Nat.le_of_ble_eq_true rfl, rfl, rfl⟩, trivial⟩ (fun j h => match j, h with | 0, _ => rfl | k + 1, h => absurd h (by omega))), ⟨⟨rfl, trivial⟩, trivial, rfl⟩, rfl,
              Step.plain rfl (does_appendL e_api_Letter z_api_Letter x6.2.2 ([p0.getD x6.1.toNat z_api_Letter] : _root_.List api_Letter) 22 4 40 2 3 50 55 ap22 h13), ⟨⟨rfl, rfl, trivial⟩, ⟨rfl, trivial⟩, rfl⟩, rfl,
              Step.plain rfl (does_assign (.tmp 56) (.own 3) trivial), ⟨⟨rfl, trivial⟩, trivial, rfl⟩, rfl, rfl⟩ ?_
            obtain ⟨v14, hv14, H⟩ := lt_of H
            refine aw_cov (cov_prune (s1 := ⟨[(0, (e_s_api_Letter p0)), (1, (.int .i64 p1)), (2, (.int .i64 p2)), (7, (.own 1)), (9, (.int .i64 x6.1)), (8, (.own 3))], [(1, some (.arr 4 x6.2.1.length fun j => (e_api_Letter (x6.2.1.getD j z_api_Letter)))), (3, some (.arr 4 v14.length fun j => (e_api_Letter (v14.getD j z_api_Letter))))], 4⟩) ⟨rfl, rfl, rfl, rfl, rfl, rfl, trivial⟩ ⟨rfl, (by subst hv14; rfl), trivial⟩ (Nat.le_refl _)) ?_
            refine aw_exit ?_
            refine ex_then ?_
            refine ex_here ?_
            exact nx_join (x6.2.1, v14) H (cov_of (fun i => match i with | 1 => 1 | 2 => 3 | k => k) ⟨⟨_, rfl, ⟨rfl, (d_s_api_Letter _).plain⟩⟩, ⟨_, rfl, ⟨rfl, trivial⟩⟩, ⟨_, rfl, ⟨rfl, trivial⟩⟩, ⟨_, rfl, ⟨rfl, Nat.le_of_ble_eq_true rfl⟩⟩, ⟨_, rfl, ⟨rfl, Nat.le_of_ble_eq_true rfl⟩⟩, ⟨_, rfl, ⟨rfl, trivial⟩⟩, trivial⟩ ⟨⟨Nat.le_of_ble_eq_true rfl, _, _, rfl, rfl, ⟨rfl, rfl, fun _ => .inl ⟨rfl, (d_api_Letter _).plain⟩⟩⟩, ⟨Nat.le_of_ble_eq_true rfl, _, _, rfl, rfl, ⟨rfl, rfl, fun _ => .inl ⟨rfl, (d_api_Letter _).plain⟩⟩⟩, trivial⟩ rfl)
          · replace H := ite_f hc H
            refine aw_skip ?_
            refine nx_seq ?_
            obtain ⟨v15, h16, H⟩ := bnd H
            refine aw_region (es := [_, _, _, _, _, _, _, _, _, _, _, _]) ⟨Step.plain rfl (does_move (.tmp 7) (.own 1) trivial), ⟨⟨rfl, trivial⟩, trivial, rfl⟩, rfl,
              Step.plain rfl (does_move (.tmp 1) (.int .i64 p1) trivial), ⟨⟨rfl, trivial⟩, trivial, rfl⟩, rfl,
              Step.plain rfl (does_move (.tmp 2) (.int .i64 p2) trivial), ⟨⟨rfl, trivial⟩, trivial, rfl⟩, rfl,
              Step.plain rfl (does_callO 8 0 (fun _ => .any) (.func 8) [(.tmp 58), (.tmp 59), (.tmp 60), (.const (.int .i64 0))] [(.own 1), (.int .i64 p1), (.int .i64 p2), (.int .i64 0)] [(1, (.arr 4 x6.2.1.length fun j => (e_api_Letter (x6.2.1.getD j z_api_Letter))))] [] true [(e_s_api_Letter x6.2.1), (.int .i64 p1), (.int .i64 p2), (.int .i64 0)] _ (resV [(.own 3), (e_api_Letter v15.2.1), (.bool v15.2.2)]) _ 3 2 _ _ rfl fo8 rfl ⟨trivial, trivial, trivial, (fun _ => rfl), trivial⟩ ⟨.ro _ _ (.own 1 _ _ _ (.head _) rfl (fun _ => (d_api_Letter _))), .ro _ _ (.data _ trivial), .ro _ _ (.data _ trivial), .ro _ _ (.data _ trivial), trivial⟩ (lossy_Take_spec x6.2.1 p1 p2 0 _ h16) rfl (by simp) rfl trivial ⟨⟨Nat.le_of_ble_eq_true rfl, _, rfl, fun _ => (f_api_Letter _)⟩, trivial⟩ (.tup _ _ _ (fun j => match j with | 0 => .own 0 (Nat.le_of_ble_eq_true rfl) | 1 => .data _ ((f_api_Letter v15.2.1)) | 2 => .data _ (trivial) | _ + 3 => .data _ trivial))), ⟨⟨rfl, rfl, rfl, trivial⟩, ⟨rfl, trivial⟩, rfl⟩, rfl,
              Step.plain rfl (does_move (.tmp 61) (resV [(.own 3), (e_api_Letter v15.2.1), (.bool v15.2.2)]) trivial), ⟨⟨rfl, trivial⟩, trivial, rfl⟩, rfl,
              Step.plain rfl (does_extract 57 0 3 (fun j => [(.own 3), (e_api_Letter v15.2.1), (.bool v15.2.2)].getD j (.bool false)) (Nat.le_of_ble_eq_true rfl)), ⟨⟨rfl, trivial⟩, trivial, rfl⟩, rfl,
              Step.plain rfl (does_extract 57 1 3 (fun j => [(.own 3), (e_api_Letter v15.2.1), (.bool v15.2.2)].getD j (.bool false)) (Nat.le_of_ble_eq_true rfl)), ⟨⟨rfl, trivial⟩, trivial, rfl⟩, rfl,
              Step.plain rfl (does_extract 57 2 3 (fun j => [(.own 3), (e_api_Letter v15.2.1), (.bool v15.2.2)].getD j (.bool false)) (Nat.le_of_ble_eq_true rfl)), ⟨⟨rfl, trivial⟩, trivial, rfl⟩, rfl,
              Step.plain rfl (does_alloc 27 5 (e_api_Letter z_api_Letter) zr27), ⟨trivial, trivial, rfl⟩, rfl,
              Step.plain rfl (does_assign (.tmp 62) (.own 3) trivial), ⟨⟨rfl, trivial⟩, trivial, rfl⟩, rfl,
              Step.plain rfl (does_store 27 11 (.tmp 63) 5 0 [] (.var (e_api_Letter z_api_Letter)) (.var (e_api_Letter v15.2.1)) (e_api_Letter v15.2.1) true trivial rfl trivial rfl rfl rfl ty27), ⟨⟨rfl, rfl, trivial⟩, ⟨rfl, trivial⟩, rfl⟩, rfl,
              Step.plain rfl (does_assign (.tmp 64) (.bool v15.2.2) trivial), ⟨⟨rfl, trivial⟩, trivial, rfl⟩, rfl, rfl⟩ ?_
            refine aw_cov (cov_prune (s1 := ⟨[(0, (e_s_api_Letter p0)), (1, (.int .i64 p1)), (2, (.int .i64 p2)), (8, (.own 2)), (9, (.int .i64 x6.1)), (11, (.ptr 5 0 [])), (10, (.own 3)), (12, (.bool v15.2.2))], [(2, some (.arr 4 x6.2.2.length fun j => (e_api_Letter (x6.2.2.getD j z_api_Letter)))), (3, some (.arr 4 v15.1.length fun j => (e_api_Letter (v15.1.getD j z_api_Letter)))), (5, some (.var (e_api_Letter v15.2.1)))], 6⟩) ⟨rfl, rfl, rfl, rfl, rfl, rfl, rfl, rfl, trivial⟩ ⟨rfl, rfl, rfl, trivial⟩ (Nat.le_refl _)) ?_
            refine aw_seq ?_
            obtain ⟨h17, H⟩ := ibg_of H
            refine aw_draw (es := [_, _, _, _, _, _, _, _, _, _]) (mixed) ⟨Step.plain rfl (does_move (.tmp 12) (.bool v15.2.2) trivial), ⟨⟨rfl, trivial⟩, trivial, rfl⟩, rfl,
              Step.plain rfl (does_not 4 (.tmp 65) v15.2.2 trivial), ⟨⟨rfl, trivial⟩, trivial, rfl⟩, rfl,
              Step.plain rfl (does_move (.tmp 66) (.bool (!v15.2.2)) trivial), ⟨⟨rfl, trivial⟩, trivial, rfl⟩, rfl,
              Step.guarded rfl rfl rfl rfl (fun hc => does_load 27 11 5 0 [] (.var (e_api_Letter v15.2.1)) (e_api_Letter v15.2.1) trivial rfl rfl ty27), ⟨⟨rfl, rfl, trivial⟩, ⟨rfl, trivial⟩, rfl⟩, rfl,
              Step.guarded rfl rfl rfl rfl (fun hc => does_move (.tmp 0) (e_s_api_Letter p0) trivial), ⟨⟨rfl, rfl, trivial⟩, trivial, rfl⟩, rfl,
              Step.guarded rfl rfl rfl rfl (fun hc => does_move (.tmp 9) (.int .i64 x6.1) trivial), ⟨⟨rfl, rfl, trivial⟩, trivial, rfl⟩, rfl,
              Step.guarded rfl rfl rfl rfl (fun hc => Does.strip (n' := [(69, (.opt (!(!v15.2.2)) (e_s_api_Letter p0))), (70, (.opt (!(!v15.2.2)) (.int .i64 x6.1)))]) (n := [(69, (e_s_api_Letter p0)), (70, (.int .i64 x6.1))]) ⟨(.opt _ _ hc), (.opt _ _ hc), trivial⟩ (does_indexAddrs 22 4 p0.length 69 (fun j => (e_api_Letter (p0.getD j z_api_Letter))) (.tmp 70) .i64 x6.1 el22 trivial (h17 hc).1 (h17 hc).2)), ⟨⟨rfl, rfl, rfl, trivial⟩, trivial, rfl⟩, rfl,
              Step.guarded rfl rfl rfl rfl (fun hc => Does.strip (n' := [(71, (.opt (!(!v15.2.2)) (.cptr (e_api_Letter (p0.getD x6.1.toNat z_api_Letter)))))]) (n := [(71, (.cptr (e_api_Letter (p0.getD x6.1.toNat z_api_Letter))))]) ⟨(.opt _ _ hc), trivial⟩ (does_loadc 27 71 (e_api_Letter (p0.getD x6.1.toNat z_api_Letter)) ty27)), ⟨⟨rfl, rfl, trivial⟩, trivial, rfl⟩, rfl,
              Step.guarded rfl rfl rfl rfl (fun hc => Does.strip (n' := [(68, (.opt (!(!v15.2.2)) (e_api_Letter v15.2.1))), (72, (.opt (!(!v15.2.2)) (e_api_Letter (p0.getD x6.1.toNat z_api_Letter))))]) (n := [(68, (e_api_Letter v15.2.1)), (72, (e_api_Letter (p0.getD x6.1.toNat z_api_Letter)))]) ⟨(.opt _ _ hc), (.opt _ _ hc), trivial⟩ (does_eqT true 27 27 (.tmp 68) (.tmp 72) (e_api_Letter v15.2.1) (e_api_Letter (p0.getD x6.1.toNat z_api_Letter)) (e_api_Letter z_api_Letter) (b_api_Letter v15.2.1 (p0.getD x6.1.toNat z_api_Letter)) rfl rfl trivial trivial eg27 sh27 (al_api_Letter _ _) (al_api_Letter _ _) (q_api_Letter _ _))), ⟨⟨rfl, rfl, rfl, trivial⟩, trivial, rfl⟩, rfl,
              Step.plain rfl (does_or 67 73 (!v15.2.2) (!(b_api_Letter v15.2.1 (p0.getD x6.1.toNat z_api_Letter)))), ⟨⟨rfl, rfl, trivial⟩, trivial, rfl⟩, rfl, rfl⟩ rfl ?_
            obtain ⟨v18, hv18, H⟩ := lt_of H
            refine aw_cov (cov_prune (s1 := ⟨[(0, (e_s_api_Letter p0)), (1, (.int .i64 p1)), (2, (.int .i64 p2)), (8, (.own 2)), (9, (.int .i64 x6.1)), (10, (.own 3)), (74, (.bool v18))], [(2, some (.arr 4 x6.2.2.length fun j => (e_api_Letter (x6.2.2.getD j z_api_Letter)))), (3, some (.arr 4 v15.1.length fun j => (e_api_Letter (v15.1.getD j z_api_Letter))))], 6⟩) ⟨rfl, rfl, rfl, rfl, rfl, rfl, (by subst hv18; rfl), trivial⟩ ⟨rfl, rfl, trivial⟩ (Nat.le_refl _)) ?_
            refine aw_cond rfl (fun hc => ?_) (fun hc => ?_)
            · replace H := ite_t hc H
              refine aw_region (es := [_]) ⟨Step.plain rfl (does_assign (.const (.bool false)) (.bool false) (fun _ => rfl)), ⟨trivial, trivial, rfl⟩, rfl, rfl⟩ ?_
              refine aw_cov (cov_prune (s1 := ⟨[(6, (.bool false))], [], 6⟩) ⟨rfl, trivial⟩ trivial (Nat.le_refl _)) ?_
              refine aw_ret ?_
              replace H := rt_of H hsn7 Hrn7
              refine rt_then ?_
              refine rt_blk ?_
              refine rt_then ?_
              refine rt_then ?_
              refine rt_then ?_
              refine rt_blk ?_
              refine rt_then ?_
              refine rt_then ?_
              exact fun a w hr => ⟨_, [(.bool false)], hr, ⟨⟨_, rfl, .data (.bool false) trivial⟩, trivial⟩, by decide, by cases H; rfl⟩
            · replace H := ite_f hc H
              refine aw_skip ?_
              refine nx_seq ?_
              refine aw_region1 (es := [_, _]) ⟨Step.plain rfl (does_move (.tmp 10) (.own 3) trivial), ⟨⟨rfl, trivial⟩, trivial, rfl⟩, rfl,
                Step.plain rfl (does_assign (.tmp 75) (.own 3) trivial), ⟨⟨rfl, trivial⟩, trivial, rfl⟩, rfl, rfl⟩ ?_
              refine nx_blk ?_
              exact nx_join (v15.1, x6.2.2) H (cov_of (fun i => match i with | 1 => 3 | 2 => 2 | k => k) ⟨⟨_, rfl, ⟨rfl, (d_s_api_Letter _).plain⟩⟩, ⟨_, rfl, ⟨rfl, trivial⟩⟩, ⟨_, rfl, ⟨rfl, trivial⟩⟩, ⟨_, rfl, ⟨rfl, Nat.le_of_ble_eq_true rfl⟩⟩, ⟨_, rfl, ⟨rfl, Nat.le_of_ble_eq_true rfl⟩⟩, ⟨_, rfl, ⟨rfl, trivial⟩⟩, trivial⟩ ⟨⟨Nat.le_of_ble_eq_true rfl, _, _, rfl, rfl, ⟨rfl, rfl, fun _ => .inl ⟨rfl, (d_api_Letter _).plain⟩⟩⟩, ⟨Nat.le_of_ble_eq_true rfl, _, _, rfl, rfl, ⟨rfl, rfl, fun _ => .inl ⟨rfl, (d_api_Letter _).plain⟩⟩⟩, trivial⟩ rfl)
      · replace H := ite_f hc H
        refine aw_exit ?_
        refine ex_then ?_
        refine ex_then ?_
        refine ex_here ?_
        exact nx_ljoin (x6.2.1, x6.2.2) H hsn7 (cov_prune ⟨rfl, rfl, rfl, rfl, trivial⟩ ⟨rfl, rfl, trivial⟩ (Nat.le_of_ble_eq_true rfl))

theorem congresslaw14_LossyTurned_spec (p0 : (_root_.List api_Letter)) (p1 : congresslaw14_Pick) (p2 : congresslaw14_Pick) (r : Bool) (H : congresslaw14_LossyTurned p0 p1 p2 = some r) : FSpec Try.prog 6 [(e_s_api_Letter p0), (e_congresslaw14_Pick p1), (e_congresslaw14_Pick p2)] (.bool r) := by
  refine spec_of (fn := Try.f6) (args := [(e_s_api_Letter p0), (e_congresslaw14_Pick p1), (e_congresslaw14_Pick p2)]) Try.func6 rfl (Nat.le_of_ble_eq_true rfl) ?_
  rintro ⟨G, w0, W, S, Sp⟩ hG
  cases hG
  unfold congresslaw14_LossyTurned at H
  refine aw_region (es := [_, _, _]) ⟨Step.plain rfl (does_box 25 (.tmp 1) 0 (e_congresslaw14_Pick p1) trivial rfl), ⟨⟨rfl, trivial⟩, trivial, rfl⟩, rfl,
    Step.plain rfl (does_box 25 (.tmp 2) 1 (e_congresslaw14_Pick p2) trivial rfl), ⟨⟨rfl, trivial⟩, trivial, rfl⟩, rfl,
    Step.plain rfl (does_assign (.const (.bool false)) (.bool false) (fun _ => rfl)), ⟨trivial, trivial, rfl⟩, rfl, rfl⟩ ?_
  refine aw_cov (cov_prune (s1 := ⟨[(0, (e_s_api_Letter p0)), (4, (.ptr 0 0 [])), (5, (.ptr 1 0 []))], [(0, some (.var (e_congresslaw14_Pick p1))), (1, some (.var (e_congresslaw14_Pick p2)))], 2⟩) ⟨rfl, rfl, rfl, trivial⟩ ⟨rfl, rfl, trivial⟩ (Nat.le_refl _)) ?_
  obtain ⟨v1, h2, H⟩ := bnd H
  refine aw_region (es := [_, _, _, _, _, _, _, _, _, _, _, _, _]) ⟨Step.plain rfl (does_move (.tmp 0) (e_s_api_Letter p0) trivial), ⟨⟨rfl, trivial⟩, trivial, rfl⟩, rfl,
    Step.plain rfl (does_fieldAddr 25 0 0 4 0 0 [] (.var (e_congresslaw14_Pick p1)) fl25_0), ⟨⟨rfl, trivial⟩, ⟨rfl, trivial⟩, rfl⟩, rfl,
    Step.plain rfl (does_load 3 16 0 (0 + 0) [0] (.var (e_congresslaw14_Pick p1)) (.int .i64 p1.From) ⟨rfl, Nat.le_of_ble_eq_true rfl, trivial⟩ rfl rfl ty3), ⟨⟨rfl, trivial⟩, ⟨rfl, trivial⟩, rfl⟩, rfl,
    Step.plain rfl (does_fieldAddr 25 1 1 4 0 0 [] (.var (e_congresslaw14_Pick p1)) fl25_1), ⟨⟨rfl, trivial⟩, ⟨rfl, trivial⟩, rfl⟩, rfl,
    Step.plain rfl (does_load 3 18 0 (0 + 1) [1] (.var (e_congresslaw14_Pick p1)) (.int .i64 p1.To) ⟨rfl, Nat.le_of_ble_eq_true rfl, trivial⟩ rfl rfl ty3), ⟨⟨rfl, trivial⟩, ⟨rfl, trivial⟩, rfl⟩, rfl,
    Step.plain rfl (does_fieldAddr 25 2 2 4 0 0 [] (.var (e_congresslaw14_Pick p1)) fl25_2), ⟨⟨rfl, trivial⟩, ⟨rfl, trivial⟩, rfl⟩, rfl,
    Step.plain rfl (does_load 3 20 0 (0 + 2) [2] (.var (e_congresslaw14_Pick p1)) (.int .i64 p1.Index) ⟨rfl, Nat.le_of_ble_eq_true rfl, trivial⟩ rfl rfl ty3), ⟨⟨rfl, trivial⟩, ⟨rfl, trivial⟩, rfl⟩, rfl,
    Step.plain rfl (does_fieldAddr 25 3 3 4 0 0 [] (.var (e_congresslaw14_Pick p1)) fl25_3), ⟨⟨rfl, trivial⟩, ⟨rfl, trivial⟩, rfl⟩, rfl,
    Step.plain rfl (does_load 3 22 0 (0 + 3) [3] (.var (e_congresslaw14_Pick p1)) (.int .i64 p1.At) ⟨rfl, Nat.le_of_ble_eq_true rfl, trivial⟩ rfl rfl ty3), ⟨⟨rfl, trivial⟩, ⟨rfl, trivial⟩, rfl⟩, rfl,
    Step.plain rfl (does_fieldAddr 25 4 4 4 0 0 [] (.var (e_congresslaw14_Pick p1)) fl25_4), ⟨⟨rfl, trivial⟩, ⟨rfl, trivial⟩, rfl⟩, rfl,
    Step.plain rfl (does_load 23 24 0 (0 + 4) [4] (.var (e_congresslaw14_Pick p1)) (.int .u32 p1.Mask) ⟨rfl, Nat.le_of_ble_eq_true rfl, trivial⟩ rfl rfl ty23), ⟨⟨rfl, trivial⟩, ⟨rfl, trivial⟩, rfl⟩, rfl,
    Step.plain rfl (does_callO 13 0 (fun _ => .any) (.func 13) [(.tmp 15), (.tmp 17), (.tmp 19), (.tmp 21), (.tmp 23), (.tmp 25)] [(e_s_api_Letter p0), (.int .i64 p1.From), (.int .i64 p1.To), (.int .i64 p1.Index), (.int .i64 p1.At), (.int .u32 p1.Mask)] [] [] true [(e_s_api_Letter p0), (.int .i64 p1.From), (.int .i64 p1.To), (.int .i64 p1.Index), (.int .i64 p1.At), (.int .u32 p1.Mask)] _ (.own 2) _ 2 1 _ _ rfl fo13 rfl ⟨trivial, trivial, trivial, trivial, trivial, trivial, trivial⟩ ⟨.ro _ _ (.data _ (d_s_api_Letter p0)), .ro _ _ (.data _ trivial), .ro _ _ (.data _ trivial), .ro _ _ (.data _ trivial), .ro _ _ (.data _ trivial), .ro _ _ (.data _ trivial), trivial⟩ (lossy_Turn_spec p0 p1.From p1.To p1.Index p1.At p1.Mask _ h2) rfl (by simp) rfl trivial ⟨⟨Nat.le_of_ble_eq_true rfl, _, rfl, fun _ => (f_api_Letter _)⟩, trivial⟩ (.own 0 (Nat.le_of_ble_eq_true rfl))), ⟨⟨rfl, rfl, rfl, rfl, rfl, rfl, trivial⟩, trivial, rfl⟩, rfl,
    Step.plain rfl (does_assign (.tmp 26) (.own 2) trivial), ⟨⟨rfl, trivial⟩, trivial, rfl⟩, rfl, rfl⟩ ?_
  refine aw_cov (cov_prune (s1 := ⟨[(0, (e_s_api_Letter p0)), (4, (.ptr 0 0 [])), (5, (.ptr 1 0 [])), (7, (.own 2))], [(0, some (.var (e_congresslaw14_Pick p1))), (1, some (.var (e_congresslaw14_Pick p2))), (2, some (.arr 4 v1.length fun j => (e_api_Letter (v1.getD j z_api_Letter))))], 3⟩) ⟨rfl, rfl, rfl, rfl, trivial⟩ ⟨rfl, rfl, rfl, trivial⟩ (Nat.le_refl _)) ?_
  obtain ⟨v3, h4, H⟩ := bnd H
  refine aw_region (es := [_, _, _, _, _, _, _, _, _, _, _, _, _]) ⟨Step.plain rfl (does_move (.tmp 0) (e_s_api_Letter p0) trivial), ⟨⟨rfl, trivial⟩, trivial, rfl⟩, rfl,
    Step.plain rfl (does_fieldAddr 25 0 0 4 0 0 [] (.var (e_congresslaw14_Pick p1)) fl25_0), ⟨⟨rfl, trivial⟩, ⟨rfl, trivial⟩, rfl⟩, rfl,
    Step.plain rfl (does_load 3 29 0 (0 + 0) [0] (.var (e_congresslaw14_Pick p1)) (.int .i64 p1.From) ⟨rfl, Nat.le_of_ble_eq_true rfl, trivial⟩ rfl rfl ty3), ⟨⟨rfl, trivial⟩, ⟨rfl, trivial⟩, rfl⟩, rfl,
    Step.plain rfl (does_fieldAddr 25 1 1 4 0 0 [] (.var (e_congresslaw14_Pick p1)) fl25_1), ⟨⟨rfl, trivial⟩, ⟨rfl, trivial⟩, rfl⟩, rfl,
    Step.plain rfl (does_load 3 31 0 (0 + 1) [1] (.var (e_congresslaw14_Pick p1)) (.int .i64 p1.To) ⟨rfl, Nat.le_of_ble_eq_true rfl, trivial⟩ rfl rfl ty3), ⟨⟨rfl, trivial⟩, ⟨rfl, trivial⟩, rfl⟩, rfl,
    Step.plain rfl (does_fieldAddr 25 2 2 4 0 0 [] (.var (e_congresslaw14_Pick p1)) fl25_2), ⟨⟨rfl, trivial⟩, ⟨rfl, trivial⟩, rfl⟩, rfl,
    Step.plain rfl (does_load 3 33 0 (0 + 2) [2] (.var (e_congresslaw14_Pick p1)) (.int .i64 p1.Index) ⟨rfl, Nat.le_of_ble_eq_true rfl, trivial⟩ rfl rfl ty3), ⟨⟨rfl, trivial⟩, ⟨rfl, trivial⟩, rfl⟩, rfl,
    Step.plain rfl (does_call 10 0 (fun _ => .any) (.func 10) [(.tmp 28), (.tmp 30), (.tmp 32), (.tmp 34)] [(e_s_api_Letter p0), (.int .i64 p1.From), (.int .i64 p1.To), (.int .i64 p1.Index)] [] true [(e_s_api_Letter p0), (.int .i64 p1.From), (.int .i64 p1.To), (.int .i64 p1.Index)] (resV [(.int .i64 v3.1), (.bool v3.2)]) _ _ rfl fo10 rfl ⟨trivial, trivial, trivial, trivial, trivial⟩ ⟨.data _ (d_s_api_Letter p0), .data _ trivial, .data _ trivial, .data _ trivial, trivial⟩ (lossy_Find_spec p0 p1.From p1.To p1.Index _ h4) (res_flat2 trivial trivial)), ⟨⟨rfl, rfl, rfl, rfl, trivial⟩, trivial, rfl⟩, rfl,
    Step.plain rfl (does_move (.tmp 35) (resV [(.int .i64 v3.1), (.bool v3.2)]) trivial), ⟨⟨rfl, trivial⟩, trivial, rfl⟩, rfl,
    Step.plain rfl (does_extract 27 0 2 (fun j => [(.int .i64 v3.1), (.bool v3.2)].getD j (.bool false)) (Nat.le_of_ble_eq_true rfl)), ⟨⟨rfl, trivial⟩, trivial, rfl⟩, rfl,
    Step.plain rfl (does_extract 27 1 2 (fun j => [(.int .i64 v3.1), (.bool v3.2)].getD j (.bool false)) (Nat.le_of_ble_eq_true rfl)), ⟨⟨rfl, trivial⟩, trivial, rfl⟩, rfl,
    Step.plain rfl (does_assign (.tmp 36) (.int .i64 v3.1) trivial), ⟨⟨rfl, trivial⟩, trivial, rfl⟩, rfl,
    Step.plain rfl (does_assign (.tmp 37) (.bool v3.2) trivial), ⟨⟨rfl, trivial⟩, trivial, rfl⟩, rfl, rfl⟩ ?_
  refine aw_cov (cov_prune (s1 := ⟨[(0, (e_s_api_Letter p0)), (4, (.ptr 0 0 [])), (5, (.ptr 1 0 [])), (7, (.own 2)), (8, (.int .i64 v3.1)), (9, (.bool v3.2))], [(0, some (.var (e_congresslaw14_Pick p1))), (1, some (.var (e_congresslaw14_Pick p2))), (2, some (.arr 4 v1.length fun j => (e_api_Letter (v1.getD j z_api_Letter))))], 3⟩) ⟨rfl, rfl, rfl, rfl, rfl, rfl, trivial⟩ ⟨rfl, rfl, rfl, trivial⟩ (Nat.le_refl _)) ?_
  refine aw_seq ?_
  obtain ⟨v5, h6, H⟩ := bnd H
  refine aw_region (es := [_, _, _, _, _, _, _, _, _]) ⟨Step.plain rfl (does_call 15 0 (fun _ => .any) (.func 15) [] [] [] true [] (.bool v5) _ _ rfl fo15 rfl trivial trivial (congresslaw14_fixed_spec _ h6) trivial), ⟨trivial, trivial, rfl⟩, rfl,
    Step.plain rfl (does_not 4 (.tmp 38) v5 trivial), ⟨⟨rfl, trivial⟩, trivial, rfl⟩, rfl,
    Step.plain rfl (does_move (.tmp 39) (.bool (!v5)) trivial), ⟨⟨rfl, trivial⟩, trivial, rfl⟩, rfl,
    Step.guarded rfl rfl rfl rfl (fun hc => does_move (.tmp 7) (.own 2) trivial), ⟨⟨rfl, rfl, trivial⟩, trivial, rfl⟩, rfl,
    Step.guarded rfl rfl rfl rfl (fun hc => Does.strip (n' := [(41, (.opt (!(!v5)) (.own 2)))]) (n := [(41, (.own 2))]) ⟨(.opt _ _ hc), trivial⟩ (does_leno 22 4 v1.length 41 2 (fun j => (e_api_Letter (v1.getD j z_api_Letter))) el22)), ⟨⟨rfl, rfl, trivial⟩, ⟨rfl, trivial⟩, rfl⟩, rfl,
    Step.guarded rfl rfl rfl rfl (fun hc => does_move (.tmp 0) (e_s_api_Letter p0) trivial), ⟨⟨rfl, rfl, trivial⟩, trivial, rfl⟩, rfl,
    Step.guarded rfl rfl rfl rfl (fun hc => Does.strip (n' := [(43, (.opt (!(!v5)) (e_s_api_Letter p0)))]) (n := [(43, (e_s_api_Letter p0))]) ⟨(.opt _ _ hc), trivial⟩ (does_lens 22 4 p0.length 43 (fun j => (e_api_Letter (p0.getD j z_api_Letter))) el22)), ⟨⟨rfl, rfl, trivial⟩, trivial, rfl⟩, rfl,
    Step.guarded rfl rfl rfl rfl (fun hc => Does.strip (n' := [(42, (.opt (!(!v5)) (.int .i64 (v1.length : Int)))), (44, (.opt (!(!v5)) (.int .i64 (p0.length : Int))))]) (n := [(42, (.int .i64 (v1.length : Int))), (44, (.int .i64 (p0.length : Int)))]) ⟨(.opt _ _ hc), (.opt _ _ hc), trivial⟩ (does_bin .neq 3 3 (.tmp 42) (.tmp 44) .i64 (v1.length : Int) (p0.length : Int) (.bool ((v1.length : Int) != (p0.length : Int))) trivial trivial (bin_neq _ _ _ _))), ⟨⟨rfl, rfl, rfl, trivial⟩, trivial, rfl⟩, rfl,
    Step.plain rfl (does_or 40 45 (!v5) ((v1.length : Int) != (p0.length : Int))), ⟨⟨rfl, rfl, trivial⟩, trivial, rfl⟩, rfl, rfl⟩ ?_
  refine aw_cov (cov_prune (s1 := ⟨[(0, (e_s_api_Letter p0)), (4, (.ptr 0 0 [])), (5, (.ptr 1 0 [])), (7, (.own 2)), (8, (.int .i64 v3.1)), (9, (.bool v3.2)), (46, (.bool ((!v5) || ((v1.length : Int) != (p0.length : Int)))))], [(0, some (.var (e_congresslaw14_Pick p1))), (1, some (.var (e_congresslaw14_Pick p2))), (2, some (.arr 4 v1.length fun j => (e_api_Letter (v1.getD j z_api_Letter))))], 3⟩) ⟨rfl, rfl, rfl, rfl, rfl, rfl, rfl, trivial⟩ ⟨rfl, rfl, rfl, trivial⟩ (Nat.le_refl _)) ?_
  refine aw_cond rfl (fun hc => ?_) (fun hc => ?_)
  · replace H := ite_t hc H
    refine aw_region (es := [_]) ⟨Step.plain rfl (does_assign (.const (.bool false)) (.bool false) (fun _ => rfl)), ⟨trivial, trivial, rfl⟩, rfl, rfl⟩ ?_
    refine aw_cov (cov_prune (s1 := ⟨[(6, (.bool false))], [], 3⟩) ⟨rfl, trivial⟩ trivial (Nat.le_refl _)) ?_
    refine aw_ret ?_
    refine rt_then ?_
    exact fun a w hr => ⟨_, [(.bool false)], hr, ⟨⟨_, rfl, .data (.bool false) trivial⟩, trivial⟩, by decide, by cases H; rfl⟩
  · replace H := ite_f hc H
    refine aw_skip ?_
    refine nx_seq ?_
    refine aw_seq ?_
    refine aw_region (es := [_]) ⟨Step.plain rfl (does_assign (.const (.int .i64 0)) (.int .i64 0) (fun _ => rfl)), ⟨trivial, trivial, rfl⟩, rfl, rfl⟩ ?_
    refine aw_cov (cov_prune (s1 := ⟨[(0, (e_s_api_Letter p0)), (4, (.ptr 0 0 [])), (5, (.ptr 1 0 [])), (7, (.own 2)), (8, (.int .i64 v3.1)), (9, (.bool v3.2)), (10, (.int .i64 0))], [(0, some (.var (e_congresslaw14_Pick p1))), (1, some (.var (e_congresslaw14_Pick p2))), (2, some (.arr 4 v1.length fun j => (e_api_Letter (v1.getD j z_api_Letter))))], 3⟩) ⟨rfl, rfl, rfl, rfl, rfl, rfl, rfl, trivial⟩ ⟨rfl, rfl, rfl, trivial⟩ (Nat.le_refl _)) ?_
    obtain ⟨wn8, hwn8, Hrn8⟩ := bnd H
    refine aw_meet (fun y25 : Unit => (⟨[], [], 3⟩ : St)) (fun y25 => Fl.nx y25 = wn8) (fun y25 hy => ?_) (aw_block (aw_runs (fun x7 : Int => (⟨[(0, (e_s_api_Letter p0)), (4, (.ptr 0 0 [])), (5, (.ptr 1 0 [])), (7, (.own 2)), (8, (.int .i64 v3.1)), (9, (.bool v3.2)), (10, (.int .i64 x7))], [(0, some (.var (e_congresslaw14_Pick p1))), (1, some (.var (e_congresslaw14_Pick p2))), (2, some (.arr 4 v1.length fun j => (e_api_Letter (v1.getD j z_api_Letter))))], 3⟩ : St)) hwn8 (cov_prune ⟨rfl, rfl, rfl, rfl, rfl, rfl, rfl, trivial⟩ ⟨rfl, rfl, rfl, trivial⟩ (Nat.le_of_ble_eq_true rfl)) (fun x7 st H hsn8 => ?_)))
    · have H := nx_of hy Hrn8
      refine nx_seq ?_
      refine aw_region (es := [_]) ⟨Step.plain rfl (does_assign (.const (.bool true)) (.bool true) (fun _ => rfl)), ⟨trivial, trivial, rfl⟩, rfl, rfl⟩ ?_
      refine aw_cov (cov_prune (s1 := ⟨[(6, (.bool true))], [], 3⟩) ⟨rfl, trivial⟩ trivial (Nat.le_refl _)) ?_
      refine aw_ret ?_
      exact fun a w hr => ⟨_, [(.bool true)], hr, ⟨⟨_, rfl, .data (.bool true) trivial⟩, trivial⟩, by decide, by cases H; rfl⟩
    · refine aw_seq ?_
      refine aw_region (es := [_, _, _, _]) ⟨Step.plain rfl (does_move (.tmp 10) (.int .i64 x7) trivial), ⟨⟨rfl, trivial⟩, trivial, rfl⟩, rfl,
        Step.plain rfl (does_move (.tmp 0) (e_s_api_Letter p0) trivial), ⟨⟨rfl, trivial⟩, trivial, rfl⟩, rfl,
        Step.plain rfl (does_lens 22 4 p0.length 48 (fun j => (e_api_Letter (p0.getD j z_api_Letter))) el22), ⟨⟨rfl, trivial⟩, trivial, rfl⟩, rfl,
        Step.plain rfl (does_bin .lss 3 3 (.tmp 47) (.tmp 49) .i64 x7 (p0.length : Int) (.bool (decide (x7 < (p0.length : Int)))) trivial trivial (bin_lss _ _ _ _)), ⟨⟨rfl, rfl, trivial⟩, trivial, rfl⟩, rfl, rfl⟩ ?_
      refine aw_cov (cov_prune (s1 := ⟨[(0, (e_s_api_Letter p0)), (4, (.ptr 0 0 [])), (5, (.ptr 1 0 [])), (7, (.own 2)), (8, (.int .i64 v3.1)), (9, (.bool v3.2)), (10, (.int .i64 x7)), (50, (.bool (decide (x7 < (p0.length : Int)))))], [(0, some (.var (e_congresslaw14_Pick p1))), (1, some (.var (e_congresslaw14_Pick p2))), (2, some (.arr 4 v1.length fun j => (e_api_Letter (v1.getD j z_api_Letter))))], 3⟩) ⟨rfl, rfl, rfl, rfl, rfl, rfl, rfl, rfl, trivial⟩ ⟨rfl, rfl, rfl, trivial⟩ (Nat.le_refl _)) ?_
      refine aw_cond rfl (fun hc => ?_) (fun hc => ?_)
      · replace H := ite_t hc H
        refine aw_skip ?_
        refine nx_seq ?_
        refine aw_seq ?_
        refine aw_jn (fun x24 : Unit => (⟨[(0, (e_s_api_Letter p0)), (4, (.ptr 0 0 [])), (5, (.ptr 1 0 [])), (7, (.own 2)), (8, (.int .i64 v3.1)), (9, (.bool v3.2)), (10, (.int .i64 x7))], [(0, some (.var (e_congresslaw14_Pick p1))), (1, some (.var (e_congresslaw14_Pick p2))), (2, some (.arr 4 v1.length fun j => (e_api_Letter (v1.getD j z_api_Letter))))], 6⟩ : St)) H (fun x24 H => ?_) (fun j9 H => ?_)
        · refine nx_seq ?_
          refine aw_region1 (es := [_, _, _]) ⟨Step.plain rfl (does_move (.tmp 10) (.int .i64 x7) trivial), ⟨⟨rfl, trivial⟩, trivial, rfl⟩, rfl,
            Step.plain rfl (does_bin .add 3 3 (.tmp 51) (.const (.int .i64 1)) .i64 x7 1 (.int .i64 (IntKind.i64.wrap (x7 + 1))) trivial (fun _ => rfl) (bin_add _ _ _ _)), ⟨⟨rfl, trivial⟩, trivial, rfl⟩, rfl,
            Step.plain rfl (does_assign (.tmp 52) (.int .i64 (IntKind.i64.wrap (x7 + 1))) trivial), ⟨⟨rfl, trivial⟩, trivial, rfl⟩, rfl, rfl⟩ ?_
          exact nx_loop ((IntKind.i64.wrap (x7 + 1))) H (cov_of (fun i => match i with | 0 => 0 | 1 => 1 | 2 => 2 | k => k) ⟨⟨_, rfl, ⟨rfl, (d_s_api_Letter _).plain⟩⟩, ⟨_, rfl, ⟨rfl, Nat.le_of_ble_eq_true rfl⟩⟩, ⟨_, rfl, ⟨rfl, Nat.le_of_ble_eq_true rfl⟩⟩, ⟨_, rfl, ⟨rfl, Nat.le_of_ble_eq_true rfl⟩⟩, ⟨_, rfl, ⟨rfl, trivial⟩⟩, ⟨_, rfl, ⟨rfl, trivial⟩⟩, ⟨_, rfl, ⟨rfl, trivial⟩⟩, trivial⟩ ⟨⟨Nat.le_of_ble_eq_true rfl, _, _, rfl, rfl, .inl ⟨rfl, (d_congresslaw14_Pick _).plain⟩⟩, ⟨Nat.le_of_ble_eq_true rfl, _, _, rfl, rfl, .inl ⟨rfl, (d_congresslaw14_Pick _).plain⟩⟩, ⟨Nat.le_of_ble_eq_true rfl, _, _, rfl, rfl, ⟨rfl, rfl, fun _ => .inl ⟨rfl, (d_api_Letter _).plain⟩⟩⟩, trivial⟩ rfl)
        · refine aw_block ?_
          obtain ⟨h10, H⟩ := ib_of H
          obtain ⟨h11, H⟩ := ib_of H
          refine aw_draw (es := [_, _, _, _, _, _, _, _, _, _, _, _]) (mixed) ⟨Step.plain rfl (does_move (.tmp 0) (e_s_api_Letter p0) trivial), ⟨⟨rfl, trivial⟩, trivial, rfl⟩, rfl,
            Step.plain rfl (does_move (.tmp 10) (.int .i64 x7) trivial), ⟨⟨rfl, trivial⟩, trivial, rfl⟩, rfl,
            Step.plain rfl (does_indexAddrs 22 4 p0.length 53 (fun j => (e_api_Letter (p0.getD j z_api_Letter))) (.tmp 54) .i64 x7 el22 trivial h10.1 h10.2), ⟨⟨rfl, rfl, trivial⟩, trivial, rfl⟩, rfl,
            Step.plain rfl (does_loadc 27 55 (e_api_Letter (p0.getD x7.toNat z_api_Letter)) ty27), ⟨⟨rfl, trivial⟩, trivial, rfl⟩, rfl,
            Step.plain rfl (does_move (.tmp 7) (.own 2) trivial), ⟨⟨rfl, trivial⟩, trivial, rfl⟩, rfl,
            Step.plain rfl (does_move (.tmp 10) (.int .i64 x7) trivial), ⟨⟨rfl, trivial⟩, trivial, rfl⟩, rfl,
            Step.plain rfl (does_indexAddro 22 4 v1.length 57 2 (fun j => (e_api_Letter (v1.getD j z_api_Letter))) (.tmp 58) .i64 x7 el22 trivial h11.1 h11.2), ⟨⟨rfl, rfl, trivial⟩, ⟨rfl, trivial⟩, rfl⟩, rfl,
            Step.plain rfl (does_load 27 59 2 (x7.toNat * 4) [x7.toNat] (.arr 4 v1.length fun j => (e_api_Letter (v1.getD j z_api_Letter))) (e_api_Letter (v1.getD x7.toNat z_api_Letter)) ⟨(ixl h11), trivial⟩ rfl rfl ty27), ⟨⟨rfl, trivial⟩, ⟨rfl, trivial⟩, rfl⟩, rfl,
            Step.plain rfl (does_alloc 27 3 (e_api_Letter z_api_Letter) zr27), ⟨trivial, trivial, rfl⟩, rfl,
            Step.plain rfl (does_alloc 27 4 (e_api_Letter z_api_Letter) zr27), ⟨trivial, trivial, rfl⟩, rfl,
            Step.plain rfl (does_store 27 11 (.tmp 56) 3 0 [] (.var (e_api_Letter z_api_Letter)) (.var (e_api_Letter (p0.getD x7.toNat z_api_Letter))) (e_api_Letter (p0.getD x7.toNat z_api_Letter)) true trivial rfl trivial rfl rfl rfl ty27), ⟨⟨rfl, rfl, trivial⟩, ⟨rfl, trivial⟩, rfl⟩, rfl,
            Step.plain rfl (does_store 27 12 (.tmp 60) 4 0 [] (.var (e_api_Letter z_api_Letter)) (.var (e_api_Letter (v1.getD x7.toNat z_api_Letter))) (e_api_Letter (v1.getD x7.toNat z_api_Letter)) true trivial rfl trivial rfl rfl rfl ty27), ⟨⟨rfl, rfl, trivial⟩, ⟨rfl, trivial⟩, rfl⟩, rfl, rfl⟩ rfl ?_
          refine aw_cov (cov_prune (s1 := ⟨[(0, (e_s_api_Letter p0)), (4, (.ptr 0 0 [])), (5, (.ptr 1 0 [])), (7, (.own 2)), (8, (.int .i64 v3.1)), (9, (.bool v3.2)), (10, (.int .i64 x7)), (11, (.ptr 3 0 [])), (12, (.ptr 4 0 []))], [(0, some (.var (e_congresslaw14_Pick p1))), (1, some (.var (e_congresslaw14_Pick p2))), (2, some (.arr 4 v1.length fun j => (e_api_Letter (v1.getD j z_api_Letter)))), (3, some (.var (e_api_Letter (p0.getD x7.toNat z_api_Letter)))), (4, some (.var (e_api_Letter (v1.getD x7.toNat z_api_Letter))))], 5⟩) ⟨rfl, rfl, rfl, rfl, rfl, rfl, rfl, rfl, rfl, trivial⟩ ⟨rfl, rfl, rfl, rfl, rfl, trivial⟩ (Nat.le_refl _)) ?_
          refine aw_seq ?_
          refine aw_region (es := [_, _, _]) ⟨Step.plain rfl (does_load 27 11 3 0 [] (.var (e_api_Letter (p0.getD x7.toNat z_api_Letter))) (e_api_Letter (p0.getD x7.toNat z_api_Letter)) trivial rfl rfl ty27), ⟨⟨rfl, trivial⟩, ⟨rfl, trivial⟩, rfl⟩, rfl,
            Step.plain rfl (does_load 27 12 4 0 [] (.var (e_api_Letter (v1.getD x7.toNat z_api_Letter))) (e_api_Letter (v1.getD x7.toNat z_api_Letter)) trivial rfl rfl ty27), ⟨⟨rfl, trivial⟩, ⟨rfl, trivial⟩, rfl⟩, rfl,
            Step.plain rfl (does_eqT false 27 27 (.tmp 61) (.tmp 62) (e_api_Letter (p0.getD x7.toNat z_api_Letter)) (e_api_Letter (v1.getD x7.toNat z_api_Letter)) (e_api_Letter z_api_Letter) (b_api_Letter (p0.getD x7.toNat z_api_Letter) (v1.getD x7.toNat z_api_Letter)) rfl rfl trivial trivial eg27 sh27 (al_api_Letter _ _) (al_api_Letter _ _) (q_api_Letter _ _)), ⟨⟨rfl, rfl, trivial⟩, trivial, rfl⟩, rfl, rfl⟩ ?_
          obtain ⟨v12, hv12, H⟩ := lt_of H
          refine aw_cov (cov_prune (s1 := ⟨[(0, (e_s_api_Letter p0)), (4, (.ptr 0 0 [])), (5, (.ptr 1 0 [])), (7, (.own 2)), (8, (.int .i64 v3.1)), (9, (.bool v3.2)), (10, (.int .i64 x7)), (11, (.ptr 3 0 [])), (12, (.ptr 4 0 [])), (63, (.bool v12))], [(0, some (.var (e_congresslaw14_Pick p1))), (1, some (.var (e_congresslaw14_Pick p2))), (2, some (.arr 4 v1.length fun j => (e_api_Letter (v1.getD j z_api_Letter)))), (3, some (.var (e_api_Letter (p0.getD x7.toNat z_api_Letter)))), (4, some (.var (e_api_Letter (v1.getD x7.toNat z_api_Letter))))], 5⟩) ⟨rfl, rfl, rfl, rfl, rfl, rfl, rfl, rfl, rfl, (by subst hv12; rfl), trivial⟩ ⟨rfl, rfl, rfl, rfl, rfl, trivial⟩ (Nat.le_refl _)) ?_
          refine aw_cond rfl (fun hc => ?_) (fun hc => ?_)
          · replace H := ite_t hc H
            refine aw_exit ?_
            refine ex_then ?_
            refine ex_here ?_
            exact nx_join () H (cov_prune ⟨rfl, rfl, rfl, rfl, rfl, rfl, rfl, trivial⟩ ⟨rfl, rfl, rfl, trivial⟩ (Nat.le_of_ble_eq_true rfl))
          · replace H := ite_f hc H
            refine aw_skip ?_
            refine nx_seq ?_
            refine aw_seq ?_
            refine aw_region (es := [_, _, _, _, _, _, _, _, _, _, _, _, _, _, _, _, _, _, _, _, _, _, _, _, _]) ⟨Step.plain rfl (does_move (.tmp 9) (.bool v3.2) trivial), ⟨⟨rfl, trivial⟩, trivial, rfl⟩, rfl,
              Step.plain rfl (does_not 4 (.tmp 64) v3.2 trivial), ⟨⟨rfl, trivial⟩, trivial, rfl⟩, rfl,
              Step.plain rfl (does_move (.tmp 65) (.bool (!v3.2)) trivial), ⟨⟨rfl, trivial⟩, trivial, rfl⟩, rfl,
              Step.guarded rfl rfl rfl rfl (fun hc => does_move (.tmp 10) (.int .i64 x7) trivial), ⟨⟨rfl, rfl, trivial⟩, trivial, rfl⟩, rfl,
              Step.guarded rfl rfl rfl rfl (fun hc => does_move (.tmp 8) (.int .i64 v3.1) trivial), ⟨⟨rfl, rfl, trivial⟩, trivial, rfl⟩, rfl,
              Step.guarded rfl rfl rfl rfl (fun hc => Does.strip (n' := [(67, (.opt (!(!v3.2)) (.int .i64 x7))), (68, (.opt (!(!v3.2)) (.int .i64 v3.1)))]) (n := [(67, (.int .i64 x7)), (68, (.int .i64 v3.1))]) ⟨(.opt _ _ hc), (.opt _ _ hc), trivial⟩ (does_bin .neq 3 3 (.tmp 67) (.tmp 68) .i64 x7 v3.1 (.bool (x7 != v3.1)) trivial trivial (bin_neq _ _ _ _))), ⟨⟨rfl, rfl, rfl, trivial⟩, trivial, rfl⟩, rfl,
              Step.plain rfl (does_or 66 69 (!v3.2) (x7 != v3.1)), ⟨⟨rfl, rfl, trivial⟩, trivial, rfl⟩, rfl,
              Step.plain rfl (does_move (.tmp 70) (.bool ((!v3.2) || (x7 != v3.1))) trivial), ⟨⟨rfl, trivial⟩, trivial, rfl⟩, rfl,
              Step.guarded rfl rfl rfl rfl (fun hc => does_fieldAddr 27 3 3 11 3 0 [] (.var (e_api_Letter (p0.getD x7.toNat z_api_Letter))) fl27_3), ⟨⟨rfl, rfl, trivial⟩, ⟨rfl, trivial⟩, rfl⟩, rfl,
              Step.guarded rfl rfl rfl rfl (fun hc => Does.strip (n' := [(72, (.opt (!((!v3.2) || (x7 != v3.1))) (.ptr 3 (0 + 3) [3])))]) (n := [(72, (.ptr 3 (0 + 3) [3]))]) ⟨(.opt _ _ hc), trivial⟩ (does_load 4 72 3 (0 + 3) [3] (.var (e_api_Letter (p0.getD x7.toNat z_api_Letter))) (.bool ((p0.getD x7.toNat z_api_Letter).Turned)) ⟨rfl, Nat.le_of_ble_eq_true rfl, trivial⟩ rfl rfl ty4)), ⟨⟨rfl, rfl, trivial⟩, ⟨rfl, trivial⟩, rfl⟩, rfl,
              Step.plain rfl (does_or 71 73 ((!v3.2) || (x7 != v3.1)) ((p0.getD x7.toNat z_api_Letter).Turned)), ⟨⟨rfl, rfl, trivial⟩, trivial, rfl⟩, rfl,
              Step.plain rfl (does_move (.tmp 74) (.bool (((!v3.2) || (x7 != v3.1)) || ((p0.getD x7.toNat z_api_Letter).Turned))) trivial), ⟨⟨rfl, trivial⟩, trivial, rfl⟩, rfl,
              Step.guarded rfl rfl rfl rfl (fun hc => does_fieldAddr 27 3 3 12 4 0 [] (.var (e_api_Letter (v1.getD x7.toNat z_api_Letter))) fl27_3), ⟨⟨rfl, rfl, trivial⟩, ⟨rfl, trivial⟩, rfl⟩, rfl,
              Step.guarded rfl rfl rfl rfl (fun hc => Does.strip (n' := [(76, (.opt (!(((!v3.2) || (x7 != v3.1)) || ((p0.getD x7.toNat z_api_Letter).Turned))) (.ptr 4 (0 + 3) [3])))]) (n := [(76, (.ptr 4 (0 + 3) [3]))]) ⟨(.opt _ _ hc), trivial⟩ (does_load 4 76 4 (0 + 3) [3] (.var (e_api_Letter (v1.getD x7.toNat z_api_Letter))) (.bool ((v1.getD x7.toNat z_api_Letter).Turned)) ⟨rfl, Nat.le_of_ble_eq_true rfl, trivial⟩ rfl rfl ty4)), ⟨⟨rfl, rfl, trivial⟩, ⟨rfl, trivial⟩, rfl⟩, rfl,
              Step.guarded rfl rfl rfl rfl (fun hc => Does.strip (n' := [(77, (.opt (!(((!v3.2) || (x7 != v3.1)) || ((p0.getD x7.toNat z_api_Letter).Turned))) (.bool ((v1.getD x7.toNat z_api_Letter).Turned))))]) (n := [(77, (.bool ((v1.getD x7.toNat z_api_Letter).Turned)))]) ⟨(.opt _ _ hc), trivial⟩ (does_not 4 (.tmp 77) ((v1.getD x7.toNat z_api_Letter).Turned) trivial)), ⟨⟨rfl, rfl, trivial⟩, trivial, rfl⟩, rfl,
              Step.plain rfl (does_or 75 78 (((!v3.2) || (x7 != v3.1)) || ((p0.getD x7.toNat z_api_Letter).Turned)) (!((v1.getD x7.toNat z_api_Letter).Turned))), ⟨⟨rfl, rfl, trivial⟩, trivial, rfl⟩, rfl,
              Step.plain rfl (does_move (.tmp 79) (.bool ((((!v3.2) || (x7 != v3.1)) || ((p0.getD x7.toNat z_api_Letter).Turned)) || (!((v1.getD x7.toNat z_api_Letter).Turned)))) trivial), ⟨⟨rfl, trivial⟩, trivial, rfl⟩, rfl,
              Step.guarded rfl rfl rfl rfl (fun hc => does_fieldAddr 27 2 2 11 3 0 [] (.var (e_api_Letter (p0.getD x7.toNat z_api_Letter))) fl27_2), ⟨⟨rfl, rfl, trivial⟩, ⟨rfl, trivial⟩, rfl⟩, rfl,
              Step.guarded rfl rfl rfl rfl (fun hc => Does.strip (n' := [(81, (.opt (!((((!v3.2) || (x7 != v3.1)) || ((p0.getD x7.toNat z_api_Letter).Turned)) || (!((v1.getD x7.toNat z_api_Letter).Turned)))) (.ptr 3 (0 + 2) [2])))]) (n := [(81, (.ptr 3 (0 + 2) [2]))]) ⟨(.opt _ _ hc), trivial⟩ (does_load 9 81 3 (0 + 2) [2] (.var (e_api_Letter (p0.getD x7.toNat z_api_Letter))) (.str ((p0.getD x7.toNat z_api_Letter).Text)) ⟨rfl, Nat.le_of_ble_eq_true rfl, trivial⟩ rfl rfl ty9)), ⟨⟨rfl, rfl, trivial⟩, ⟨rfl, trivial⟩, rfl⟩, rfl,
              Step.guarded rfl rfl rfl rfl (fun hc => Does.strip (n' := [(82, (.opt (!((((!v3.2) || (x7 != v3.1)) || ((p0.getD x7.toNat z_api_Letter).Turned)) || (!((v1.getD x7.toNat z_api_Letter).Turned)))) (.str ((p0.getD x7.toNat z_api_Letter).Text))))]) (n := [(82, (.str ((p0.getD x7.toNat z_api_Letter).Text)))]) ⟨(.opt _ _ hc), trivial⟩ (does_lenstr 9 82 ((p0.getD x7.toNat z_api_Letter).Text) rfl)), ⟨⟨rfl, rfl, trivial⟩, trivial, rfl⟩, rfl,
              Step.guarded rfl rfl rfl rfl (fun hc => does_fieldAddr 27 2 2 12 4 0 [] (.var (e_api_Letter (v1.getD x7.toNat z_api_Letter))) fl27_2), ⟨⟨rfl, rfl, trivial⟩, ⟨rfl, trivial⟩, rfl⟩, rfl,
              Step.guarded rfl rfl rfl rfl (fun hc => Does.strip (n' := [(84, (.opt (!((((!v3.2) || (x7 != v3.1)) || ((p0.getD x7.toNat z_api_Letter).Turned)) || (!((v1.getD x7.toNat z_api_Letter).Turned)))) (.ptr 4 (0 + 2) [2])))]) (n := [(84, (.ptr 4 (0 + 2) [2]))]) ⟨(.opt _ _ hc), trivial⟩ (does_load 9 84 4 (0 + 2) [2] (.var (e_api_Letter (v1.getD x7.toNat z_api_Letter))) (.str ((v1.getD x7.toNat z_api_Letter).Text)) ⟨rfl, Nat.le_of_ble_eq_true rfl, trivial⟩ rfl rfl ty9)), ⟨⟨rfl, rfl, trivial⟩, ⟨rfl, trivial⟩, rfl⟩, rfl,
              Step.guarded rfl rfl rfl rfl (fun hc => Does.strip (n' := [(85, (.opt (!((((!v3.2) || (x7 != v3.1)) || ((p0.getD x7.toNat z_api_Letter).Turned)) || (!((v1.getD x7.toNat z_api_Letter).Turned)))) (.str ((v1.getD x7.toNat z_api_Letter).Text))))]) (n := [(85, (.str ((v1.getD x7.toNat z_api_Letter).Text)))]) ⟨(.opt _ _ hc), trivial⟩ (does_lenstr 9 85 ((v1.getD x7.toNat z_api_Letter).Text) rfl)), ⟨⟨rfl, rfl, trivial⟩, trivial, rfl⟩, rfl,
              Step.guarded rfl rfl rfl rfl (fun hc => Does.strip (n' := [(83, (.opt (!((((!v3.2) || (x7 != v3.1)) || ((p0.getD x7.toNat z_api_Letter).Turned)) || (!((v1.getD x7.toNat z_api_Letter).Turned)))) (.int .i64 (((p0.getD x7.toNat z_api_Letter).Text).size : Int)))), (86, (.opt (!((((!v3.2) || (x7 != v3.1)) || ((p0.getD x7.toNat z_api_Letter).Turned)) || (!((v1.getD x7.toNat z_api_Letter).Turned)))) (.int .i64 (((v1.getD x7.toNat z_api_Letter).Text).size : Int))))]) (n := [(83, (.int .i64 (((p0.getD x7.toNat z_api_Letter).Text).size : Int))), (86, (.int .i64 (((v1.getD x7.toNat z_api_Letter).Text).size : Int)))]) ⟨(.opt _ _ hc), (.opt _ _ hc), trivial⟩ (does_bin .neq 3 3 (.tmp 83) (.tmp 86) .i64 (((p0.getD x7.toNat z_api_Letter).Text).size : Int) (((v1.getD x7.toNat z_api_Letter).Text).size : Int) (.bool ((((p0.getD x7.toNat z_api_Letter).Text).size : Int) != (((v1.getD x7.toNat z_api_Letter).Text).size : Int))) trivial trivial (bin_neq _ _ _ _))), ⟨⟨rfl, rfl, rfl, trivial⟩, trivial, rfl⟩, rfl,
              Step.plain rfl (does_or 80 87 ((((!v3.2) || (x7 != v3.1)) || ((p0.getD x7.toNat z_api_Letter).Turned)) || (!((v1.getD x7.toNat z_api_Letter).Turned))) ((((p0.getD x7.toNat z_api_Letter).Text).size : Int) != (((v1.getD x7.toNat z_api_Letter).Text).size : Int))), ⟨⟨rfl, rfl, trivial⟩, trivial, rfl⟩, rfl, rfl⟩ ?_
            obtain ⟨v13, hv13, H⟩ := lt_of H
            refine aw_cov (cov_prune (s1 := ⟨[(0, (e_s_api_Letter p0)), (4, (.ptr 0 0 [])), (5, (.ptr 1 0 [])), (7, (.own 2)), (8, (.int .i64 v3.1)), (9, (.bool v3.2)), (10, (.int .i64 x7)), (11, (.ptr 3 0 [])), (12, (.ptr 4 0 [])), (88, (.bool v13))], [(0, some (.var (e_congresslaw14_Pick p1))), (1, some (.var (e_congresslaw14_Pick p2))), (2, some (.arr 4 v1.length fun j => (e_api_Letter (v1.getD j z_api_Letter)))), (3, some (.var (e_api_Letter (p0.getD x7.toNat z_api_Letter)))), (4, some (.var (e_api_Letter (v1.getD x7.toNat z_api_Letter))))], 5⟩) ⟨rfl, rfl, rfl, rfl, rfl, rfl, rfl, rfl, rfl, (by subst hv13; rfl), trivial⟩ ⟨rfl, rfl, rfl, rfl, rfl, trivial⟩ (Nat.le_refl _)) ?_
            refine aw_cond rfl (fun hc => ?_) (fun hc => ?_)
            · replace H := ite_t hc H
              refine aw_region (es := [_]) ⟨Step.plain rfl (does_assign (.const (.bool false)) (.bool false) (fun _ => rfl)), ⟨trivial, trivial, rfl⟩, rfl, rfl⟩ ?_
              refine aw_cov (cov_prune (s1 := ⟨[(6, (.bool false))], [], 5⟩) ⟨rfl, trivial⟩ trivial (Nat.le_refl _)) ?_
              refine aw_ret ?_
              replace H := rt_of H hsn8 Hrn8
              refine rt_then ?_
              refine rt_blk ?_
              refine rt_then ?_
              refine rt_then ?_
              refine rt_then ?_
              refine rt_blk ?_
              refine rt_then ?_
              refine rt_then ?_
              exact fun a w hr => ⟨_, [(.bool false)], hr, ⟨⟨_, rfl, .data (.bool false) trivial⟩, trivial⟩, by decide, by cases H; rfl⟩
            · replace H := ite_f hc H
              refine aw_skip ?_
              refine nx_seq ?_
              refine aw_seq ?_
              refine aw_region (es := [_]) ⟨Step.plain rfl (does_assign (.const (.int .i64 0)) (.int .i64 0) (fun _ => rfl)), ⟨trivial, trivial, rfl⟩, rfl, rfl⟩ ?_
              refine aw_cov (cov_prune (s1 := ⟨[(0, (e_s_api_Letter p0)), (4, (.ptr 0 0 [])), (5, (.ptr 1 0 [])), (7, (.own 2)), (8, (.int .i64 v3.1)), (9, (.bool v3.2)), (10, (.int .i64 x7)), (11, (.ptr 3 0 [])), (12, (.ptr 4 0 [])), (13, (.int .i64 0))], [(0, some (.var (e_congresslaw14_Pick p1))), (1, some (.var (e_congresslaw14_Pick p2))), (2, some (.arr 4 v1.length fun j => (e_api_Letter (v1.getD j z_api_Letter)))), (3, some (.var (e_api_Letter (p0.getD x7.toNat z_api_Letter)))), (4, some (.var (e_api_Letter (v1.getD x7.toNat z_api_Letter))))], 5⟩) ⟨rfl, rfl, rfl, rfl, rfl, rfl, rfl, rfl, rfl, rfl, trivial⟩ ⟨rfl, rfl, rfl, rfl, rfl, trivial⟩ (Nat.le_refl _)) ?_
              obtain ⟨wn15, hwn15, Hrn15⟩ := bnd H
              refine aw_meet (fun y19 : Unit => (⟨[(0, (e_s_api_Letter p0)), (4, (.ptr 0 0 [])), (5, (.ptr 1 0 [])), (7, (.own 2)), (8, (.int .i64 v3.1)), (9, (.bool v3.2)), (10, (.int .i64 x7))], [(0, some (.var (e_congresslaw14_Pick p1))), (1, some (.var (e_congresslaw14_Pick p2))), (2, some (.arr 4 v1.length fun j => (e_api_Letter (v1.getD j z_api_Letter))))], 5⟩ : St)) (fun y19 => Fl.nx y19 = wn15) (fun y19 hy => ?_) (aw_block (aw_runs (fun x14 : Int => (⟨[(0, (e_s_api_Letter p0)), (4, (.ptr 0 0 [])), (5, (.ptr 1 0 [])), (7, (.own 2)), (8, (.int .i64 v3.1)), (9, (.bool v3.2)), (10, (.int .i64 x7)), (11, (.ptr 3 0 [])), (12, (.ptr 4 0 [])), (13, (.int .i64 x14))], [(0, some (.var (e_congresslaw14_Pick p1))), (1, some (.var (e_congresslaw14_Pick p2))), (2, some (.arr 4 v1.length fun j => (e_api_Letter (v1.getD j z_api_Letter)))), (3, some (.var (e_api_Letter (p0.getD x7.toNat z_api_Letter)))), (4, some (.var (e_api_Letter (v1.getD x7.toNat z_api_Letter))))], 5⟩ : St)) hwn15 (cov_prune ⟨rfl, rfl, rfl, rfl, rfl, rfl, rfl, rfl, rfl, rfl, trivial⟩ ⟨rfl, rfl, rfl, rfl, rfl, trivial⟩ (Nat.le_of_ble_eq_true rfl)) (fun x14 st H hsn15 => ?_)))
              · have H := nx_of hy Hrn15
                refine nx_seq ?_
                obtain ⟨v20, h21, H⟩ := bnd H
                refine aw_region (es := [_, _, _, _, _, _, _, _, _, _, _, _, _]) ⟨Step.plain rfl (does_move (.tmp 7) (.own 2) trivial), ⟨⟨rfl, trivial⟩, trivial, rfl⟩, rfl,
                  Step.plain rfl (does_fieldAddr 25 0 0 4 0 0 [] (.var (e_congresslaw14_Pick p1)) fl25_0), ⟨⟨rfl, trivial⟩, ⟨rfl, trivial⟩, rfl⟩, rfl,
                  Step.plain rfl (does_load 3 119 0 (0 + 0) [0] (.var (e_congresslaw14_Pick p1)) (.int .i64 p1.From) ⟨rfl, Nat.le_of_ble_eq_true rfl, trivial⟩ rfl rfl ty3), ⟨⟨rfl, trivial⟩, ⟨rfl, trivial⟩, rfl⟩, rfl,
                  Step.plain rfl (does_fieldAddr 25 1 1 4 0 0 [] (.var (e_congresslaw14_Pick p1)) fl25_1), ⟨⟨rfl, trivial⟩, ⟨rfl, trivial⟩, rfl⟩, rfl,
                  Step.plain rfl (does_load 3 121 0 (0 + 1) [1] (.var (e_congresslaw14_Pick p1)) (.int .i64 p1.To) ⟨rfl, Nat.le_of_ble_eq_true rfl, trivial⟩ rfl rfl ty3), ⟨⟨rfl, trivial⟩, ⟨rfl, trivial⟩, rfl⟩, rfl,
                  Step.plain rfl (does_fieldAddr 25 2 2 4 0 0 [] (.var (e_congresslaw14_Pick p1)) fl25_2), ⟨⟨rfl, trivial⟩, ⟨rfl, trivial⟩, rfl⟩, rfl,
                  Step.plain rfl (does_load 3 123 0 (0 + 2) [2] (.var (e_congresslaw14_Pick p1)) (.int .i64 p1.Index) ⟨rfl, Nat.le_of_ble_eq_true rfl, trivial⟩ rfl rfl ty3), ⟨⟨rfl, trivial⟩, ⟨rfl, trivial⟩, rfl⟩, rfl,
                  Step.plain rfl (does_fieldAddr 25 3 3 5 1 0 [] (.var (e_congresslaw14_Pick p2)) fl25_3), ⟨⟨rfl, trivial⟩, ⟨rfl, trivial⟩, rfl⟩, rfl,
                  Step.plain rfl (does_load 3 125 1 (0 + 3) [3] (.var (e_congresslaw14_Pick p2)) (.int .i64 p2.At) ⟨rfl, Nat.le_of_ble_eq_true rfl, trivial⟩ rfl rfl ty3), ⟨⟨rfl, trivial⟩, ⟨rfl, trivial⟩, rfl⟩, rfl,
                  Step.plain rfl (does_fieldAddr 25 4 4 5 1 0 [] (.var (e_congresslaw14_Pick p2)) fl25_4), ⟨⟨rfl, trivial⟩, ⟨rfl, trivial⟩, rfl⟩, rfl,
                  Step.plain rfl (does_load 23 127 1 (0 + 4) [4] (.var (e_congresslaw14_Pick p2)) (.int .u32 p2.Mask) ⟨rfl, Nat.le_of_ble_eq_true rfl, trivial⟩ rfl rfl ty23), ⟨⟨rfl, trivial⟩, ⟨rfl, trivial⟩, rfl⟩, rfl,
                  Step.plain rfl (does_callO 13 0 (fun _ => .any) (.func 13) [(.tmp 118), (.tmp 120), (.tmp 122), (.tmp 124), (.tmp 126), (.tmp 128)] [(.own 2), (.int .i64 p1.From), (.int .i64 p1.To), (.int .i64 p1.Index), (.int .i64 p2.At), (.int .u32 p2.Mask)] [(2, (.arr 4 v1.length fun j => (e_api_Letter (v1.getD j z_api_Letter))))] [] true [(e_s_api_Letter v1), (.int .i64 p1.From), (.int .i64 p1.To), (.int .i64 p1.Index), (.int .i64 p2.At), (.int .u32 p2.Mask)] _ (.own 5) _ 5 1 _ _ rfl fo13 rfl ⟨trivial, trivial, trivial, trivial, trivial, trivial, trivial⟩ ⟨.ro _ _ (.own 2 _ _ _ (.head _) rfl (fun _ => (d_api_Letter _))), .ro _ _ (.data _ trivial), .ro _ _ (.data _ trivial), .ro _ _ (.data _ trivial), .ro _ _ (.data _ trivial), .ro _ _ (.data _ trivial), trivial⟩ (lossy_Turn_spec v1 p1.From p1.To p1.Index p2.At p2.Mask _ h21) rfl (by simp) rfl trivial ⟨⟨Nat.le_of_ble_eq_true rfl, _, rfl, fun _ => (f_api_Letter _)⟩, trivial⟩ (.own 0 (Nat.le_of_ble_eq_true rfl))), ⟨⟨rfl, rfl, rfl, rfl, rfl, rfl, trivial⟩, ⟨rfl, trivial⟩, rfl⟩, rfl,
                  Step.plain rfl (does_assign (.tmp 129) (.own 5) trivial), ⟨⟨rfl, trivial⟩, trivial, rfl⟩, rfl, rfl⟩ ?_
                refine aw_cov (cov_prune (s1 := ⟨[(0, (e_s_api_Letter p0)), (4, (.ptr 0 0 [])), (5, (.ptr 1 0 [])), (7, (.own 2)), (8, (.int .i64 v3.1)), (9, (.bool v3.2)), (10, (.int .i64 x7)), (14, (.own 5))], [(0, some (.var (e_congresslaw14_Pick p1))), (1, some (.var (e_congresslaw14_Pick p2))), (2, some (.arr 4 v1.length fun j => (e_api_Letter (v1.getD j z_api_Letter)))), (5, some (.arr 4 v20.length fun j => (e_api_Letter (v20.getD j z_api_Letter))))], 6⟩) ⟨rfl, rfl, rfl, rfl, rfl, rfl, rfl, rfl, trivial⟩ ⟨rfl, rfl, rfl, rfl, trivial⟩ (Nat.le_refl _)) ?_
                obtain ⟨v22, h23, H⟩ := bnd H
                refine aw_region (es := [_, _, _, _]) ⟨Step.plain rfl (does_move (.tmp 7) (.own 2) trivial), ⟨⟨rfl, trivial⟩, trivial, rfl⟩, rfl,
                  Step.plain rfl (does_move (.tmp 14) (.own 5) trivial), ⟨⟨rfl, trivial⟩, trivial, rfl⟩, rfl,
                  Step.plain rfl (does_call 12 0 (fun _ => .any) (.func 12) [(.tmp 130), (.tmp 131)] [(.own 2), (.own 5)] [(2, (.arr 4 v1.length fun j => (e_api_Letter (v1.getD j z_api_Letter)))), (5, (.arr 4 v20.length fun j => (e_api_Letter (v20.getD j z_api_Letter))))] true [(e_s_api_Letter v1), (e_s_api_Letter v20)] (.bool v22) _ _ rfl fo12 rfl ⟨trivial, trivial, trivial⟩ ⟨.own 2 _ _ _ (.head _) rfl (fun _ => (d_api_Letter _)), .own 5 _ _ _ (.tail _ (.head _)) rfl (fun _ => (d_api_Letter _)), trivial⟩ (congressref14_Same_spec v1 v20 _ h23) trivial), ⟨⟨rfl, rfl, trivial⟩, ⟨rfl, rfl, trivial⟩, rfl⟩, rfl,
                  Step.plain rfl (does_not 4 (.tmp 132) v22 trivial), ⟨⟨rfl, trivial⟩, trivial, rfl⟩, rfl, rfl⟩ ?_
                refine aw_cov (cov_prune (s1 := ⟨[(0, (e_s_api_Letter p0)), (4, (.ptr 0 0 [])), (5, (.ptr 1 0 [])), (7, (.own 2)), (8, (.int .i64 v3.1)), (9, (.bool v3.2)), (10, (.int .i64 x7)), (133, (.bool (!v22)))], [(0, some (.var (e_congresslaw14_Pick p1))), (1, some (.var (e_congresslaw14_Pick p2))), (2, some (.arr 4 v1.length fun j => (e_api_Letter (v1.getD j z_api_Letter))))], 6⟩) ⟨rfl, rfl, rfl, rfl, rfl, rfl, rfl, rfl, trivial⟩ ⟨rfl, rfl, rfl, trivial⟩ (Nat.le_refl _)) ?_
                refine aw_cond rfl (fun hc => ?_) (fun hc => ?_)
                · replace H := ite_t hc H
                  refine aw_region (es := [_]) ⟨Step.plain rfl (does_assign (.const (.bool false)) (.bool false) (fun _ => rfl)), ⟨trivial, trivial, rfl⟩, rfl, rfl⟩ ?_
                  refine aw_cov (cov_prune (s1 := ⟨[(6, (.bool false))], [], 6⟩) ⟨rfl, trivial⟩ trivial (Nat.le_refl _)) ?_
                  refine aw_ret ?_
                  replace H := rt_of H hsn8 Hrn8
                  refine rt_blk ?_
                  refine rt_then ?_
                  refine rt_then ?_
                  refine rt_then ?_
                  refine rt_blk ?_
                  refine rt_then ?_
                  refine rt_then ?_
                  exact fun a w hr => ⟨_, [(.bool false)], hr, ⟨⟨_, rfl, .data (.bool false) trivial⟩, trivial⟩, by decide, by cases H; rfl⟩
                · replace H := ite_f hc H
                  refine aw_skip ?_
                  refine nx_blk ?_
                  exact nx_join () H (cov_prune ⟨rfl, rfl, rfl, rfl, rfl, rfl, rfl, trivial⟩ ⟨rfl, rfl, rfl, trivial⟩ (Nat.le_of_ble_eq_true rfl))
              · refine aw_seq ?_
                refine aw_region (es := [_, _, _, _, _]) ⟨Step.plain rfl (does_move (.tmp 13) (.int .i64 x14) trivial), ⟨⟨rfl, trivial⟩, trivial, rfl⟩, rfl,
                  Step.plain rfl (does_fieldAddr 27 2 2 11 3 0 [] (.var (e_api_Letter (p0.getD x7.toNat z_api_Letter))) fl27_2), ⟨⟨rfl, trivial⟩, ⟨rfl, trivial⟩, rfl⟩, rfl,
                  Step.plain rfl (does_load 9 90 3 (0 + 2) [2] (.var (e_api_Letter (p0.getD x7.toNat z_api_Letter))) (.str ((p0.getD x7.toNat z_api_Letter).Text)) ⟨rfl, Nat.le_of_ble_eq_true rfl, trivial⟩ rfl rfl ty9), ⟨⟨rfl, trivial⟩, ⟨rfl, trivial⟩, rfl⟩, rfl,
                  Step.plain rfl (does_lenstr 9 91 ((p0.getD x7.toNat z_api_Letter).Text) rfl), ⟨⟨rfl, trivial⟩, trivial, rfl⟩, rfl,
                  Step.plain rfl (does_bin .lss 3 3 (.tmp 89) (.tmp 92) .i64 x14 (((p0.getD x7.toNat z_api_Letter).Text).size : Int) (.bool (decide (x14 < (((p0.getD x7.toNat z_api_Letter).Text).size : Int)))) trivial trivial (bin_lss _ _ _ _)), ⟨⟨rfl, rfl, trivial⟩, trivial, rfl⟩, rfl, rfl⟩ ?_
                refine aw_cov (cov_prune (s1 := ⟨[(0, (e_s_api_Letter p0)), (4, (.ptr 0 0 [])), (5, (.ptr 1 0 [])), (7, (.own 2)), (8, (.int .i64 v3.1)), (9, (.bool v3.2)), (10, (.int .i64 x7)), (11, (.ptr 3 0 [])), (12, (.ptr 4 0 [])), (13, (.int .i64 x14)), (93, (.bool (decide (x14 < (((p0.getD x7.toNat z_api_Letter).Text).size : Int)))))], [(0, some (.var (e_congresslaw14_Pick p1))), (1, some (.var (e_congresslaw14_Pick p2))), (2, some (.arr 4 v1.length fun j => (e_api_Letter (v1.getD j z_api_Letter)))), (3, some (.var (e_api_Letter (p0.getD x7.toNat z_api_Letter)))), (4, some (.var (e_api_Letter (v1.getD x7.toNat z_api_Letter))))], 5⟩) ⟨rfl, rfl, rfl, rfl, rfl, rfl, rfl, rfl, rfl, rfl, rfl, trivial⟩ ⟨rfl, rfl, rfl, rfl, rfl, trivial⟩ (Nat.le_refl _)) ?_
                refine aw_cond rfl (fun hc => ?_) (fun hc => ?_)
                · replace H := ite_t hc H
                  refine aw_skip ?_
                  refine nx_seq ?_
                  refine aw_seq ?_
                  refine aw_block ?_
                  obtain ⟨h16, H⟩ := ib_of H
                  obtain ⟨h17, H⟩ := ib_of H
                  refine aw_draw (es := [_, _, _, _, _, _, _, _, _, _, _, _, _, _, _, _, _, _, _, _, _, _]) (mixed) ⟨Step.plain rfl (does_fieldAddr 27 2 2 11 3 0 [] (.var (e_api_Letter (p0.getD x7.toNat z_api_Letter))) fl27_2), ⟨⟨rfl, trivial⟩, ⟨rfl, trivial⟩, rfl⟩, rfl,
                    Step.plain rfl (does_load 9 96 3 (0 + 2) [2] (.var (e_api_Letter (p0.getD x7.toNat z_api_Letter))) (.str ((p0.getD x7.toNat z_api_Letter).Text)) ⟨rfl, Nat.le_of_ble_eq_true rfl, trivial⟩ rfl rfl ty9), ⟨⟨rfl, trivial⟩, ⟨rfl, trivial⟩, rfl⟩, rfl,
                    Step.plain rfl (does_move (.tmp 13) (.int .i64 x14) trivial), ⟨⟨rfl, trivial⟩, trivial, rfl⟩, rfl,
                    Step.plain rfl (does_indexStr 9 (.tmp 97) (.tmp 98) ((p0.getD x7.toNat z_api_Letter).Text) .i64 x14 us9 trivial trivial h16.1 h16.2), ⟨⟨rfl, rfl, trivial⟩, trivial, rfl⟩, rfl,
                    Step.plain rfl (does_fieldAddr 27 2 2 12 4 0 [] (.var (e_api_Letter (v1.getD x7.toNat z_api_Letter))) fl27_2), ⟨⟨rfl, trivial⟩, ⟨rfl, trivial⟩, rfl⟩, rfl,
                    Step.plain rfl (does_load 9 100 4 (0 + 2) [2] (.var (e_api_Letter (v1.getD x7.toNat z_api_Letter))) (.str ((v1.getD x7.toNat z_api_Letter).Text)) ⟨rfl, Nat.le_of_ble_eq_true rfl, trivial⟩ rfl rfl ty9), ⟨⟨rfl, trivial⟩, ⟨rfl, trivial⟩, rfl⟩, rfl,
                    Step.plain rfl (does_move (.tmp 13) (.int .i64 x14) trivial), ⟨⟨rfl, trivial⟩, trivial, rfl⟩, rfl,
                    Step.plain rfl (does_indexStr 9 (.tmp 101) (.tmp 102) ((v1.getD x7.toNat z_api_Letter).Text) .i64 x14 us9 trivial trivial h17.1 h17.2), ⟨⟨rfl, rfl, trivial⟩, trivial, rfl⟩, rfl,
                    Step.plain rfl (does_bin .neq 5 5 (.tmp 99) (.tmp 103) .u8 ((bytesOf ((p0.getD x7.toNat z_api_Letter).Text)).getD x14.toNat 0) ((bytesOf ((v1.getD x7.toNat z_api_Letter).Text)).getD x14.toNat 0) (.bool (((bytesOf ((p0.getD x7.toNat z_api_Letter).Text)).getD x14.toNat 0) != ((bytesOf ((v1.getD x7.toNat z_api_Letter).Text)).getD x14.toNat 0))) trivial trivial (bin_neq _ _ _ _)), ⟨⟨rfl, rfl, trivial⟩, trivial, rfl⟩, rfl,
                    Step.plain rfl (does_move (.tmp 104) (.bool (((bytesOf ((p0.getD x7.toNat z_api_Letter).Text)).getD x14.toNat 0) != ((bytesOf ((v1.getD x7.toNat z_api_Letter).Text)).getD x14.toNat 0))) trivial), ⟨⟨rfl, trivial⟩, trivial, rfl⟩, rfl,
                    Step.guarded rfl rfl rfl rfl (fun hc => does_move (.tmp 13) (.int .i64 x14) trivial), ⟨⟨rfl, rfl, trivial⟩, trivial, rfl⟩, rfl,
                    Step.guarded rfl rfl rfl rfl (fun hc => does_fieldAddr 25 3 3 4 0 0 [] (.var (e_congresslaw14_Pick p1)) fl25_3), ⟨⟨rfl, rfl, trivial⟩, ⟨rfl, trivial⟩, rfl⟩, rfl,
                    Step.guarded rfl rfl rfl rfl (fun hc => Does.strip (n' := [(107, (.opt (((bytesOf ((p0.getD x7.toNat z_api_Letter).Text)).getD x14.toNat 0) != ((bytesOf ((v1.getD x7.toNat z_api_Letter).Text)).getD x14.toNat 0)) (.ptr 0 (0 + 3) [3])))]) (n := [(107, (.ptr 0 (0 + 3) [3]))]) ⟨(.opt _ _ hc), trivial⟩ (does_load 3 107 0 (0 + 3) [3] (.var (e_congresslaw14_Pick p1)) (.int .i64 p1.At) ⟨rfl, Nat.le_of_ble_eq_true rfl, trivial⟩ rfl rfl ty3)), ⟨⟨rfl, rfl, trivial⟩, ⟨rfl, trivial⟩, rfl⟩, rfl,
                    Step.guarded rfl rfl rfl rfl (fun hc => Does.strip (n' := [(106, (.opt (((bytesOf ((p0.getD x7.toNat z_api_Letter).Text)).getD x14.toNat 0) != ((bytesOf ((v1.getD x7.toNat z_api_Letter).Text)).getD x14.toNat 0)) (.int .i64 x14))), (108, (.opt (((bytesOf ((p0.getD x7.toNat z_api_Letter).Text)).getD x14.toNat 0) != ((bytesOf ((v1.getD x7.toNat z_api_Letter).Text)).getD x14.toNat 0)) (.int .i64 p1.At)))]) (n := [(106, (.int .i64 x14)), (108, (.int .i64 p1.At))]) ⟨(.opt _ _ hc), (.opt _ _ hc), trivial⟩ (does_bin .lss 3 3 (.tmp 106) (.tmp 108) .i64 x14 p1.At (.bool (decide (x14 < p1.At))) trivial trivial (bin_lss _ _ _ _))), ⟨⟨rfl, rfl, rfl, trivial⟩, trivial, rfl⟩, rfl,
                    Step.guarded rfl rfl rfl rfl (fun hc => Does.strip (n' := [(109, (.opt (((bytesOf ((p0.getD x7.toNat z_api_Letter).Text)).getD x14.toNat 0) != ((bytesOf ((v1.getD x7.toNat z_api_Letter).Text)).getD x14.toNat 0)) (.bool (decide (x14 < p1.At)))))]) (n := [(109, (.bool (decide (x14 < p1.At))))]) ⟨(.opt _ _ hc), trivial⟩ (does_move (.tmp 109) (.bool (decide (x14 < p1.At))) trivial)), ⟨⟨rfl, rfl, trivial⟩, trivial, rfl⟩, rfl,
                    Step.guarded rfl rfl rfl rfl (fun hc => does_move (.tmp 13) (.int .i64 x14) trivial), ⟨⟨rfl, rfl, trivial⟩, trivial, rfl⟩, rfl,
                    Step.guarded rfl rfl rfl rfl (fun hc => does_fieldAddr 25 3 3 4 0 0 [] (.var (e_congresslaw14_Pick p1)) fl25_3), ⟨⟨rfl, rfl, trivial⟩, ⟨rfl, trivial⟩, rfl⟩, rfl,
                    Step.guarded rfl rfl rfl rfl (fun hc => Does.strip (n' := [(112, (.opt ((((bytesOf ((p0.getD x7.toNat z_api_Letter).Text)).getD x14.toNat 0) != ((bytesOf ((v1.getD x7.toNat z_api_Letter).Text)).getD x14.toNat 0)) && (!(decide (x14 < p1.At)))) (.ptr 0 (0 + 3) [3])))]) (n := [(112, (.ptr 0 (0 + 3) [3]))]) ⟨(.opt _ _ hc), trivial⟩ (does_load 3 112 0 (0 + 3) [3] (.var (e_congresslaw14_Pick p1)) (.int .i64 p1.At) ⟨rfl, Nat.le_of_ble_eq_true rfl, trivial⟩ rfl rfl ty3)), ⟨⟨rfl, rfl, trivial⟩, ⟨rfl, trivial⟩, rfl⟩, rfl,
                    Step.guarded rfl rfl rfl rfl (fun hc => Does.strip (n' := [(113, (.opt ((((bytesOf ((p0.getD x7.toNat z_api_Letter).Text)).getD x14.toNat 0) != ((bytesOf ((v1.getD x7.toNat z_api_Letter).Text)).getD x14.toNat 0)) && (!(decide (x14 < p1.At)))) (.int .i64 p1.At)))]) (n := [(113, (.int .i64 p1.At))]) ⟨(.opt _ _ hc), trivial⟩ (does_bin .add 3 3 (.tmp 113) (.const (.int .i64 3)) .i64 p1.At 3 (.int .i64 (IntKind.i64.wrap (p1.At + 3))) trivial (fun _ => rfl) (bin_add _ _ _ _))), ⟨⟨rfl, rfl, trivial⟩, trivial, rfl⟩, rfl,
                    Step.guarded rfl rfl rfl rfl (fun hc => Does.strip (n' := [(111, (.opt ((((bytesOf ((p0.getD x7.toNat z_api_Letter).Text)).getD x14.toNat 0) != ((bytesOf ((v1.getD x7.toNat z_api_Letter).Text)).getD x14.toNat 0)) && (!(decide (x14 < p1.At)))) (.int .i64 x14))), (114, (.opt ((((bytesOf ((p0.getD x7.toNat z_api_Letter).Text)).getD x14.toNat 0) != ((bytesOf ((v1.getD x7.toNat z_api_Letter).Text)).getD x14.toNat 0)) && (!(decide (x14 < p1.At)))) (.int .i64 (IntKind.i64.wrap (p1.At + 3)))))]) (n := [(111, (.int .i64 x14)), (114, (.int .i64 (IntKind.i64.wrap (p1.At + 3))))]) ⟨(.opt _ _ hc), (.opt _ _ hc), trivial⟩ (does_bin .gtr 3 3 (.tmp 111) (.tmp 114) .i64 x14 (IntKind.i64.wrap (p1.At + 3)) (.bool (decide (x14 > (IntKind.i64.wrap (p1.At + 3))))) trivial trivial (bin_gtr _ _ _ _))), ⟨⟨rfl, rfl, rfl, trivial⟩, trivial, rfl⟩, rfl,
                    Step.guarded rfl rfl rfl rfl (fun hc => Does.strip (n' := [(110, (.opt (((bytesOf ((p0.getD x7.toNat z_api_Letter).Text)).getD x14.toNat 0) != ((bytesOf ((v1.getD x7.toNat z_api_Letter).Text)).getD x14.toNat 0)) (.bool (decide (x14 < p1.At))))), (115, (.opt ((((bytesOf ((p0.getD x7.toNat z_api_Letter).Text)).getD x14.toNat 0) != ((bytesOf ((v1.getD x7.toNat z_api_Letter).Text)).getD x14.toNat 0)) && (!(decide (x14 < p1.At)))) (.bool (decide (x14 > (IntKind.i64.wrap (p1.At + 3)))))))]) (n := [(110, (.bool (decide (x14 < p1.At)))), (115, (.opt (!(decide (x14 < p1.At))) (.bool (decide (x14 > (IntKind.i64.wrap (p1.At + 3)))))))]) ⟨(.opt _ _ hc), (.half _ _ hc), trivial⟩ (does_or 110 115 (decide (x14 < p1.At)) (decide (x14 > (IntKind.i64.wrap (p1.At + 3)))))), ⟨⟨rfl, rfl, rfl, trivial⟩, trivial, rfl⟩, rfl,
                    Step.plain rfl (does_and 105 116 (((bytesOf ((p0.getD x7.toNat z_api_Letter).Text)).getD x14.toNat 0) != ((bytesOf ((v1.getD x7.toNat z_api_Letter).Text)).getD x14.toNat 0)) ((decide (x14 < p1.At)) || (decide (x14 > (IntKind.i64.wrap (p1.At + 3)))))), ⟨⟨rfl, rfl, trivial⟩, trivial, rfl⟩, rfl, rfl⟩ rfl ?_
                  obtain ⟨v18, hv18, H⟩ := lt_of H
                  refine aw_cov (cov_prune (s1 := ⟨[(0, (e_s_api_Letter p0)), (4, (.ptr 0 0 [])), (5, (.ptr 1 0 [])), (7, (.own 2)), (8, (.int .i64 v3.1)), (9, (.bool v3.2)), (10, (.int .i64 x7)), (11, (.ptr 3 0 [])), (12, (.ptr 4 0 [])), (13, (.int .i64 x14)), (117, (.bool v18))], [(0, some (.var (e_congresslaw14_Pick p1))), (1, some (.var (e_congresslaw14_Pick p2))), (2, some (.arr 4 v1.length fun j => (e_api_Letter (v1.getD j z_api_Letter)))), (3, some (.var (e_api_Letter (p0.getD x7.toNat z_api_Letter)))), (4, some (.var (e_api_Letter (v1.getD x7.toNat z_api_Letter))))], 5⟩) ⟨rfl, rfl, rfl, rfl, rfl, rfl, rfl, rfl, rfl, rfl, (by subst hv18; rfl), trivial⟩ ⟨rfl, rfl, rfl, rfl, rfl, trivial⟩ (Nat.le_refl _)) ?_
                  refine aw_cond rfl (fun hc => ?_) (fun hc => ?_)
                  · replace H := ite_t hc H
                    refine aw_region (es := [_]) ⟨Step.plain rfl (does_assign (.const (.bool false)) (.bool false) (fun _ => rfl)), ⟨trivial, trivial, rfl⟩, rfl, rfl⟩ ?_
                    refine aw_cov (cov_prune (s1 := ⟨[(6, (.bool false))], [], 5⟩) ⟨rfl, trivial⟩ trivial (Nat.le_refl _)) ?_
                    refine aw_ret ?_
                    replace H := rt_of H hsn15 Hrn15
                    replace H := rt_of H hsn8 Hrn8
                    refine rt_blk ?_
                    refine rt_then ?_
                    refine rt_then ?_
                    refine rt_blk ?_
                    refine rt_then ?_
                    refine rt_then ?_
                    refine rt_blk ?_
                    refine rt_then ?_
                    refine rt_then ?_
                    refine rt_then ?_
                    refine rt_blk ?_
                    refine rt_then ?_
                    refine rt_then ?_
                    exact fun a w hr => ⟨_, [(.bool false)], hr, ⟨⟨_, rfl, .data (.bool false) trivial⟩, trivial⟩, by decide, by cases H; rfl⟩
                  · replace H := ite_f hc H
                    refine aw_skip ?_
                    refine nx_blk ?_
                    refine nx_seq ?_
                    refine aw_region1 (es := [_, _, _]) ⟨Step.plain rfl (does_move (.tmp 13) (.int .i64 x14) trivial), ⟨⟨rfl, trivial⟩, trivial, rfl⟩, rfl,
                      Step.plain rfl (does_bin .add 3 3 (.tmp 94) (.const (.int .i64 1)) .i64 x14 1 (.int .i64 (IntKind.i64.wrap (x14 + 1))) trivial (fun _ => rfl) (bin_add _ _ _ _)), ⟨⟨rfl, trivial⟩, trivial, rfl⟩, rfl,
                      Step.plain rfl (does_assign (.tmp 95) (.int .i64 (IntKind.i64.wrap (x14 + 1))) trivial), ⟨⟨rfl, trivial⟩, trivial, rfl⟩, rfl, rfl⟩ ?_
                    exact nx_loop ((IntKind.i64.wrap (x14 + 1))) H (cov_prune ⟨rfl, rfl, rfl, rfl, rfl, rfl, rfl, rfl, rfl, rfl, trivial⟩ ⟨rfl, rfl, rfl, rfl, rfl, trivial⟩ (Nat.le_of_ble_eq_true rfl))
                · replace H := ite_f hc H
                  refine aw_exit ?_
                  refine ex_then ?_
                  refine ex_then ?_
                  refine ex_here ?_
                  exact nx_ljoin () H hsn15 (cov_prune ⟨rfl, rfl, rfl, rfl, rfl, rfl, rfl, trivial⟩ ⟨rfl, rfl, rfl, trivial⟩ (Nat.le_of_ble_eq_true rfl))
      · replace H := ite_f hc H
        refine aw_exit ?_
        refine ex_then ?_
        refine ex_then ?_
        refine ex_here ?_
        exact nx_ljoin () H hsn8 (cov_prune trivial trivial (Nat.le_of_ble_eq_true rfl))

theorem congresslaw14_LossyPuts_spec (p0 : (_root_.List api_Letter)) (p1 : (_root_.List api_Letter)) (p2 : (_root_.List api_Letter)) (r : Bool) (H : congresslaw14_LossyPuts p0 p1 p2 = some r) : FSpec Try.prog 7 [(e_s_api_Letter p0), (e_s_api_Letter p1), (e_s_api_Letter p2)] (.bool r) := by
  refine spec_of (fn := Try.f7) (args := [(e_s_api_Letter p0), (e_s_api_Letter p1), (e_s_api_Letter p2)]) Try.func7 rfl (Nat.le_of_ble_eq_true rfl) ?_
  rintro ⟨G, w0, W, S, Sp⟩ hG
  cases hG
  unfold congresslaw14_LossyPuts at H
  refine aw_region (es := [_]) ⟨Step.plain rfl (does_assign (.const (.bool false)) (.bool false) (fun _ => rfl)), ⟨trivial, trivial, rfl⟩, rfl, rfl⟩ ?_
  refine aw_cov (cov_prune (s1 := ⟨[(0, (e_s_api_Letter p0)), (1, (e_s_api_Letter p1)), (2, (e_s_api_Letter p2))], [], 0⟩) ⟨rfl, rfl, rfl, trivial⟩ trivial (Nat.le_refl _)) ?_
  refine aw_seq ?_
  obtain ⟨v1, h2, H⟩ := bnd H
  refine aw_region (es := [_, _, _, _, _, _, _, _, _, _, _, _, _, _, _, _, _]) ⟨Step.plain rfl (does_call 15 0 (fun _ => .any) (.func 15) [] [] [] true [] (.bool v1) _ _ rfl fo15 rfl trivial trivial (congresslaw14_fixed_spec _ h2) trivial), ⟨trivial, trivial, rfl⟩, rfl,
    Step.plain rfl (does_not 4 (.tmp 9) v1 trivial), ⟨⟨rfl, trivial⟩, trivial, rfl⟩, rfl,
    Step.plain rfl (does_move (.tmp 10) (.bool (!v1)) trivial), ⟨⟨rfl, trivial⟩, trivial, rfl⟩, rfl,
    Step.guarded rfl rfl rfl rfl (fun hc => does_move (.tmp 0) (e_s_api_Letter p0) trivial), ⟨⟨rfl, rfl, trivial⟩, trivial, rfl⟩, rfl,
    Step.guarded rfl rfl rfl rfl (fun hc => Does.strip (n' := [(12, (.opt (!(!v1)) (e_s_api_Letter p0)))]) (n := [(12, (e_s_api_Letter p0))]) ⟨(.opt _ _ hc), trivial⟩ (does_lens 22 4 p0.length 12 (fun j => (e_api_Letter (p0.getD j z_api_Letter))) el22)), ⟨⟨rfl, rfl, trivial⟩, trivial, rfl⟩, rfl,
    Step.guarded rfl rfl rfl rfl (fun hc => Does.strip (n' := [(13, (.opt (!(!v1)) (.int .i64 (p0.length : Int))))]) (n := [(13, (.int .i64 (p0.length : Int)))]) ⟨(.opt _ _ hc), trivial⟩ (does_bin .gtr 3 3 (.tmp 13) (.const (.int .i64 300)) .i64 (p0.length : Int) 300 (.bool (decide ((p0.length : Int) > 300))) trivial (fun _ => rfl) (bin_gtr _ _ _ _))), ⟨⟨rfl, rfl, trivial⟩, trivial, rfl⟩, rfl,
    Step.plain rfl (does_or 11 14 (!v1) (decide ((p0.length : Int) > 300))), ⟨⟨rfl, rfl, trivial⟩, trivial, rfl⟩, rfl,
    Step.plain rfl (does_move (.tmp 15) (.bool ((!v1) || (decide ((p0.length : Int) > 300)))) trivial), ⟨⟨rfl, trivial⟩, trivial, rfl⟩, rfl,
    Step.guarded rfl rfl rfl rfl (fun hc => does_move (.tmp 1) (e_s_api_Letter p1) trivial), ⟨⟨rfl, rfl, trivial⟩, trivial, rfl⟩, rfl,
    Step.guarded rfl rfl rfl rfl (fun hc => Does.strip (n' := [(17, (.opt (!((!v1) || (decide ((p0.length : Int) > 300)))) (e_s_api_Letter p1)))]) (n := [(17, (e_s_api_Letter p1))]) ⟨(.opt _ _ hc), trivial⟩ (does_lens 22 4 p1.length 17 (fun j => (e_api_Letter (p1.getD j z_api_Letter))) el22)), ⟨⟨rfl, rfl, trivial⟩, trivial, rfl⟩, rfl,
    Step.guarded rfl rfl rfl rfl (fun hc => Does.strip (n' := [(18, (.opt (!((!v1) || (decide ((p0.length : Int) > 300)))) (.int .i64 (p1.length : Int))))]) (n := [(18, (.int .i64 (p1.length : Int)))]) ⟨(.opt _ _ hc), trivial⟩ (does_bin .gtr 3 3 (.tmp 18) (.const (.int .i64 300)) .i64 (p1.length : Int) 300 (.bool (decide ((p1.length : Int) > 300))) trivial (fun _ => rfl) (bin_gtr _ _ _ _))), ⟨⟨rfl, rfl, trivial⟩, trivial, rfl⟩, rfl,
    Step.plain rfl (does_or 16 19 ((!v1) || (decide ((p0.length : Int) > 300))) (decide ((p1.length : Int) > 300))), ⟨⟨rfl, rfl, trivial⟩, trivial, rfl⟩, rfl,
    Step.plain rfl (does_move (.tmp 20) (.bool (((!v1) || (decide ((p0.length : Int) > 300))) || (decide ((p1.length : Int) > 300)))) trivial), ⟨⟨rfl, trivial⟩, trivial, rfl⟩, rfl,
    Step.guarded rfl rfl rfl rfl (fun hc => does_move (.tmp 2) (e_s_api_Letter p2) trivial), ⟨⟨rfl, rfl, trivial⟩, trivial, rfl⟩, rfl,
    Step.guarded rfl rfl rfl rfl (fun hc => Does.strip (n' := [(22, (.opt (!(((!v1) || (decide ((p0.length : Int) > 300))) || (decide ((p1.length : Int) > 300)))) (e_s_api_Letter p2)))]) (n := [(22, (e_s_api_Letter p2))]) ⟨(.opt _ _ hc), trivial⟩ (does_lens 22 4 p2.length 22 (fun j => (e_api_Letter (p2.getD j z_api_Letter))) el22)), ⟨⟨rfl, rfl, trivial⟩, trivial, rfl⟩, rfl,
    Step.guarded rfl rfl rfl rfl (fun hc => Does.strip (n' := [(23, (.opt (!(((!v1) || (decide ((p0.length : Int) > 300))) || (decide ((p1.length : Int) > 300)))) (.int .i64 (p2.length : Int))))]) (n := [(23, (.int .i64 (p2.length : Int)))]) ⟨(.opt _ _ hc), trivial⟩ (does_bin .gtr 3 3 (.tmp 23) (.const (.int .i64 300)) .i64 (p2.length : Int) 300 (.bool (decide ((p2.length : Int) > 300))) trivial (fun _ => rfl) (bin_gtr _ _ _ _))), ⟨⟨rfl, rfl, trivial⟩, trivial, rfl⟩, rfl,
    Step.plain rfl (does_or 21 24 (((!v1) || (decide ((p0.length : Int) > 300))) || (decide ((p1.length : Int) > 300))) (decide ((p2.length : Int) > 300))), ⟨⟨rfl, rfl, trivial⟩, trivial, rfl⟩, rfl, rfl⟩ ?_
  obtain ⟨v3, hv3, H⟩ := lt_of H
  refine aw_cov (cov_prune (s1 := ⟨[(0, (e_s_api_Letter p0)), (1, (e_s_api_Letter p1)), (2, (e_s_api_Letter p2)), (25, (.bool v3))], [], 0⟩) ⟨rfl, rfl, rfl, (by subst hv3; rfl), trivial⟩ trivial (Nat.le_refl _)) ?_
  refine aw_cond rfl (fun hc => ?_) (fun hc => ?_)
  · replace H := ite_t hc H
    obtain ⟨v4, h5, H⟩ := bnd H
    refine aw_region (es := [_, _]) ⟨Step.plain rfl (does_call 15 0 (fun _ => .any) (.func 15) [] [] [] true [] (.bool v4) _ _ rfl fo15 rfl trivial trivial (congresslaw14_fixed_spec _ h5) trivial), ⟨trivial, trivial, rfl⟩, rfl,
      Step.plain rfl (does_assign (.tmp 26) (.bool v4) trivial), ⟨⟨rfl, trivial⟩, trivial, rfl⟩, rfl, rfl⟩ ?_
    refine aw_cov (cov_prune (s1 := ⟨[(6, (.bool v4))], [], 0⟩) ⟨rfl, trivial⟩ trivial (Nat.le_refl _)) ?_
    refine aw_ret ?_
    refine rt_then ?_
    exact fun a w hr => ⟨_, [(.bool v4)], hr, ⟨⟨_, rfl, .data (.bool v4) trivial⟩, trivial⟩, by decide, by cases H; rfl⟩
  · replace H := ite_f hc H
    refine aw_skip ?_
    refine nx_seq ?_
    obtain ⟨h6, H⟩ := fit_of H
    obtain ⟨h7, H⟩ := fit_of H
    refine aw_region (es := [_, _, _, _, _, _]) ⟨Step.plain rfl (does_buildOwn 22 0 4 0 (e_api_Letter z_api_Letter) (fun j => (e_api_Letter (([] : _root_.List api_Letter).getD j z_api_Letter))) #[] [] [] rfl so22 (by decide) trivial trivial (fun j h => match j, h with  | k + 0, h => absurd h (by omega))), ⟨trivial, trivial, rfl⟩, rfl,
      Step.plain rfl (does_move (.tmp 1) (e_s_api_Letter p1) trivial), ⟨⟨rfl, trivial⟩, trivial, rfl⟩, rfl,
      Step.plain rfl (does_appendL e_api_Letter z_api_Letter ([] : _root_.List api_Letter) p1 22 4 40 0 1 27 28 ap22 h6), ⟨⟨rfl, rfl, trivial⟩, ⟨rfl, trivial⟩, rfl⟩, rfl,
      Step.plain rfl (does_move (.tmp 2) (e_s_api_Letter p2) trivial), ⟨⟨rfl, trivial⟩, trivial, rfl⟩, rfl,
      Step.plain rfl (does_appendL e_api_Letter z_api_Letter (([] : _root_.List api_Letter) ++ p1) p2 22 4 40 1 2 29 30 ap22 h7), ⟨⟨rfl, rfl, trivial⟩, ⟨rfl, trivial⟩, rfl⟩, rfl,
      Step.plain rfl (does_assign (.tmp 31) (.own 2) trivial), ⟨⟨rfl, trivial⟩, trivial, rfl⟩, rfl, rfl⟩ ?_
    refine aw_cov (cov_prune (s1 := ⟨[(0, (e_s_api_Letter p0)), (1, (e_s_api_Letter p1)), (2, (e_s_api_Letter p2)), (7, (.own 2))], [(2, some (.arr 4 ((([] : _root_.List api_Letter) ++ p1) ++ p2).length fun j => (e_api_Letter (((([] : _root_.List api_Letter) ++ p1) ++ p2).getD j z_api_Letter))))], 3⟩) ⟨rfl, rfl, rfl, rfl, trivial⟩ ⟨rfl, trivial⟩ (Nat.le_refl _)) ?_
    obtain ⟨v8, h9, H⟩ := bnd H
    obtain ⟨v10, h11, H⟩ := bnd H
    refine aw_region (es := [_, _, _, _, _, _]) ⟨Step.plain rfl (does_move (.tmp 0) (e_s_api_Letter p0) trivial), ⟨⟨rfl, trivial⟩, trivial, rfl⟩, rfl,
      Step.plain rfl (does_move (.tmp 1) (e_s_api_Letter p1) trivial), ⟨⟨rfl, trivial⟩, trivial, rfl⟩, rfl,
      Step.plain rfl (does_callO 16 0 (fun _ => .any) (.func 16) [(.tmp 32), (.tmp 33)] [(e_s_api_Letter p0), (e_s_api_Letter p1)] [] [] true [(e_s_api_Letter p0), (e_s_api_Letter p1)] _ (.own 3) _ 3 1 _ _ rfl fo16 rfl ⟨trivial, trivial, trivial⟩ ⟨.ro _ _ (.data _ (d_s_api_Letter p0)), .ro _ _ (.data _ (d_s_api_Letter p1)), trivial⟩ (lossy_Put_spec p0 p1 _ h9) rfl (by simp) rfl trivial ⟨⟨Nat.le_of_ble_eq_true rfl, _, rfl, fun _ => (f_api_Letter _)⟩, trivial⟩ (.own 0 (Nat.le_of_ble_eq_true rfl))), ⟨⟨rfl, rfl, trivial⟩, trivial, rfl⟩, rfl,
      Step.plain rfl (does_move (.tmp 2) (e_s_api_Letter p2) trivial), ⟨⟨rfl, trivial⟩, trivial, rfl⟩, rfl,
      Step.plain rfl (does_callO 16 0 (fun _ => .any) (.func 16) [(.tmp 34), (.tmp 35)] [(.own 3), (e_s_api_Letter p2)] [(3, (.arr 4 v8.length fun j => (e_api_Letter (v8.getD j z_api_Letter))))] [] true [(e_s_api_Letter v8), (e_s_api_Letter p2)] _ (.own 4) _ 4 1 _ _ rfl fo16 rfl ⟨trivial, trivial, trivial⟩ ⟨.ro _ _ (.own 3 _ _ _ (.head _) rfl (fun _ => (d_api_Letter _))), .ro _ _ (.data _ (d_s_api_Letter p2)), trivial⟩ (lossy_Put_spec v8 p2 _ h11) rfl (by simp) rfl trivial ⟨⟨Nat.le_of_ble_eq_true rfl, _, rfl, fun _ => (f_api_Letter _)⟩, trivial⟩ (.own 0 (Nat.le_of_ble_eq_true rfl))), ⟨⟨rfl, rfl, trivial⟩, ⟨rfl, trivial⟩, rfl⟩, rfl,
      Step.plain rfl (does_assign (.tmp 36) (.own 4) trivial), ⟨⟨rfl, trivial⟩, trivial, rfl⟩, rfl, rfl⟩ ?_
    refine aw_cov (cov_prune (s1 := ⟨[(0, (e_s_api_Letter p0)), (7, (.own 2)), (8, (.own 4))], [(2, some (.arr 4 ((([] : _root_.List api_Letter) ++ p1) ++ p2).length fun j => (e_api_Letter (((([] : _root_.List api_Letter) ++ p1) ++ p2).getD j z_api_Letter)))), (4, some (.arr 4 v10.length fun j => (e_api_Letter (v10.getD j z_api_Letter))))], 5⟩) ⟨rfl, rfl, rfl, trivial⟩ ⟨rfl, rfl, trivial⟩ (Nat.le_refl _)) ?_
    obtain ⟨v12, h13, H⟩ := bnd H
    obtain ⟨v14, h15, H⟩ := bnd H
    refine aw_region (es := [_, _, _, _, _, _, _, _, _, _, _, _, _, _, _, _]) ⟨Step.plain rfl (does_move (.tmp 8) (.own 4) trivial), ⟨⟨rfl, trivial⟩, trivial, rfl⟩, rfl,
      Step.plain rfl (does_move (.tmp 0) (e_s_api_Letter p0) trivial), ⟨⟨rfl, trivial⟩, trivial, rfl⟩, rfl,
      Step.plain rfl (does_move (.tmp 7) (.own 2) trivial), ⟨⟨rfl, trivial⟩, trivial, rfl⟩, rfl,
      Step.plain rfl (does_callO 16 0 (fun _ => .any) (.func 16) [(.tmp 38), (.tmp 39)] [(e_s_api_Letter p0), (.own 2)] [(2, (.arr 4 ((([] : _root_.List api_Letter) ++ p1) ++ p2).length fun j => (e_api_Letter (((([] : _root_.List api_Letter) ++ p1) ++ p2).getD j z_api_Letter))))] [] true [(e_s_api_Letter p0), (e_s_api_Letter ((([] : _root_.List api_Letter) ++ p1) ++ p2))] _ (.own 5) _ 5 1 _ _ rfl fo16 rfl ⟨trivial, trivial, trivial⟩ ⟨.ro _ _ (.data _ (d_s_api_Letter p0)), .ro _ _ (.own 2 _ _ _ (.head _) rfl (fun _ => (d_api_Letter _))), trivial⟩ (lossy_Put_spec p0 ((([] : _root_.List api_Letter) ++ p1) ++ p2) _ h13) rfl (by simp) rfl trivial ⟨⟨Nat.le_of_ble_eq_true rfl, _, rfl, fun _ => (f_api_Letter _)⟩, trivial⟩ (.own 0 (Nat.le_of_ble_eq_true rfl))), ⟨⟨rfl, rfl, trivial⟩, ⟨rfl, trivial⟩, rfl⟩, rfl,
      Step.plain rfl (does_call 12 0 (fun _ => .any) (.func 12) [(.tmp 37), (.tmp 40)] [(.own 4), (.own 5)] [(4, (.arr 4 v10.length fun j => (e_api_Letter (v10.getD j z_api_Letter)))), (5, (.arr 4 v12.length fun j => (e_api_Letter (v12.getD j z_api_Letter))))] true [(e_s_api_Letter v10), (e_s_api_Letter v12)] (.bool v14) _ _ rfl fo12 rfl ⟨trivial, trivial, trivial⟩ ⟨.own 4 _ _ _ (.head _) rfl (fun _ => (d_api_Letter _)), .own 5 _ _ _ (.tail _ (.head _)) rfl (fun _ => (d_api_Letter _)), trivial⟩ (congressref14_Same_spec v10 v12 _ h15) trivial), ⟨⟨rfl, rfl, trivial⟩, ⟨rfl, rfl, trivial⟩, rfl⟩, rfl,
      Step.plain rfl (does_move (.tmp 41) (.bool v14) trivial), ⟨⟨rfl, trivial⟩, trivial, rfl⟩, rfl,
      Step.guarded rfl rfl rfl rfl (fun hc => does_move (.tmp 8) (.own 4) trivial), ⟨⟨rfl, rfl, trivial⟩, trivial, rfl⟩, rfl,
      Step.guarded rfl rfl rfl rfl (fun hc => Does.strip (n' := [(43, (.opt v14 (.own 4)))]) (n := [(43, (.own 4))]) ⟨(.opt _ _ hc), trivial⟩ (does_leno 22 4 v10.length 43 4 (fun j => (e_api_Letter (v10.getD j z_api_Letter))) el22)), ⟨⟨rfl, rfl, trivial⟩, ⟨rfl, trivial⟩, rfl⟩, rfl,
      Step.guarded rfl rfl rfl rfl (fun hc => does_move (.tmp 0) (e_s_api_Letter p0) trivial), ⟨⟨rfl, rfl, trivial⟩, trivial, rfl⟩, rfl,
      Step.guarded rfl rfl rfl rfl (fun hc => Does.strip (n' := [(45, (.opt v14 (e_s_api_Letter p0)))]) (n := [(45, (e_s_api_Letter p0))]) ⟨(.opt _ _ hc), trivial⟩ (does_lens 22 4 p0.length 45 (fun j => (e_api_Letter (p0.getD j z_api_Letter))) el22)), ⟨⟨rfl, rfl, trivial⟩, trivial, rfl⟩, rfl,
      Step.guarded rfl rfl rfl rfl (fun hc => does_move (.tmp 7) (.own 2) trivial), ⟨⟨rfl, rfl, trivial⟩, trivial, rfl⟩, rfl,
      Step.guarded rfl rfl rfl rfl (fun hc => Does.strip (n' := [(47, (.opt v14 (.own 2)))]) (n := [(47, (.own 2))]) ⟨(.opt _ _ hc), trivial⟩ (does_leno 22 4 ((([] : _root_.List api_Letter) ++ p1) ++ p2).length 47 2 (fun j => (e_api_Letter (((([] : _root_.List api_Letter) ++ p1) ++ p2).getD j z_api_Letter))) el22)), ⟨⟨rfl, rfl, trivial⟩, ⟨rfl, trivial⟩, rfl⟩, rfl,
      Step.guarded rfl rfl rfl rfl (fun hc => Does.strip (n' := [(46, (.opt v14 (.int .i64 (p0.length : Int)))), (48, (.opt v14 (.int .i64 (((([] : _root_.List api_Letter) ++ p1) ++ p2).length : Int))))]) (n := [(46, (.int .i64 (p0.length : Int))), (48, (.int .i64 (((([] : _root_.List api_Letter) ++ p1) ++ p2).length : Int)))]) ⟨(.opt _ _ hc), (.opt _ _ hc), trivial⟩ (does_bin .add 3 3 (.tmp 46) (.tmp 48) .i64 (p0.length : Int) (((([] : _root_.List api_Letter) ++ p1) ++ p2).length : Int) (.int .i64 (IntKind.i64.wrap ((p0.length : Int) + (((([] : _root_.List api_Letter) ++ p1) ++ p2).length : Int)))) trivial trivial (bin_add _ _ _ _))), ⟨⟨rfl, rfl, rfl, trivial⟩, trivial, rfl⟩, rfl,
      Step.guarded rfl rfl rfl rfl (fun hc => Does.strip (n' := [(44, (.opt v14 (.int .i64 (v10.length : Int)))), (49, (.opt v14 (.int .i64 (IntKind.i64.wrap ((p0.length : Int) + (((([] : _root_.List api_Letter) ++ p1) ++ p2).length : Int))))))]) (n := [(44, (.int .i64 (v10.length : Int))), (49, (.int .i64 (IntKind.i64.wrap ((p0.length : Int) + (((([] : _root_.List api_Letter) ++ p1) ++ p2).length : Int)))))]) ⟨(.opt _ _ hc), (.opt _ _ hc), trivial⟩ (does_bin .eql 3 3 (.tmp 44) (.tmp 49) .i64 (v10.length : Int) (IntKind.i64.wrap ((p0.length : Int) + (((([] : _root_.List api_Letter) ++ p1) ++ p2).length : Int))) (.bool ((v10.length : Int) == (IntKind.i64.wrap ((p0.length : Int) + (((([] : _root_.List api_Letter) ++ p1) ++ p2).length : Int))))) trivial trivial (bin_eql _ _ _ _))), ⟨⟨rfl, rfl, rfl, trivial⟩, trivial, rfl⟩, rfl,
      Step.plain rfl (does_and 42 50 v14 ((v10.length : Int) == (IntKind.i64.wrap ((p0.length : Int) + (((([] : _root_.List api_Letter) ++ p1) ++ p2).length : Int))))), ⟨⟨rfl, rfl, trivial⟩, trivial, rfl⟩, rfl,
      Step.plain rfl (does_assign (.tmp 51) (.bool (v14 && ((v10.length : Int) == (IntKind.i64.wrap ((p0.length : Int) + (((([] : _root_.List api_Letter) ++ p1) ++ p2).length : Int)))))) trivial), ⟨⟨rfl, trivial⟩, trivial, rfl⟩, rfl, rfl⟩ ?_
    obtain ⟨v16, hv16, H⟩ := lt_of H
    refine aw_cov (cov_prune (s1 := ⟨[(6, (.bool v16))], [], 6⟩) ⟨(by subst hv16; rfl), trivial⟩ trivial (Nat.le_refl _)) ?_
    refine aw_ret ?_
    exact fun a w hr => ⟨_, [(.bool v16)], hr, ⟨⟨_, rfl, .data (.bool v16) trivial⟩, trivial⟩, by decide, by cases H; rfl⟩
end Go.Proofs.Ytdaeajonhfkpaaa
