/- Printed by gen.py. Conditions: none. -/
import Derived.Test.YtffnegdahhlncaaSp2
import Derived.KernelRfl
set_option linter.unusedVariables false
set_option maxRecDepth 100000
namespace Go.Proofs.Ytffnegdahhlncaa
open Go.Eng
theorem congresslaw16_done_spec (p0 : (_root_.List api_Right)) (p1 : congresslaw16_Do) (r : (_root_.List api_Right)) (H : congresslaw16_done p0 p1 = some r) : FSpec Try.prog 19 [(e_s_api_Right p0), (e_congresslaw16_Do p1)] (e_s_api_Right r) := by
  refine spec_of (fn := Try.f19) (args := [(e_s_api_Right p0), (e_congresslaw16_Do p1)]) Try.func19 rfl (Nat.le_of_ble_eq_true rfl) ?_
  rintro ⟨G, w0, W, S, Sp⟩ hG
  cases hG
  unfold congresslaw16_done at H
  refine aw_region (es := [_, _]) ⟨Step.plain rfl (does_box 25 (.tmp 1) 0 (e_congresslaw16_Do p1) trivial rfl), ⟨⟨rfl, trivial⟩, trivial, rfl⟩, rfl,
    Step.plain rfl (does_nil false 1 4 (fun j => (e_api_Right (([] : _root_.List api_Right).getD j z_api_Right)))), ⟨trivial, trivial, rfl⟩, rfl, rfl⟩ ?_
  refine aw_cov (cov_prune (s1 := ⟨[(0, (e_s_api_Right p0)), (3, (.ptr 0 0 []))], [(0, some (.var (e_congresslaw16_Do p1)))], 2⟩) ⟨rfl, rfl, trivial⟩ ⟨rfl, trivial⟩ (Nat.le_refl _)) ?_
  refine aw_seq ?_
  refine aw_region (es := [_, _]) ⟨Step.plain rfl (does_fieldAddr 25 0 0 3 0 0 [] (.var (e_congresslaw16_Do p1)) fl25_0), ⟨⟨rfl, trivial⟩, ⟨rfl, trivial⟩, rfl⟩, rfl,
    Step.plain rfl (does_load 3 9 0 (0 + 0) [0] (.var (e_congresslaw16_Do p1)) (.int .i64 p1.Do) ⟨rfl, Nat.le_of_ble_eq_true rfl, trivial⟩ rfl rfl ty3), ⟨⟨rfl, trivial⟩, ⟨rfl, trivial⟩, rfl⟩, rfl, rfl⟩ ?_
  refine aw_cov (cov_prune (s1 := ⟨[(0, (e_s_api_Right p0)), (3, (.ptr 0 0 [])), (10, (.int .i64 p1.Do))], [(0, some (.var (e_congresslaw16_Do p1)))], 2⟩) ⟨rfl, rfl, rfl, trivial⟩ ⟨rfl, trivial⟩ (Nat.le_refl _)) ?_
  refine aw_jn (fun x8 : Unit => (⟨[(0, (e_s_api_Right p0))], [], 3⟩ : St)) H (fun x8 H => ?_) (fun j1 H => ?_)
  · refine nx_seq ?_
    refine aw_region (es := [_, _]) ⟨Step.plain rfl (does_move (.tmp 0) (e_s_api_Right p0) trivial), ⟨⟨rfl, trivial⟩, trivial, rfl⟩, rfl,
      Step.plain rfl (does_assign (.tmp 45) (e_s_api_Right p0) trivial), ⟨⟨rfl, trivial⟩, trivial, rfl⟩, rfl, rfl⟩ ?_
    refine aw_cov (cov_prune (s1 := ⟨[(4, (e_s_api_Right p0))], [], 3⟩) ⟨rfl, trivial⟩ trivial (Nat.le_refl _)) ?_
    refine aw_ret ?_
    exact fun a w hr => ⟨_, [(e_s_api_Right p0)], hr, ⟨⟨_, rfl, .data _ (d_s_api_Right p0)⟩, trivial⟩, by decide, by cases H; rfl⟩
  · refine aw_block ?_
    refine aw_region (es := [_, _]) ⟨Step.plain rfl (does_bin .eql 3 3 (.tmp 10) (.const (.int .i64 0)) .i64 p1.Do 0 (.bool (p1.Do == 0)) trivial (fun _ => rfl) (bin_eql _ _ _ _)), ⟨⟨rfl, trivial⟩, trivial, rfl⟩, rfl,
      Step.plain rfl (does_assign (.tmp 12) (.bool (p1.Do == 0)) trivial), ⟨⟨rfl, trivial⟩, trivial, rfl⟩, rfl, rfl⟩ ?_
    refine aw_cov (cov_prune (s1 := ⟨[(0, (e_s_api_Right p0)), (3, (.ptr 0 0 [])), (10, (.int .i64 p1.Do)), (11, (.bool (p1.Do == 0)))], [(0, some (.var (e_congresslaw16_Do p1)))], 2⟩) ⟨rfl, rfl, rfl, rfl, trivial⟩ ⟨rfl, trivial⟩ (Nat.le_refl _)) ?_
    refine aw_cond rfl (fun hc => ?_) (fun hc => ?_)
    · replace H := ite_t hc H
      obtain ⟨v2, h3, H⟩ := bnd H
      refine aw_region (es := [_, _, _, _, _, _, _, _, _, _, _, _, _]) ⟨Step.plain rfl (does_move (.tmp 0) (e_s_api_Right p0) trivial), ⟨⟨rfl, trivial⟩, trivial, rfl⟩, rfl,
        Step.plain rfl (does_fieldAddr 25 1 1 3 0 0 [] (.var (e_congresslaw16_Do p1)) fl25_1), ⟨⟨rfl, trivial⟩, ⟨rfl, trivial⟩, rfl⟩, rfl,
        Step.plain rfl (does_load 23 15 0 (0 + 1) [1] (.var (e_congresslaw16_Do p1)) (.int .u64 p1.Handle) ⟨rfl, Nat.le_of_ble_eq_true rfl, trivial⟩ rfl rfl ty23), ⟨⟨rfl, trivial⟩, ⟨rfl, trivial⟩, rfl⟩, rfl,
        Step.plain rfl (does_fieldAddr 25 2 2 3 0 0 [] (.var (e_congresslaw16_Do p1)) fl25_2), ⟨⟨rfl, trivial⟩, ⟨rfl, trivial⟩, rfl⟩, rfl,
        Step.plain rfl (does_load 23 17 0 (0 + 2) [2] (.var (e_congresslaw16_Do p1)) (.int .u64 p1.Session) ⟨rfl, Nat.le_of_ble_eq_true rfl, trivial⟩ rfl rfl ty23), ⟨⟨rfl, trivial⟩, ⟨rfl, trivial⟩, rfl⟩, rfl,
        Step.plain rfl (does_fieldAddr 25 3 3 3 0 0 [] (.var (e_congresslaw16_Do p1)) fl25_3), ⟨⟨rfl, trivial⟩, ⟨rfl, trivial⟩, rfl⟩, rfl,
        Step.plain rfl (does_load 3 19 0 (0 + 3) [3] (.var (e_congresslaw16_Do p1)) (.int .i64 p1.Give) ⟨rfl, Nat.le_of_ble_eq_true rfl, trivial⟩ rfl rfl ty3), ⟨⟨rfl, trivial⟩, ⟨rfl, trivial⟩, rfl⟩, rfl,
        Step.plain rfl (does_callO 7 0 (fun _ => .any) (.func 7) [(.tmp 14), (.tmp 16), (.tmp 18), (.tmp 20)] [(e_s_api_Right p0), (.int .u64 p1.Handle), (.int .u64 p1.Session), (.int .i64 p1.Give)] [] [] true [(e_s_api_Right p0), (.int .u64 p1.Handle), (.int .u64 p1.Session), (.int .i64 p1.Give)] _ (resV [(.own 2), (.int .i64 v2.2)]) _ 2 1 _ _ rfl fo7 rfl ⟨trivial, trivial, trivial, trivial, trivial⟩ ⟨.ro _ _ (.data _ (d_s_api_Right p0)), .ro _ _ (.data _ trivial), .ro _ _ (.data _ trivial), .ro _ _ (.data _ trivial), trivial⟩ (right_Mint_spec p0 p1.Handle p1.Session p1.Give _ h3) rfl (by simp) rfl trivial ⟨⟨Nat.le_of_ble_eq_true rfl, _, rfl, fun _ => (f_api_Right _)⟩, trivial⟩ (.tup _ _ _ (fun j => match j with | 0 => .own 0 (Nat.le_of_ble_eq_true rfl) | 1 => .data _ (trivial) | _ + 2 => .data _ trivial))), ⟨⟨rfl, rfl, rfl, rfl, trivial⟩, trivial, rfl⟩, rfl,
        Step.plain rfl (does_move (.tmp 21) (resV [(.own 2), (.int .i64 v2.2)]) trivial), ⟨⟨rfl, trivial⟩, trivial, rfl⟩, rfl,
        Step.plain rfl (does_extract 13 0 2 (fun j => [(.own 2), (.int .i64 v2.2)].getD j (.bool false)) (Nat.le_of_ble_eq_true rfl)), ⟨⟨rfl, trivial⟩, trivial, rfl⟩, rfl,
        Step.plain rfl (does_extract 13 1 2 (fun j => [(.own 2), (.int .i64 v2.2)].getD j (.bool false)) (Nat.le_of_ble_eq_true rfl)), ⟨⟨rfl, trivial⟩, trivial, rfl⟩, rfl,
        Step.plain rfl (does_assign (.tmp 22) (.own 2) trivial), ⟨⟨rfl, trivial⟩, trivial, rfl⟩, rfl,
        Step.plain rfl (does_assign (.tmp 23) (.int .i64 v2.2) trivial), ⟨⟨rfl, trivial⟩, trivial, rfl⟩, rfl, rfl⟩ ?_
      refine aw_cov (cov_prune (s1 := ⟨[(0, (e_s_api_Right p0)), (5, (.own 2)), (6, (.int .i64 v2.2))], [(2, some (.arr 4 v2.1.length fun j => (e_api_Right (v2.1.getD j z_api_Right))))], 3⟩) ⟨rfl, rfl, rfl, trivial⟩ ⟨rfl, trivial⟩ (Nat.le_refl _)) ?_
      refine aw_region (es := [_, _]) ⟨Step.plain rfl (does_move (.tmp 6) (.int .i64 v2.2) trivial), ⟨⟨rfl, trivial⟩, trivial, rfl⟩, rfl,
        Step.plain rfl (does_bin .eql 26 26 (.tmp 24) (.const (.int .i64 0)) .i64 v2.2 0 (.bool (v2.2 == 0)) trivial (fun _ => rfl) (bin_eql _ _ _ _)), ⟨⟨rfl, trivial⟩, trivial, rfl⟩, rfl, rfl⟩ ?_
      refine aw_cov (cov_prune (s1 := ⟨[(0, (e_s_api_Right p0)), (5, (.own 2)), (25, (.bool (v2.2 == 0)))], [(2, some (.arr 4 v2.1.length fun j => (e_api_Right (v2.1.getD j z_api_Right))))], 3⟩) ⟨rfl, rfl, rfl, trivial⟩ ⟨rfl, trivial⟩ (Nat.le_refl _)) ?_
      refine aw_cond rfl (fun hc => ?_) (fun hc => ?_)
      · replace H := ite_t hc H
        refine aw_region (es := [_, _]) ⟨Step.plain rfl (does_move (.tmp 5) (.own 2) trivial), ⟨⟨rfl, trivial⟩, trivial, rfl⟩, rfl,
          Step.plain rfl (does_assign (.tmp 26) (.own 2) trivial), ⟨⟨rfl, trivial⟩, trivial, rfl⟩, rfl, rfl⟩ ?_
        refine aw_cov (cov_prune (s1 := ⟨[(4, (.own 2))], [(2, some (.arr 4 v2.1.length fun j => (e_api_Right (v2.1.getD j z_api_Right))))], 3⟩) ⟨rfl, trivial⟩ ⟨rfl, trivial⟩ (Nat.le_refl _)) ?_
        refine aw_ret ?_
        refine rt_blk ?_
        refine rt_then ?_
        refine rt_then ?_
        exact fun a w hr => ⟨_, [(e_s_api_Right v2.1)], hr, ⟨⟨_, rfl, .own _ _ _ _ rfl (fun _ => (d_api_Right _))⟩, trivial⟩, by decide, by cases H; rfl⟩
      · replace H := ite_f hc H
        refine aw_skip ?_
        refine nx_blk ?_
        exact nx_join () H (cov_prune ⟨rfl, trivial⟩ trivial (Nat.le_of_ble_eq_true rfl))
    · replace H := ite_f hc H
      refine aw_region (es := [_, _]) ⟨Step.plain rfl (does_bin .eql 3 3 (.tmp 10) (.const (.int .i64 1)) .i64 p1.Do 1 (.bool (p1.Do == 1)) trivial (fun _ => rfl) (bin_eql _ _ _ _)), ⟨⟨rfl, trivial⟩, trivial, rfl⟩, rfl,
        Step.plain rfl (does_assign (.tmp 28) (.bool (p1.Do == 1)) trivial), ⟨⟨rfl, trivial⟩, trivial, rfl⟩, rfl, rfl⟩ ?_
      refine aw_cov (cov_prune (s1 := ⟨[(0, (e_s_api_Right p0)), (3, (.ptr 0 0 [])), (10, (.int .i64 p1.Do)), (27, (.bool (p1.Do == 1)))], [(0, some (.var (e_congresslaw16_Do p1)))], 2⟩) ⟨rfl, rfl, rfl, rfl, trivial⟩ ⟨rfl, trivial⟩ (Nat.le_refl _)) ?_
      refine aw_cond rfl (fun hc => ?_) (fun hc => ?_)
      · replace H := ite_t hc H
        obtain ⟨v4, h5, H⟩ := bnd H
        refine aw_region (es := [_, _, _, _, _, _, _, _, _]) ⟨Step.plain rfl (does_move (.tmp 0) (e_s_api_Right p0) trivial), ⟨⟨rfl, trivial⟩, trivial, rfl⟩, rfl,
          Step.plain rfl (does_fieldAddr 25 1 1 3 0 0 [] (.var (e_congresslaw16_Do p1)) fl25_1), ⟨⟨rfl, trivial⟩, ⟨rfl, trivial⟩, rfl⟩, rfl,
          Step.plain rfl (does_load 23 31 0 (0 + 1) [1] (.var (e_congresslaw16_Do p1)) (.int .u64 p1.Handle) ⟨rfl, Nat.le_of_ble_eq_true rfl, trivial⟩ rfl rfl ty23), ⟨⟨rfl, trivial⟩, ⟨rfl, trivial⟩, rfl⟩, rfl,
          Step.plain rfl (does_callO 11 0 (fun _ => .any) (.func 11) [(.tmp 30), (.tmp 32)] [(e_s_api_Right p0), (.int .u64 p1.Handle)] [] [] true [(e_s_api_Right p0), (.int .u64 p1.Handle)] _ (resV [(.own 2), (.int .i64 v4.2)]) _ 2 1 _ _ rfl fo11 rfl ⟨trivial, trivial, trivial⟩ ⟨.ro _ _ (.data _ (d_s_api_Right p0)), .ro _ _ (.data _ trivial), trivial⟩ (right_Revoke_spec p0 p1.Handle _ h5) rfl (by simp) rfl trivial ⟨⟨Nat.le_of_ble_eq_true rfl, _, rfl, fun _ => (f_api_Right _)⟩, trivial⟩ (.tup _ _ _ (fun j => match j with | 0 => .own 0 (Nat.le_of_ble_eq_true rfl) | 1 => .data _ (trivial) | _ + 2 => .data _ trivial))), ⟨⟨rfl, rfl, trivial⟩, trivial, rfl⟩, rfl,
          Step.plain rfl (does_move (.tmp 33) (resV [(.own 2), (.int .i64 v4.2)]) trivial), ⟨⟨rfl, trivial⟩, trivial, rfl⟩, rfl,
          Step.plain rfl (does_extract 29 0 2 (fun j => [(.own 2), (.int .i64 v4.2)].getD j (.bool false)) (Nat.le_of_ble_eq_true rfl)), ⟨⟨rfl, trivial⟩, trivial, rfl⟩, rfl,
          Step.plain rfl (does_extract 29 1 2 (fun j => [(.own 2), (.int .i64 v4.2)].getD j (.bool false)) (Nat.le_of_ble_eq_true rfl)), ⟨⟨rfl, trivial⟩, trivial, rfl⟩, rfl,
          Step.plain rfl (does_assign (.tmp 34) (.own 2) trivial), ⟨⟨rfl, trivial⟩, trivial, rfl⟩, rfl,
          Step.plain rfl (does_assign (.tmp 35) (.int .i64 v4.2) trivial), ⟨⟨rfl, trivial⟩, trivial, rfl⟩, rfl, rfl⟩ ?_
        refine aw_cov (cov_prune (s1 := ⟨[(0, (e_s_api_Right p0)), (7, (.own 2)), (8, (.int .i64 v4.2))], [(2, some (.arr 4 v4.1.length fun j => (e_api_Right (v4.1.getD j z_api_Right))))], 3⟩) ⟨rfl, rfl, rfl, trivial⟩ ⟨rfl, trivial⟩ (Nat.le_refl _)) ?_
        refine aw_region (es := [_, _]) ⟨Step.plain rfl (does_move (.tmp 8) (.int .i64 v4.2) trivial), ⟨⟨rfl, trivial⟩, trivial, rfl⟩, rfl,
          Step.plain rfl (does_bin .eql 26 26 (.tmp 36) (.const (.int .i64 0)) .i64 v4.2 0 (.bool (v4.2 == 0)) trivial (fun _ => rfl) (bin_eql _ _ _ _)), ⟨⟨rfl, trivial⟩, trivial, rfl⟩, rfl, rfl⟩ ?_
        refine aw_cov (cov_prune (s1 := ⟨[(0, (e_s_api_Right p0)), (7, (.own 2)), (37, (.bool (v4.2 == 0)))], [(2, some (.arr 4 v4.1.length fun j => (e_api_Right (v4.1.getD j z_api_Right))))], 3⟩) ⟨rfl, rfl, rfl, trivial⟩ ⟨rfl, trivial⟩ (Nat.le_refl _)) ?_
        refine aw_cond rfl (fun hc => ?_) (fun hc => ?_)
        · replace H := ite_t hc H
          refine aw_region (es := [_, _]) ⟨Step.plain rfl (does_move (.tmp 7) (.own 2) trivial), ⟨⟨rfl, trivial⟩, trivial, rfl⟩, rfl,
            Step.plain rfl (does_assign (.tmp 38) (.own 2) trivial), ⟨⟨rfl, trivial⟩, trivial, rfl⟩, rfl, rfl⟩ ?_
          refine aw_cov (cov_prune (s1 := ⟨[(4, (.own 2))], [(2, some (.arr 4 v4.1.length fun j => (e_api_Right (v4.1.getD j z_api_Right))))], 3⟩) ⟨rfl, trivial⟩ ⟨rfl, trivial⟩ (Nat.le_refl _)) ?_
          refine aw_ret ?_
          refine rt_blk ?_
          refine rt_then ?_
          refine rt_then ?_
          exact fun a w hr => ⟨_, [(e_s_api_Right v4.1)], hr, ⟨⟨_, rfl, .own _ _ _ _ rfl (fun _ => (d_api_Right _))⟩, trivial⟩, by decide, by cases H; rfl⟩
        · replace H := ite_f hc H
          refine aw_skip ?_
          refine nx_blk ?_
          exact nx_join () H (cov_prune ⟨rfl, trivial⟩ trivial (Nat.le_of_ble_eq_true rfl))
      · replace H := ite_f hc H
        refine aw_region (es := [_, _]) ⟨Step.plain rfl (does_bin .eql 3 3 (.tmp 10) (.const (.int .i64 2)) .i64 p1.Do 2 (.bool (p1.Do == 2)) trivial (fun _ => rfl) (bin_eql _ _ _ _)), ⟨⟨rfl, trivial⟩, trivial, rfl⟩, rfl,
          Step.plain rfl (does_assign (.tmp 40) (.bool (p1.Do == 2)) trivial), ⟨⟨rfl, trivial⟩, trivial, rfl⟩, rfl, rfl⟩ ?_
        refine aw_cov (cov_prune (s1 := ⟨[(0, (e_s_api_Right p0)), (3, (.ptr 0 0 [])), (39, (.bool (p1.Do == 2)))], [(0, some (.var (e_congresslaw16_Do p1)))], 2⟩) ⟨rfl, rfl, rfl, trivial⟩ ⟨rfl, trivial⟩ (Nat.le_refl _)) ?_
        refine aw_cond rfl (fun hc => ?_) (fun hc => ?_)
        · replace H := ite_t hc H
          obtain ⟨v6, h7, H⟩ := bnd H
          refine aw_region (es := [_, _, _, _, _]) ⟨Step.plain rfl (does_move (.tmp 0) (e_s_api_Right p0) trivial), ⟨⟨rfl, trivial⟩, trivial, rfl⟩, rfl,
            Step.plain rfl (does_fieldAddr 25 2 2 3 0 0 [] (.var (e_congresslaw16_Do p1)) fl25_2), ⟨⟨rfl, trivial⟩, ⟨rfl, trivial⟩, rfl⟩, rfl,
            Step.plain rfl (does_load 23 42 0 (0 + 2) [2] (.var (e_congresslaw16_Do p1)) (.int .u64 p1.Session) ⟨rfl, Nat.le_of_ble_eq_true rfl, trivial⟩ rfl rfl ty23), ⟨⟨rfl, trivial⟩, ⟨rfl, trivial⟩, rfl⟩, rfl,
            Step.plain rfl (does_callO 15 0 (fun _ => .any) (.func 15) [(.tmp 41), (.tmp 43)] [(e_s_api_Right p0), (.int .u64 p1.Session)] [] [] true [(e_s_api_Right p0), (.int .u64 p1.Session)] _ (.own 2) _ 2 1 _ _ rfl fo15 rfl ⟨trivial, trivial, trivial⟩ ⟨.ro _ _ (.data _ (d_s_api_Right p0)), .ro _ _ (.data _ trivial), trivial⟩ (right_Drop_spec p0 p1.Session _ h7) rfl (by simp) rfl trivial ⟨⟨Nat.le_of_ble_eq_true rfl, _, rfl, fun _ => (f_api_Right _)⟩, trivial⟩ (.own 0 (Nat.le_of_ble_eq_true rfl))), ⟨⟨rfl, rfl, trivial⟩, trivial, rfl⟩, rfl,
            Step.plain rfl (does_assign (.tmp 44) (.own 2) trivial), ⟨⟨rfl, trivial⟩, trivial, rfl⟩, rfl, rfl⟩ ?_
          refine aw_cov (cov_prune (s1 := ⟨[(4, (.own 2))], [(2, some (.arr 4 v6.length fun j => (e_api_Right (v6.getD j z_api_Right))))], 3⟩) ⟨rfl, trivial⟩ ⟨rfl, trivial⟩ (Nat.le_refl _)) ?_
          refine aw_ret ?_
          refine rt_blk ?_
          refine rt_then ?_
          refine rt_then ?_
          exact fun a w hr => ⟨_, [(e_s_api_Right v6)], hr, ⟨⟨_, rfl, .own _ _ _ _ rfl (fun _ => (d_api_Right _))⟩, trivial⟩, by decide, by cases H; rfl⟩
        · replace H := ite_f hc H
          refine aw_skip ?_
          refine nx_blk ?_
          exact nx_join () H (cov_prune ⟨rfl, trivial⟩ trivial (Nat.le_of_ble_eq_true rfl))

theorem congresslaw16_RightMinted_spec (p0 : (_root_.List congresslaw16_Do)) (p1 : Int) (p2 : Int) (r : Bool) (H : congresslaw16_RightMinted p0 p1 p2 = some r) : FSpec Try.prog 4 [(e_s_congresslaw16_Do p0), (.int .u64 p1), (.int .i64 p2)] (.bool r) := by
  refine spec_of (fn := Try.f4) (args := [(e_s_congresslaw16_Do p0), (.int .u64 p1), (.int .i64 p2)]) Try.func4 rfl (Nat.le_of_ble_eq_true rfl) ?_
  rintro ⟨G, w0, W, S, Sp⟩ hG
  cases hG
  unfold congresslaw16_RightMinted at H
  refine aw_region (es := [_]) ⟨Step.plain rfl (does_assign (.const (.bool false)) (.bool false) (fun _ => rfl)), ⟨trivial, trivial, rfl⟩, rfl, rfl⟩ ?_
  refine aw_cov (cov_prune (s1 := ⟨[(0, (e_s_congresslaw16_Do p0)), (1, (.int .u64 p1)), (2, (.int .i64 p2))], [], 0⟩) ⟨rfl, rfl, rfl, trivial⟩ trivial (Nat.le_refl _)) ?_
  refine aw_region (es := [_, _]) ⟨Step.plain rfl (does_buildOwn 22 0 4 0 (e_api_Right z_api_Right) (fun j => (e_api_Right (([] : _root_.List api_Right).getD j z_api_Right))) #[] [] [] rfl so22 (by decide) trivial trivial (fun j h => match j, h with  | k + 0, h => absurd h (by omega))), ⟨trivial, trivial, rfl⟩, rfl,
    Step.plain rfl (does_assign (.tmp 15) (.own 0) trivial), ⟨⟨rfl, trivial⟩, trivial, rfl⟩, rfl, rfl⟩ ?_
  refine aw_cov (cov_prune (s1 := ⟨[(0, (e_s_congresslaw16_Do p0)), (1, (.int .u64 p1)), (2, (.int .i64 p2)), (7, (.own 0))], [(0, some (.arr 4 ([] : _root_.List api_Right).length fun j => (e_api_Right (([] : _root_.List api_Right).getD j z_api_Right))))], 1⟩) ⟨rfl, rfl, rfl, rfl, trivial⟩ ⟨rfl, trivial⟩ (Nat.le_refl _)) ?_
  refine aw_region (es := [_, _]) ⟨Step.plain rfl (does_assign (.const (.int .u64 0)) (.int .u64 0) (fun _ => rfl)), ⟨trivial, trivial, rfl⟩, rfl,
    Step.plain rfl (does_assign (.const (.int .i64 0)) (.int .i64 0) (fun _ => rfl)), ⟨trivial, trivial, rfl⟩, rfl, rfl⟩ ?_
  refine aw_cov (cov_prune (s1 := ⟨[(0, (e_s_congresslaw16_Do p0)), (1, (.int .u64 p1)), (2, (.int .i64 p2)), (7, (.own 0)), (8, (.int .u64 0)), (9, (.int .i64 0))], [(0, some (.arr 4 ([] : _root_.List api_Right).length fun j => (e_api_Right (([] : _root_.List api_Right).getD j z_api_Right))))], 1⟩) ⟨rfl, rfl, rfl, rfl, rfl, rfl, trivial⟩ ⟨rfl, trivial⟩ (Nat.le_refl _)) ?_
  refine aw_seq ?_
  refine aw_region (es := [_]) ⟨Step.plain rfl (does_assign (.const (.int .i64 0)) (.int .i64 0) (fun _ => rfl)), ⟨trivial, trivial, rfl⟩, rfl, rfl⟩ ?_
  refine aw_cov (cov_prune (s1 := ⟨[(0, (e_s_congresslaw16_Do p0)), (1, (.int .u64 p1)), (2, (.int .i64 p2)), (7, (.own 0)), (8, (.int .u64 0)), (9, (.int .i64 0)), (10, (.int .i64 0))], [(0, some (.arr 4 ([] : _root_.List api_Right).length fun j => (e_api_Right (([] : _root_.List api_Right).getD j z_api_Right))))], 1⟩) ⟨rfl, rfl, rfl, rfl, rfl, rfl, rfl, trivial⟩ ⟨rfl, trivial⟩ (Nat.le_refl _)) ?_
  refine aw_cov (cov_to (s1 := ⟨[(0, (e_s_congresslaw16_Do p0)), (1, (.int .u64 p1)), (2, (.int .i64 p2)), (7, (e_s_api_Right ([] : _root_.List api_Right))), (8, (.int .u64 0)), (9, (.int .i64 0)), (10, (.int .i64 0))], [], 1⟩) (fun i => i) [0] ⟨⟨_, rfl, .plain _ ((d_s_congresslaw16_Do _).plain)⟩, ⟨_, rfl, .plain _ (trivial)⟩, ⟨_, rfl, .plain _ (trivial)⟩, ⟨_, rfl, .frz 0 _ _ _ rfl (fun _ => (d_api_Right _)) (by decide)⟩, ⟨_, rfl, .plain _ (trivial)⟩, ⟨_, rfl, .plain _ (trivial)⟩, ⟨_, rfl, .plain _ (trivial)⟩, trivial⟩ trivial rfl rfl) ?_
  obtain ⟨wn2, hwn2, Hrn2⟩ := bnd H
  refine aw_meet (fun y12 : (_root_.List api_Right) × Int × Int => (⟨[(1, (.int .u64 p1)), (2, (.int .i64 p2)), (7, (e_s_api_Right y12.1)), (8, (.int .u64 y12.2.1)), (9, (.int .i64 y12.2.2))], [], 1⟩ : St)) (fun y12 => Fl.nx y12 = wn2) (fun y12 hy => ?_) (aw_block (aw_runs (fun x1 : (_root_.List api_Right) × Int × Int × Int => (⟨[(0, (e_s_congresslaw16_Do p0)), (1, (.int .u64 p1)), (2, (.int .i64 p2)), (7, (e_s_api_Right x1.1)), (8, (.int .u64 x1.2.1)), (9, (.int .i64 x1.2.2.1)), (10, (.int .i64 x1.2.2.2))], [], 1⟩ : St)) hwn2 (cov_prune ⟨rfl, rfl, rfl, rfl, rfl, rfl, rfl, trivial⟩ trivial (Nat.le_of_ble_eq_true rfl)) (fun x1 st H hsn2 => ?_)))
  · have H := nx_of hy Hrn2
    refine nx_seq ?_
    refine aw_seq ?_
    obtain ⟨v13, h14, H⟩ := bnd H
    obtain ⟨v15, h16, H⟩ := whn_of H
    refine aw_region (es := [_, _, _, _, _, _, _]) ⟨Step.plain rfl (does_call 13 0 (fun _ => .any) (.func 13) [] [] [] true [] (.bool v13) _ _ rfl fo13 rfl trivial trivial (congresslaw16_fixed_spec _ h14) trivial), ⟨trivial, trivial, rfl⟩, rfl,
      Step.plain rfl (does_not 4 (.tmp 74) v13 trivial), ⟨⟨rfl, trivial⟩, trivial, rfl⟩, rfl,
      Step.plain rfl (does_move (.tmp 75) (.bool (!v13)) trivial), ⟨⟨rfl, trivial⟩, trivial, rfl⟩, rfl,
      Step.guarded rfl rfl rfl rfl (fun hc => does_move (.tmp 7) (e_s_api_Right y12.1) trivial), ⟨⟨rfl, rfl, trivial⟩, trivial, rfl⟩, rfl,
      Step.guarded rfl rfl rfl rfl (fun hc => Does.strip (n' := [(77, (.opt (!(!v13)) (e_s_api_Right y12.1)))]) (n := [(77, (e_s_api_Right y12.1))]) ⟨(.opt _ _ hc), trivial⟩ (does_call 17 0 (fun _ => .any) (.func 17) [(.tmp 77)] [(e_s_api_Right y12.1)] [] true [(e_s_api_Right y12.1)] (.bool v15) _ _ rfl fo17 rfl ⟨trivial, trivial⟩ ⟨.data _ (d_s_api_Right y12.1), trivial⟩ (right_May_spec y12.1 _ (h16 hc)) trivial)), ⟨⟨rfl, rfl, trivial⟩, trivial, rfl⟩, rfl,
      Step.guarded rfl rfl rfl rfl (fun hc => Does.strip (n' := [(78, (.opt (!(!v13)) (.bool v15)))]) (n := [(78, (.bool v15))]) ⟨(.opt _ _ hc), trivial⟩ (does_not 4 (.tmp 78) v15 trivial)), ⟨⟨rfl, rfl, trivial⟩, trivial, rfl⟩, rfl,
      Step.plain rfl (does_or 76 79 (!v13) (!v15)), ⟨⟨rfl, rfl, trivial⟩, trivial, rfl⟩, rfl, rfl⟩ ?_
    refine aw_cov (cov_prune (s1 := ⟨[(1, (.int .u64 p1)), (2, (.int .i64 p2)), (7, (e_s_api_Right y12.1)), (8, (.int .u64 y12.2.1)), (9, (.int .i64 y12.2.2)), (80, (.bool ((!v13) || (!v15))))], [], 1⟩) ⟨rfl, rfl, rfl, rfl, rfl, rfl, trivial⟩ trivial (Nat.le_refl _)) ?_
    refine aw_cond rfl (fun hc => ?_) (fun hc => ?_)
    · replace H := ite_t hc H
      refine aw_region (es := [_]) ⟨Step.plain rfl (does_assign (.const (.bool false)) (.bool false) (fun _ => rfl)), ⟨trivial, trivial, rfl⟩, rfl, rfl⟩ ?_
      refine aw_cov (cov_prune (s1 := ⟨[(6, (.bool false))], [], 1⟩) ⟨rfl, trivial⟩ trivial (Nat.le_refl _)) ?_
      refine aw_ret ?_
      refine rt_then ?_
      exact fun a w hr => ⟨_, [(.bool false)], hr, ⟨⟨_, rfl, .data _ trivial⟩, trivial⟩, by decide, by cases H; rfl⟩
    · replace H := ite_f hc H
      refine aw_skip ?_
      refine nx_seq ?_
      obtain ⟨v17, h18, H⟩ := bnd H
      refine aw_region (es := [_, _, _, _, _, _, _, _, _]) ⟨Step.plain rfl (does_move (.tmp 7) (e_s_api_Right y12.1) trivial), ⟨⟨rfl, trivial⟩, trivial, rfl⟩, rfl,
        Step.plain rfl (does_move (.tmp 1) (.int .u64 p1) trivial), ⟨⟨rfl, trivial⟩, trivial, rfl⟩, rfl,
        Step.plain rfl (does_move (.tmp 2) (.int .i64 p2) trivial), ⟨⟨rfl, trivial⟩, trivial, rfl⟩, rfl,
        Step.plain rfl (does_call 9 0 (fun _ => .any) (.func 9) [(.tmp 82), (.tmp 83), (.tmp 84)] [(e_s_api_Right y12.1), (.int .u64 p1), (.int .i64 p2)] [] true [(e_s_api_Right y12.1), (.int .u64 p1), (.int .i64 p2)] (resV [(.int .u64 v17.1), (.int .i64 v17.2)]) _ _ rfl fo9 rfl ⟨trivial, trivial, trivial, trivial⟩ ⟨.data _ (d_s_api_Right y12.1), .data _ trivial, .data _ trivial, trivial⟩ (right_Check_spec y12.1 p1 p2 _ h18) (res_flat2 trivial trivial)), ⟨⟨rfl, rfl, rfl, trivial⟩, trivial, rfl⟩, rfl,
        Step.plain rfl (does_move (.tmp 85) (resV [(.int .u64 v17.1), (.int .i64 v17.2)]) trivial), ⟨⟨rfl, trivial⟩, trivial, rfl⟩, rfl,
        Step.plain rfl (does_extract 81 0 2 (fun j => [(.int .u64 v17.1), (.int .i64 v17.2)].getD j (.bool false)) (Nat.le_of_ble_eq_true rfl)), ⟨⟨rfl, trivial⟩, trivial, rfl⟩, rfl,
        Step.plain rfl (does_extract 81 1 2 (fun j => [(.int .u64 v17.1), (.int .i64 v17.2)].getD j (.bool false)) (Nat.le_of_ble_eq_true rfl)), ⟨⟨rfl, trivial⟩, trivial, rfl⟩, rfl,
        Step.plain rfl (does_assign (.tmp 86) (.int .u64 v17.1) trivial), ⟨⟨rfl, trivial⟩, trivial, rfl⟩, rfl,
        Step.plain rfl (does_assign (.tmp 87) (.int .i64 v17.2) trivial), ⟨⟨rfl, trivial⟩, trivial, rfl⟩, rfl, rfl⟩ ?_
      refine aw_cov (cov_prune (s1 := ⟨[(2, (.int .i64 p2)), (8, (.int .u64 y12.2.1)), (9, (.int .i64 y12.2.2)), (13, (.int .u64 v17.1)), (14, (.int .i64 v17.2))], [], 1⟩) ⟨rfl, rfl, rfl, rfl, rfl, trivial⟩ trivial (Nat.le_refl _)) ?_
      refine aw_seq ?_
      refine aw_region (es := [_, _, _, _, _, _, _, _, _, _, _, _, _]) ⟨Step.plain rfl (does_move (.tmp 2) (.int .i64 p2) trivial), ⟨⟨rfl, trivial⟩, trivial, rfl⟩, rfl,
        Step.plain rfl (does_bin .lss 3 3 (.tmp 88) (.const (.int .i64 1)) .i64 p2 1 (.bool (decide (p2 < 1))) trivial (fun _ => rfl) (bin_lss _ _ _ _)), ⟨⟨rfl, trivial⟩, trivial, rfl⟩, rfl,
        Step.plain rfl (does_move (.tmp 89) (.bool (decide (p2 < 1))) trivial), ⟨⟨rfl, trivial⟩, trivial, rfl⟩, rfl,
        Step.guarded rfl rfl rfl rfl (fun hc => does_move (.tmp 2) (.int .i64 p2) trivial), ⟨⟨rfl, rfl, trivial⟩, trivial, rfl⟩, rfl,
        Step.guarded rfl rfl rfl rfl (fun hc => Does.strip (n' := [(91, (.opt (!(decide (p2 < 1))) (.int .i64 p2)))]) (n := [(91, (.int .i64 p2))]) ⟨(.opt _ _ hc), trivial⟩ (does_bin .gtr 3 3 (.tmp 91) (.const (.int .i64 7)) .i64 p2 7 (.bool (decide (p2 > 7))) trivial (fun _ => rfl) (bin_gtr _ _ _ _))), ⟨⟨rfl, rfl, trivial⟩, trivial, rfl⟩, rfl,
        Step.plain rfl (does_or 90 92 (decide (p2 < 1)) (decide (p2 > 7))), ⟨⟨rfl, rfl, trivial⟩, trivial, rfl⟩, rfl,
        Step.plain rfl (does_move (.tmp 93) (.bool ((decide (p2 < 1)) || (decide (p2 > 7)))) trivial), ⟨⟨rfl, trivial⟩, trivial, rfl⟩, rfl,
        Step.guarded rfl rfl rfl rfl (fun hc => does_move (.tmp 9) (.int .i64 y12.2.2) trivial), ⟨⟨rfl, rfl, trivial⟩, trivial, rfl⟩, rfl,
        Step.guarded rfl rfl rfl rfl (fun hc => does_move (.tmp 2) (.int .i64 p2) trivial), ⟨⟨rfl, rfl, trivial⟩, trivial, rfl⟩, rfl,
        Step.guarded rfl rfl rfl rfl (fun hc => Does.strip (n' := [(95, (.opt (!((decide (p2 < 1)) || (decide (p2 > 7)))) (.int .i64 y12.2.2))), (96, (.opt (!((decide (p2 < 1)) || (decide (p2 > 7)))) (.int .i64 p2)))]) (n := [(95, (.int .i64 y12.2.2)), (96, (.int .i64 p2))]) ⟨(.opt _ _ hc), (.opt _ _ hc), trivial⟩ (does_bin .and 3 3 (.tmp 95) (.tmp 96) .i64 y12.2.2 p2 (.int .i64 (iand .i64 y12.2.2 p2)) trivial trivial (bin_and _ _ _ _))), ⟨⟨rfl, rfl, rfl, trivial⟩, trivial, rfl⟩, rfl,
        Step.guarded rfl rfl rfl rfl (fun hc => does_move (.tmp 2) (.int .i64 p2) trivial), ⟨⟨rfl, rfl, trivial⟩, trivial, rfl⟩, rfl,
        Step.guarded rfl rfl rfl rfl (fun hc => Does.strip (n' := [(97, (.opt (!((decide (p2 < 1)) || (decide (p2 > 7)))) (.int .i64 (iand .i64 y12.2.2 p2)))), (98, (.opt (!((decide (p2 < 1)) || (decide (p2 > 7)))) (.int .i64 p2)))]) (n := [(97, (.int .i64 (iand .i64 y12.2.2 p2))), (98, (.int .i64 p2))]) ⟨(.opt _ _ hc), (.opt _ _ hc), trivial⟩ (does_bin .neq 3 3 (.tmp 97) (.tmp 98) .i64 (iand .i64 y12.2.2 p2) p2 (.bool ((iand .i64 y12.2.2 p2) != p2)) trivial trivial (bin_neq _ _ _ _))), ⟨⟨rfl, rfl, rfl, trivial⟩, trivial, rfl⟩, rfl,
        Step.plain rfl (does_or 94 99 ((decide (p2 < 1)) || (decide (p2 > 7))) ((iand .i64 y12.2.2 p2) != p2)), ⟨⟨rfl, rfl, trivial⟩, trivial, rfl⟩, rfl, rfl⟩ ?_
      obtain ⟨v19, hv19, H⟩ := lt_of H
      refine aw_cov (cov_prune (s1 := ⟨[(8, (.int .u64 y12.2.1)), (13, (.int .u64 v17.1)), (14, (.int .i64 v17.2)), (100, (.bool v19))], [], 1⟩) ⟨rfl, rfl, rfl, (by subst hv19; rfl), trivial⟩ trivial (Nat.le_refl _)) ?_
      refine aw_cond rfl (fun hc => ?_) (fun hc => ?_)
      · replace H := ite_t hc H
        refine aw_region (es := [_, _, _, _, _, _, _]) ⟨Step.plain rfl (does_move (.tmp 14) (.int .i64 v17.2) trivial), ⟨⟨rfl, trivial⟩, trivial, rfl⟩, rfl,
          Step.plain rfl (does_bin .eql 26 26 (.tmp 101) (.const (.int .i64 160)) .i64 v17.2 160 (.bool (v17.2 == 160)) trivial (fun _ => rfl) (bin_eql _ _ _ _)), ⟨⟨rfl, trivial⟩, trivial, rfl⟩, rfl,
          Step.plain rfl (does_move (.tmp 102) (.bool (v17.2 == 160)) trivial), ⟨⟨rfl, trivial⟩, trivial, rfl⟩, rfl,
          Step.guarded rfl rfl rfl rfl (fun hc => does_move (.tmp 13) (.int .u64 v17.1) trivial), ⟨⟨rfl, rfl, trivial⟩, trivial, rfl⟩, rfl,
          Step.guarded rfl rfl rfl rfl (fun hc => Does.strip (n' := [(104, (.opt (v17.2 == 160) (.int .u64 v17.1)))]) (n := [(104, (.int .u64 v17.1))]) ⟨(.opt _ _ hc), trivial⟩ (does_bin .eql 23 23 (.tmp 104) (.const (.int .u64 0)) .u64 v17.1 0 (.bool (v17.1 == 0)) trivial (fun _ => rfl) (bin_eql _ _ _ _))), ⟨⟨rfl, rfl, trivial⟩, trivial, rfl⟩, rfl,
          Step.plain rfl (does_and 103 105 (v17.2 == 160) (v17.1 == 0)), ⟨⟨rfl, rfl, trivial⟩, trivial, rfl⟩, rfl,
          Step.plain rfl (does_assign (.tmp 106) (.bool ((v17.2 == 160) && (v17.1 == 0))) trivial), ⟨⟨rfl, trivial⟩, trivial, rfl⟩, rfl, rfl⟩ ?_
        refine aw_cov (cov_prune (s1 := ⟨[(6, (.bool ((v17.2 == 160) && (v17.1 == 0))))], [], 1⟩) ⟨rfl, trivial⟩ trivial (Nat.le_refl _)) ?_
        refine aw_ret ?_
        refine rt_then ?_
        exact fun a w hr => ⟨_, [(.bool ((v17.2 == 160) && (v17.1 == 0)))], hr, ⟨⟨_, rfl, .data _ trivial⟩, trivial⟩, by decide, by cases H; rfl⟩
      · replace H := ite_f hc H
        refine aw_skip ?_
        refine nx_seq ?_
        refine aw_region (es := [_, _, _, _, _, _, _, _]) ⟨Step.plain rfl (does_move (.tmp 14) (.int .i64 v17.2) trivial), ⟨⟨rfl, trivial⟩, trivial, rfl⟩, rfl,
          Step.plain rfl (does_bin .eql 26 26 (.tmp 107) (.const (.int .i64 0)) .i64 v17.2 0 (.bool (v17.2 == 0)) trivial (fun _ => rfl) (bin_eql _ _ _ _)), ⟨⟨rfl, trivial⟩, trivial, rfl⟩, rfl,
          Step.plain rfl (does_move (.tmp 108) (.bool (v17.2 == 0)) trivial), ⟨⟨rfl, trivial⟩, trivial, rfl⟩, rfl,
          Step.guarded rfl rfl rfl rfl (fun hc => does_move (.tmp 13) (.int .u64 v17.1) trivial), ⟨⟨rfl, rfl, trivial⟩, trivial, rfl⟩, rfl,
          Step.guarded rfl rfl rfl rfl (fun hc => does_move (.tmp 8) (.int .u64 y12.2.1) trivial), ⟨⟨rfl, rfl, trivial⟩, trivial, rfl⟩, rfl,
          Step.guarded rfl rfl rfl rfl (fun hc => Does.strip (n' := [(110, (.opt (v17.2 == 0) (.int .u64 v17.1))), (111, (.opt (v17.2 == 0) (.int .u64 y12.2.1)))]) (n := [(110, (.int .u64 v17.1)), (111, (.int .u64 y12.2.1))]) ⟨(.opt _ _ hc), (.opt _ _ hc), trivial⟩ (does_bin .eql 23 23 (.tmp 110) (.tmp 111) .u64 v17.1 y12.2.1 (.bool (v17.1 == y12.2.1)) trivial trivial (bin_eql _ _ _ _))), ⟨⟨rfl, rfl, rfl, trivial⟩, trivial, rfl⟩, rfl,
          Step.plain rfl (does_and 109 112 (v17.2 == 0) (v17.1 == y12.2.1)), ⟨⟨rfl, rfl, trivial⟩, trivial, rfl⟩, rfl,
          Step.plain rfl (does_assign (.tmp 113) (.bool ((v17.2 == 0) && (v17.1 == y12.2.1))) trivial), ⟨⟨rfl, trivial⟩, trivial, rfl⟩, rfl, rfl⟩ ?_
        refine aw_cov (cov_prune (s1 := ⟨[(6, (.bool ((v17.2 == 0) && (v17.1 == y12.2.1))))], [], 1⟩) ⟨rfl, trivial⟩ trivial (Nat.le_refl _)) ?_
        refine aw_ret ?_
        exact fun a w hr => ⟨_, [(.bool ((v17.2 == 0) && (v17.1 == y12.2.1)))], hr, ⟨⟨_, rfl, .data _ trivial⟩, trivial⟩, by decide, by cases H; rfl⟩
  · refine aw_seq ?_
    refine aw_region (es := [_, _, _, _, _, _, _, _]) ⟨Step.plain rfl (does_move (.tmp 10) (.int .i64 x1.2.2.2) trivial), ⟨⟨rfl, trivial⟩, trivial, rfl⟩, rfl,
      Step.plain rfl (does_move (.tmp 0) (e_s_congresslaw16_Do p0) trivial), ⟨⟨rfl, trivial⟩, trivial, rfl⟩, rfl,
      Step.plain rfl (does_lens 37 4 p0.length 17 (fun j => (e_congresslaw16_Do (p0.getD j z_congresslaw16_Do))) el37), ⟨⟨rfl, trivial⟩, trivial, rfl⟩, rfl,
      Step.plain rfl (does_bin .lss 3 3 (.tmp 16) (.tmp 18) .i64 x1.2.2.2 (p0.length : Int) (.bool (decide (x1.2.2.2 < (p0.length : Int)))) trivial trivial (bin_lss _ _ _ _)), ⟨⟨rfl, rfl, trivial⟩, trivial, rfl⟩, rfl,
      Step.plain rfl (does_move (.tmp 19) (.bool (decide (x1.2.2.2 < (p0.length : Int)))) trivial), ⟨⟨rfl, trivial⟩, trivial, rfl⟩, rfl,
      Step.guarded rfl rfl rfl rfl (fun hc => does_move (.tmp 10) (.int .i64 x1.2.2.2) trivial), ⟨⟨rfl, rfl, trivial⟩, trivial, rfl⟩, rfl,
      Step.guarded rfl rfl rfl rfl (fun hc => Does.strip (n' := [(21, (.opt (decide (x1.2.2.2 < (p0.length : Int))) (.int .i64 x1.2.2.2)))]) (n := [(21, (.int .i64 x1.2.2.2))]) ⟨(.opt _ _ hc), trivial⟩ (does_bin .lss 3 3 (.tmp 21) (.const (.int .i64 100)) .i64 x1.2.2.2 100 (.bool (decide (x1.2.2.2 < 100))) trivial (fun _ => rfl) (bin_lss _ _ _ _))), ⟨⟨rfl, rfl, trivial⟩, trivial, rfl⟩, rfl,
      Step.plain rfl (does_and 20 22 (decide (x1.2.2.2 < (p0.length : Int))) (decide (x1.2.2.2 < 100))), ⟨⟨rfl, rfl, trivial⟩, trivial, rfl⟩, rfl, rfl⟩ ?_
    refine aw_cov (cov_prune (s1 := ⟨[(0, (e_s_congresslaw16_Do p0)), (1, (.int .u64 p1)), (2, (.int .i64 p2)), (7, (e_s_api_Right x1.1)), (8, (.int .u64 x1.2.1)), (9, (.int .i64 x1.2.2.1)), (10, (.int .i64 x1.2.2.2)), (23, (.bool ((decide (x1.2.2.2 < (p0.length : Int))) && (decide (x1.2.2.2 < 100)))))], [], 1⟩) ⟨rfl, rfl, rfl, rfl, rfl, rfl, rfl, rfl, trivial⟩ trivial (Nat.le_refl _)) ?_
    refine aw_cond rfl (fun hc => ?_) (fun hc => ?_)
    · replace H := ite_t hc H
      refine aw_skip ?_
      refine nx_seq ?_
      refine aw_seq ?_
      refine aw_block ?_
      obtain ⟨h3, H⟩ := ib_of H
      refine aw_region (es := [_, _, _, _, _, _]) ⟨Step.plain rfl (does_move (.tmp 0) (e_s_congresslaw16_Do p0) trivial), ⟨⟨rfl, trivial⟩, trivial, rfl⟩, rfl,
        Step.plain rfl (does_move (.tmp 10) (.int .i64 x1.2.2.2) trivial), ⟨⟨rfl, trivial⟩, trivial, rfl⟩, rfl,
        Step.plain rfl (does_indexAddrs 37 4 p0.length 26 (fun j => (e_congresslaw16_Do (p0.getD j z_congresslaw16_Do))) (.tmp 27) .i64 x1.2.2.2 el37 trivial h3.1 h3.2), ⟨⟨rfl, rfl, trivial⟩, trivial, rfl⟩, rfl,
        Step.plain rfl (does_loadc 25 28 (e_congresslaw16_Do (p0.getD x1.2.2.2.toNat z_congresslaw16_Do)) ty25), ⟨⟨rfl, trivial⟩, trivial, rfl⟩, rfl,
        Step.plain rfl (does_alloc 25 1 (e_congresslaw16_Do z_congresslaw16_Do) zr25), ⟨trivial, trivial, rfl⟩, rfl,
        Step.plain rfl (does_store 25 11 (.tmp 29) 1 0 [] (.var (e_congresslaw16_Do z_congresslaw16_Do)) (.var (e_congresslaw16_Do (p0.getD x1.2.2.2.toNat z_congresslaw16_Do))) (e_congresslaw16_Do (p0.getD x1.2.2.2.toNat z_congresslaw16_Do)) true trivial rfl trivial rfl rfl rfl ty25), ⟨⟨rfl, rfl, trivial⟩, ⟨rfl, trivial⟩, rfl⟩, rfl, rfl⟩ ?_
      refine aw_cov (cov_prune (s1 := ⟨[(0, (e_s_congresslaw16_Do p0)), (1, (.int .u64 p1)), (2, (.int .i64 p2)), (7, (e_s_api_Right x1.1)), (8, (.int .u64 x1.2.1)), (9, (.int .i64 x1.2.2.1)), (10, (.int .i64 x1.2.2.2)), (11, (.ptr 1 0 []))], [(1, some (.var (e_congresslaw16_Do (p0.getD x1.2.2.2.toNat z_congresslaw16_Do))))], 2⟩) ⟨rfl, rfl, rfl, rfl, rfl, rfl, rfl, rfl, trivial⟩ ⟨rfl, trivial⟩ (Nat.le_refl _)) ?_
      obtain ⟨v4, h5, H⟩ := bnd H
      refine aw_region (es := [_, _, _, _]) ⟨Step.plain rfl (does_move (.tmp 7) (e_s_api_Right x1.1) trivial), ⟨⟨rfl, trivial⟩, trivial, rfl⟩, rfl,
        Step.plain rfl (does_load 25 11 1 0 [] (.var (e_congresslaw16_Do (p0.getD x1.2.2.2.toNat z_congresslaw16_Do))) (e_congresslaw16_Do (p0.getD x1.2.2.2.toNat z_congresslaw16_Do)) trivial rfl rfl ty25), ⟨⟨rfl, trivial⟩, ⟨rfl, trivial⟩, rfl⟩, rfl,
        Step.plain rfl (does_call 19 0 (fun _ => .any) (.func 19) [(.tmp 30), (.tmp 31)] [(e_s_api_Right x1.1), (e_congresslaw16_Do (p0.getD x1.2.2.2.toNat z_congresslaw16_Do))] [] false [(e_s_api_Right x1.1), (e_congresslaw16_Do (p0.getD x1.2.2.2.toNat z_congresslaw16_Do))] (e_s_api_Right v4) _ _ rfl fo19 rfl ⟨trivial, trivial, trivial⟩ ⟨.data _ (d_s_api_Right x1.1), .data _ (d_congresslaw16_Do (p0.getD x1.2.2.2.toNat z_congresslaw16_Do)), trivial⟩ (congresslaw16_done_spec x1.1 (p0.getD x1.2.2.2.toNat z_congresslaw16_Do) _ h5) (d_s_api_Right v4)), ⟨⟨rfl, rfl, trivial⟩, trivial, rfl⟩, rfl,
        Step.plain rfl (does_assign (.tmp 32) (e_s_api_Right v4) trivial), ⟨⟨rfl, trivial⟩, trivial, rfl⟩, rfl, rfl⟩ ?_
      refine aw_cov (cov_prune (s1 := ⟨[(0, (e_s_congresslaw16_Do p0)), (1, (.int .u64 p1)), (2, (.int .i64 p2)), (7, (e_s_api_Right x1.1)), (8, (.int .u64 x1.2.1)), (9, (.int .i64 x1.2.2.1)), (10, (.int .i64 x1.2.2.2)), (11, (.ptr 1 0 [])), (12, (e_s_api_Right v4))], [(1, some (.var (e_congresslaw16_Do (p0.getD x1.2.2.2.toNat z_congresslaw16_Do))))], 2⟩) ⟨rfl, rfl, rfl, rfl, rfl, rfl, rfl, rfl, rfl, trivial⟩ ⟨rfl, trivial⟩ (Nat.le_refl _)) ?_
      refine aw_seq ?_
      refine aw_region (es := [_, _, _, _, _, _, _, _, _, _, _, _, _, _, _, _]) ⟨Step.plain rfl (does_fieldAddr 25 0 0 11 1 0 [] (.var (e_congresslaw16_Do (p0.getD x1.2.2.2.toNat z_congresslaw16_Do))) fl25_0), ⟨⟨rfl, trivial⟩, ⟨rfl, trivial⟩, rfl⟩, rfl,
        Step.plain rfl (does_load 3 33 1 (0 + 0) [0] (.var (e_congresslaw16_Do (p0.getD x1.2.2.2.toNat z_congresslaw16_Do))) (.int .i64 ((p0.getD x1.2.2.2.toNat z_congresslaw16_Do).Do)) ⟨rfl, Nat.le_of_ble_eq_true rfl, trivial⟩ rfl rfl ty3), ⟨⟨rfl, trivial⟩, ⟨rfl, trivial⟩, rfl⟩, rfl,
        Step.plain rfl (does_bin .eql 3 3 (.tmp 34) (.const (.int .i64 0)) .i64 ((p0.getD x1.2.2.2.toNat z_congresslaw16_Do).Do) 0 (.bool (((p0.getD x1.2.2.2.toNat z_congresslaw16_Do).Do) == 0)) trivial (fun _ => rfl) (bin_eql _ _ _ _)), ⟨⟨rfl, trivial⟩, trivial, rfl⟩, rfl,
        Step.plain rfl (does_move (.tmp 35) (.bool (((p0.getD x1.2.2.2.toNat z_congresslaw16_Do).Do) == 0)) trivial), ⟨⟨rfl, trivial⟩, trivial, rfl⟩, rfl,
        Step.guarded rfl rfl rfl rfl (fun hc => does_fieldAddr 25 1 1 11 1 0 [] (.var (e_congresslaw16_Do (p0.getD x1.2.2.2.toNat z_congresslaw16_Do))) fl25_1), ⟨⟨rfl, rfl, trivial⟩, ⟨rfl, trivial⟩, rfl⟩, rfl,
        Step.guarded rfl rfl rfl rfl (fun hc => Does.strip (n' := [(37, (.opt (((p0.getD x1.2.2.2.toNat z_congresslaw16_Do).Do) == 0) (.ptr 1 (0 + 1) [1])))]) (n := [(37, (.ptr 1 (0 + 1) [1]))]) ⟨(.opt _ _ hc), trivial⟩ (does_load 23 37 1 (0 + 1) [1] (.var (e_congresslaw16_Do (p0.getD x1.2.2.2.toNat z_congresslaw16_Do))) (.int .u64 ((p0.getD x1.2.2.2.toNat z_congresslaw16_Do).Handle)) ⟨rfl, Nat.le_of_ble_eq_true rfl, trivial⟩ rfl rfl ty23)), ⟨⟨rfl, rfl, trivial⟩, ⟨rfl, trivial⟩, rfl⟩, rfl,
        Step.guarded rfl rfl rfl rfl (fun hc => does_move (.tmp 1) (.int .u64 p1) trivial), ⟨⟨rfl, rfl, trivial⟩, trivial, rfl⟩, rfl,
        Step.guarded rfl rfl rfl rfl (fun hc => Does.strip (n' := [(38, (.opt (((p0.getD x1.2.2.2.toNat z_congresslaw16_Do).Do) == 0) (.int .u64 ((p0.getD x1.2.2.2.toNat z_congresslaw16_Do).Handle)))), (39, (.opt (((p0.getD x1.2.2.2.toNat z_congresslaw16_Do).Do) == 0) (.int .u64 p1)))]) (n := [(38, (.int .u64 ((p0.getD x1.2.2.2.toNat z_congresslaw16_Do).Handle))), (39, (.int .u64 p1))]) ⟨(.opt _ _ hc), (.opt _ _ hc), trivial⟩ (does_bin .eql 23 23 (.tmp 38) (.tmp 39) .u64 ((p0.getD x1.2.2.2.toNat z_congresslaw16_Do).Handle) p1 (.bool (((p0.getD x1.2.2.2.toNat z_congresslaw16_Do).Handle) == p1)) trivial trivial (bin_eql _ _ _ _))), ⟨⟨rfl, rfl, rfl, trivial⟩, trivial, rfl⟩, rfl,
        Step.plain rfl (does_and 36 40 (((p0.getD x1.2.2.2.toNat z_congresslaw16_Do).Do) == 0) (((p0.getD x1.2.2.2.toNat z_congresslaw16_Do).Handle) == p1)), ⟨⟨rfl, rfl, trivial⟩, trivial, rfl⟩, rfl,
        Step.plain rfl (does_move (.tmp 41) (.bool ((((p0.getD x1.2.2.2.toNat z_congresslaw16_Do).Do) == 0) && (((p0.getD x1.2.2.2.toNat z_congresslaw16_Do).Handle) == p1))) trivial), ⟨⟨rfl, trivial⟩, trivial, rfl⟩, rfl,
        Step.guarded rfl rfl rfl rfl (fun hc => does_move (.tmp 12) (e_s_api_Right v4) trivial), ⟨⟨rfl, rfl, trivial⟩, trivial, rfl⟩, rfl,
        Step.guarded rfl rfl rfl rfl (fun hc => Does.strip (n' := [(43, (.opt ((((p0.getD x1.2.2.2.toNat z_congresslaw16_Do).Do) == 0) && (((p0.getD x1.2.2.2.toNat z_congresslaw16_Do).Handle) == p1)) (e_s_api_Right v4)))]) (n := [(43, (e_s_api_Right v4))]) ⟨(.opt _ _ hc), trivial⟩ (does_lens 22 4 v4.length 43 (fun j => (e_api_Right (v4.getD j z_api_Right))) el22)), ⟨⟨rfl, rfl, trivial⟩, trivial, rfl⟩, rfl,
        Step.guarded rfl rfl rfl rfl (fun hc => does_move (.tmp 7) (e_s_api_Right x1.1) trivial), ⟨⟨rfl, rfl, trivial⟩, trivial, rfl⟩, rfl,
        Step.guarded rfl rfl rfl rfl (fun hc => Does.strip (n' := [(45, (.opt ((((p0.getD x1.2.2.2.toNat z_congresslaw16_Do).Do) == 0) && (((p0.getD x1.2.2.2.toNat z_congresslaw16_Do).Handle) == p1)) (e_s_api_Right x1.1)))]) (n := [(45, (e_s_api_Right x1.1))]) ⟨(.opt _ _ hc), trivial⟩ (does_lens 22 4 x1.1.length 45 (fun j => (e_api_Right (x1.1.getD j z_api_Right))) el22)), ⟨⟨rfl, rfl, trivial⟩, trivial, rfl⟩, rfl,
        Step.guarded rfl rfl rfl rfl (fun hc => Does.strip (n' := [(44, (.opt ((((p0.getD x1.2.2.2.toNat z_congresslaw16_Do).Do) == 0) && (((p0.getD x1.2.2.2.toNat z_congresslaw16_Do).Handle) == p1)) (.int .i64 (v4.length : Int)))), (46, (.opt ((((p0.getD x1.2.2.2.toNat z_congresslaw16_Do).Do) == 0) && (((p0.getD x1.2.2.2.toNat z_congresslaw16_Do).Handle) == p1)) (.int .i64 (x1.1.length : Int))))]) (n := [(44, (.int .i64 (v4.length : Int))), (46, (.int .i64 (x1.1.length : Int)))]) ⟨(.opt _ _ hc), (.opt _ _ hc), trivial⟩ (does_bin .gtr 3 3 (.tmp 44) (.tmp 46) .i64 (v4.length : Int) (x1.1.length : Int) (.bool (decide ((v4.length : Int) > (x1.1.length : Int)))) trivial trivial (bin_gtr _ _ _ _))), ⟨⟨rfl, rfl, rfl, trivial⟩, trivial, rfl⟩, rfl,
        Step.plain rfl (does_and 42 47 ((((p0.getD x1.2.2.2.toNat z_congresslaw16_Do).Do) == 0) && (((p0.getD x1.2.2.2.toNat z_congresslaw16_Do).Handle) == p1)) (decide ((v4.length : Int) > (x1.1.length : Int)))), ⟨⟨rfl, rfl, trivial⟩, trivial, rfl⟩, rfl, rfl⟩ ?_
      obtain ⟨v6, hv6, H⟩ := lt_of H
      refine aw_cov (cov_prune (s1 := ⟨[(0, (e_s_congresslaw16_Do p0)), (1, (.int .u64 p1)), (2, (.int .i64 p2)), (8, (.int .u64 x1.2.1)), (9, (.int .i64 x1.2.2.1)), (10, (.int .i64 x1.2.2.2)), (11, (.ptr 1 0 [])), (12, (e_s_api_Right v4)), (48, (.bool v6))], [(1, some (.var (e_congresslaw16_Do (p0.getD x1.2.2.2.toNat z_congresslaw16_Do))))], 2⟩) ⟨rfl, rfl, rfl, rfl, rfl, rfl, rfl, rfl, (by subst hv6; rfl), trivial⟩ ⟨rfl, trivial⟩ (Nat.le_refl _)) ?_
      refine aw_jn (fun x8 : Int × Int => (⟨[(0, (e_s_congresslaw16_Do p0)), (1, (.int .u64 p1)), (2, (.int .i64 p2)), (8, (.int .u64 x8.1)), (9, (.int .i64 x8.2)), (10, (.int .i64 x1.2.2.2)), (11, (.ptr 1 0 [])), (12, (e_s_api_Right v4))], [(1, some (.var (e_congresslaw16_Do (p0.getD x1.2.2.2.toNat z_congresslaw16_Do))))], 2⟩ : St)) H (fun x8 H => ?_) (fun j7 H => ?_)
      · refine nx_seq ?_
        refine aw_seq ?_
        refine aw_region (es := [_, _, _, _, _, _, _, _, _, _, _, _, _, _, _, _, _, _, _, _]) ⟨Step.plain rfl (does_fieldAddr 25 0 0 11 1 0 [] (.var (e_congresslaw16_Do (p0.getD x1.2.2.2.toNat z_congresslaw16_Do))) fl25_0), ⟨⟨rfl, trivial⟩, ⟨rfl, trivial⟩, rfl⟩, rfl,
          Step.plain rfl (does_load 3 53 1 (0 + 0) [0] (.var (e_congresslaw16_Do (p0.getD x1.2.2.2.toNat z_congresslaw16_Do))) (.int .i64 ((p0.getD x1.2.2.2.toNat z_congresslaw16_Do).Do)) ⟨rfl, Nat.le_of_ble_eq_true rfl, trivial⟩ rfl rfl ty3), ⟨⟨rfl, trivial⟩, ⟨rfl, trivial⟩, rfl⟩, rfl,
          Step.plain rfl (does_bin .eql 3 3 (.tmp 54) (.const (.int .i64 1)) .i64 ((p0.getD x1.2.2.2.toNat z_congresslaw16_Do).Do) 1 (.bool (((p0.getD x1.2.2.2.toNat z_congresslaw16_Do).Do) == 1)) trivial (fun _ => rfl) (bin_eql _ _ _ _)), ⟨⟨rfl, trivial⟩, trivial, rfl⟩, rfl,
          Step.plain rfl (does_move (.tmp 55) (.bool (((p0.getD x1.2.2.2.toNat z_congresslaw16_Do).Do) == 1)) trivial), ⟨⟨rfl, trivial⟩, trivial, rfl⟩, rfl,
          Step.guarded rfl rfl rfl rfl (fun hc => does_fieldAddr 25 1 1 11 1 0 [] (.var (e_congresslaw16_Do (p0.getD x1.2.2.2.toNat z_congresslaw16_Do))) fl25_1), ⟨⟨rfl, rfl, trivial⟩, ⟨rfl, trivial⟩, rfl⟩, rfl,
          Step.guarded rfl rfl rfl rfl (fun hc => Does.strip (n' := [(57, (.opt (((p0.getD x1.2.2.2.toNat z_congresslaw16_Do).Do) == 1) (.ptr 1 (0 + 1) [1])))]) (n := [(57, (.ptr 1 (0 + 1) [1]))]) ⟨(.opt _ _ hc), trivial⟩ (does_load 23 57 1 (0 + 1) [1] (.var (e_congresslaw16_Do (p0.getD x1.2.2.2.toNat z_congresslaw16_Do))) (.int .u64 ((p0.getD x1.2.2.2.toNat z_congresslaw16_Do).Handle)) ⟨rfl, Nat.le_of_ble_eq_true rfl, trivial⟩ rfl rfl ty23)), ⟨⟨rfl, rfl, trivial⟩, ⟨rfl, trivial⟩, rfl⟩, rfl,
          Step.guarded rfl rfl rfl rfl (fun hc => does_move (.tmp 1) (.int .u64 p1) trivial), ⟨⟨rfl, rfl, trivial⟩, trivial, rfl⟩, rfl,
          Step.guarded rfl rfl rfl rfl (fun hc => Does.strip (n' := [(58, (.opt (((p0.getD x1.2.2.2.toNat z_congresslaw16_Do).Do) == 1) (.int .u64 ((p0.getD x1.2.2.2.toNat z_congresslaw16_Do).Handle)))), (59, (.opt (((p0.getD x1.2.2.2.toNat z_congresslaw16_Do).Do) == 1) (.int .u64 p1)))]) (n := [(58, (.int .u64 ((p0.getD x1.2.2.2.toNat z_congresslaw16_Do).Handle))), (59, (.int .u64 p1))]) ⟨(.opt _ _ hc), (.opt _ _ hc), trivial⟩ (does_bin .eql 23 23 (.tmp 58) (.tmp 59) .u64 ((p0.getD x1.2.2.2.toNat z_congresslaw16_Do).Handle) p1 (.bool (((p0.getD x1.2.2.2.toNat z_congresslaw16_Do).Handle) == p1)) trivial trivial (bin_eql _ _ _ _))), ⟨⟨rfl, rfl, rfl, trivial⟩, trivial, rfl⟩, rfl,
          Step.plain rfl (does_and 56 60 (((p0.getD x1.2.2.2.toNat z_congresslaw16_Do).Do) == 1) (((p0.getD x1.2.2.2.toNat z_congresslaw16_Do).Handle) == p1)), ⟨⟨rfl, rfl, trivial⟩, trivial, rfl⟩, rfl,
          Step.plain rfl (does_move (.tmp 61) (.bool ((((p0.getD x1.2.2.2.toNat z_congresslaw16_Do).Do) == 1) && (((p0.getD x1.2.2.2.toNat z_congresslaw16_Do).Handle) == p1))) trivial), ⟨⟨rfl, trivial⟩, trivial, rfl⟩, rfl,
          Step.guarded rfl rfl rfl rfl (fun hc => does_fieldAddr 25 0 0 11 1 0 [] (.var (e_congresslaw16_Do (p0.getD x1.2.2.2.toNat z_congresslaw16_Do))) fl25_0), ⟨⟨rfl, rfl, trivial⟩, ⟨rfl, trivial⟩, rfl⟩, rfl,
          Step.guarded rfl rfl rfl rfl (fun hc => Does.strip (n' := [(63, (.opt (!((((p0.getD x1.2.2.2.toNat z_congresslaw16_Do).Do) == 1) && (((p0.getD x1.2.2.2.toNat z_congresslaw16_Do).Handle) == p1))) (.ptr 1 (0 + 0) [0])))]) (n := [(63, (.ptr 1 (0 + 0) [0]))]) ⟨(.opt _ _ hc), trivial⟩ (does_load 3 63 1 (0 + 0) [0] (.var (e_congresslaw16_Do (p0.getD x1.2.2.2.toNat z_congresslaw16_Do))) (.int .i64 ((p0.getD x1.2.2.2.toNat z_congresslaw16_Do).Do)) ⟨rfl, Nat.le_of_ble_eq_true rfl, trivial⟩ rfl rfl ty3)), ⟨⟨rfl, rfl, trivial⟩, ⟨rfl, trivial⟩, rfl⟩, rfl,
          Step.guarded rfl rfl rfl rfl (fun hc => Does.strip (n' := [(64, (.opt (!((((p0.getD x1.2.2.2.toNat z_congresslaw16_Do).Do) == 1) && (((p0.getD x1.2.2.2.toNat z_congresslaw16_Do).Handle) == p1))) (.int .i64 ((p0.getD x1.2.2.2.toNat z_congresslaw16_Do).Do))))]) (n := [(64, (.int .i64 ((p0.getD x1.2.2.2.toNat z_congresslaw16_Do).Do)))]) ⟨(.opt _ _ hc), trivial⟩ (does_bin .eql 3 3 (.tmp 64) (.const (.int .i64 2)) .i64 ((p0.getD x1.2.2.2.toNat z_congresslaw16_Do).Do) 2 (.bool (((p0.getD x1.2.2.2.toNat z_congresslaw16_Do).Do) == 2)) trivial (fun _ => rfl) (bin_eql _ _ _ _))), ⟨⟨rfl, rfl, trivial⟩, trivial, rfl⟩, rfl,
          Step.guarded rfl rfl rfl rfl (fun hc => Does.strip (n' := [(65, (.opt (!((((p0.getD x1.2.2.2.toNat z_congresslaw16_Do).Do) == 1) && (((p0.getD x1.2.2.2.toNat z_congresslaw16_Do).Handle) == p1))) (.bool (((p0.getD x1.2.2.2.toNat z_congresslaw16_Do).Do) == 2))))]) (n := [(65, (.bool (((p0.getD x1.2.2.2.toNat z_congresslaw16_Do).Do) == 2)))]) ⟨(.opt _ _ hc), trivial⟩ (does_move (.tmp 65) (.bool (((p0.getD x1.2.2.2.toNat z_congresslaw16_Do).Do) == 2)) trivial)), ⟨⟨rfl, rfl, trivial⟩, trivial, rfl⟩, rfl,
          Step.guarded rfl rfl rfl rfl (fun hc => does_fieldAddr 25 2 2 11 1 0 [] (.var (e_congresslaw16_Do (p0.getD x1.2.2.2.toNat z_congresslaw16_Do))) fl25_2), ⟨⟨rfl, rfl, trivial⟩, ⟨rfl, trivial⟩, rfl⟩, rfl,
          Step.guarded rfl rfl rfl rfl (fun hc => Does.strip (n' := [(67, (.opt ((!((((p0.getD x1.2.2.2.toNat z_congresslaw16_Do).Do) == 1) && (((p0.getD x1.2.2.2.toNat z_congresslaw16_Do).Handle) == p1))) && (((p0.getD x1.2.2.2.toNat z_congresslaw16_Do).Do) == 2)) (.ptr 1 (0 + 2) [2])))]) (n := [(67, (.ptr 1 (0 + 2) [2]))]) ⟨(.opt _ _ hc), trivial⟩ (does_load 23 67 1 (0 + 2) [2] (.var (e_congresslaw16_Do (p0.getD x1.2.2.2.toNat z_congresslaw16_Do))) (.int .u64 ((p0.getD x1.2.2.2.toNat z_congresslaw16_Do).Session)) ⟨rfl, Nat.le_of_ble_eq_true rfl, trivial⟩ rfl rfl ty23)), ⟨⟨rfl, rfl, trivial⟩, ⟨rfl, trivial⟩, rfl⟩, rfl,
          Step.guarded rfl rfl rfl rfl (fun hc => does_move (.tmp 8) (.int .u64 x8.1) trivial), ⟨⟨rfl, rfl, trivial⟩, trivial, rfl⟩, rfl,
          Step.guarded rfl rfl rfl rfl (fun hc => Does.strip (n' := [(68, (.opt ((!((((p0.getD x1.2.2.2.toNat z_congresslaw16_Do).Do) == 1) && (((p0.getD x1.2.2.2.toNat z_congresslaw16_Do).Handle) == p1))) && (((p0.getD x1.2.2.2.toNat z_congresslaw16_Do).Do) == 2)) (.int .u64 ((p0.getD x1.2.2.2.toNat z_congresslaw16_Do).Session)))), (69, (.opt ((!((((p0.getD x1.2.2.2.toNat z_congresslaw16_Do).Do) == 1) && (((p0.getD x1.2.2.2.toNat z_congresslaw16_Do).Handle) == p1))) && (((p0.getD x1.2.2.2.toNat z_congresslaw16_Do).Do) == 2)) (.int .u64 x8.1)))]) (n := [(68, (.int .u64 ((p0.getD x1.2.2.2.toNat z_congresslaw16_Do).Session))), (69, (.int .u64 x8.1))]) ⟨(.opt _ _ hc), (.opt _ _ hc), trivial⟩ (does_bin .eql 23 23 (.tmp 68) (.tmp 69) .u64 ((p0.getD x1.2.2.2.toNat z_congresslaw16_Do).Session) x8.1 (.bool (((p0.getD x1.2.2.2.toNat z_congresslaw16_Do).Session) == x8.1)) trivial trivial (bin_eql _ _ _ _))), ⟨⟨rfl, rfl, rfl, trivial⟩, trivial, rfl⟩, rfl,
          Step.guarded rfl rfl rfl rfl (fun hc => Does.strip (n' := [(66, (.opt (!((((p0.getD x1.2.2.2.toNat z_congresslaw16_Do).Do) == 1) && (((p0.getD x1.2.2.2.toNat z_congresslaw16_Do).Handle) == p1))) (.bool (((p0.getD x1.2.2.2.toNat z_congresslaw16_Do).Do) == 2)))), (70, (.opt ((!((((p0.getD x1.2.2.2.toNat z_congresslaw16_Do).Do) == 1) && (((p0.getD x1.2.2.2.toNat z_congresslaw16_Do).Handle) == p1))) && (((p0.getD x1.2.2.2.toNat z_congresslaw16_Do).Do) == 2)) (.bool (((p0.getD x1.2.2.2.toNat z_congresslaw16_Do).Session) == x8.1))))]) (n := [(66, (.bool (((p0.getD x1.2.2.2.toNat z_congresslaw16_Do).Do) == 2))), (70, (.opt (((p0.getD x1.2.2.2.toNat z_congresslaw16_Do).Do) == 2) (.bool (((p0.getD x1.2.2.2.toNat z_congresslaw16_Do).Session) == x8.1))))]) ⟨(.opt _ _ hc), (.half _ _ hc), trivial⟩ (does_and 66 70 (((p0.getD x1.2.2.2.toNat z_congresslaw16_Do).Do) == 2) (((p0.getD x1.2.2.2.toNat z_congresslaw16_Do).Session) == x8.1))), ⟨⟨rfl, rfl, rfl, trivial⟩, trivial, rfl⟩, rfl,
          Step.plain rfl (does_or 62 71 ((((p0.getD x1.2.2.2.toNat z_congresslaw16_Do).Do) == 1) && (((p0.getD x1.2.2.2.toNat z_congresslaw16_Do).Handle) == p1)) ((((p0.getD x1.2.2.2.toNat z_congresslaw16_Do).Do) == 2) && (((p0.getD x1.2.2.2.toNat z_congresslaw16_Do).Session) == x8.1))), ⟨⟨rfl, rfl, trivial⟩, trivial, rfl⟩, rfl, rfl⟩ ?_
        obtain ⟨v9, hv9, H⟩ := lt_of H
        refine aw_cov (cov_prune (s1 := ⟨[(0, (e_s_congresslaw16_Do p0)), (1, (.int .u64 p1)), (2, (.int .i64 p2)), (8, (.int .u64 x8.1)), (9, (.int .i64 x8.2)), (10, (.int .i64 x1.2.2.2)), (12, (e_s_api_Right v4)), (72, (.bool v9))], [], 2⟩) ⟨rfl, rfl, rfl, rfl, rfl, rfl, rfl, (by subst hv9; rfl), trivial⟩ trivial (Nat.le_refl _)) ?_
        refine aw_jn (fun x11 : Int => (⟨[(0, (e_s_congresslaw16_Do p0)), (1, (.int .u64 p1)), (2, (.int .i64 p2)), (8, (.int .u64 x8.1)), (9, (.int .i64 x11)), (10, (.int .i64 x1.2.2.2)), (12, (e_s_api_Right v4))], [], 2⟩ : St)) H (fun x11 H => ?_) (fun j10 H => ?_)
        · refine nx_seq ?_
          refine aw_region1 (es := [_, _]) ⟨Step.plain rfl (does_move (.tmp 12) (e_s_api_Right v4) trivial), ⟨⟨rfl, trivial⟩, trivial, rfl⟩, rfl,
            Step.plain rfl (does_assign (.tmp 73) (e_s_api_Right v4) trivial), ⟨⟨rfl, trivial⟩, trivial, rfl⟩, rfl, rfl⟩ ?_
          refine nx_blk ?_
          refine nx_seq ?_
          refine aw_cov (cov_prune (s1 := ⟨[(0, (e_s_congresslaw16_Do p0)), (1, (.int .u64 p1)), (2, (.int .i64 p2)), (8, (.int .u64 x8.1)), (9, (.int .i64 x11)), (10, (.int .i64 x1.2.2.2)), (7, (e_s_api_Right v4))], [], 2⟩) ⟨rfl, rfl, rfl, rfl, rfl, rfl, rfl, trivial⟩ trivial (Nat.le_refl _)) ?_
          refine aw_region1 (es := [_, _, _]) ⟨Step.plain rfl (does_move (.tmp 10) (.int .i64 x1.2.2.2) trivial), ⟨⟨rfl, trivial⟩, trivial, rfl⟩, rfl,
            Step.plain rfl (does_bin .add 3 3 (.tmp 24) (.const (.int .i64 1)) .i64 x1.2.2.2 1 (.int .i64 (IntKind.i64.wrap (x1.2.2.2 + 1))) trivial (fun _ => rfl) (bin_add _ _ _ _)), ⟨⟨rfl, trivial⟩, trivial, rfl⟩, rfl,
            Step.plain rfl (does_assign (.tmp 25) (.int .i64 (IntKind.i64.wrap (x1.2.2.2 + 1))) trivial), ⟨⟨rfl, trivial⟩, trivial, rfl⟩, rfl, rfl⟩ ?_
          exact nx_loop (v4, x8.1, x11, (IntKind.i64.wrap (x1.2.2.2 + 1))) H (cov_of (fun i => i) ⟨⟨_, rfl, ⟨rfl, (d_s_congresslaw16_Do _).plain⟩⟩, ⟨_, rfl, ⟨rfl, trivial⟩⟩, ⟨_, rfl, ⟨rfl, trivial⟩⟩, ⟨_, rfl, ⟨rfl, (d_s_api_Right _).plain⟩⟩, ⟨_, rfl, ⟨rfl, trivial⟩⟩, ⟨_, rfl, ⟨rfl, trivial⟩⟩, ⟨_, rfl, ⟨rfl, trivial⟩⟩, trivial⟩ trivial rfl)
        · refine aw_cond rfl (fun hc => ?_) (fun hc => ?_)
          · replace H := ite_t hc H
            refine aw_region1 (es := [_]) ⟨Step.plain rfl (does_assign (.const (.int .i64 0)) (.int .i64 0) (fun _ => rfl)), ⟨trivial, trivial, rfl⟩, rfl, rfl⟩ ?_
            exact nx_join (0) H (cov_prune ⟨rfl, rfl, rfl, rfl, rfl, rfl, rfl, trivial⟩ trivial (Nat.le_of_ble_eq_true rfl))
          · replace H := ite_f hc H
            refine aw_skip ?_
            exact nx_join (x8.2) H (cov_prune ⟨rfl, rfl, rfl, rfl, rfl, rfl, rfl, trivial⟩ trivial (Nat.le_of_ble_eq_true rfl))
      · refine aw_cond rfl (fun hc => ?_) (fun hc => ?_)
        · replace H := ite_t hc H
          refine aw_draw1 (es := [_, _, _, _, _, _]) (mixed) ⟨Step.plain rfl (does_fieldAddr 25 2 2 11 1 0 [] (.var (e_congresslaw16_Do (p0.getD x1.2.2.2.toNat z_congresslaw16_Do))) fl25_2), ⟨⟨rfl, trivial⟩, ⟨rfl, trivial⟩, rfl⟩, rfl,
            Step.plain rfl (does_load 23 49 1 (0 + 2) [2] (.var (e_congresslaw16_Do (p0.getD x1.2.2.2.toNat z_congresslaw16_Do))) (.int .u64 ((p0.getD x1.2.2.2.toNat z_congresslaw16_Do).Session)) ⟨rfl, Nat.le_of_ble_eq_true rfl, trivial⟩ rfl rfl ty23), ⟨⟨rfl, trivial⟩, ⟨rfl, trivial⟩, rfl⟩, rfl,
            Step.plain rfl (does_fieldAddr 25 3 3 11 1 0 [] (.var (e_congresslaw16_Do (p0.getD x1.2.2.2.toNat z_congresslaw16_Do))) fl25_3), ⟨⟨rfl, trivial⟩, ⟨rfl, trivial⟩, rfl⟩, rfl,
            Step.plain rfl (does_load 3 51 1 (0 + 3) [3] (.var (e_congresslaw16_Do (p0.getD x1.2.2.2.toNat z_congresslaw16_Do))) (.int .i64 ((p0.getD x1.2.2.2.toNat z_congresslaw16_Do).Give)) ⟨rfl, Nat.le_of_ble_eq_true rfl, trivial⟩ rfl rfl ty3), ⟨⟨rfl, trivial⟩, ⟨rfl, trivial⟩, rfl⟩, rfl,
            Step.plain rfl (does_assign (.tmp 50) (.int .u64 ((p0.getD x1.2.2.2.toNat z_congresslaw16_Do).Session)) trivial), ⟨⟨rfl, trivial⟩, trivial, rfl⟩, rfl,
            Step.plain rfl (does_assign (.tmp 52) (.int .i64 ((p0.getD x1.2.2.2.toNat z_congresslaw16_Do).Give)) trivial), ⟨⟨rfl, trivial⟩, trivial, rfl⟩, rfl, rfl⟩ rfl ?_
          exact nx_join ((p0.getD x1.2.2.2.toNat z_congresslaw16_Do).Session, (p0.getD x1.2.2.2.toNat z_congresslaw16_Do).Give) H (cov_prune ⟨rfl, rfl, rfl, rfl, rfl, rfl, rfl, rfl, trivial⟩ ⟨rfl, trivial⟩ (Nat.le_of_ble_eq_true rfl))
        · replace H := ite_f hc H
          refine aw_skip ?_
          exact nx_join (x1.2.1, x1.2.2.1) H (cov_prune ⟨rfl, rfl, rfl, rfl, rfl, rfl, rfl, rfl, trivial⟩ ⟨rfl, trivial⟩ (Nat.le_of_ble_eq_true rfl))
    · replace H := ite_f hc H
      refine aw_exit ?_
      refine ex_then ?_
      refine ex_then ?_
      refine ex_here ?_
      exact nx_ljoin (x1.1, x1.2.1, x1.2.2.1) H hsn2 (cov_prune ⟨rfl, rfl, rfl, rfl, rfl, trivial⟩ trivial (Nat.le_of_ble_eq_true rfl))

theorem congresslaw16_RightApart_spec (p0 : (_root_.List api_Right)) (p1 : congresslaw16_Do) (p2 : congresslaw16_Do) (r : Bool) (H : congresslaw16_RightApart p0 p1 p2 = some r) : FSpec Try.prog 5 [(e_s_api_Right p0), (e_congresslaw16_Do p1), (e_congresslaw16_Do p2)] (.bool r) := by
  refine spec_of (fn := Try.f5) (args := [(e_s_api_Right p0), (e_congresslaw16_Do p1), (e_congresslaw16_Do p2)]) Try.func5 rfl (Nat.le_of_ble_eq_true rfl) ?_
  rintro ⟨G, w0, W, S, Sp⟩ hG
  cases hG
  unfold congresslaw16_RightApart at H
  refine aw_region (es := [_, _, _]) ⟨Step.plain rfl (does_box 25 (.tmp 1) 0 (e_congresslaw16_Do p1) trivial rfl), ⟨⟨rfl, trivial⟩, trivial, rfl⟩, rfl,
    Step.plain rfl (does_box 25 (.tmp 2) 1 (e_congresslaw16_Do p2) trivial rfl), ⟨⟨rfl, trivial⟩, trivial, rfl⟩, rfl,
    Step.plain rfl (does_assign (.const (.bool false)) (.bool false) (fun _ => rfl)), ⟨trivial, trivial, rfl⟩, rfl, rfl⟩ ?_
  refine aw_cov (cov_prune (s1 := ⟨[(0, (e_s_api_Right p0)), (4, (.ptr 0 0 [])), (5, (.ptr 1 0 []))], [(0, some (.var (e_congresslaw16_Do p1))), (1, some (.var (e_congresslaw16_Do p2)))], 2⟩) ⟨rfl, rfl, rfl, trivial⟩ ⟨rfl, rfl, trivial⟩ (Nat.le_refl _)) ?_
  refine aw_draw (es := [_, _, _, _, _, _]) (mixed) ⟨Step.plain rfl (does_fieldAddr 25 1 1 5 1 0 [] (.var (e_congresslaw16_Do p2)) fl25_1), ⟨⟨rfl, trivial⟩, ⟨rfl, trivial⟩, rfl⟩, rfl,
    Step.plain rfl (does_load 23 13 1 (0 + 1) [1] (.var (e_congresslaw16_Do p2)) (.int .u64 p2.Handle) ⟨rfl, Nat.le_of_ble_eq_true rfl, trivial⟩ rfl rfl ty23), ⟨⟨rfl, trivial⟩, ⟨rfl, trivial⟩, rfl⟩, rfl,
    Step.plain rfl (does_fieldAddr 25 3 3 5 1 0 [] (.var (e_congresslaw16_Do p2)) fl25_3), ⟨⟨rfl, trivial⟩, ⟨rfl, trivial⟩, rfl⟩, rfl,
    Step.plain rfl (does_load 3 15 1 (0 + 3) [3] (.var (e_congresslaw16_Do p2)) (.int .i64 p2.Give) ⟨rfl, Nat.le_of_ble_eq_true rfl, trivial⟩ rfl rfl ty3), ⟨⟨rfl, trivial⟩, ⟨rfl, trivial⟩, rfl⟩, rfl,
    Step.plain rfl (does_assign (.tmp 14) (.int .u64 p2.Handle) trivial), ⟨⟨rfl, trivial⟩, trivial, rfl⟩, rfl,
    Step.plain rfl (does_assign (.tmp 16) (.int .i64 p2.Give) trivial), ⟨⟨rfl, trivial⟩, trivial, rfl⟩, rfl, rfl⟩ rfl ?_
  refine aw_cov (cov_prune (s1 := ⟨[(0, (e_s_api_Right p0)), (4, (.ptr 0 0 [])), (7, (.int .u64 p2.Handle)), (8, (.int .i64 p2.Give))], [(0, some (.var (e_congresslaw16_Do p1)))], 2⟩) ⟨rfl, rfl, rfl, rfl, trivial⟩ ⟨rfl, trivial⟩ (Nat.le_refl _)) ?_
  refine aw_seq ?_
  obtain ⟨v1, h2, H⟩ := bnd H
  obtain ⟨v3, h4, H⟩ := whn_of H
  refine aw_region (es := [_, _, _, _, _, _, _, _, _, _, _, _, _, _, _, _, _, _]) ⟨Step.plain rfl (does_call 13 0 (fun _ => .any) (.func 13) [] [] [] true [] (.bool v1) _ _ rfl fo13 rfl trivial trivial (congresslaw16_fixed_spec _ h2) trivial), ⟨trivial, trivial, rfl⟩, rfl,
    Step.plain rfl (does_not 4 (.tmp 17) v1 trivial), ⟨⟨rfl, trivial⟩, trivial, rfl⟩, rfl,
    Step.plain rfl (does_move (.tmp 18) (.bool (!v1)) trivial), ⟨⟨rfl, trivial⟩, trivial, rfl⟩, rfl,
    Step.guarded rfl rfl rfl rfl (fun hc => does_move (.tmp 0) (e_s_api_Right p0) trivial), ⟨⟨rfl, rfl, trivial⟩, trivial, rfl⟩, rfl,
    Step.guarded rfl rfl rfl rfl (fun hc => Does.strip (n' := [(20, (.opt (!(!v1)) (e_s_api_Right p0)))]) (n := [(20, (e_s_api_Right p0))]) ⟨(.opt _ _ hc), trivial⟩ (does_call 17 0 (fun _ => .any) (.func 17) [(.tmp 20)] [(e_s_api_Right p0)] [] true [(e_s_api_Right p0)] (.bool v3) _ _ rfl fo17 rfl ⟨trivial, trivial⟩ ⟨.data _ (d_s_api_Right p0), trivial⟩ (right_May_spec p0 _ (h4 hc)) trivial)), ⟨⟨rfl, rfl, trivial⟩, trivial, rfl⟩, rfl,
    Step.guarded rfl rfl rfl rfl (fun hc => Does.strip (n' := [(21, (.opt (!(!v1)) (.bool v3)))]) (n := [(21, (.bool v3))]) ⟨(.opt _ _ hc), trivial⟩ (does_not 4 (.tmp 21) v3 trivial)), ⟨⟨rfl, rfl, trivial⟩, trivial, rfl⟩, rfl,
    Step.plain rfl (does_or 19 22 (!v1) (!v3)), ⟨⟨rfl, rfl, trivial⟩, trivial, rfl⟩, rfl,
    Step.plain rfl (does_move (.tmp 23) (.bool ((!v1) || (!v3))) trivial), ⟨⟨rfl, trivial⟩, trivial, rfl⟩, rfl,
    Step.guarded rfl rfl rfl rfl (fun hc => does_move (.tmp 7) (.int .u64 p2.Handle) trivial), ⟨⟨rfl, rfl, trivial⟩, trivial, rfl⟩, rfl,
    Step.guarded rfl rfl rfl rfl (fun hc => does_fieldAddr 25 1 1 4 0 0 [] (.var (e_congresslaw16_Do p1)) fl25_1), ⟨⟨rfl, rfl, trivial⟩, ⟨rfl, trivial⟩, rfl⟩, rfl,
    Step.guarded rfl rfl rfl rfl (fun hc => Does.strip (n' := [(26, (.opt (!((!v1) || (!v3))) (.ptr 0 (0 + 1) [1])))]) (n := [(26, (.ptr 0 (0 + 1) [1]))]) ⟨(.opt _ _ hc), trivial⟩ (does_load 23 26 0 (0 + 1) [1] (.var (e_congresslaw16_Do p1)) (.int .u64 p1.Handle) ⟨rfl, Nat.le_of_ble_eq_true rfl, trivial⟩ rfl rfl ty23)), ⟨⟨rfl, rfl, trivial⟩, ⟨rfl, trivial⟩, rfl⟩, rfl,
    Step.guarded rfl rfl rfl rfl (fun hc => Does.strip (n' := [(25, (.opt (!((!v1) || (!v3))) (.int .u64 p2.Handle))), (27, (.opt (!((!v1) || (!v3))) (.int .u64 p1.Handle)))]) (n := [(25, (.int .u64 p2.Handle)), (27, (.int .u64 p1.Handle))]) ⟨(.opt _ _ hc), (.opt _ _ hc), trivial⟩ (does_bin .eql 23 23 (.tmp 25) (.tmp 27) .u64 p2.Handle p1.Handle (.bool (p2.Handle == p1.Handle)) trivial trivial (bin_eql _ _ _ _))), ⟨⟨rfl, rfl, rfl, trivial⟩, trivial, rfl⟩, rfl,
    Step.plain rfl (does_or 24 28 ((!v1) || (!v3)) (p2.Handle == p1.Handle)), ⟨⟨rfl, rfl, trivial⟩, trivial, rfl⟩, rfl,
    Step.plain rfl (does_move (.tmp 29) (.bool (((!v1) || (!v3)) || (p2.Handle == p1.Handle))) trivial), ⟨⟨rfl, trivial⟩, trivial, rfl⟩, rfl,
    Step.guarded rfl rfl rfl rfl (fun hc => does_fieldAddr 25 0 0 4 0 0 [] (.var (e_congresslaw16_Do p1)) fl25_0), ⟨⟨rfl, rfl, trivial⟩, ⟨rfl, trivial⟩, rfl⟩, rfl,
    Step.guarded rfl rfl rfl rfl (fun hc => Does.strip (n' := [(31, (.opt (!(((!v1) || (!v3)) || (p2.Handle == p1.Handle))) (.ptr 0 (0 + 0) [0])))]) (n := [(31, (.ptr 0 (0 + 0) [0]))]) ⟨(.opt _ _ hc), trivial⟩ (does_load 3 31 0 (0 + 0) [0] (.var (e_congresslaw16_Do p1)) (.int .i64 p1.Do) ⟨rfl, Nat.le_of_ble_eq_true rfl, trivial⟩ rfl rfl ty3)), ⟨⟨rfl, rfl, trivial⟩, ⟨rfl, trivial⟩, rfl⟩, rfl,
    Step.guarded rfl rfl rfl rfl (fun hc => Does.strip (n' := [(32, (.opt (!(((!v1) || (!v3)) || (p2.Handle == p1.Handle))) (.int .i64 p1.Do)))]) (n := [(32, (.int .i64 p1.Do))]) ⟨(.opt _ _ hc), trivial⟩ (does_bin .eql 3 3 (.tmp 32) (.const (.int .i64 2)) .i64 p1.Do 2 (.bool (p1.Do == 2)) trivial (fun _ => rfl) (bin_eql _ _ _ _))), ⟨⟨rfl, rfl, trivial⟩, trivial, rfl⟩, rfl,
    Step.plain rfl (does_or 30 33 (((!v1) || (!v3)) || (p2.Handle == p1.Handle)) (p1.Do == 2)), ⟨⟨rfl, rfl, trivial⟩, trivial, rfl⟩, rfl, rfl⟩ ?_
  refine aw_cov (cov_prune (s1 := ⟨[(0, (e_s_api_Right p0)), (4, (.ptr 0 0 [])), (7, (.int .u64 p2.Handle)), (8, (.int .i64 p2.Give)), (34, (.bool ((((!v1) || (!v3)) || (p2.Handle == p1.Handle)) || (p1.Do == 2))))], [(0, some (.var (e_congresslaw16_Do p1)))], 2⟩) ⟨rfl, rfl, rfl, rfl, rfl, trivial⟩ ⟨rfl, trivial⟩ (Nat.le_refl _)) ?_
  refine aw_cond rfl (fun hc => ?_) (fun hc => ?_)
  · replace H := ite_t hc H
    obtain ⟨v5, h6, H⟩ := bnd H
    refine aw_region (es := [_, _]) ⟨Step.plain rfl (does_call 13 0 (fun _ => .any) (.func 13) [] [] [] true [] (.bool v5) _ _ rfl fo13 rfl trivial trivial (congresslaw16_fixed_spec _ h6) trivial), ⟨trivial, trivial, rfl⟩, rfl,
      Step.plain rfl (does_assign (.tmp 35) (.bool v5) trivial), ⟨⟨rfl, trivial⟩, trivial, rfl⟩, rfl, rfl⟩ ?_
    refine aw_cov (cov_prune (s1 := ⟨[(6, (.bool v5))], [], 2⟩) ⟨rfl, trivial⟩ trivial (Nat.le_refl _)) ?_
    refine aw_ret ?_
    refine rt_then ?_
    exact fun a w hr => ⟨_, [(.bool v5)], hr, ⟨⟨_, rfl, .data _ trivial⟩, trivial⟩, by decide, by cases H; rfl⟩
  · replace H := ite_f hc H
    refine aw_skip ?_
    refine nx_seq ?_
    obtain ⟨v7, h8, H⟩ := bnd H
    refine aw_region (es := [_, _, _, _, _, _, _, _, _]) ⟨Step.plain rfl (does_move (.tmp 0) (e_s_api_Right p0) trivial), ⟨⟨rfl, trivial⟩, trivial, rfl⟩, rfl,
      Step.plain rfl (does_move (.tmp 7) (.int .u64 p2.Handle) trivial), ⟨⟨rfl, trivial⟩, trivial, rfl⟩, rfl,
      Step.plain rfl (does_move (.tmp 8) (.int .i64 p2.Give) trivial), ⟨⟨rfl, trivial⟩, trivial, rfl⟩, rfl,
      Step.plain rfl (does_call 9 0 (fun _ => .any) (.func 9) [(.tmp 37), (.tmp 38), (.tmp 39)] [(e_s_api_Right p0), (.int .u64 p2.Handle), (.int .i64 p2.Give)] [] true [(e_s_api_Right p0), (.int .u64 p2.Handle), (.int .i64 p2.Give)] (resV [(.int .u64 v7.1), (.int .i64 v7.2)]) _ _ rfl fo9 rfl ⟨trivial, trivial, trivial, trivial⟩ ⟨.data _ (d_s_api_Right p0), .data _ trivial, .data _ trivial, trivial⟩ (right_Check_spec p0 p2.Handle p2.Give _ h8) (res_flat2 trivial trivial)), ⟨⟨rfl, rfl, rfl, trivial⟩, trivial, rfl⟩, rfl,
      Step.plain rfl (does_move (.tmp 40) (resV [(.int .u64 v7.1), (.int .i64 v7.2)]) trivial), ⟨⟨rfl, trivial⟩, trivial, rfl⟩, rfl,
      Step.plain rfl (does_extract 36 0 2 (fun j => [(.int .u64 v7.1), (.int .i64 v7.2)].getD j (.bool false)) (Nat.le_of_ble_eq_true rfl)), ⟨⟨rfl, trivial⟩, trivial, rfl⟩, rfl,
      Step.plain rfl (does_extract 36 1 2 (fun j => [(.int .u64 v7.1), (.int .i64 v7.2)].getD j (.bool false)) (Nat.le_of_ble_eq_true rfl)), ⟨⟨rfl, trivial⟩, trivial, rfl⟩, rfl,
      Step.plain rfl (does_assign (.tmp 41) (.int .u64 v7.1) trivial), ⟨⟨rfl, trivial⟩, trivial, rfl⟩, rfl,
      Step.plain rfl (does_assign (.tmp 42) (.int .i64 v7.2) trivial), ⟨⟨rfl, trivial⟩, trivial, rfl⟩, rfl, rfl⟩ ?_
    refine aw_cov (cov_prune (s1 := ⟨[(0, (e_s_api_Right p0)), (4, (.ptr 0 0 [])), (7, (.int .u64 p2.Handle)), (8, (.int .i64 p2.Give)), (9, (.int .u64 v7.1)), (10, (.int .i64 v7.2))], [(0, some (.var (e_congresslaw16_Do p1)))], 2⟩) ⟨rfl, rfl, rfl, rfl, rfl, rfl, trivial⟩ ⟨rfl, trivial⟩ (Nat.le_refl _)) ?_
    obtain ⟨v9, h10, H⟩ := bnd H
    obtain ⟨v11, h12, H⟩ := bnd H
    refine aw_region (es := [_, _, _, _, _, _, _, _, _, _, _]) ⟨Step.plain rfl (does_move (.tmp 0) (e_s_api_Right p0) trivial), ⟨⟨rfl, trivial⟩, trivial, rfl⟩, rfl,
      Step.plain rfl (does_load 25 4 0 0 [] (.var (e_congresslaw16_Do p1)) (e_congresslaw16_Do p1) trivial rfl rfl ty25), ⟨⟨rfl, trivial⟩, ⟨rfl, trivial⟩, rfl⟩, rfl,
      Step.plain rfl (does_call 19 0 (fun _ => .any) (.func 19) [(.tmp 44), (.tmp 45)] [(e_s_api_Right p0), (e_congresslaw16_Do p1)] [] false [(e_s_api_Right p0), (e_congresslaw16_Do p1)] (e_s_api_Right v9) _ _ rfl fo19 rfl ⟨trivial, trivial, trivial⟩ ⟨.data _ (d_s_api_Right p0), .data _ (d_congresslaw16_Do p1), trivial⟩ (congresslaw16_done_spec p0 p1 _ h10) (d_s_api_Right v9)), ⟨⟨rfl, rfl, trivial⟩, trivial, rfl⟩, rfl,
      Step.plain rfl (does_move (.tmp 7) (.int .u64 p2.Handle) trivial), ⟨⟨rfl, trivial⟩, trivial, rfl⟩, rfl,
      Step.plain rfl (does_move (.tmp 8) (.int .i64 p2.Give) trivial), ⟨⟨rfl, trivial⟩, trivial, rfl⟩, rfl,
      Step.plain rfl (does_call 9 0 (fun _ => .any) (.func 9) [(.tmp 46), (.tmp 47), (.tmp 48)] [(e_s_api_Right v9), (.int .u64 p2.Handle), (.int .i64 p2.Give)] [] true [(e_s_api_Right v9), (.int .u64 p2.Handle), (.int .i64 p2.Give)] (resV [(.int .u64 v11.1), (.int .i64 v11.2)]) _ _ rfl fo9 rfl ⟨trivial, trivial, trivial, trivial⟩ ⟨.data _ (d_s_api_Right v9), .data _ trivial, .data _ trivial, trivial⟩ (right_Check_spec v9 p2.Handle p2.Give _ h12) (res_flat2 trivial trivial)), ⟨⟨rfl, rfl, rfl, trivial⟩, trivial, rfl⟩, rfl,
      Step.plain rfl (does_move (.tmp 49) (resV [(.int .u64 v11.1), (.int .i64 v11.2)]) trivial), ⟨⟨rfl, trivial⟩, trivial, rfl⟩, rfl,
      Step.plain rfl (does_extract 43 0 2 (fun j => [(.int .u64 v11.1), (.int .i64 v11.2)].getD j (.bool false)) (Nat.le_of_ble_eq_true rfl)), ⟨⟨rfl, trivial⟩, trivial, rfl⟩, rfl,
      Step.plain rfl (does_extract 43 1 2 (fun j => [(.int .u64 v11.1), (.int .i64 v11.2)].getD j (.bool false)) (Nat.le_of_ble_eq_true rfl)), ⟨⟨rfl, trivial⟩, trivial, rfl⟩, rfl,
      Step.plain rfl (does_assign (.tmp 50) (.int .u64 v11.1) trivial), ⟨⟨rfl, trivial⟩, trivial, rfl⟩, rfl,
      Step.plain rfl (does_assign (.tmp 51) (.int .i64 v11.2) trivial), ⟨⟨rfl, trivial⟩, trivial, rfl⟩, rfl, rfl⟩ ?_
    refine aw_cov (cov_prune (s1 := ⟨[(0, (e_s_api_Right p0)), (4, (.ptr 0 0 [])), (9, (.int .u64 v7.1)), (10, (.int .i64 v7.2)), (11, (.int .u64 v11.1)), (12, (.int .i64 v11.2))], [(0, some (.var (e_congresslaw16_Do p1)))], 2⟩) ⟨rfl, rfl, rfl, rfl, rfl, rfl, trivial⟩ ⟨rfl, trivial⟩ (Nat.le_refl _)) ?_
    obtain ⟨v13, h14, H⟩ := whn_of H
    obtain ⟨v15, h16, H⟩ := whn_of H
    refine aw_region (es := [_, _, _, _, _, _, _, _, _, _, _, _, _, _, _]) ⟨Step.plain rfl (does_move (.tmp 9) (.int .u64 v7.1) trivial), ⟨⟨rfl, trivial⟩, trivial, rfl⟩, rfl,
      Step.plain rfl (does_move (.tmp 11) (.int .u64 v11.1) trivial), ⟨⟨rfl, trivial⟩, trivial, rfl⟩, rfl,
      Step.plain rfl (does_bin .eql 23 23 (.tmp 52) (.tmp 53) .u64 v7.1 v11.1 (.bool (v7.1 == v11.1)) trivial trivial (bin_eql _ _ _ _)), ⟨⟨rfl, rfl, trivial⟩, trivial, rfl⟩, rfl,
      Step.plain rfl (does_move (.tmp 54) (.bool (v7.1 == v11.1)) trivial), ⟨⟨rfl, trivial⟩, trivial, rfl⟩, rfl,
      Step.guarded rfl rfl rfl rfl (fun hc => does_move (.tmp 10) (.int .i64 v7.2) trivial), ⟨⟨rfl, rfl, trivial⟩, trivial, rfl⟩, rfl,
      Step.guarded rfl rfl rfl rfl (fun hc => does_move (.tmp 12) (.int .i64 v11.2) trivial), ⟨⟨rfl, rfl, trivial⟩, trivial, rfl⟩, rfl,
      Step.guarded rfl rfl rfl rfl (fun hc => Does.strip (n' := [(56, (.opt (v7.1 == v11.1) (.int .i64 v7.2))), (57, (.opt (v7.1 == v11.1) (.int .i64 v11.2)))]) (n := [(56, (.int .i64 v7.2)), (57, (.int .i64 v11.2))]) ⟨(.opt _ _ hc), (.opt _ _ hc), trivial⟩ (does_bin .eql 26 26 (.tmp 56) (.tmp 57) .i64 v7.2 v11.2 (.bool (v7.2 == v11.2)) trivial trivial (bin_eql _ _ _ _))), ⟨⟨rfl, rfl, rfl, trivial⟩, trivial, rfl⟩, rfl,
      Step.plain rfl (does_and 55 58 (v7.1 == v11.1) (v7.2 == v11.2)), ⟨⟨rfl, rfl, trivial⟩, trivial, rfl⟩, rfl,
      Step.plain rfl (does_move (.tmp 59) (.bool ((v7.1 == v11.1) && (v7.2 == v11.2))) trivial), ⟨⟨rfl, trivial⟩, trivial, rfl⟩, rfl,
      Step.guarded rfl rfl rfl rfl (fun hc => does_move (.tmp 0) (e_s_api_Right p0) trivial), ⟨⟨rfl, rfl, trivial⟩, trivial, rfl⟩, rfl,
      Step.guarded rfl rfl rfl rfl (fun hc => does_load 25 4 0 0 [] (.var (e_congresslaw16_Do p1)) (e_congresslaw16_Do p1) trivial rfl rfl ty25), ⟨⟨rfl, rfl, trivial⟩, ⟨rfl, trivial⟩, rfl⟩, rfl,
      Step.guarded rfl rfl rfl rfl (fun hc => Does.strip (n' := [(61, (.opt ((v7.1 == v11.1) && (v7.2 == v11.2)) (e_s_api_Right p0))), (62, (.opt ((v7.1 == v11.1) && (v7.2 == v11.2)) (e_congresslaw16_Do p1)))]) (n := [(61, (e_s_api_Right p0)), (62, (e_congresslaw16_Do p1))]) ⟨(.opt _ _ hc), (.opt _ _ hc), trivial⟩ (does_call 19 0 (fun _ => .any) (.func 19) [(.tmp 61), (.tmp 62)] [(e_s_api_Right p0), (e_congresslaw16_Do p1)] [] false [(e_s_api_Right p0), (e_congresslaw16_Do p1)] (e_s_api_Right v13) _ _ rfl fo19 rfl ⟨trivial, trivial, trivial⟩ ⟨.data _ (d_s_api_Right p0), .data _ (d_congresslaw16_Do p1), trivial⟩ (congresslaw16_done_spec p0 p1 _ (h14 hc)) (d_s_api_Right v13))), ⟨⟨rfl, rfl, rfl, trivial⟩, trivial, rfl⟩, rfl,
      Step.guarded rfl rfl rfl rfl (fun hc => Does.strip (n' := [(63, (.opt ((v7.1 == v11.1) && (v7.2 == v11.2)) (e_s_api_Right v13)))]) (n := [(63, (e_s_api_Right v13))]) ⟨(.opt _ _ hc), trivial⟩ (does_call 17 0 (fun _ => .any) (.func 17) [(.tmp 63)] [(e_s_api_Right v13)] [] true [(e_s_api_Right v13)] (.bool v15) _ _ rfl fo17 rfl ⟨trivial, trivial⟩ ⟨.data _ (d_s_api_Right v13), trivial⟩ (right_May_spec v13 _ (h16 hc)) trivial)), ⟨⟨rfl, rfl, trivial⟩, trivial, rfl⟩, rfl,
      Step.plain rfl (does_and 60 64 ((v7.1 == v11.1) && (v7.2 == v11.2)) v15), ⟨⟨rfl, rfl, trivial⟩, trivial, rfl⟩, rfl,
      Step.plain rfl (does_assign (.tmp 65) (.bool (((v7.1 == v11.1) && (v7.2 == v11.2)) && v15)) trivial), ⟨⟨rfl, trivial⟩, trivial, rfl⟩, rfl, rfl⟩ ?_
    refine aw_cov (cov_prune (s1 := ⟨[(6, (.bool (((v7.1 == v11.1) && (v7.2 == v11.2)) && v15)))], [], 2⟩) ⟨rfl, trivial⟩ trivial (Nat.le_refl _)) ?_
    refine aw_ret ?_
    exact fun a w hr => ⟨_, [(.bool (((v7.1 == v11.1) && (v7.2 == v11.2)) && v15))], hr, ⟨⟨_, rfl, .data _ trivial⟩, trivial⟩, by decide, by cases H; rfl⟩

theorem congresslaw16_RightFull_spec (p0 : Int) (p1 : Int) (r : Bool) (H : congresslaw16_RightFull p0 p1 = some r) : FSpec Try.prog 6 [(.int .i64 p0), (.int .u64 p1)] (.bool r) := by
  refine spec_of (fn := Try.f6) (args := [(.int .i64 p0), (.int .u64 p1)]) Try.func6 rfl (Nat.le_of_ble_eq_true rfl) ?_
  rintro ⟨G, w0, W, S, Sp⟩ hG
  cases hG
  unfold congresslaw16_RightFull at H
  refine aw_region (es := [_]) ⟨Step.plain rfl (does_assign (.const (.bool false)) (.bool false) (fun _ => rfl)), ⟨trivial, trivial, rfl⟩, rfl, rfl⟩ ?_
  refine aw_cov (cov_prune (s1 := ⟨[(0, (.int .i64 p0)), (1, (.int .u64 p1))], [], 0⟩) ⟨rfl, rfl, trivial⟩ trivial (Nat.le_refl _)) ?_
  refine aw_seq ?_
  obtain ⟨v1, h2, H⟩ := bnd H
  refine aw_region (es := [_, _, _, _, _, _, _, _, _, _]) ⟨Step.plain rfl (does_call 13 0 (fun _ => .any) (.func 13) [] [] [] true [] (.bool v1) _ _ rfl fo13 rfl trivial trivial (congresslaw16_fixed_spec _ h2) trivial), ⟨trivial, trivial, rfl⟩, rfl,
    Step.plain rfl (does_not 4 (.tmp 12) v1 trivial), ⟨⟨rfl, trivial⟩, trivial, rfl⟩, rfl,
    Step.plain rfl (does_move (.tmp 13) (.bool (!v1)) trivial), ⟨⟨rfl, trivial⟩, trivial, rfl⟩, rfl,
    Step.guarded rfl rfl rfl rfl (fun hc => does_move (.tmp 0) (.int .i64 p0) trivial), ⟨⟨rfl, rfl, trivial⟩, trivial, rfl⟩, rfl,
    Step.guarded rfl rfl rfl rfl (fun hc => Does.strip (n' := [(15, (.opt (!(!v1)) (.int .i64 p0)))]) (n := [(15, (.int .i64 p0))]) ⟨(.opt _ _ hc), trivial⟩ (does_bin .lss 3 3 (.tmp 15) (.const (.int .i64 0)) .i64 p0 0 (.bool (decide (p0 < 0))) trivial (fun _ => rfl) (bin_lss _ _ _ _))), ⟨⟨rfl, rfl, trivial⟩, trivial, rfl⟩, rfl,
    Step.plain rfl (does_or 14 16 (!v1) (decide (p0 < 0))), ⟨⟨rfl, rfl, trivial⟩, trivial, rfl⟩, rfl,
    Step.plain rfl (does_move (.tmp 17) (.bool ((!v1) || (decide (p0 < 0)))) trivial), ⟨⟨rfl, trivial⟩, trivial, rfl⟩, rfl,
    Step.guarded rfl rfl rfl rfl (fun hc => does_move (.tmp 0) (.int .i64 p0) trivial), ⟨⟨rfl, rfl, trivial⟩, trivial, rfl⟩, rfl,
    Step.guarded rfl rfl rfl rfl (fun hc => Does.strip (n' := [(19, (.opt (!((!v1) || (decide (p0 < 0)))) (.int .i64 p0)))]) (n := [(19, (.int .i64 p0))]) ⟨(.opt _ _ hc), trivial⟩ (does_bin .gtr 3 3 (.tmp 19) (.const (.int .i64 30)) .i64 p0 30 (.bool (decide (p0 > 30))) trivial (fun _ => rfl) (bin_gtr _ _ _ _))), ⟨⟨rfl, rfl, trivial⟩, trivial, rfl⟩, rfl,
    Step.plain rfl (does_or 18 20 ((!v1) || (decide (p0 < 0))) (decide (p0 > 30))), ⟨⟨rfl, rfl, trivial⟩, trivial, rfl⟩, rfl, rfl⟩ ?_
  refine aw_cov (cov_prune (s1 := ⟨[(0, (.int .i64 p0)), (1, (.int .u64 p1)), (21, (.bool (((!v1) || (decide (p0 < 0))) || (decide (p0 > 30)))))], [], 0⟩) ⟨rfl, rfl, rfl, trivial⟩ trivial (Nat.le_refl _)) ?_
  refine aw_cond rfl (fun hc => ?_) (fun hc => ?_)
  · replace H := ite_t hc H
    obtain ⟨v3, h4, H⟩ := bnd H
    refine aw_region (es := [_, _]) ⟨Step.plain rfl (does_call 13 0 (fun _ => .any) (.func 13) [] [] [] true [] (.bool v3) _ _ rfl fo13 rfl trivial trivial (congresslaw16_fixed_spec _ h4) trivial), ⟨trivial, trivial, rfl⟩, rfl,
      Step.plain rfl (does_assign (.tmp 22) (.bool v3) trivial), ⟨⟨rfl, trivial⟩, trivial, rfl⟩, rfl, rfl⟩ ?_
    refine aw_cov (cov_prune (s1 := ⟨[(4, (.bool v3))], [], 0⟩) ⟨rfl, trivial⟩ trivial (Nat.le_refl _)) ?_
    refine aw_ret ?_
    refine rt_then ?_
    exact fun a w hr => ⟨_, [(.bool v3)], hr, ⟨⟨_, rfl, .data _ trivial⟩, trivial⟩, by decide, by cases H; rfl⟩
  · replace H := ite_f hc H
    refine aw_skip ?_
    refine nx_seq ?_
    refine aw_region (es := [_, _]) ⟨Step.plain rfl (does_buildOwn 22 0 4 0 (e_api_Right z_api_Right) (fun j => (e_api_Right (([] : _root_.List api_Right).getD j z_api_Right))) #[] [] [] rfl so22 (by decide) trivial trivial (fun j h => match j, h with  | k + 0, h => absurd h (by omega))), ⟨trivial, trivial, rfl⟩, rfl,
      Step.plain rfl (does_assign (.tmp 23) (.own 0) trivial), ⟨⟨rfl, trivial⟩, trivial, rfl⟩, rfl, rfl⟩ ?_
    refine aw_cov (cov_prune (s1 := ⟨[(0, (.int .i64 p0)), (1, (.int .u64 p1)), (5, (.own 0))], [(0, some (.arr 4 ([] : _root_.List api_Right).length fun j => (e_api_Right (([] : _root_.List api_Right).getD j z_api_Right))))], 1⟩) ⟨rfl, rfl, rfl, trivial⟩ ⟨rfl, trivial⟩ (Nat.le_refl _)) ?_
    refine aw_seq ?_
    refine aw_region (es := [_]) ⟨Step.plain rfl (does_assign (.const (.int .i64 1)) (.int .i64 1) (fun _ => rfl)), ⟨trivial, trivial, rfl⟩, rfl, rfl⟩ ?_
    refine aw_cov (cov_prune (s1 := ⟨[(0, (.int .i64 p0)), (1, (.int .u64 p1)), (5, (.own 0)), (6, (.int .i64 1))], [(0, some (.arr 4 ([] : _root_.List api_Right).length fun j => (e_api_Right (([] : _root_.List api_Right).getD j z_api_Right))))], 1⟩) ⟨rfl, rfl, rfl, rfl, trivial⟩ ⟨rfl, trivial⟩ (Nat.le_refl _)) ?_
    obtain ⟨wn6, hwn6, Hrn6⟩ := bnd H
    refine aw_meet (fun y16 : _root_.List api_Right => (⟨[(0, (.int .i64 p0)), (1, (.int .u64 p1)), (5, (.own 0))], [(0, some (.arr 4 y16.length fun j => (e_api_Right (y16.getD j z_api_Right))))], 1⟩ : St)) (fun y16 => Fl.nx y16 = wn6) (fun y16 hy => ?_) (aw_block (aw_runs (fun x5 : Int × _root_.List api_Right => (⟨[(0, (.int .i64 p0)), (1, (.int .u64 p1)), (5, (.own 0)), (6, (.int .i64 x5.1))], [(0, some (.arr 4 x5.2.length fun j => (e_api_Right (x5.2.getD j z_api_Right))))], 1⟩ : St)) hwn6 (cov_prune ⟨rfl, rfl, rfl, rfl, trivial⟩ ⟨rfl, trivial⟩ (Nat.le_of_ble_eq_true rfl)) (fun x5 st H hsn6 => ?_)))
    · have H := nx_of hy Hrn6
      refine nx_seq ?_
      obtain ⟨v17, h18, H⟩ := bnd H
      refine aw_region (es := [_, _, _, _]) ⟨Step.plain rfl (does_move (.tmp 5) (.own 0) trivial), ⟨⟨rfl, trivial⟩, trivial, rfl⟩, rfl,
        Step.plain rfl (does_move (.tmp 1) (.int .u64 p1) trivial), ⟨⟨rfl, trivial⟩, trivial, rfl⟩, rfl,
        Step.plain rfl (does_callO 15 0 (fun _ => .any) (.func 15) [(.tmp 65), (.tmp 66)] [(.own 0), (.int .u64 p1)] [(0, (.arr 4 y16.length fun j => (e_api_Right (y16.getD j z_api_Right))))] [] true [(e_s_api_Right y16), (.int .u64 p1)] _ (.own 1) _ 1 1 _ _ rfl fo15 rfl ⟨trivial, trivial, trivial⟩ ⟨.ro _ _ (.own 0 _ _ _ (.head _) rfl (fun _ => (d_api_Right _))), .ro _ _ (.data _ trivial), trivial⟩ (right_Drop_spec y16 p1 _ h18) rfl (by simp) rfl trivial ⟨⟨Nat.le_of_ble_eq_true rfl, _, rfl, fun _ => (f_api_Right _)⟩, trivial⟩ (.own 0 (Nat.le_of_ble_eq_true rfl))), ⟨⟨rfl, rfl, trivial⟩, ⟨rfl, trivial⟩, rfl⟩, rfl,
        Step.plain rfl (does_assign (.tmp 67) (.own 1) trivial), ⟨⟨rfl, trivial⟩, trivial, rfl⟩, rfl, rfl⟩ ?_
      refine aw_cov (cov_prune (s1 := ⟨[(0, (.int .i64 p0)), (5, (.own 0)), (11, (.own 1))], [(0, some (.arr 4 y16.length fun j => (e_api_Right (y16.getD j z_api_Right)))), (1, some (.arr 4 v17.length fun j => (e_api_Right (v17.getD j z_api_Right))))], 2⟩) ⟨rfl, rfl, rfl, trivial⟩ ⟨rfl, rfl, trivial⟩ (Nat.le_refl _)) ?_
      refine aw_region (es := [_, _, _, _, _, _, _, _, _, _, _, _, _, _, _]) ⟨Step.plain rfl (does_move (.tmp 5) (.own 0) trivial), ⟨⟨rfl, trivial⟩, trivial, rfl⟩, rfl,
        Step.plain rfl (does_leno 22 4 y16.length 68 0 (fun j => (e_api_Right (y16.getD j z_api_Right))) el22), ⟨⟨rfl, trivial⟩, ⟨rfl, trivial⟩, rfl⟩, rfl,
        Step.plain rfl (does_move (.tmp 0) (.int .i64 p0) trivial), ⟨⟨rfl, trivial⟩, trivial, rfl⟩, rfl,
        Step.plain rfl (does_min _ _ (.tmp 70) (.const (.int .i64 16)) rfl .i64 p0 16 trivial (fun _ => rfl)), ⟨⟨rfl, trivial⟩, trivial, rfl⟩, rfl,
        Step.plain rfl (does_bin .eql 3 3 (.tmp 69) (.tmp 71) .i64 (y16.length : Int) (if 16 < p0 then 16 else p0) (.bool ((y16.length : Int) == (if 16 < p0 then 16 else p0))) trivial trivial (bin_eql _ _ _ _)), ⟨⟨rfl, rfl, trivial⟩, trivial, rfl⟩, rfl,
        Step.plain rfl (does_move (.tmp 72) (.bool ((y16.length : Int) == (if 16 < p0 then 16 else p0))) trivial), ⟨⟨rfl, trivial⟩, trivial, rfl⟩, rfl,
        Step.guarded rfl rfl rfl rfl (fun hc => does_move (.tmp 11) (.own 1) trivial), ⟨⟨rfl, rfl, trivial⟩, trivial, rfl⟩, rfl,
        Step.guarded rfl rfl rfl rfl (fun hc => Does.strip (n' := [(74, (.opt ((y16.length : Int) == (if 16 < p0 then 16 else p0)) (.own 1)))]) (n := [(74, (.own 1))]) ⟨(.opt _ _ hc), trivial⟩ (does_leno 22 4 v17.length 74 1 (fun j => (e_api_Right (v17.getD j z_api_Right))) el22)), ⟨⟨rfl, rfl, trivial⟩, ⟨rfl, trivial⟩, rfl⟩, rfl,
        Step.guarded rfl rfl rfl rfl (fun hc => does_move (.tmp 5) (.own 0) trivial), ⟨⟨rfl, rfl, trivial⟩, trivial, rfl⟩, rfl,
        Step.guarded rfl rfl rfl rfl (fun hc => Does.strip (n' := [(76, (.opt ((y16.length : Int) == (if 16 < p0 then 16 else p0)) (.own 0)))]) (n := [(76, (.own 0))]) ⟨(.opt _ _ hc), trivial⟩ (does_leno 22 4 y16.length 76 0 (fun j => (e_api_Right (y16.getD j z_api_Right))) el22)), ⟨⟨rfl, rfl, trivial⟩, ⟨rfl, trivial⟩, rfl⟩, rfl,
        Step.guarded rfl rfl rfl rfl (fun hc => Does.strip (n' := [(77, (.opt ((y16.length : Int) == (if 16 < p0 then 16 else p0)) (.int .i64 (y16.length : Int))))]) (n := [(77, (.int .i64 (y16.length : Int)))]) ⟨(.opt _ _ hc), trivial⟩ (does_bin .add 3 3 (.tmp 77) (.const (.int .i64 1)) .i64 (y16.length : Int) 1 (.int .i64 (IntKind.i64.wrap ((y16.length : Int) + 1))) trivial (fun _ => rfl) (bin_add _ _ _ _))), ⟨⟨rfl, rfl, trivial⟩, trivial, rfl⟩, rfl,
        Step.guarded rfl rfl rfl rfl (fun hc => Does.strip (n' := [(78, (.opt ((y16.length : Int) == (if 16 < p0 then 16 else p0)) (.int .i64 (IntKind.i64.wrap ((y16.length : Int) + 1)))))]) (n := [(78, (.int .i64 (IntKind.i64.wrap ((y16.length : Int) + 1))))]) ⟨(.opt _ _ hc), trivial⟩ (does_bin .quo 3 3 (.tmp 78) (.const (.int .i64 2)) .i64 (IntKind.i64.wrap ((y16.length : Int) + 1)) 2 (.int .i64 (IntKind.i64.wrap ((IntKind.i64.wrap ((y16.length : Int) + 1)).tdiv 2))) trivial (fun _ => rfl) (bin_quo _ _ _ _ (by decide)))), ⟨⟨rfl, rfl, trivial⟩, trivial, rfl⟩, rfl,
        Step.guarded rfl rfl rfl rfl (fun hc => Does.strip (n' := [(75, (.opt ((y16.length : Int) == (if 16 < p0 then 16 else p0)) (.int .i64 (v17.length : Int)))), (79, (.opt ((y16.length : Int) == (if 16 < p0 then 16 else p0)) (.int .i64 (IntKind.i64.wrap ((IntKind.i64.wrap ((y16.length : Int) + 1)).tdiv 2)))))]) (n := [(75, (.int .i64 (v17.length : Int))), (79, (.int .i64 (IntKind.i64.wrap ((IntKind.i64.wrap ((y16.length : Int) + 1)).tdiv 2))))]) ⟨(.opt _ _ hc), (.opt _ _ hc), trivial⟩ (does_bin .eql 3 3 (.tmp 75) (.tmp 79) .i64 (v17.length : Int) (IntKind.i64.wrap ((IntKind.i64.wrap ((y16.length : Int) + 1)).tdiv 2)) (.bool ((v17.length : Int) == (IntKind.i64.wrap ((IntKind.i64.wrap ((y16.length : Int) + 1)).tdiv 2)))) trivial trivial (bin_eql _ _ _ _))), ⟨⟨rfl, rfl, rfl, trivial⟩, trivial, rfl⟩, rfl,
        Step.plain rfl (does_and 73 80 ((y16.length : Int) == (if 16 < p0 then 16 else p0)) ((v17.length : Int) == (IntKind.i64.wrap ((IntKind.i64.wrap ((y16.length : Int) + 1)).tdiv 2)))), ⟨⟨rfl, rfl, trivial⟩, trivial, rfl⟩, rfl,
        Step.plain rfl (does_assign (.tmp 81) (.bool (((y16.length : Int) == (if 16 < p0 then 16 else p0)) && ((v17.length : Int) == (IntKind.i64.wrap ((IntKind.i64.wrap ((y16.length : Int) + 1)).tdiv 2))))) trivial), ⟨⟨rfl, trivial⟩, trivial, rfl⟩, rfl, rfl⟩ ?_
      obtain ⟨v19, hv19, H⟩ := lt_of H
      refine aw_cov (cov_prune (s1 := ⟨[(4, (.bool v19))], [], 2⟩) ⟨(by subst hv19; rfl), trivial⟩ trivial (Nat.le_refl _)) ?_
      refine aw_ret ?_
      exact fun a w hr => ⟨_, [(.bool v19)], hr, ⟨⟨_, rfl, .data _ trivial⟩, trivial⟩, by decide, by cases H; rfl⟩
    · refine aw_seq ?_
      refine aw_region (es := [_, _, _]) ⟨Step.plain rfl (does_move (.tmp 6) (.int .i64 x5.1) trivial), ⟨⟨rfl, trivial⟩, trivial, rfl⟩, rfl,
        Step.plain rfl (does_move (.tmp 0) (.int .i64 p0) trivial), ⟨⟨rfl, trivial⟩, trivial, rfl⟩, rfl,
        Step.plain rfl (does_bin .leq 3 3 (.tmp 24) (.tmp 25) .i64 x5.1 p0 (.bool (decide (x5.1 ≤ p0))) trivial trivial (bin_leq _ _ _ _)), ⟨⟨rfl, rfl, trivial⟩, trivial, rfl⟩, rfl, rfl⟩ ?_
      refine aw_cov (cov_prune (s1 := ⟨[(0, (.int .i64 p0)), (1, (.int .u64 p1)), (5, (.own 0)), (6, (.int .i64 x5.1)), (26, (.bool (decide (x5.1 ≤ p0))))], [(0, some (.arr 4 x5.2.length fun j => (e_api_Right (x5.2.getD j z_api_Right))))], 1⟩) ⟨rfl, rfl, rfl, rfl, rfl, trivial⟩ ⟨rfl, trivial⟩ (Nat.le_refl _)) ?_
      refine aw_cond rfl (fun hc => ?_) (fun hc => ?_)
      · replace H := ite_t hc H
        refine aw_skip ?_
        refine nx_seq ?_
        refine aw_seq ?_
        refine aw_jn (fun x15 : _root_.List api_Right => (⟨[(0, (.int .i64 p0)), (1, (.int .u64 p1)), (5, (.own 0)), (6, (.int .i64 x5.1))], [(0, some (.arr 4 x15.length fun j => (e_api_Right (x15.getD j z_api_Right))))], 3⟩ : St)) H (fun x15 H => ?_) (fun j7 H => ?_)
        · refine nx_seq ?_
          refine aw_region1 (es := [_, _, _]) ⟨Step.plain rfl (does_move (.tmp 6) (.int .i64 x5.1) trivial), ⟨⟨rfl, trivial⟩, trivial, rfl⟩, rfl,
            Step.plain rfl (does_bin .add 3 3 (.tmp 27) (.const (.int .i64 1)) .i64 x5.1 1 (.int .i64 (IntKind.i64.wrap (x5.1 + 1))) trivial (fun _ => rfl) (bin_add _ _ _ _)), ⟨⟨rfl, trivial⟩, trivial, rfl⟩, rfl,
            Step.plain rfl (does_assign (.tmp 28) (.int .i64 (IntKind.i64.wrap (x5.1 + 1))) trivial), ⟨⟨rfl, trivial⟩, trivial, rfl⟩, rfl, rfl⟩ ?_
          exact nx_loop ((IntKind.i64.wrap (x5.1 + 1)), x15) H (cov_of (fun i => match i with | 0 => 0 | k => k) ⟨⟨_, rfl, ⟨rfl, trivial⟩⟩, ⟨_, rfl, ⟨rfl, trivial⟩⟩, ⟨_, rfl, ⟨rfl, Nat.le_of_ble_eq_true rfl⟩⟩, ⟨_, rfl, ⟨rfl, trivial⟩⟩, trivial⟩ ⟨⟨Nat.le_of_ble_eq_true rfl, _, _, rfl, rfl, ⟨rfl, rfl, fun _ => .inl ⟨rfl, (d_api_Right _).plain⟩⟩⟩, trivial⟩ rfl)
        · refine aw_block ?_
          obtain ⟨v8, h9, H⟩ := bnd H
          refine aw_region (es := [_, _, _, _, _, _, _, _, _, _, _, _, _, _]) ⟨Step.plain rfl (does_move (.tmp 5) (.own 0) trivial), ⟨⟨rfl, trivial⟩, trivial, rfl⟩, rfl,
            Step.plain rfl (does_move (.tmp 6) (.int .i64 x5.1) trivial), ⟨⟨rfl, trivial⟩, trivial, rfl⟩, rfl,
            Step.plain rfl (does_convInt 3 23 (.tmp 31) .i64 .u64 x5.1 trivial rfl rfl), ⟨⟨rfl, trivial⟩, trivial, rfl⟩, rfl,
            Step.plain rfl (does_move (.tmp 1) (.int .u64 p1) trivial), ⟨⟨rfl, trivial⟩, trivial, rfl⟩, rfl,
            Step.plain rfl (does_move (.tmp 6) (.int .i64 x5.1) trivial), ⟨⟨rfl, trivial⟩, trivial, rfl⟩, rfl,
            Step.plain rfl (does_bin .rem 3 3 (.tmp 34) (.const (.int .i64 2)) .i64 x5.1 2 (.int .i64 (x5.1.tmod 2)) trivial (fun _ => rfl) (bin_rem _ _ _ _ (by decide))), ⟨⟨rfl, trivial⟩, trivial, rfl⟩, rfl,
            Step.plain rfl (does_convInt 3 23 (.tmp 35) .i64 .u64 (x5.1.tmod 2) trivial rfl rfl), ⟨⟨rfl, trivial⟩, trivial, rfl⟩, rfl,
            Step.plain rfl (does_bin .add 23 23 (.tmp 33) (.tmp 36) .u64 p1 (IntKind.u64.wrap ((x5.1.tmod 2))) (.int .u64 (IntKind.u64.wrap (p1 + (IntKind.u64.wrap ((x5.1.tmod 2)))))) trivial trivial (bin_add _ _ _ _)), ⟨⟨rfl, rfl, trivial⟩, trivial, rfl⟩, rfl,
            Step.plain rfl (does_callO 7 0 (fun _ => .any) (.func 7) [(.tmp 30), (.tmp 32), (.tmp 37), (.const (.int .i64 1))] [(.own 0), (.int .u64 (IntKind.u64.wrap (x5.1))), (.int .u64 (IntKind.u64.wrap (p1 + (IntKind.u64.wrap ((x5.1.tmod 2)))))), (.int .i64 1)] [(0, (.arr 4 x5.2.length fun j => (e_api_Right (x5.2.getD j z_api_Right))))] [] true [(e_s_api_Right x5.2), (.int .u64 (IntKind.u64.wrap (x5.1))), (.int .u64 (IntKind.u64.wrap (p1 + (IntKind.u64.wrap ((x5.1.tmod 2)))))), (.int .i64 1)] _ (resV [(.own 1), (.int .i64 v8.2)]) _ 1 1 _ _ rfl fo7 rfl ⟨trivial, trivial, trivial, (fun _ => rfl), trivial⟩ ⟨.ro _ _ (.own 0 _ _ _ (.head _) rfl (fun _ => (d_api_Right _))), .ro _ _ (.data _ trivial), .ro _ _ (.data _ trivial), .ro _ _ (.data _ trivial), trivial⟩ (right_Mint_spec x5.2 (IntKind.u64.wrap (x5.1)) (IntKind.u64.wrap (p1 + (IntKind.u64.wrap ((x5.1.tmod 2))))) 1 _ h9) rfl (by simp) rfl trivial ⟨⟨Nat.le_of_ble_eq_true rfl, _, rfl, fun _ => (f_api_Right _)⟩, trivial⟩ (.tup _ _ _ (fun j => match j with | 0 => .own 0 (Nat.le_of_ble_eq_true rfl) | 1 => .data _ (trivial) | _ + 2 => .data _ trivial))), ⟨⟨rfl, rfl, rfl, trivial⟩, ⟨rfl, trivial⟩, rfl⟩, rfl,
            Step.plain rfl (does_move (.tmp 38) (resV [(.own 1), (.int .i64 v8.2)]) trivial), ⟨⟨rfl, trivial⟩, trivial, rfl⟩, rfl,
            Step.plain rfl (does_extract 29 0 2 (fun j => [(.own 1), (.int .i64 v8.2)].getD j (.bool false)) (Nat.le_of_ble_eq_true rfl)), ⟨⟨rfl, trivial⟩, trivial, rfl⟩, rfl,
            Step.plain rfl (does_extract 29 1 2 (fun j => [(.own 1), (.int .i64 v8.2)].getD j (.bool false)) (Nat.le_of_ble_eq_true rfl)), ⟨⟨rfl, trivial⟩, trivial, rfl⟩, rfl,
            Step.plain rfl (does_assign (.tmp 39) (.own 1) trivial), ⟨⟨rfl, trivial⟩, trivial, rfl⟩, rfl,
            Step.plain rfl (does_assign (.tmp 40) (.int .i64 v8.2) trivial), ⟨⟨rfl, trivial⟩, trivial, rfl⟩, rfl, rfl⟩ ?_
          refine aw_cov (cov_prune (s1 := ⟨[(0, (.int .i64 p0)), (1, (.int .u64 p1)), (5, (.own 0)), (6, (.int .i64 x5.1)), (7, (.own 1)), (8, (.int .i64 v8.2))], [(0, some (.arr 4 x5.2.length fun j => (e_api_Right (x5.2.getD j z_api_Right)))), (1, some (.arr 4 v8.1.length fun j => (e_api_Right (v8.1.getD j z_api_Right))))], 2⟩) ⟨rfl, rfl, rfl, rfl, rfl, rfl, trivial⟩ ⟨rfl, rfl, trivial⟩ (Nat.le_refl _)) ?_
          refine aw_seq ?_
          refine aw_region (es := [_, _, _, _, _, _, _, _, _, _, _, _, _]) ⟨Step.plain rfl (does_move (.tmp 8) (.int .i64 v8.2) trivial), ⟨⟨rfl, trivial⟩, trivial, rfl⟩, rfl,
            Step.plain rfl (does_bin .eql 26 26 (.tmp 41) (.const (.int .i64 0)) .i64 v8.2 0 (.bool (v8.2 == 0)) trivial (fun _ => rfl) (bin_eql _ _ _ _)), ⟨⟨rfl, trivial⟩, trivial, rfl⟩, rfl,
            Step.plain rfl (does_move (.tmp 6) (.int .i64 x5.1) trivial), ⟨⟨rfl, trivial⟩, trivial, rfl⟩, rfl,
            Step.plain rfl (does_bin .leq 3 3 (.tmp 43) (.const (.int .i64 16)) .i64 x5.1 16 (.bool (decide (x5.1 ≤ 16))) trivial (fun _ => rfl) (bin_leq _ _ _ _)), ⟨⟨rfl, trivial⟩, trivial, rfl⟩, rfl,
            Step.plain rfl (does_eqBool true 4 4 (.tmp 42) (.tmp 44) (v8.2 == 0) (decide (x5.1 ≤ 16)) trivial trivial rfl), ⟨⟨rfl, rfl, trivial⟩, trivial, rfl⟩, rfl,
            Step.plain rfl (does_move (.tmp 45) (.bool ((v8.2 == 0) != (decide (x5.1 ≤ 16)))) trivial), ⟨⟨rfl, trivial⟩, trivial, rfl⟩, rfl,
            Step.guarded rfl rfl rfl rfl (fun hc => does_move (.tmp 8) (.int .i64 v8.2) trivial), ⟨⟨rfl, rfl, trivial⟩, trivial, rfl⟩, rfl,
            Step.guarded rfl rfl rfl rfl (fun hc => Does.strip (n' := [(47, (.opt (!((v8.2 == 0) != (decide (x5.1 ≤ 16)))) (.int .i64 v8.2)))]) (n := [(47, (.int .i64 v8.2))]) ⟨(.opt _ _ hc), trivial⟩ (does_bin .neq 26 26 (.tmp 47) (.const (.int .i64 0)) .i64 v8.2 0 (.bool (v8.2 != 0)) trivial (fun _ => rfl) (bin_neq _ _ _ _))), ⟨⟨rfl, rfl, trivial⟩, trivial, rfl⟩, rfl,
            Step.guarded rfl rfl rfl rfl (fun hc => Does.strip (n' := [(48, (.opt (!((v8.2 == 0) != (decide (x5.1 ≤ 16)))) (.bool (v8.2 != 0))))]) (n := [(48, (.bool (v8.2 != 0)))]) ⟨(.opt _ _ hc), trivial⟩ (does_move (.tmp 48) (.bool (v8.2 != 0)) trivial)), ⟨⟨rfl, rfl, trivial⟩, trivial, rfl⟩, rfl,
            Step.guarded rfl rfl rfl rfl (fun hc => does_move (.tmp 8) (.int .i64 v8.2) trivial), ⟨⟨rfl, rfl, trivial⟩, trivial, rfl⟩, rfl,
            Step.guarded rfl rfl rfl rfl (fun hc => Does.strip (n' := [(50, (.opt ((!((v8.2 == 0) != (decide (x5.1 ≤ 16)))) && (v8.2 != 0)) (.int .i64 v8.2)))]) (n := [(50, (.int .i64 v8.2))]) ⟨(.opt _ _ hc), trivial⟩ (does_bin .neq 26 26 (.tmp 50) (.const (.int .i64 161)) .i64 v8.2 161 (.bool (v8.2 != 161)) trivial (fun _ => rfl) (bin_neq _ _ _ _))), ⟨⟨rfl, rfl, trivial⟩, trivial, rfl⟩, rfl,
            Step.guarded rfl rfl rfl rfl (fun hc => Does.strip (n' := [(49, (.opt (!((v8.2 == 0) != (decide (x5.1 ≤ 16)))) (.bool (v8.2 != 0)))), (51, (.opt ((!((v8.2 == 0) != (decide (x5.1 ≤ 16)))) && (v8.2 != 0)) (.bool (v8.2 != 161))))]) (n := [(49, (.bool (v8.2 != 0))), (51, (.opt (v8.2 != 0) (.bool (v8.2 != 161))))]) ⟨(.opt _ _ hc), (.half _ _ hc), trivial⟩ (does_and 49 51 (v8.2 != 0) (v8.2 != 161))), ⟨⟨rfl, rfl, rfl, trivial⟩, trivial, rfl⟩, rfl,
            Step.plain rfl (does_or 46 52 ((v8.2 == 0) != (decide (x5.1 ≤ 16))) ((v8.2 != 0) && (v8.2 != 161))), ⟨⟨rfl, rfl, trivial⟩, trivial, rfl⟩, rfl, rfl⟩ ?_
          obtain ⟨v10, hv10, H⟩ := lt_of H
          refine aw_cov (cov_prune (s1 := ⟨[(0, (.int .i64 p0)), (1, (.int .u64 p1)), (5, (.own 0)), (6, (.int .i64 x5.1)), (7, (.own 1)), (8, (.int .i64 v8.2)), (53, (.bool v10))], [(0, some (.arr 4 x5.2.length fun j => (e_api_Right (x5.2.getD j z_api_Right)))), (1, some (.arr 4 v8.1.length fun j => (e_api_Right (v8.1.getD j z_api_Right))))], 2⟩) ⟨rfl, rfl, rfl, rfl, rfl, rfl, (by subst hv10; rfl), trivial⟩ ⟨rfl, rfl, trivial⟩ (Nat.le_refl _)) ?_
          refine aw_cond rfl (fun hc => ?_) (fun hc => ?_)
          · replace H := ite_t hc H
            refine aw_region (es := [_]) ⟨Step.plain rfl (does_assign (.const (.bool false)) (.bool false) (fun _ => rfl)), ⟨trivial, trivial, rfl⟩, rfl, rfl⟩ ?_
            refine aw_cov (cov_prune (s1 := ⟨[(4, (.bool false))], [], 2⟩) ⟨rfl, trivial⟩ trivial (Nat.le_refl _)) ?_
            refine aw_ret ?_
            replace H := rt_of H hsn6 Hrn6
            refine rt_then ?_
            refine rt_blk ?_
            refine rt_then ?_
            refine rt_then ?_
            refine rt_then ?_
            refine rt_blk ?_
            refine rt_then ?_
            refine rt_then ?_
            exact fun a w hr => ⟨_, [(.bool false)], hr, ⟨⟨_, rfl, .data _ trivial⟩, trivial⟩, by decide, by cases H; rfl⟩
          · replace H := ite_f hc H
            refine aw_skip ?_
            refine nx_seq ?_
            refine aw_seq ?_
            refine aw_region (es := [_, _]) ⟨Step.plain rfl (does_move (.tmp 8) (.int .i64 v8.2) trivial), ⟨⟨rfl, trivial⟩, trivial, rfl⟩, rfl,
              Step.plain rfl (does_bin .eql 26 26 (.tmp 54) (.const (.int .i64 0)) .i64 v8.2 0 (.bool (v8.2 == 0)) trivial (fun _ => rfl) (bin_eql _ _ _ _)), ⟨⟨rfl, trivial⟩, trivial, rfl⟩, rfl, rfl⟩ ?_
            refine aw_cov (cov_prune (s1 := ⟨[(0, (.int .i64 p0)), (1, (.int .u64 p1)), (5, (.own 0)), (6, (.int .i64 x5.1)), (7, (.own 1)), (55, (.bool (v8.2 == 0)))], [(0, some (.arr 4 x5.2.length fun j => (e_api_Right (x5.2.getD j z_api_Right)))), (1, some (.arr 4 v8.1.length fun j => (e_api_Right (v8.1.getD j z_api_Right))))], 2⟩) ⟨rfl, rfl, rfl, rfl, rfl, rfl, trivial⟩ ⟨rfl, rfl, trivial⟩ (Nat.le_refl _)) ?_
            refine aw_jn (fun x12 : _root_.List api_Right => (⟨[(0, (.int .i64 p0)), (1, (.int .u64 p1)), (5, (.own 0)), (6, (.int .i64 x5.1))], [(0, some (.arr 4 x12.length fun j => (e_api_Right (x12.getD j z_api_Right))))], 2⟩ : St)) H (fun x12 H => ?_) (fun j11 H => ?_)
            · refine nx_seq ?_
              obtain ⟨v13, h14, H⟩ := bnd H
              refine aw_region (es := [_, _, _, _, _, _, _]) ⟨Step.plain rfl (does_move (.tmp 5) (.own 0) trivial), ⟨⟨rfl, trivial⟩, trivial, rfl⟩, rfl,
                Step.plain rfl (does_callO 11 0 (fun _ => .any) (.func 11) [(.tmp 58), (.const (.int .u64 1))] [(.own 0), (.int .u64 1)] [(0, (.arr 4 x12.length fun j => (e_api_Right (x12.getD j z_api_Right))))] [] true [(e_s_api_Right x12), (.int .u64 1)] _ (resV [(.own 2), (.int .i64 v13.2)]) _ 2 1 _ _ rfl fo11 rfl ⟨trivial, (fun _ => rfl), trivial⟩ ⟨.ro _ _ (.own 0 _ _ _ (.head _) rfl (fun _ => (d_api_Right _))), .ro _ _ (.data _ trivial), trivial⟩ (right_Revoke_spec x12 1 _ h14) rfl (by simp) rfl trivial ⟨⟨Nat.le_of_ble_eq_true rfl, _, rfl, fun _ => (f_api_Right _)⟩, trivial⟩ (.tup _ _ _ (fun j => match j with | 0 => .own 0 (Nat.le_of_ble_eq_true rfl) | 1 => .data _ (trivial) | _ + 2 => .data _ trivial))), ⟨⟨rfl, trivial⟩, ⟨rfl, trivial⟩, rfl⟩, rfl,
                Step.plain rfl (does_move (.tmp 59) (resV [(.own 2), (.int .i64 v13.2)]) trivial), ⟨⟨rfl, trivial⟩, trivial, rfl⟩, rfl,
                Step.plain rfl (does_extract 57 0 2 (fun j => [(.own 2), (.int .i64 v13.2)].getD j (.bool false)) (Nat.le_of_ble_eq_true rfl)), ⟨⟨rfl, trivial⟩, trivial, rfl⟩, rfl,
                Step.plain rfl (does_extract 57 1 2 (fun j => [(.own 2), (.int .i64 v13.2)].getD j (.bool false)) (Nat.le_of_ble_eq_true rfl)), ⟨⟨rfl, trivial⟩, trivial, rfl⟩, rfl,
                Step.plain rfl (does_assign (.tmp 60) (.own 2) trivial), ⟨⟨rfl, trivial⟩, trivial, rfl⟩, rfl,
                Step.plain rfl (does_assign (.tmp 61) (.int .i64 v13.2) trivial), ⟨⟨rfl, trivial⟩, trivial, rfl⟩, rfl, rfl⟩ ?_
              refine aw_cov (cov_prune (s1 := ⟨[(0, (.int .i64 p0)), (1, (.int .u64 p1)), (5, (.own 0)), (6, (.int .i64 x5.1)), (9, (.own 2)), (10, (.int .i64 v13.2))], [(0, some (.arr 4 x12.length fun j => (e_api_Right (x12.getD j z_api_Right)))), (2, some (.arr 4 v13.1.length fun j => (e_api_Right (v13.1.getD j z_api_Right))))], 3⟩) ⟨rfl, rfl, rfl, rfl, rfl, rfl, trivial⟩ ⟨rfl, rfl, trivial⟩ (Nat.le_refl _)) ?_
              refine aw_region (es := [_, _]) ⟨Step.plain rfl (does_move (.tmp 10) (.int .i64 v13.2) trivial), ⟨⟨rfl, trivial⟩, trivial, rfl⟩, rfl,
                Step.plain rfl (does_bin .eql 26 26 (.tmp 62) (.const (.int .i64 0)) .i64 v13.2 0 (.bool (v13.2 == 0)) trivial (fun _ => rfl) (bin_eql _ _ _ _)), ⟨⟨rfl, trivial⟩, trivial, rfl⟩, rfl, rfl⟩ ?_
              refine aw_cov (cov_prune (s1 := ⟨[(0, (.int .i64 p0)), (1, (.int .u64 p1)), (5, (.own 0)), (6, (.int .i64 x5.1)), (9, (.own 2)), (63, (.bool (v13.2 == 0)))], [(0, some (.arr 4 x12.length fun j => (e_api_Right (x12.getD j z_api_Right)))), (2, some (.arr 4 v13.1.length fun j => (e_api_Right (v13.1.getD j z_api_Right))))], 3⟩) ⟨rfl, rfl, rfl, rfl, rfl, rfl, trivial⟩ ⟨rfl, rfl, trivial⟩ (Nat.le_refl _)) ?_
              refine aw_cond rfl (fun hc => ?_) (fun hc => ?_)
              · replace H := ite_t hc H
                refine aw_region1 (es := [_, _]) ⟨Step.plain rfl (does_move (.tmp 9) (.own 2) trivial), ⟨⟨rfl, trivial⟩, trivial, rfl⟩, rfl,
                  Step.plain rfl (does_assign (.tmp 64) (.own 2) trivial), ⟨⟨rfl, trivial⟩, trivial, rfl⟩, rfl, rfl⟩ ?_
                refine nx_blk ?_
                exact nx_join (v13.1) H (cov_of (fun i => match i with | 0 => 2 | k => k) ⟨⟨_, rfl, ⟨rfl, trivial⟩⟩, ⟨_, rfl, ⟨rfl, trivial⟩⟩, ⟨_, rfl, ⟨rfl, Nat.le_of_ble_eq_true rfl⟩⟩, ⟨_, rfl, ⟨rfl, trivial⟩⟩, trivial⟩ ⟨⟨Nat.le_of_ble_eq_true rfl, _, _, rfl, rfl, ⟨rfl, rfl, fun _ => .inl ⟨rfl, (d_api_Right _).plain⟩⟩⟩, trivial⟩ rfl)
              · replace H := ite_f hc H
                refine aw_skip ?_
                refine nx_blk ?_
                exact nx_join (x12) H (cov_of (fun i => match i with | 0 => 0 | k => k) ⟨⟨_, rfl, ⟨rfl, trivial⟩⟩, ⟨_, rfl, ⟨rfl, trivial⟩⟩, ⟨_, rfl, ⟨rfl, Nat.le_of_ble_eq_true rfl⟩⟩, ⟨_, rfl, ⟨rfl, trivial⟩⟩, trivial⟩ ⟨⟨Nat.le_of_ble_eq_true rfl, _, _, rfl, rfl, ⟨rfl, rfl, fun _ => .inl ⟨rfl, (d_api_Right _).plain⟩⟩⟩, trivial⟩ rfl)
            · refine aw_cond rfl (fun hc => ?_) (fun hc => ?_)
              · replace H := ite_t hc H
                refine aw_region1 (es := [_, _]) ⟨Step.plain rfl (does_move (.tmp 7) (.own 1) trivial), ⟨⟨rfl, trivial⟩, trivial, rfl⟩, rfl,
                  Step.plain rfl (does_assign (.tmp 56) (.own 1) trivial), ⟨⟨rfl, trivial⟩, trivial, rfl⟩, rfl, rfl⟩ ?_
                exact nx_join (v8.1) H (cov_of (fun i => match i with | 0 => 1 | k => k) ⟨⟨_, rfl, ⟨rfl, trivial⟩⟩, ⟨_, rfl, ⟨rfl, trivial⟩⟩, ⟨_, rfl, ⟨rfl, Nat.le_of_ble_eq_true rfl⟩⟩, ⟨_, rfl, ⟨rfl, trivial⟩⟩, trivial⟩ ⟨⟨Nat.le_of_ble_eq_true rfl, _, _, rfl, rfl, ⟨rfl, rfl, fun _ => .inl ⟨rfl, (d_api_Right _).plain⟩⟩⟩, trivial⟩ rfl)
              · replace H := ite_f hc H
                refine aw_skip ?_
                exact nx_join (x5.2) H (cov_of (fun i => match i with | 0 => 0 | k => k) ⟨⟨_, rfl, ⟨rfl, trivial⟩⟩, ⟨_, rfl, ⟨rfl, trivial⟩⟩, ⟨_, rfl, ⟨rfl, Nat.le_of_ble_eq_true rfl⟩⟩, ⟨_, rfl, ⟨rfl, trivial⟩⟩, trivial⟩ ⟨⟨Nat.le_of_ble_eq_true rfl, _, _, rfl, rfl, ⟨rfl, rfl, fun _ => .inl ⟨rfl, (d_api_Right _).plain⟩⟩⟩, trivial⟩ rfl)
      · replace H := ite_f hc H
        refine aw_exit ?_
        refine ex_then ?_
        refine ex_then ?_
        refine ex_here ?_
        exact nx_ljoin (x5.2) H hsn6 (cov_prune ⟨rfl, rfl, rfl, trivial⟩ ⟨rfl, trivial⟩ (Nat.le_of_ble_eq_true rfl))
end Go.Proofs.Ytffnegdahhlncaa
