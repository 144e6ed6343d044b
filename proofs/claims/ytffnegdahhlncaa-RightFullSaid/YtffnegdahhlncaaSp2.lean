/- Printed by gen.py. Conditions: none. -/
import Derived.Test.YtffnegdahhlncaaSp1
import Derived.KernelRfl
set_option linter.unusedVariables false
set_option maxRecDepth 100000
namespace Go.Proofs.Ytffnegdahhlncaa
open Go.Eng
theorem congresslaw16_fixed_spec (r : Bool) (H : congresslaw16_fixed = some r) : FSpec Try.prog 13 [] (.bool r) := by
  refine spec_of (fn := Try.f13) (args := []) Try.func13 rfl (Nat.le_of_ble_eq_true rfl) ?_
  rintro ⟨G, w0, W, S, Sp⟩ hG
  cases hG
  unfold congresslaw16_fixed at H
  refine aw_region (es := [_]) ⟨Step.plain rfl (does_assign (.const (.bool false)) (.bool false) (fun _ => rfl)), ⟨trivial, trivial, rfl⟩, rfl, rfl⟩ ?_
  refine aw_cov (cov_prune (s1 := ⟨[], [], 0⟩) trivial trivial (Nat.le_refl _)) ?_
  obtain ⟨v1, h2, H⟩ := bnd H
  refine aw_region (es := [_, _, _, _, _, _]) ⟨Step.plain rfl (does_callO 7 0 (fun _ => .any) (.func 7) [(.const (.slice none 0 0)), (.const (.int .u64 9)), (.const (.int .u64 1)), (.const (.int .i64 6))] [(e_s_api_Right []), (.int .u64 9), (.int .u64 1), (.int .i64 6)] [] [] true [(e_s_api_Right []), (.int .u64 9), (.int .u64 1), (.int .i64 6)] _ (resV [(.own 0), (.int .i64 v1.2)]) _ 0 1 _ _ rfl fo7 rfl ⟨(fun _ => ⟨none, 0, rfl, Nat.le_refl _, .inl rfl⟩), (fun _ => rfl), (fun _ => rfl), (fun _ => rfl), trivial⟩ ⟨.ro _ _ (.data _ (d_s_api_Right [])), .ro _ _ (.data _ trivial), .ro _ _ (.data _ trivial), .ro _ _ (.data _ trivial), trivial⟩ (right_Mint_spec [] 9 1 6 _ h2) rfl (by simp) rfl trivial ⟨⟨Nat.le_of_ble_eq_true rfl, _, rfl, fun _ => (f_api_Right _)⟩, trivial⟩ (.tup _ _ _ (fun j => match j with | 0 => .own 0 (Nat.le_of_ble_eq_true rfl) | 1 => .data _ (trivial) | _ + 2 => .data _ trivial))), ⟨trivial, trivial, rfl⟩, rfl,
    Step.plain rfl (does_move (.tmp 14) (resV [(.own 0), (.int .i64 v1.2)]) trivial), ⟨⟨rfl, trivial⟩, trivial, rfl⟩, rfl,
    Step.plain rfl (does_extract 13 0 2 (fun j => [(.own 0), (.int .i64 v1.2)].getD j (.bool false)) (Nat.le_of_ble_eq_true rfl)), ⟨⟨rfl, trivial⟩, trivial, rfl⟩, rfl,
    Step.plain rfl (does_extract 13 1 2 (fun j => [(.own 0), (.int .i64 v1.2)].getD j (.bool false)) (Nat.le_of_ble_eq_true rfl)), ⟨⟨rfl, trivial⟩, trivial, rfl⟩, rfl,
    Step.plain rfl (does_assign (.tmp 15) (.own 0) trivial), ⟨⟨rfl, trivial⟩, trivial, rfl⟩, rfl,
    Step.plain rfl (does_assign (.tmp 16) (.int .i64 v1.2) trivial), ⟨⟨rfl, trivial⟩, trivial, rfl⟩, rfl, rfl⟩ ?_
  refine aw_cov (cov_prune (s1 := ⟨[(1, (.own 0)), (2, (.int .i64 v1.2))], [(0, some (.arr 4 v1.1.length fun j => (e_api_Right (v1.1.getD j z_api_Right))))], 1⟩) ⟨rfl, rfl, trivial⟩ ⟨rfl, trivial⟩ (Nat.le_refl _)) ?_
  obtain ⟨v3, h4, H⟩ := bnd H
  refine aw_region (es := [_, _, _, _, _, _, _]) ⟨Step.plain rfl (does_move (.tmp 1) (.own 0) trivial), ⟨⟨rfl, trivial⟩, trivial, rfl⟩, rfl,
    Step.plain rfl (does_call 9 0 (fun _ => .any) (.func 9) [(.tmp 18), (.const (.int .u64 9)), (.const (.int .i64 2))] [(.own 0), (.int .u64 9), (.int .i64 2)] [(0, (.arr 4 v1.1.length fun j => (e_api_Right (v1.1.getD j z_api_Right))))] true [(e_s_api_Right v1.1), (.int .u64 9), (.int .i64 2)] (resV [(.int .u64 v3.1), (.int .i64 v3.2)]) _ _ rfl fo9 rfl ⟨trivial, (fun _ => rfl), (fun _ => rfl), trivial⟩ ⟨.own 0 _ _ _ (.head _) rfl (fun _ => (d_api_Right _)), .data _ trivial, .data _ trivial, trivial⟩ (right_Check_spec v1.1 9 2 _ h4) (res_flat2 trivial trivial)), ⟨⟨rfl, trivial⟩, ⟨rfl, trivial⟩, rfl⟩, rfl,
    Step.plain rfl (does_move (.tmp 19) (resV [(.int .u64 v3.1), (.int .i64 v3.2)]) trivial), ⟨⟨rfl, trivial⟩, trivial, rfl⟩, rfl,
    Step.plain rfl (does_extract 17 0 2 (fun j => [(.int .u64 v3.1), (.int .i64 v3.2)].getD j (.bool false)) (Nat.le_of_ble_eq_true rfl)), ⟨⟨rfl, trivial⟩, trivial, rfl⟩, rfl,
    Step.plain rfl (does_extract 17 1 2 (fun j => [(.int .u64 v3.1), (.int .i64 v3.2)].getD j (.bool false)) (Nat.le_of_ble_eq_true rfl)), ⟨⟨rfl, trivial⟩, trivial, rfl⟩, rfl,
    Step.plain rfl (does_assign (.tmp 20) (.int .u64 v3.1) trivial), ⟨⟨rfl, trivial⟩, trivial, rfl⟩, rfl,
    Step.plain rfl (does_assign (.tmp 21) (.int .i64 v3.2) trivial), ⟨⟨rfl, trivial⟩, trivial, rfl⟩, rfl, rfl⟩ ?_
  refine aw_cov (cov_prune (s1 := ⟨[(1, (.own 0)), (2, (.int .i64 v1.2)), (3, (.int .u64 v3.1)), (4, (.int .i64 v3.2))], [(0, some (.arr 4 v1.1.length fun j => (e_api_Right (v1.1.getD j z_api_Right))))], 1⟩) ⟨rfl, rfl, rfl, rfl, trivial⟩ ⟨rfl, trivial⟩ (Nat.le_refl _)) ?_
  obtain ⟨v5, h6, H⟩ := bnd H
  refine aw_region (es := [_, _, _, _, _, _, _]) ⟨Step.plain rfl (does_move (.tmp 1) (.own 0) trivial), ⟨⟨rfl, trivial⟩, trivial, rfl⟩, rfl,
    Step.plain rfl (does_call 9 0 (fun _ => .any) (.func 9) [(.tmp 23), (.const (.int .u64 9)), (.const (.int .i64 1))] [(.own 0), (.int .u64 9), (.int .i64 1)] [(0, (.arr 4 v1.1.length fun j => (e_api_Right (v1.1.getD j z_api_Right))))] true [(e_s_api_Right v1.1), (.int .u64 9), (.int .i64 1)] (resV [(.int .u64 v5.1), (.int .i64 v5.2)]) _ _ rfl fo9 rfl ⟨trivial, (fun _ => rfl), (fun _ => rfl), trivial⟩ ⟨.own 0 _ _ _ (.head _) rfl (fun _ => (d_api_Right _)), .data _ trivial, .data _ trivial, trivial⟩ (right_Check_spec v1.1 9 1 _ h6) (res_flat2 trivial trivial)), ⟨⟨rfl, trivial⟩, ⟨rfl, trivial⟩, rfl⟩, rfl,
    Step.plain rfl (does_move (.tmp 24) (resV [(.int .u64 v5.1), (.int .i64 v5.2)]) trivial), ⟨⟨rfl, trivial⟩, trivial, rfl⟩, rfl,
    Step.plain rfl (does_extract 22 0 2 (fun j => [(.int .u64 v5.1), (.int .i64 v5.2)].getD j (.bool false)) (Nat.le_of_ble_eq_true rfl)), ⟨⟨rfl, trivial⟩, trivial, rfl⟩, rfl,
    Step.plain rfl (does_extract 22 1 2 (fun j => [(.int .u64 v5.1), (.int .i64 v5.2)].getD j (.bool false)) (Nat.le_of_ble_eq_true rfl)), ⟨⟨rfl, trivial⟩, trivial, rfl⟩, rfl,
    Step.plain rfl (does_assign (.tmp 25) (.int .u64 v5.1) trivial), ⟨⟨rfl, trivial⟩, trivial, rfl⟩, rfl,
    Step.plain rfl (does_assign (.tmp 26) (.int .i64 v5.2) trivial), ⟨⟨rfl, trivial⟩, trivial, rfl⟩, rfl, rfl⟩ ?_
  refine aw_cov (cov_prune (s1 := ⟨[(1, (.own 0)), (2, (.int .i64 v1.2)), (3, (.int .u64 v3.1)), (4, (.int .i64 v3.2)), (6, (.int .i64 v5.2))], [(0, some (.arr 4 v1.1.length fun j => (e_api_Right (v1.1.getD j z_api_Right))))], 1⟩) ⟨rfl, rfl, rfl, rfl, rfl, trivial⟩ ⟨rfl, trivial⟩ (Nat.le_refl _)) ?_
  obtain ⟨v7, h8, H⟩ := bnd H
  refine aw_region (es := [_, _, _, _, _, _, _]) ⟨Step.plain rfl (does_move (.tmp 1) (.own 0) trivial), ⟨⟨rfl, trivial⟩, trivial, rfl⟩, rfl,
    Step.plain rfl (does_call 9 0 (fun _ => .any) (.func 9) [(.tmp 28), (.const (.int .u64 8)), (.const (.int .i64 2))] [(.own 0), (.int .u64 8), (.int .i64 2)] [(0, (.arr 4 v1.1.length fun j => (e_api_Right (v1.1.getD j z_api_Right))))] true [(e_s_api_Right v1.1), (.int .u64 8), (.int .i64 2)] (resV [(.int .u64 v7.1), (.int .i64 v7.2)]) _ _ rfl fo9 rfl ⟨trivial, (fun _ => rfl), (fun _ => rfl), trivial⟩ ⟨.own 0 _ _ _ (.head _) rfl (fun _ => (d_api_Right _)), .data _ trivial, .data _ trivial, trivial⟩ (right_Check_spec v1.1 8 2 _ h8) (res_flat2 trivial trivial)), ⟨⟨rfl, trivial⟩, ⟨rfl, trivial⟩, rfl⟩, rfl,
    Step.plain rfl (does_move (.tmp 29) (resV [(.int .u64 v7.1), (.int .i64 v7.2)]) trivial), ⟨⟨rfl, trivial⟩, trivial, rfl⟩, rfl,
    Step.plain rfl (does_extract 27 0 2 (fun j => [(.int .u64 v7.1), (.int .i64 v7.2)].getD j (.bool false)) (Nat.le_of_ble_eq_true rfl)), ⟨⟨rfl, trivial⟩, trivial, rfl⟩, rfl,
    Step.plain rfl (does_extract 27 1 2 (fun j => [(.int .u64 v7.1), (.int .i64 v7.2)].getD j (.bool false)) (Nat.le_of_ble_eq_true rfl)), ⟨⟨rfl, trivial⟩, trivial, rfl⟩, rfl,
    Step.plain rfl (does_assign (.tmp 30) (.int .u64 v7.1) trivial), ⟨⟨rfl, trivial⟩, trivial, rfl⟩, rfl,
    Step.plain rfl (does_assign (.tmp 31) (.int .i64 v7.2) trivial), ⟨⟨rfl, trivial⟩, trivial, rfl⟩, rfl, rfl⟩ ?_
  refine aw_cov (cov_prune (s1 := ⟨[(1, (.own 0)), (2, (.int .i64 v1.2)), (3, (.int .u64 v3.1)), (4, (.int .i64 v3.2)), (6, (.int .i64 v5.2)), (8, (.int .i64 v7.2))], [(0, some (.arr 4 v1.1.length fun j => (e_api_Right (v1.1.getD j z_api_Right))))], 1⟩) ⟨rfl, rfl, rfl, rfl, rfl, rfl, trivial⟩ ⟨rfl, trivial⟩ (Nat.le_refl _)) ?_
  obtain ⟨v9, h10, H⟩ := bnd H
  refine aw_region (es := [_, _, _, _, _, _, _]) ⟨Step.plain rfl (does_move (.tmp 1) (.own 0) trivial), ⟨⟨rfl, trivial⟩, trivial, rfl⟩, rfl,
    Step.plain rfl (does_callO 11 0 (fun _ => .any) (.func 11) [(.tmp 33), (.const (.int .u64 9))] [(.own 0), (.int .u64 9)] [(0, (.arr 4 v1.1.length fun j => (e_api_Right (v1.1.getD j z_api_Right))))] [] true [(e_s_api_Right v1.1), (.int .u64 9)] _ (resV [(.own 1), (.int .i64 v9.2)]) _ 1 1 _ _ rfl fo11 rfl ⟨trivial, (fun _ => rfl), trivial⟩ ⟨.ro _ _ (.own 0 _ _ _ (.head _) rfl (fun _ => (d_api_Right _))), .ro _ _ (.data _ trivial), trivial⟩ (right_Revoke_spec v1.1 9 _ h10) rfl (by simp) rfl trivial ⟨⟨Nat.le_of_ble_eq_true rfl, _, rfl, fun _ => (f_api_Right _)⟩, trivial⟩ (.tup _ _ _ (fun j => match j with | 0 => .own 0 (Nat.le_of_ble_eq_true rfl) | 1 => .data _ (trivial) | _ + 2 => .data _ trivial))), ⟨⟨rfl, trivial⟩, ⟨rfl, trivial⟩, rfl⟩, rfl,
    Step.plain rfl (does_move (.tmp 34) (resV [(.own 1), (.int .i64 v9.2)]) trivial), ⟨⟨rfl, trivial⟩, trivial, rfl⟩, rfl,
    Step.plain rfl (does_extract 32 0 2 (fun j => [(.own 1), (.int .i64 v9.2)].getD j (.bool false)) (Nat.le_of_ble_eq_true rfl)), ⟨⟨rfl, trivial⟩, trivial, rfl⟩, rfl,
    Step.plain rfl (does_extract 32 1 2 (fun j => [(.own 1), (.int .i64 v9.2)].getD j (.bool false)) (Nat.le_of_ble_eq_true rfl)), ⟨⟨rfl, trivial⟩, trivial, rfl⟩, rfl,
    Step.plain rfl (does_assign (.tmp 35) (.own 1) trivial), ⟨⟨rfl, trivial⟩, trivial, rfl⟩, rfl,
    Step.plain rfl (does_assign (.tmp 36) (.int .i64 v9.2) trivial), ⟨⟨rfl, trivial⟩, trivial, rfl⟩, rfl, rfl⟩ ?_
  refine aw_cov (cov_prune (s1 := ⟨[(1, (.own 0)), (2, (.int .i64 v1.2)), (3, (.int .u64 v3.1)), (4, (.int .i64 v3.2)), (6, (.int .i64 v5.2)), (8, (.int .i64 v7.2)), (9, (.own 1)), (10, (.int .i64 v9.2))], [(0, some (.arr 4 v1.1.length fun j => (e_api_Right (v1.1.getD j z_api_Right)))), (1, some (.arr 4 v9.1.length fun j => (e_api_Right (v9.1.getD j z_api_Right))))], 2⟩) ⟨rfl, rfl, rfl, rfl, rfl, rfl, rfl, rfl, trivial⟩ ⟨rfl, rfl, trivial⟩ (Nat.le_refl _)) ?_
  obtain ⟨v11, h12, H⟩ := bnd H
  refine aw_region (es := [_, _, _, _, _, _, _]) ⟨Step.plain rfl (does_move (.tmp 9) (.own 1) trivial), ⟨⟨rfl, trivial⟩, trivial, rfl⟩, rfl,
    Step.plain rfl (does_call 9 0 (fun _ => .any) (.func 9) [(.tmp 38), (.const (.int .u64 9)), (.const (.int .i64 2))] [(.own 1), (.int .u64 9), (.int .i64 2)] [(1, (.arr 4 v9.1.length fun j => (e_api_Right (v9.1.getD j z_api_Right))))] true [(e_s_api_Right v9.1), (.int .u64 9), (.int .i64 2)] (resV [(.int .u64 v11.1), (.int .i64 v11.2)]) _ _ rfl fo9 rfl ⟨trivial, (fun _ => rfl), (fun _ => rfl), trivial⟩ ⟨.own 1 _ _ _ (.head _) rfl (fun _ => (d_api_Right _)), .data _ trivial, .data _ trivial, trivial⟩ (right_Check_spec v9.1 9 2 _ h12) (res_flat2 trivial trivial)), ⟨⟨rfl, trivial⟩, ⟨rfl, trivial⟩, rfl⟩, rfl,
    Step.plain rfl (does_move (.tmp 39) (resV [(.int .u64 v11.1), (.int .i64 v11.2)]) trivial), ⟨⟨rfl, trivial⟩, trivial, rfl⟩, rfl,
    Step.plain rfl (does_extract 37 0 2 (fun j => [(.int .u64 v11.1), (.int .i64 v11.2)].getD j (.bool false)) (Nat.le_of_ble_eq_true rfl)), ⟨⟨rfl, trivial⟩, trivial, rfl⟩, rfl,
    Step.plain rfl (does_extract 37 1 2 (fun j => [(.int .u64 v11.1), (.int .i64 v11.2)].getD j (.bool false)) (Nat.le_of_ble_eq_true rfl)), ⟨⟨rfl, trivial⟩, trivial, rfl⟩, rfl,
    Step.plain rfl (does_assign (.tmp 40) (.int .u64 v11.1) trivial), ⟨⟨rfl, trivial⟩, trivial, rfl⟩, rfl,
    Step.plain rfl (does_assign (.tmp 41) (.int .i64 v11.2) trivial), ⟨⟨rfl, trivial⟩, trivial, rfl⟩, rfl, rfl⟩ ?_
  refine aw_cov (cov_prune (s1 := ⟨[(1, (.own 0)), (2, (.int .i64 v1.2)), (3, (.int .u64 v3.1)), (4, (.int .i64 v3.2)), (6, (.int .i64 v5.2)), (8, (.int .i64 v7.2)), (10, (.int .i64 v9.2)), (12, (.int .i64 v11.2))], [(0, some (.arr 4 v1.1.length fun j => (e_api_Right (v1.1.getD j z_api_Right))))], 2⟩) ⟨rfl, rfl, rfl, rfl, rfl, rfl, rfl, rfl, trivial⟩ ⟨rfl, trivial⟩ (Nat.le_refl _)) ?_
  obtain ⟨v13, h14, H⟩ := whn_of H
  refine aw_region (es := [_, _, _, _, _, _, _, _, _, _, _, _, _, _, _, _, _, _, _, _, _, _, _, _, _, _, _, _, _, _, _]) ⟨Step.plain rfl (does_move (.tmp 2) (.int .i64 v1.2) trivial), ⟨⟨rfl, trivial⟩, trivial, rfl⟩, rfl,
    Step.plain rfl (does_bin .eql 26 26 (.tmp 42) (.const (.int .i64 0)) .i64 v1.2 0 (.bool (v1.2 == 0)) trivial (fun _ => rfl) (bin_eql _ _ _ _)), ⟨⟨rfl, trivial⟩, trivial, rfl⟩, rfl,
    Step.plain rfl (does_move (.tmp 43) (.bool (v1.2 == 0)) trivial), ⟨⟨rfl, trivial⟩, trivial, rfl⟩, rfl,
    Step.guarded rfl rfl rfl rfl (fun hc => does_move (.tmp 3) (.int .u64 v3.1) trivial), ⟨⟨rfl, rfl, trivial⟩, trivial, rfl⟩, rfl,
    Step.guarded rfl rfl rfl rfl (fun hc => Does.strip (n' := [(45, (.opt (v1.2 == 0) (.int .u64 v3.1)))]) (n := [(45, (.int .u64 v3.1))]) ⟨(.opt _ _ hc), trivial⟩ (does_bin .eql 23 23 (.tmp 45) (.const (.int .u64 1)) .u64 v3.1 1 (.bool (v3.1 == 1)) trivial (fun _ => rfl) (bin_eql _ _ _ _))), ⟨⟨rfl, rfl, trivial⟩, trivial, rfl⟩, rfl,
    Step.plain rfl (does_and 44 46 (v1.2 == 0) (v3.1 == 1)), ⟨⟨rfl, rfl, trivial⟩, trivial, rfl⟩, rfl,
    Step.plain rfl (does_move (.tmp 47) (.bool ((v1.2 == 0) && (v3.1 == 1))) trivial), ⟨⟨rfl, trivial⟩, trivial, rfl⟩, rfl,
    Step.guarded rfl rfl rfl rfl (fun hc => does_move (.tmp 4) (.int .i64 v3.2) trivial), ⟨⟨rfl, rfl, trivial⟩, trivial, rfl⟩, rfl,
    Step.guarded rfl rfl rfl rfl (fun hc => Does.strip (n' := [(49, (.opt ((v1.2 == 0) && (v3.1 == 1)) (.int .i64 v3.2)))]) (n := [(49, (.int .i64 v3.2))]) ⟨(.opt _ _ hc), trivial⟩ (does_bin .eql 26 26 (.tmp 49) (.const (.int .i64 0)) .i64 v3.2 0 (.bool (v3.2 == 0)) trivial (fun _ => rfl) (bin_eql _ _ _ _))), ⟨⟨rfl, rfl, trivial⟩, trivial, rfl⟩, rfl,
    Step.plain rfl (does_and 48 50 ((v1.2 == 0) && (v3.1 == 1)) (v3.2 == 0)), ⟨⟨rfl, rfl, trivial⟩, trivial, rfl⟩, rfl,
    Step.plain rfl (does_move (.tmp 51) (.bool (((v1.2 == 0) && (v3.1 == 1)) && (v3.2 == 0))) trivial), ⟨⟨rfl, trivial⟩, trivial, rfl⟩, rfl,
    Step.guarded rfl rfl rfl rfl (fun hc => does_move (.tmp 6) (.int .i64 v5.2) trivial), ⟨⟨rfl, rfl, trivial⟩, trivial, rfl⟩, rfl,
    Step.guarded rfl rfl rfl rfl (fun hc => Does.strip (n' := [(53, (.opt (((v1.2 == 0) && (v3.1 == 1)) && (v3.2 == 0)) (.int .i64 v5.2)))]) (n := [(53, (.int .i64 v5.2))]) ⟨(.opt _ _ hc), trivial⟩ (does_bin .eql 26 26 (.tmp 53) (.const (.int .i64 160)) .i64 v5.2 160 (.bool (v5.2 == 160)) trivial (fun _ => rfl) (bin_eql _ _ _ _))), ⟨⟨rfl, rfl, trivial⟩, trivial, rfl⟩, rfl,
    Step.plain rfl (does_and 52 54 (((v1.2 == 0) && (v3.1 == 1)) && (v3.2 == 0)) (v5.2 == 160)), ⟨⟨rfl, rfl, trivial⟩, trivial, rfl⟩, rfl,
    Step.plain rfl (does_move (.tmp 55) (.bool ((((v1.2 == 0) && (v3.1 == 1)) && (v3.2 == 0)) && (v5.2 == 160))) trivial), ⟨⟨rfl, trivial⟩, trivial, rfl⟩, rfl,
    Step.guarded rfl rfl rfl rfl (fun hc => does_move (.tmp 8) (.int .i64 v7.2) trivial), ⟨⟨rfl, rfl, trivial⟩, trivial, rfl⟩, rfl,
    Step.guarded rfl rfl rfl rfl (fun hc => Does.strip (n' := [(57, (.opt ((((v1.2 == 0) && (v3.1 == 1)) && (v3.2 == 0)) && (v5.2 == 160)) (.int .i64 v7.2)))]) (n := [(57, (.int .i64 v7.2))]) ⟨(.opt _ _ hc), trivial⟩ (does_bin .eql 26 26 (.tmp 57) (.const (.int .i64 160)) .i64 v7.2 160 (.bool (v7.2 == 160)) trivial (fun _ => rfl) (bin_eql _ _ _ _))), ⟨⟨rfl, rfl, trivial⟩, trivial, rfl⟩, rfl,
    Step.plain rfl (does_and 56 58 ((((v1.2 == 0) && (v3.1 == 1)) && (v3.2 == 0)) && (v5.2 == 160)) (v7.2 == 160)), ⟨⟨rfl, rfl, trivial⟩, trivial, rfl⟩, rfl,
    Step.plain rfl (does_move (.tmp 59) (.bool (((((v1.2 == 0) && (v3.1 == 1)) && (v3.2 == 0)) && (v5.2 == 160)) && (v7.2 == 160))) trivial), ⟨⟨rfl, trivial⟩, trivial, rfl⟩, rfl,
    Step.guarded rfl rfl rfl rfl (fun hc => does_move (.tmp 10) (.int .i64 v9.2) trivial), ⟨⟨rfl, rfl, trivial⟩, trivial, rfl⟩, rfl,
    Step.guarded rfl rfl rfl rfl (fun hc => Does.strip (n' := [(61, (.opt (((((v1.2 == 0) && (v3.1 == 1)) && (v3.2 == 0)) && (v5.2 == 160)) && (v7.2 == 160)) (.int .i64 v9.2)))]) (n := [(61, (.int .i64 v9.2))]) ⟨(.opt _ _ hc), trivial⟩ (does_bin .eql 26 26 (.tmp 61) (.const (.int .i64 0)) .i64 v9.2 0 (.bool (v9.2 == 0)) trivial (fun _ => rfl) (bin_eql _ _ _ _))), ⟨⟨rfl, rfl, trivial⟩, trivial, rfl⟩, rfl,
    Step.plain rfl (does_and 60 62 (((((v1.2 == 0) && (v3.1 == 1)) && (v3.2 == 0)) && (v5.2 == 160)) && (v7.2 == 160)) (v9.2 == 0)), ⟨⟨rfl, rfl, trivial⟩, trivial, rfl⟩, rfl,
    Step.plain rfl (does_move (.tmp 63) (.bool ((((((v1.2 == 0) && (v3.1 == 1)) && (v3.2 == 0)) && (v5.2 == 160)) && (v7.2 == 160)) && (v9.2 == 0))) trivial), ⟨⟨rfl, trivial⟩, trivial, rfl⟩, rfl,
    Step.guarded rfl rfl rfl rfl (fun hc => does_move (.tmp 12) (.int .i64 v11.2) trivial), ⟨⟨rfl, rfl, trivial⟩, trivial, rfl⟩, rfl,
    Step.guarded rfl rfl rfl rfl (fun hc => Does.strip (n' := [(65, (.opt ((((((v1.2 == 0) && (v3.1 == 1)) && (v3.2 == 0)) && (v5.2 == 160)) && (v7.2 == 160)) && (v9.2 == 0)) (.int .i64 v11.2)))]) (n := [(65, (.int .i64 v11.2))]) ⟨(.opt _ _ hc), trivial⟩ (does_bin .eql 26 26 (.tmp 65) (.const (.int .i64 160)) .i64 v11.2 160 (.bool (v11.2 == 160)) trivial (fun _ => rfl) (bin_eql _ _ _ _))), ⟨⟨rfl, rfl, trivial⟩, trivial, rfl⟩, rfl,
    Step.plain rfl (does_and 64 66 ((((((v1.2 == 0) && (v3.1 == 1)) && (v3.2 == 0)) && (v5.2 == 160)) && (v7.2 == 160)) && (v9.2 == 0)) (v11.2 == 160)), ⟨⟨rfl, rfl, trivial⟩, trivial, rfl⟩, rfl,
    Step.plain rfl (does_move (.tmp 67) (.bool (((((((v1.2 == 0) && (v3.1 == 1)) && (v3.2 == 0)) && (v5.2 == 160)) && (v7.2 == 160)) && (v9.2 == 0)) && (v11.2 == 160))) trivial), ⟨⟨rfl, trivial⟩, trivial, rfl⟩, rfl,
    Step.guarded rfl rfl rfl rfl (fun hc => does_move (.tmp 1) (.own 0) trivial), ⟨⟨rfl, rfl, trivial⟩, trivial, rfl⟩, rfl,
    Step.guarded rfl rfl rfl rfl (fun hc => Does.strip (n' := [(69, (.opt (((((((v1.2 == 0) && (v3.1 == 1)) && (v3.2 == 0)) && (v5.2 == 160)) && (v7.2 == 160)) && (v9.2 == 0)) && (v11.2 == 160)) (.own 0)))]) (n := [(69, (.own 0))]) ⟨(.opt _ _ hc), trivial⟩ (does_call 17 0 (fun _ => .any) (.func 17) [(.tmp 69)] [(.own 0)] [(0, (.arr 4 v1.1.length fun j => (e_api_Right (v1.1.getD j z_api_Right))))] true [(e_s_api_Right v1.1)] (.bool v13) _ _ rfl fo17 rfl ⟨trivial, trivial⟩ ⟨.own 0 _ _ _ (.head _) rfl (fun _ => (d_api_Right _)), trivial⟩ (right_May_spec v1.1 _ (h14 hc)) trivial)), ⟨⟨rfl, rfl, trivial⟩, ⟨rfl, trivial⟩, rfl⟩, rfl,
    Step.plain rfl (does_and 68 70 (((((((v1.2 == 0) && (v3.1 == 1)) && (v3.2 == 0)) && (v5.2 == 160)) && (v7.2 == 160)) && (v9.2 == 0)) && (v11.2 == 160)) v13), ⟨⟨rfl, rfl, trivial⟩, trivial, rfl⟩, rfl,
    Step.plain rfl (does_assign (.tmp 71) (.bool ((((((((v1.2 == 0) && (v3.1 == 1)) && (v3.2 == 0)) && (v5.2 == 160)) && (v7.2 == 160)) && (v9.2 == 0)) && (v11.2 == 160)) && v13)) trivial), ⟨⟨rfl, trivial⟩, trivial, rfl⟩, rfl, rfl⟩ ?_
  obtain ⟨v15, hv15, H⟩ := lt_of H
  refine aw_cov (cov_prune (s1 := ⟨[(0, (.bool v15))], [], 2⟩) ⟨(by subst hv15; rfl), trivial⟩ trivial (Nat.le_refl _)) ?_
  refine aw_ret ?_
  exact fun a w hr => ⟨_, [(.bool v15)], hr, ⟨⟨_, rfl, .data _ trivial⟩, trivial⟩, by decide, by cases H; rfl⟩

theorem congressref16_Same_spec (p0 : (_root_.List api_Right)) (p1 : (_root_.List api_Right)) (r : Bool) (H : congressref16_Same p0 p1 = some r) : FSpec Try.prog 14 [(e_s_api_Right p0), (e_s_api_Right p1)] (.bool r) := by
  refine spec_of (fn := Try.f14) (args := [(e_s_api_Right p0), (e_s_api_Right p1)]) Try.func14 rfl (Nat.le_of_ble_eq_true rfl) ?_
  rintro ⟨G, w0, W, S, Sp⟩ hG
  cases hG
  unfold congressref16_Same at H
  refine aw_region (es := [_]) ⟨Step.plain rfl (does_assign (.const (.bool false)) (.bool false) (fun _ => rfl)), ⟨trivial, trivial, rfl⟩, rfl, rfl⟩ ?_
  refine aw_cov (cov_prune (s1 := ⟨[(0, (e_s_api_Right p0)), (1, (e_s_api_Right p1))], [], 0⟩) ⟨rfl, rfl, trivial⟩ trivial (Nat.le_refl _)) ?_
  refine aw_seq ?_
  refine aw_region (es := [_, _, _, _, _]) ⟨Step.plain rfl (does_move (.tmp 0) (e_s_api_Right p0) trivial), ⟨⟨rfl, trivial⟩, trivial, rfl⟩, rfl,
    Step.plain rfl (does_lens 22 4 p0.length 6 (fun j => (e_api_Right (p0.getD j z_api_Right))) el22), ⟨⟨rfl, trivial⟩, trivial, rfl⟩, rfl,
    Step.plain rfl (does_move (.tmp 1) (e_s_api_Right p1) trivial), ⟨⟨rfl, trivial⟩, trivial, rfl⟩, rfl,
    Step.plain rfl (does_lens 22 4 p1.length 8 (fun j => (e_api_Right (p1.getD j z_api_Right))) el22), ⟨⟨rfl, trivial⟩, trivial, rfl⟩, rfl,
    Step.plain rfl (does_bin .neq 3 3 (.tmp 7) (.tmp 9) .i64 (p0.length : Int) (p1.length : Int) (.bool ((p0.length : Int) != (p1.length : Int))) trivial trivial (bin_neq _ _ _ _)), ⟨⟨rfl, rfl, trivial⟩, trivial, rfl⟩, rfl, rfl⟩ ?_
  refine aw_cov (cov_prune (s1 := ⟨[(0, (e_s_api_Right p0)), (1, (e_s_api_Right p1)), (10, (.bool ((p0.length : Int) != (p1.length : Int))))], [], 0⟩) ⟨rfl, rfl, rfl, trivial⟩ trivial (Nat.le_refl _)) ?_
  refine aw_cond rfl (fun hc => ?_) (fun hc => ?_)
  · replace H := ite_t hc H
    refine aw_region (es := [_]) ⟨Step.plain rfl (does_assign (.const (.bool false)) (.bool false) (fun _ => rfl)), ⟨trivial, trivial, rfl⟩, rfl, rfl⟩ ?_
    refine aw_cov (cov_prune (s1 := ⟨[(4, (.bool false))], [], 0⟩) ⟨rfl, trivial⟩ trivial (Nat.le_refl _)) ?_
    refine aw_ret ?_
    refine rt_then ?_
    exact fun a w hr => ⟨_, [(.bool false)], hr, ⟨⟨_, rfl, .data _ trivial⟩, trivial⟩, by decide, by cases H; rfl⟩
  · replace H := ite_f hc H
    refine aw_skip ?_
    refine nx_seq ?_
    refine aw_seq ?_
    refine aw_region (es := [_]) ⟨Step.plain rfl (does_assign (.const (.int .i64 0)) (.int .i64 0) (fun _ => rfl)), ⟨trivial, trivial, rfl⟩, rfl, rfl⟩ ?_
    refine aw_cov (cov_prune (s1 := ⟨[(0, (e_s_api_Right p0)), (1, (e_s_api_Right p1)), (5, (.int .i64 0))], [], 0⟩) ⟨rfl, rfl, rfl, trivial⟩ trivial (Nat.le_refl _)) ?_
    obtain ⟨wn2, hwn2, Hrn2⟩ := bnd H
    refine aw_meet (fun y6 : Unit => (⟨[], [], 0⟩ : St)) (fun y6 => Fl.nx y6 = wn2) (fun y6 hy => ?_) (aw_block (aw_runs (fun x1 : Int => (⟨[(0, (e_s_api_Right p0)), (1, (e_s_api_Right p1)), (5, (.int .i64 x1))], [], 0⟩ : St)) hwn2 (cov_prune ⟨rfl, rfl, rfl, trivial⟩ trivial (Nat.le_of_ble_eq_true rfl)) (fun x1 st H hsn2 => ?_)))
    · have H := nx_of hy Hrn2
      refine nx_seq ?_
      refine aw_region (es := [_]) ⟨Step.plain rfl (does_assign (.const (.bool true)) (.bool true) (fun _ => rfl)), ⟨trivial, trivial, rfl⟩, rfl, rfl⟩ ?_
      refine aw_cov (cov_prune (s1 := ⟨[(4, (.bool true))], [], 0⟩) ⟨rfl, trivial⟩ trivial (Nat.le_refl _)) ?_
      refine aw_ret ?_
      exact fun a w hr => ⟨_, [(.bool true)], hr, ⟨⟨_, rfl, .data _ trivial⟩, trivial⟩, by decide, by cases H; rfl⟩
    · refine aw_seq ?_
      refine aw_region (es := [_, _, _, _]) ⟨Step.plain rfl (does_move (.tmp 5) (.int .i64 x1) trivial), ⟨⟨rfl, trivial⟩, trivial, rfl⟩, rfl,
        Step.plain rfl (does_move (.tmp 0) (e_s_api_Right p0) trivial), ⟨⟨rfl, trivial⟩, trivial, rfl⟩, rfl,
        Step.plain rfl (does_lens 22 4 p0.length 12 (fun j => (e_api_Right (p0.getD j z_api_Right))) el22), ⟨⟨rfl, trivial⟩, trivial, rfl⟩, rfl,
        Step.plain rfl (does_bin .lss 3 3 (.tmp 11) (.tmp 13) .i64 x1 (p0.length : Int) (.bool (decide (x1 < (p0.length : Int)))) trivial trivial (bin_lss _ _ _ _)), ⟨⟨rfl, rfl, trivial⟩, trivial, rfl⟩, rfl, rfl⟩ ?_
      refine aw_cov (cov_prune (s1 := ⟨[(0, (e_s_api_Right p0)), (1, (e_s_api_Right p1)), (5, (.int .i64 x1)), (14, (.bool (decide (x1 < (p0.length : Int)))))], [], 0⟩) ⟨rfl, rfl, rfl, rfl, trivial⟩ trivial (Nat.le_refl _)) ?_
      refine aw_cond rfl (fun hc => ?_) (fun hc => ?_)
      · replace H := ite_t hc H
        refine aw_skip ?_
        refine nx_seq ?_
        refine aw_seq ?_
        refine aw_block ?_
        obtain ⟨h3, H⟩ := ib_of H
        obtain ⟨h4, H⟩ := ib_of H
        refine aw_draw (es := [_, _, _, _, _, _, _, _, _]) (mixed) ⟨Step.plain rfl (does_move (.tmp 0) (e_s_api_Right p0) trivial), ⟨⟨rfl, trivial⟩, trivial, rfl⟩, rfl,
          Step.plain rfl (does_move (.tmp 5) (.int .i64 x1) trivial), ⟨⟨rfl, trivial⟩, trivial, rfl⟩, rfl,
          Step.plain rfl (does_indexAddrs 22 4 p0.length 17 (fun j => (e_api_Right (p0.getD j z_api_Right))) (.tmp 18) .i64 x1 el22 trivial h3.1 h3.2), ⟨⟨rfl, rfl, trivial⟩, trivial, rfl⟩, rfl,
          Step.plain rfl (does_loadc 46 19 (e_api_Right (p0.getD x1.toNat z_api_Right)) ty46), ⟨⟨rfl, trivial⟩, trivial, rfl⟩, rfl,
          Step.plain rfl (does_move (.tmp 1) (e_s_api_Right p1) trivial), ⟨⟨rfl, trivial⟩, trivial, rfl⟩, rfl,
          Step.plain rfl (does_move (.tmp 5) (.int .i64 x1) trivial), ⟨⟨rfl, trivial⟩, trivial, rfl⟩, rfl,
          Step.plain rfl (does_indexAddrs 22 4 p1.length 21 (fun j => (e_api_Right (p1.getD j z_api_Right))) (.tmp 22) .i64 x1 el22 trivial h4.1 h4.2), ⟨⟨rfl, rfl, trivial⟩, trivial, rfl⟩, rfl,
          Step.plain rfl (does_loadc 46 23 (e_api_Right (p1.getD x1.toNat z_api_Right)) ty46), ⟨⟨rfl, trivial⟩, trivial, rfl⟩, rfl,
          Step.plain rfl (does_eqT true 46 46 (.tmp 20) (.tmp 24) (e_api_Right (p0.getD x1.toNat z_api_Right)) (e_api_Right (p1.getD x1.toNat z_api_Right)) (e_api_Right z_api_Right) (b_api_Right (p0.getD x1.toNat z_api_Right) (p1.getD x1.toNat z_api_Right)) rfl rfl trivial trivial eg46 sh46 (al_api_Right _ _) (al_api_Right _ _) (q_api_Right _ _)), ⟨⟨rfl, rfl, trivial⟩, trivial, rfl⟩, rfl, rfl⟩ rfl ?_
        obtain ⟨v5, hv5, H⟩ := lt_of H
        refine aw_cov (cov_prune (s1 := ⟨[(0, (e_s_api_Right p0)), (1, (e_s_api_Right p1)), (5, (.int .i64 x1)), (25, (.bool v5))], [], 0⟩) ⟨rfl, rfl, rfl, (by subst hv5; rfl), trivial⟩ trivial (Nat.le_refl _)) ?_
        refine aw_cond rfl (fun hc => ?_) (fun hc => ?_)
        · replace H := ite_t hc H
          refine aw_region (es := [_]) ⟨Step.plain rfl (does_assign (.const (.bool false)) (.bool false) (fun _ => rfl)), ⟨trivial, trivial, rfl⟩, rfl, rfl⟩ ?_
          refine aw_cov (cov_prune (s1 := ⟨[(4, (.bool false))], [], 0⟩) ⟨rfl, trivial⟩ trivial (Nat.le_refl _)) ?_
          refine aw_ret ?_
          replace H := rt_of H hsn2 Hrn2
          refine rt_blk ?_
          refine rt_then ?_
          refine rt_then ?_
          refine rt_blk ?_
          refine rt_then ?_
          refine rt_then ?_
          exact fun a w hr => ⟨_, [(.bool false)], hr, ⟨⟨_, rfl, .data _ trivial⟩, trivial⟩, by decide, by cases H; rfl⟩
        · replace H := ite_f hc H
          refine aw_skip ?_
          refine nx_blk ?_
          refine nx_seq ?_
          refine aw_region1 (es := [_, _, _]) ⟨Step.plain rfl (does_move (.tmp 5) (.int .i64 x1) trivial), ⟨⟨rfl, trivial⟩, trivial, rfl⟩, rfl,
            Step.plain rfl (does_bin .add 3 3 (.tmp 15) (.const (.int .i64 1)) .i64 x1 1 (.int .i64 (IntKind.i64.wrap (x1 + 1))) trivial (fun _ => rfl) (bin_add _ _ _ _)), ⟨⟨rfl, trivial⟩, trivial, rfl⟩, rfl,
            Step.plain rfl (does_assign (.tmp 16) (.int .i64 (IntKind.i64.wrap (x1 + 1))) trivial), ⟨⟨rfl, trivial⟩, trivial, rfl⟩, rfl, rfl⟩ ?_
          exact nx_loop ((IntKind.i64.wrap (x1 + 1))) H (cov_prune ⟨rfl, rfl, rfl, trivial⟩ trivial (Nat.le_of_ble_eq_true rfl))
      · replace H := ite_f hc H
        refine aw_exit ?_
        refine ex_then ?_
        refine ex_then ?_
        refine ex_here ?_
        exact nx_ljoin () H hsn2 (cov_prune trivial trivial (Nat.le_of_ble_eq_true rfl))

theorem slices_DeleteFunc_api_Right_api_Right_spec (p0 : (_root_.List api_Right)) (p1 : (api_Right → Option (Bool))) (k1 n1 : Nat) (c1 : Nat → V) (o1 : FnOk Try.prog k1) (h1 : ∀ j, (c1 j).Cap) (g1 : ∀ (x0 : api_Right) (r : Bool), p1 x0 = some r → FSpec Try.prog k1 ([(e_api_Right x0)] ++ (List.range n1).map c1) (.bool r)) (r : (_root_.List api_Right)) (H : slices_DeleteFunc_api_Right_api_Right p0 p1 = some r) : FSpecO Try.prog 24 [(.own 0), (.fn k1 n1 c1)] [(0, some (.arr 4 p0.length fun j => (e_api_Right (p0.getD j z_api_Right))))] 1 (.own 0) [(0, some (.arr 4 r.length fun j => (e_api_Right (r.getD j z_api_Right))))] 1 := by
  refine specO_of (fn := Try.f24) (args := [(.own 0), (.fn k1 n1 c1)]) Try.func24 rfl (Nat.le_of_ble_eq_true rfl) ?_
  rintro ⟨G, w0, W, S, Sp⟩ hG
  cases hG
  unfold slices_DeleteFunc_api_Right_api_Right at H
  refine aw_region (es := [_]) ⟨Step.plain rfl (does_nil false 1 4 (fun j => (e_api_Right (([] : _root_.List api_Right).getD j z_api_Right)))), ⟨trivial, trivial, rfl⟩, rfl, rfl⟩ ?_
  refine aw_cov (cov_prune (s1 := ⟨[(0, (.own 0)), (1, (.fn k1 n1 c1))], [(0, some (.arr 4 p0.length fun j => (e_api_Right (p0.getD j z_api_Right))))], 2⟩) ⟨rfl, rfl, trivial⟩ ⟨rfl, trivial⟩ (Nat.le_refl _)) ?_
  obtain ⟨v1, h2, H⟩ := bnd H
  refine aw_region (es := [_, _, _, _]) ⟨Step.plain rfl (does_move (.tmp 0) (.own 0) trivial), ⟨⟨rfl, trivial⟩, trivial, rfl⟩, rfl,
    Step.plain rfl (does_move (.tmp 1) (.fn k1 n1 c1) trivial), ⟨⟨rfl, trivial⟩, trivial, rfl⟩, rfl,
    Step.plain rfl (does_call 26 0 (fun _ => .any) (.func 26) [(.tmp 8), (.tmp 9)] [(.own 0), (.fn k1 n1 c1)] [(0, (.arr 4 p0.length fun j => (e_api_Right (p0.getD j z_api_Right))))] true [(e_s_api_Right p0), (.fn k1 n1 c1)] (.int .i64 v1) _ _ rfl fo26 rfl ⟨trivial, trivial, trivial⟩ ⟨.own 0 _ _ _ (.head _) rfl (fun _ => (d_api_Right _)), .fn _ _ _ _ (fun j _ => (h1 j).pass), trivial⟩ (slices_IndexFunc_api_Right_api_Right_spec p0 p1 k1 n1 c1 o1 h1 g1 _ h2) trivial), ⟨⟨rfl, rfl, trivial⟩, ⟨rfl, trivial⟩, rfl⟩, rfl,
    Step.plain rfl (does_assign (.tmp 10) (.int .i64 v1) trivial), ⟨⟨rfl, trivial⟩, trivial, rfl⟩, rfl, rfl⟩ ?_
  refine aw_cov (cov_prune (s1 := ⟨[(0, (.own 0)), (1, (.fn k1 n1 c1)), (5, (.int .i64 v1))], [(0, some (.arr 4 p0.length fun j => (e_api_Right (p0.getD j z_api_Right))))], 2⟩) ⟨rfl, rfl, rfl, trivial⟩ ⟨rfl, trivial⟩ (Nat.le_refl _)) ?_
  refine aw_seq ?_
  refine aw_region (es := [_, _]) ⟨Step.plain rfl (does_move (.tmp 5) (.int .i64 v1) trivial), ⟨⟨rfl, trivial⟩, trivial, rfl⟩, rfl,
    Step.plain rfl (does_bin .eql 3 3 (.tmp 11) (.const (.int .i64 (-1))) .i64 v1 (-1) (.bool (v1 == (-1))) trivial (fun _ => rfl) (bin_eql _ _ _ _)), ⟨⟨rfl, trivial⟩, trivial, rfl⟩, rfl, rfl⟩ ?_
  refine aw_cov (cov_prune (s1 := ⟨[(0, (.own 0)), (1, (.fn k1 n1 c1)), (5, (.int .i64 v1)), (12, (.bool (v1 == (-1))))], [(0, some (.arr 4 p0.length fun j => (e_api_Right (p0.getD j z_api_Right))))], 2⟩) ⟨rfl, rfl, rfl, rfl, trivial⟩ ⟨rfl, trivial⟩ (Nat.le_refl _)) ?_
  refine aw_cond rfl (fun hc => ?_) (fun hc => ?_)
  · replace H := ite_t hc H
    refine aw_region (es := [_, _]) ⟨Step.plain rfl (does_move (.tmp 0) (.own 0) trivial), ⟨⟨rfl, trivial⟩, trivial, rfl⟩, rfl,
      Step.plain rfl (does_assign (.tmp 13) (.own 0) trivial), ⟨⟨rfl, trivial⟩, trivial, rfl⟩, rfl, rfl⟩ ?_
    refine aw_cov (cov_prune (s1 := ⟨[(4, (.own 0))], [(0, some (.arr 4 p0.length fun j => (e_api_Right (p0.getD j z_api_Right))))], 2⟩) ⟨rfl, trivial⟩ ⟨rfl, trivial⟩ (Nat.le_refl _)) ?_
    refine aw_ret ?_
    refine rt_then ?_
    exact fun a w hr => ⟨_, [(.own 0)], reach_of hr (cov_to (s1 := ⟨[(4, (.own 0))], [(0, some (.arr 4 p0.length fun j => (e_api_Right (p0.getD j z_api_Right))))], 1⟩) (fun i => match i with | 0 => 0 | k => k) [] ⟨⟨_, rfl, .own 0 _ _ (Nat.le_of_ble_eq_true rfl) rfl rfl (Box.like_refl _)⟩, trivial⟩ ⟨⟨Nat.le_of_ble_eq_true rfl, _, _, rfl, rfl, boxTo_arr (fun _ => (d_api_Right _))⟩, trivial⟩ rfl rfl), ⟨rfl, trivial⟩, by decide, by cases H; rfl, by cases H; exact ⟨rfl, trivial⟩, Nat.le_of_ble_eq_true rfl⟩
  · replace H := ite_f hc H
    refine aw_skip ?_
    refine nx_seq ?_
    refine aw_seq ?_
    refine aw_region (es := [_, _, _]) ⟨Step.plain rfl (does_move (.tmp 5) (.int .i64 v1) trivial), ⟨⟨rfl, trivial⟩, trivial, rfl⟩, rfl,
      Step.plain rfl (does_bin .add 3 3 (.tmp 14) (.const (.int .i64 1)) .i64 v1 1 (.int .i64 (IntKind.i64.wrap (v1 + 1))) trivial (fun _ => rfl) (bin_add _ _ _ _)), ⟨⟨rfl, trivial⟩, trivial, rfl⟩, rfl,
      Step.plain rfl (does_assign (.tmp 15) (.int .i64 (IntKind.i64.wrap (v1 + 1))) trivial), ⟨⟨rfl, trivial⟩, trivial, rfl⟩, rfl, rfl⟩ ?_
    refine aw_cov (cov_prune (s1 := ⟨[(0, (.own 0)), (1, (.fn k1 n1 c1)), (5, (.int .i64 v1)), (6, (.int .i64 (IntKind.i64.wrap (v1 + 1))))], [(0, some (.arr 4 p0.length fun j => (e_api_Right (p0.getD j z_api_Right))))], 2⟩) ⟨rfl, rfl, rfl, rfl, trivial⟩ ⟨rfl, trivial⟩ (Nat.le_refl _)) ?_
    obtain ⟨wn4, hwn4, Hrn4⟩ := bnd H
    refine aw_meet (fun y11 : Int × _root_.List api_Right => (⟨[(0, (.own 0)), (5, (.int .i64 y11.1))], [(0, some (.arr 4 y11.2.length fun j => (e_api_Right (y11.2.getD j z_api_Right))))], 2⟩ : St)) (fun y11 => Fl.nx y11 = wn4) (fun y11 hy => ?_) (aw_block (aw_runs (fun x3 : Int × Int × _root_.List api_Right => (⟨[(0, (.own 0)), (1, (.fn k1 n1 c1)), (5, (.int .i64 x3.1)), (6, (.int .i64 x3.2.1))], [(0, some (.arr 4 x3.2.2.length fun j => (e_api_Right (x3.2.2.getD j z_api_Right))))], 2⟩ : St)) hwn4 (cov_prune ⟨rfl, rfl, rfl, rfl, trivial⟩ ⟨rfl, trivial⟩ (Nat.le_of_ble_eq_true rfl)) (fun x3 st H hsn4 => ?_)))
    · have H := nx_of hy Hrn4
      refine nx_seq ?_
      obtain ⟨h12, H⟩ := sb_of H
      obtain ⟨h13, H⟩ := inb_of H
      refine aw_region (es := [_, _, _, _]) ⟨Step.plain rfl (does_move (.tmp 0) (.own 0) trivial), ⟨⟨rfl, trivial⟩, trivial, rfl⟩, rfl,
        Step.plain rfl (does_move (.tmp 5) (.int .i64 y11.1) trivial), ⟨⟨rfl, trivial⟩, trivial, rfl⟩, rfl,
        Step.plain rfl (does_sliceo 22 4 y11.2.length 36 0 y11.1.toNat y11.2.length (fun j => (e_api_Right (y11.2.getD j z_api_Right))) (some ((.tmp 37), .i64, y11.1)) none _ _ el22 rfl rfl trivial trivial (Int.toNat_of_nonneg h12.1).symm rfl (by omega) (by omega)), ⟨⟨rfl, rfl, trivial⟩, ⟨rfl, trivial⟩, rfl⟩, rfl,
        Step.plain rfl (does_clearL e_api_Right z_api_Right y11.2 22 4 38 0 y11.1.toNat (y11.2.length - y11.1.toNat) so22 h13), ⟨⟨rfl, trivial⟩, ⟨rfl, trivial⟩, rfl⟩, rfl, rfl⟩ ?_
      refine aw_cov (cov_prune (s1 := ⟨[(0, (.own 0)), (5, (.int .i64 y11.1))], [(0, some (.arr 4 (clr y11.2 z_api_Right y11.1.toNat (y11.2.length - y11.1.toNat)).length fun j => (e_api_Right ((clr y11.2 z_api_Right y11.1.toNat (y11.2.length - y11.1.toNat)).getD j z_api_Right))))], 2⟩) ⟨rfl, rfl, trivial⟩ ⟨rfl, trivial⟩ (Nat.le_refl _)) ?_
      obtain ⟨h14, H⟩ := sb_of H
      refine aw_region (es := [_, _, _, _]) ⟨Step.plain rfl (does_move (.tmp 0) (.own 0) trivial), ⟨⟨rfl, trivial⟩, trivial, rfl⟩, rfl,
        Step.plain rfl (does_move (.tmp 5) (.int .i64 y11.1) trivial), ⟨⟨rfl, trivial⟩, trivial, rfl⟩, rfl,
        Step.plain rfl (does_sliceo 22 4 (clr y11.2 z_api_Right y11.1.toNat (y11.2.length - y11.1.toNat)).length 39 0 0 y11.1.toNat (fun j => (e_api_Right ((clr y11.2 z_api_Right y11.1.toNat (y11.2.length - y11.1.toNat)).getD j z_api_Right))) none (some ((.tmp 40), .i64, y11.1)) _ _ el22 rfl rfl trivial trivial rfl (Int.toNat_of_nonneg (Int.le_trans h14.1 h14.2.1)).symm (by omega) (by omega)), ⟨⟨rfl, rfl, trivial⟩, ⟨rfl, trivial⟩, rfl⟩, rfl,
        Step.plain rfl (does_assign (.tmp 41) (.view 0 0 (y11.1.toNat - 0)) trivial), ⟨⟨rfl, trivial⟩, trivial, rfl⟩, rfl, rfl⟩ ?_
      refine aw_cov (cov_prune (s1 := ⟨[(4, (.view 0 0 (y11.1.toNat - 0)))], [(0, some (.arr 4 (clr y11.2 z_api_Right y11.1.toNat (y11.2.length - y11.1.toNat)).length fun j => (e_api_Right ((clr y11.2 z_api_Right y11.1.toNat (y11.2.length - y11.1.toNat)).getD j z_api_Right))))], 2⟩) ⟨rfl, trivial⟩ ⟨rfl, trivial⟩ (Nat.le_refl _)) ?_
      refine aw_ret ?_
      obtain ⟨h15, H⟩ := inb_of H
      exact fun a w hr => ⟨_, [(.own 0)], reach_of hr (cov_to (s1 := ⟨[(4, (.own 0))], [(0, some (.arr 4 ((clr y11.2 z_api_Right y11.1.toNat (y11.2.length - y11.1.toNat)).take (y11.1.toNat - 0)).length fun j => (e_api_Right (((clr y11.2 z_api_Right y11.1.toNat (y11.2.length - y11.1.toNat)).take (y11.1.toNat - 0)).getD j z_api_Right))))], 1⟩) (fun i => match i with | 0 => 0 | k => k) [] ⟨⟨_, rfl, .shr 0 _ _ _ _ _ _ (Nat.le_of_ble_eq_true rfl) rfl rfl (len_take h15)⟩, trivial⟩ ⟨⟨Nat.le_of_ble_eq_true rfl, _, _, rfl, rfl, boxTo_take e_api_Right _ (fun _ => (d_api_Right _))⟩, trivial⟩ rfl rfl), ⟨rfl, trivial⟩, by decide, by cases H; rfl, by cases H; exact ⟨rfl, trivial⟩, Nat.le_of_ble_eq_true rfl⟩
    · refine aw_seq ?_
      refine aw_region (es := [_, _, _, _]) ⟨Step.plain rfl (does_move (.tmp 6) (.int .i64 x3.2.1) trivial), ⟨⟨rfl, trivial⟩, trivial, rfl⟩, rfl,
        Step.plain rfl (does_move (.tmp 0) (.own 0) trivial), ⟨⟨rfl, trivial⟩, trivial, rfl⟩, rfl,
        Step.plain rfl (does_leno 22 4 x3.2.2.length 17 0 (fun j => (e_api_Right (x3.2.2.getD j z_api_Right))) el22), ⟨⟨rfl, trivial⟩, ⟨rfl, trivial⟩, rfl⟩, rfl,
        Step.plain rfl (does_bin .lss 3 3 (.tmp 16) (.tmp 18) .i64 x3.2.1 (x3.2.2.length : Int) (.bool (decide (x3.2.1 < (x3.2.2.length : Int)))) trivial trivial (bin_lss _ _ _ _)), ⟨⟨rfl, rfl, trivial⟩, trivial, rfl⟩, rfl, rfl⟩ ?_
      refine aw_cov (cov_prune (s1 := ⟨[(0, (.own 0)), (1, (.fn k1 n1 c1)), (5, (.int .i64 x3.1)), (6, (.int .i64 x3.2.1)), (19, (.bool (decide (x3.2.1 < (x3.2.2.length : Int)))))], [(0, some (.arr 4 x3.2.2.length fun j => (e_api_Right (x3.2.2.getD j z_api_Right))))], 2⟩) ⟨rfl, rfl, rfl, rfl, rfl, trivial⟩ ⟨rfl, trivial⟩ (Nat.le_refl _)) ?_
      refine aw_cond rfl (fun hc => ?_) (fun hc => ?_)
      · replace H := ite_t hc H
        refine aw_skip ?_
        refine nx_seq ?_
        refine aw_seq ?_
        refine aw_jn (fun x10 : Int × _root_.List api_Right => (⟨[(0, (.own 0)), (1, (.fn k1 n1 c1)), (5, (.int .i64 x10.1)), (6, (.int .i64 x3.2.1))], [(0, some (.arr 4 x10.2.length fun j => (e_api_Right (x10.2.getD j z_api_Right))))], 3⟩ : St)) H (fun x10 H => ?_) (fun j5 H => ?_)
        · refine nx_seq ?_
          refine aw_region1 (es := [_, _, _]) ⟨Step.plain rfl (does_move (.tmp 6) (.int .i64 x3.2.1) trivial), ⟨⟨rfl, trivial⟩, trivial, rfl⟩, rfl,
            Step.plain rfl (does_bin .add 3 3 (.tmp 20) (.const (.int .i64 1)) .i64 x3.2.1 1 (.int .i64 (IntKind.i64.wrap (x3.2.1 + 1))) trivial (fun _ => rfl) (bin_add _ _ _ _)), ⟨⟨rfl, trivial⟩, trivial, rfl⟩, rfl,
            Step.plain rfl (does_assign (.tmp 21) (.int .i64 (IntKind.i64.wrap (x3.2.1 + 1))) trivial), ⟨⟨rfl, trivial⟩, trivial, rfl⟩, rfl, rfl⟩ ?_
          exact nx_loop (x10.1, (IntKind.i64.wrap (x3.2.1 + 1)), x10.2) H (cov_of (fun i => match i with | 0 => 0 | k => k) ⟨⟨_, rfl, ⟨rfl, Nat.le_of_ble_eq_true rfl⟩⟩, ⟨_, rfl, ⟨rfl, fun j => (h1 j).plain⟩⟩, ⟨_, rfl, ⟨rfl, trivial⟩⟩, ⟨_, rfl, ⟨rfl, trivial⟩⟩, trivial⟩ ⟨⟨Nat.le_of_ble_eq_true rfl, _, _, rfl, rfl, ⟨rfl, rfl, fun _ => .inl ⟨rfl, (d_api_Right _).plain⟩⟩⟩, trivial⟩ rfl)
        · refine aw_block ?_
          obtain ⟨h6, H⟩ := ib_of H
          refine aw_region (es := [_, _, _, _, _, _]) ⟨Step.plain rfl (does_move (.tmp 0) (.own 0) trivial), ⟨⟨rfl, trivial⟩, trivial, rfl⟩, rfl,
            Step.plain rfl (does_move (.tmp 6) (.int .i64 x3.2.1) trivial), ⟨⟨rfl, trivial⟩, trivial, rfl⟩, rfl,
            Step.plain rfl (does_indexAddro 22 4 x3.2.2.length 22 0 (fun j => (e_api_Right (x3.2.2.getD j z_api_Right))) (.tmp 23) .i64 x3.2.1 el22 trivial h6.1 h6.2), ⟨⟨rfl, rfl, trivial⟩, ⟨rfl, trivial⟩, rfl⟩, rfl,
            Step.plain rfl (does_load 46 24 0 (x3.2.1.toNat * 4) [x3.2.1.toNat] (.arr 4 x3.2.2.length fun j => (e_api_Right (x3.2.2.getD j z_api_Right))) (e_api_Right (x3.2.2.getD x3.2.1.toNat z_api_Right)) ⟨(ixl h6), trivial⟩ rfl rfl ty46), ⟨⟨rfl, trivial⟩, ⟨rfl, trivial⟩, rfl⟩, rfl,
            Step.plain rfl (does_alloc 46 2 (e_api_Right z_api_Right) zr46), ⟨trivial, trivial, rfl⟩, rfl,
            Step.plain rfl (does_store 46 7 (.tmp 25) 2 0 [] (.var (e_api_Right z_api_Right)) (.var (e_api_Right (x3.2.2.getD x3.2.1.toNat z_api_Right))) (e_api_Right (x3.2.2.getD x3.2.1.toNat z_api_Right)) true trivial rfl trivial rfl rfl rfl ty46), ⟨⟨rfl, rfl, trivial⟩, ⟨rfl, trivial⟩, rfl⟩, rfl, rfl⟩ ?_
          refine aw_cov (cov_prune (s1 := ⟨[(0, (.own 0)), (1, (.fn k1 n1 c1)), (5, (.int .i64 x3.1)), (6, (.int .i64 x3.2.1)), (7, (.ptr 2 0 []))], [(0, some (.arr 4 x3.2.2.length fun j => (e_api_Right (x3.2.2.getD j z_api_Right)))), (2, some (.var (e_api_Right (x3.2.2.getD x3.2.1.toNat z_api_Right))))], 3⟩) ⟨rfl, rfl, rfl, rfl, rfl, trivial⟩ ⟨rfl, rfl, trivial⟩ (Nat.le_refl _)) ?_
          obtain ⟨v7, h8, H⟩ := bnd H
          refine aw_region (es := [_, _, _, _]) ⟨Step.plain rfl (does_move (.tmp 1) (.fn k1 n1 c1) trivial), ⟨⟨rfl, trivial⟩, trivial, rfl⟩, rfl,
            Step.plain rfl (does_load 46 7 2 0 [] (.var (e_api_Right (x3.2.2.getD x3.2.1.toNat z_api_Right))) (e_api_Right (x3.2.2.getD x3.2.1.toNat z_api_Right)) trivial rfl rfl ty46), ⟨⟨rfl, trivial⟩, ⟨rfl, trivial⟩, rfl⟩, rfl,
            Step.plain rfl (does_callf k1 n1 c1 26 [(.tmp 27)] [(e_api_Right (x3.2.2.getD x3.2.1.toNat z_api_Right))] [(e_api_Right (x3.2.2.getD x3.2.1.toNat z_api_Right))] [] true (.bool v7) _ _ rfl o1 ⟨trivial, trivial⟩ ⟨.data _ (d_api_Right (x3.2.2.getD x3.2.1.toNat z_api_Right)), trivial⟩ h1 (g1 (x3.2.2.getD x3.2.1.toNat z_api_Right) _ h8) trivial), ⟨⟨rfl, rfl, trivial⟩, trivial, rfl⟩, rfl,
            Step.plain rfl (does_not 4 (.tmp 28) v7 trivial), ⟨⟨rfl, trivial⟩, trivial, rfl⟩, rfl, rfl⟩ ?_
          refine aw_cov (cov_prune (s1 := ⟨[(0, (.own 0)), (1, (.fn k1 n1 c1)), (5, (.int .i64 x3.1)), (6, (.int .i64 x3.2.1)), (7, (.ptr 2 0 [])), (29, (.bool (!v7)))], [(0, some (.arr 4 x3.2.2.length fun j => (e_api_Right (x3.2.2.getD j z_api_Right)))), (2, some (.var (e_api_Right (x3.2.2.getD x3.2.1.toNat z_api_Right))))], 3⟩) ⟨rfl, rfl, rfl, rfl, rfl, rfl, trivial⟩ ⟨rfl, rfl, trivial⟩ (Nat.le_refl _)) ?_
          refine aw_cond rfl (fun hc => ?_) (fun hc => ?_)
          · replace H := ite_t hc H
            obtain ⟨h9, H⟩ := ib_of H
            refine aw_region (es := [_, _, _, _, _]) ⟨Step.plain rfl (does_move (.tmp 0) (.own 0) trivial), ⟨⟨rfl, trivial⟩, trivial, rfl⟩, rfl,
              Step.plain rfl (does_move (.tmp 5) (.int .i64 x3.1) trivial), ⟨⟨rfl, trivial⟩, trivial, rfl⟩, rfl,
              Step.plain rfl (does_load 46 7 2 0 [] (.var (e_api_Right (x3.2.2.getD x3.2.1.toNat z_api_Right))) (e_api_Right (x3.2.2.getD x3.2.1.toNat z_api_Right)) trivial rfl rfl ty46), ⟨⟨rfl, trivial⟩, ⟨rfl, trivial⟩, rfl⟩, rfl,
              Step.plain rfl (does_indexAddro 22 4 x3.2.2.length 30 0 (fun j => (e_api_Right (x3.2.2.getD j z_api_Right))) (.tmp 31) .i64 x3.1 el22 trivial h9.1 h9.2), ⟨⟨rfl, rfl, trivial⟩, ⟨rfl, trivial⟩, rfl⟩, rfl,
              Step.plain rfl (does_store 46 33 (.tmp 32) 0 (x3.1.toNat * 4) [x3.1.toNat] (.arr 4 x3.2.2.length fun j => (e_api_Right (x3.2.2.getD j z_api_Right))) (.arr 4 (x3.2.2.set x3.1.toNat (x3.2.2.getD x3.2.1.toNat z_api_Right)).length fun j => (e_api_Right ((x3.2.2.set x3.1.toNat (x3.2.2.getD x3.2.1.toNat z_api_Right)).getD j z_api_Right))) (e_api_Right (x3.2.2.getD x3.2.1.toNat z_api_Right)) true trivial rfl ⟨(ixl h9), trivial⟩ rfl rfl (set_arr e_api_Right z_api_Right _ (ixl h9) rfl) ty46), ⟨⟨rfl, rfl, trivial⟩, ⟨rfl, trivial⟩, rfl⟩, rfl, rfl⟩ ?_
            refine aw_cov (cov_prune (s1 := ⟨[(0, (.own 0)), (1, (.fn k1 n1 c1)), (5, (.int .i64 x3.1)), (6, (.int .i64 x3.2.1))], [(0, some (.arr 4 (x3.2.2.set x3.1.toNat (x3.2.2.getD x3.2.1.toNat z_api_Right)).length fun j => (e_api_Right ((x3.2.2.set x3.1.toNat (x3.2.2.getD x3.2.1.toNat z_api_Right)).getD j z_api_Right))))], 3⟩) ⟨rfl, rfl, rfl, rfl, trivial⟩ ⟨rfl, trivial⟩ (Nat.le_refl _)) ?_
            refine aw_region1 (es := [_, _, _]) ⟨Step.plain rfl (does_move (.tmp 5) (.int .i64 x3.1) trivial), ⟨⟨rfl, trivial⟩, trivial, rfl⟩, rfl,
              Step.plain rfl (does_bin .add 3 3 (.tmp 34) (.const (.int .i64 1)) .i64 x3.1 1 (.int .i64 (IntKind.i64.wrap (x3.1 + 1))) trivial (fun _ => rfl) (bin_add _ _ _ _)), ⟨⟨rfl, trivial⟩, trivial, rfl⟩, rfl,
              Step.plain rfl (does_assign (.tmp 35) (.int .i64 (IntKind.i64.wrap (x3.1 + 1))) trivial), ⟨⟨rfl, trivial⟩, trivial, rfl⟩, rfl, rfl⟩ ?_
            refine nx_blk ?_
            exact nx_join ((IntKind.i64.wrap (x3.1 + 1)), x3.2.2.set x3.1.toNat (x3.2.2.getD x3.2.1.toNat z_api_Right)) H (cov_prune ⟨rfl, rfl, rfl, rfl, trivial⟩ ⟨rfl, trivial⟩ (Nat.le_of_ble_eq_true rfl))
          · replace H := ite_f hc H
            refine aw_skip ?_
            refine nx_blk ?_
            exact nx_join (x3.1, x3.2.2) H (cov_prune ⟨rfl, rfl, rfl, rfl, trivial⟩ ⟨rfl, trivial⟩ (Nat.le_of_ble_eq_true rfl))
      · replace H := ite_f hc H
        refine aw_exit ?_
        refine ex_then ?_
        refine ex_then ?_
        refine ex_here ?_
        exact nx_ljoin (x3.1, x3.2.2) H hsn4 (cov_prune ⟨rfl, rfl, trivial⟩ ⟨rfl, trivial⟩ (Nat.le_of_ble_eq_true rfl))

theorem right_Drop_1_spec (p0 : api_Right) (q0 : Int) (r : Bool) (H : right_Drop_1 p0 q0 = some r) : FSpec Try.prog 25 [(e_api_Right p0), (.cptr (.int .u64 q0))] (.bool r) := by
  refine spec_of (fn := Try.f25) (args := [(e_api_Right p0), (.cptr (.int .u64 q0))]) Try.func25 rfl (Nat.le_of_ble_eq_true rfl) ?_
  rintro ⟨G, w0, W, S, Sp⟩ hG
  cases hG
  unfold right_Drop_1 at H
  refine aw_region (es := [_, _]) ⟨Step.plain rfl (does_box 46 (.tmp 0) 0 (e_api_Right p0) trivial rfl), ⟨⟨rfl, trivial⟩, trivial, rfl⟩, rfl,
    Step.plain rfl (does_assign (.const (.bool false)) (.bool false) (fun _ => rfl)), ⟨trivial, trivial, rfl⟩, rfl, rfl⟩ ?_
  refine aw_cov (cov_prune (s1 := ⟨[(1, (.cptr (.int .u64 q0))), (2, (.ptr 0 0 []))], [(0, some (.var (e_api_Right p0)))], 1⟩) ⟨rfl, rfl, trivial⟩ ⟨rfl, trivial⟩ (Nat.le_refl _)) ?_
  refine aw_region (es := [_, _, _, _, _]) ⟨Step.plain rfl (does_fieldAddr 46 1 1 2 0 0 [] (.var (e_api_Right p0)) fl46_1), ⟨⟨rfl, trivial⟩, ⟨rfl, trivial⟩, rfl⟩, rfl,
    Step.plain rfl (does_load 23 4 0 (0 + 1) [1] (.var (e_api_Right p0)) (.int .u64 p0.Session) ⟨rfl, Nat.le_of_ble_eq_true rfl, trivial⟩ rfl rfl ty23), ⟨⟨rfl, trivial⟩, ⟨rfl, trivial⟩, rfl⟩, rfl,
    Step.plain rfl (does_loadc 23 1 (.int .u64 q0) ty23), ⟨⟨rfl, trivial⟩, trivial, rfl⟩, rfl,
    Step.plain rfl (does_bin .eql 23 23 (.tmp 5) (.tmp 6) .u64 p0.Session q0 (.bool (p0.Session == q0)) trivial trivial (bin_eql _ _ _ _)), ⟨⟨rfl, rfl, trivial⟩, trivial, rfl⟩, rfl,
    Step.plain rfl (does_assign (.tmp 7) (.bool (p0.Session == q0)) trivial), ⟨⟨rfl, trivial⟩, trivial, rfl⟩, rfl, rfl⟩ ?_
  refine aw_cov (cov_prune (s1 := ⟨[(3, (.bool (p0.Session == q0)))], [], 1⟩) ⟨rfl, trivial⟩ trivial (Nat.le_refl _)) ?_
  refine aw_ret ?_
  exact fun a w hr => ⟨_, [(.bool (p0.Session == q0))], hr, ⟨⟨_, rfl, .data _ trivial⟩, trivial⟩, by decide, by cases H; rfl⟩

theorem right_Drop_spec (p0 : (_root_.List api_Right)) (p1 : Int) (r : (_root_.List api_Right)) (H : right_Drop p0 p1 = some r) : FSpecO Try.prog 15 [(e_s_api_Right p0), (.int .u64 p1)] [] 0 (.own 0) [(0, some (.arr 4 r.length fun j => (e_api_Right (r.getD j z_api_Right))))] 1 := by
  refine specO_of (fn := Try.f15) (args := [(e_s_api_Right p0), (.int .u64 p1)]) Try.func15 rfl (Nat.le_of_ble_eq_true rfl) ?_
  rintro ⟨G, w0, W, S, Sp⟩ hG
  cases hG
  unfold right_Drop at H
  refine aw_region (es := [_, _]) ⟨Step.plain rfl (does_box 23 (.tmp 1) 0 (.int .u64 p1) trivial rfl), ⟨⟨rfl, trivial⟩, trivial, rfl⟩, rfl,
    Step.plain rfl (does_nil false 1 4 (fun j => (e_api_Right (([] : _root_.List api_Right).getD j z_api_Right)))), ⟨trivial, trivial, rfl⟩, rfl, rfl⟩ ?_
  refine aw_cov (cov_prune (s1 := ⟨[(0, (e_s_api_Right p0)), (3, (.ptr 0 0 []))], [(0, some (.var (.int .u64 p1)))], 2⟩) ⟨rfl, rfl, trivial⟩ ⟨rfl, trivial⟩ (Nat.le_refl _)) ?_
  obtain ⟨v1, h2, H⟩ := bnd H
  obtain ⟨v3, h4, H⟩ := bnd H
  refine aw_region (es := [_, _, _, _, _]) ⟨Step.plain rfl (does_move (.tmp 0) (e_s_api_Right p0) trivial), ⟨⟨rfl, trivial⟩, trivial, rfl⟩, rfl,
    Step.plain rfl (does_callO 22 0 (fun _ => .any) (.func 22) [(.tmp 5)] [(e_s_api_Right p0)] [] [] true [(e_s_api_Right p0)] _ (.own 2) _ 2 1 _ _ rfl fo22 rfl ⟨trivial, trivial⟩ ⟨.ro _ _ (.data _ (d_s_api_Right p0)), trivial⟩ (slices_Clone_api_Right_api_Right_spec p0 _ h2) rfl (by simp) rfl trivial ⟨⟨Nat.le_of_ble_eq_true rfl, _, rfl, fun _ => (f_api_Right _)⟩, trivial⟩ (.own 0 (Nat.le_of_ble_eq_true rfl))), ⟨⟨rfl, trivial⟩, trivial, rfl⟩, rfl,
    Step.plain rfl (does_makeFunc 25 [(.tmp 3)] [(.ptr 0 0 [])] #[(.tmp 3)] rfl ⟨trivial, trivial⟩), ⟨⟨rfl, trivial⟩, trivial, rfl⟩, rfl,
    Step.plain rfl (does_callO 24 0 (fun _ => .any) (.func 24) [(.tmp 6), (.tmp 7)] [(.own 2), (.fn 25 1 (fun j => ([(.ptr 0 0 [])] : _root_.List V).getD j (.bool false)))] [(0, (.var (.int .u64 p1)))] [(2, (.arr 4 v1.length fun j => (e_api_Right (v1.getD j z_api_Right))))] true [(.own 0), (.fn 25 1 (fun j => ([.cptr (.int .u64 p1)] : _root_.List V).getD j (.bool false)))] _ (.own 3) _ 3 1 _ _ rfl fo24 rfl ⟨trivial, trivial, trivial⟩ ⟨(.mv 0 _ rfl), .ro _ _ (.fn _ _ _ _ (fun j hj => match j, hj with | 0, _ => .ptr 0 0 [] (.var (.int .u64 p1)) (.int .u64 p1) (.head _) trivial rfl rfl trivial | k + 1, hj => absurd hj (by omega))), trivial⟩ (slices_DeleteFunc_api_Right_api_Right_spec v1 (fun z0 => right_Drop_1 z0 p1) 25 1 (fun j => ([.cptr (.int .u64 p1)] : _root_.List V).getD j (.bool false)) fo25 (fun j => match j with | 0 => .inr ⟨(.int .u64 p1), trivial, rfl⟩ | _ + 1 => .inl trivial) (fun z0 r h => right_Drop_1_spec z0 p1 r h) _ h4) rfl (by simp) rfl ⟨(fun _ => (f_api_Right _)), trivial⟩ ⟨⟨Nat.le_of_ble_eq_true rfl, _, rfl, fun _ => (f_api_Right _)⟩, trivial⟩ (.own 0 (Nat.le_of_ble_eq_true rfl))), ⟨⟨rfl, rfl, trivial⟩, ⟨rfl, rfl, trivial⟩, rfl⟩, rfl,
    Step.plain rfl (does_assign (.tmp 8) (.own 3) trivial), ⟨⟨rfl, trivial⟩, trivial, rfl⟩, rfl, rfl⟩ ?_
  refine aw_cov (cov_prune (s1 := ⟨[(4, (.own 3))], [(3, some (.arr 4 v3.length fun j => (e_api_Right (v3.getD j z_api_Right))))], 4⟩) ⟨rfl, trivial⟩ ⟨rfl, trivial⟩ (Nat.le_refl _)) ?_
  refine aw_ret ?_
  exact fun a w hr => ⟨_, [(.own 0)], reach_of hr (cov_to (s1 := ⟨[(4, (.own 0))], [(0, some (.arr 4 v3.length fun j => (e_api_Right (v3.getD j z_api_Right))))], 1⟩) (fun i => match i with | 0 => 3 | k => k) [] ⟨⟨_, rfl, .own 0 _ _ (Nat.le_of_ble_eq_true rfl) rfl rfl (Box.like_refl _)⟩, trivial⟩ ⟨⟨Nat.le_of_ble_eq_true rfl, _, _, rfl, rfl, boxTo_arr (fun _ => (d_api_Right _))⟩, trivial⟩ rfl rfl), ⟨rfl, trivial⟩, by decide, by cases H; rfl, by cases H; exact ⟨rfl, trivial⟩, Nat.le_of_ble_eq_true rfl⟩

theorem right_Drop_data (p0 : (_root_.List api_Right)) (p1 : Int) (r : (_root_.List api_Right)) (H : right_Drop p0 p1 = some r) : FSpec Try.prog 15 [(e_s_api_Right p0), (.int .u64 p1)] (e_s_api_Right r) :=
  FSpecO.toData (fz := [0]) (right_Drop_spec p0 p1 r H) (d_s_api_Right r) (.frz 0 _ _ _ rfl (fun _ => (d_api_Right _)) (by decide))

theorem congressref16_Drop_spec (p0 : (_root_.List api_Right)) (p1 : Int) (r : (_root_.List api_Right)) (H : congressref16_Drop p0 p1 = some r) : FSpecO Try.prog 16 [(e_s_api_Right p0), (.int .u64 p1)] [] 0 (.own 0) [(0, some (.arr 4 r.length fun j => (e_api_Right (r.getD j z_api_Right))))] 1 := by
  refine specO_of (fn := Try.f16) (args := [(e_s_api_Right p0), (.int .u64 p1)]) Try.func16 rfl (Nat.le_of_ble_eq_true rfl) ?_
  rintro ⟨G, w0, W, S, Sp⟩ hG
  cases hG
  unfold congressref16_Drop at H
  refine aw_region (es := [_]) ⟨Step.plain rfl (does_nil false 0 4 (fun j => (e_api_Right (([] : _root_.List api_Right).getD j z_api_Right)))), ⟨trivial, trivial, rfl⟩, rfl, rfl⟩ ?_
  refine aw_cov (cov_prune (s1 := ⟨[(0, (e_s_api_Right p0)), (1, (.int .u64 p1))], [], 1⟩) ⟨rfl, rfl, trivial⟩ trivial (Nat.le_refl _)) ?_
  refine aw_region (es := [_, _]) ⟨Step.plain rfl (does_buildOwn 22 0 4 1 (e_api_Right z_api_Right) (fun j => (e_api_Right (([] : _root_.List api_Right).getD j z_api_Right))) #[] [] [] rfl so22 (by decide) trivial trivial (fun j h => match j, h with  | k + 0, h => absurd h (by omega))), ⟨trivial, trivial, rfl⟩, rfl,
    Step.plain rfl (does_assign (.tmp 7) (.own 1) trivial), ⟨⟨rfl, trivial⟩, trivial, rfl⟩, rfl, rfl⟩ ?_
  refine aw_cov (cov_prune (s1 := ⟨[(0, (e_s_api_Right p0)), (1, (.int .u64 p1)), (5, (.own 1))], [(1, some (.arr 4 ([] : _root_.List api_Right).length fun j => (e_api_Right (([] : _root_.List api_Right).getD j z_api_Right))))], 2⟩) ⟨rfl, rfl, rfl, trivial⟩ ⟨rfl, trivial⟩ (Nat.le_refl _)) ?_
  refine aw_seq ?_
  refine aw_region (es := [_]) ⟨Step.plain rfl (does_assign (.const (.int .i64 0)) (.int .i64 0) (fun _ => rfl)), ⟨trivial, trivial, rfl⟩, rfl, rfl⟩ ?_
  refine aw_cov (cov_prune (s1 := ⟨[(0, (e_s_api_Right p0)), (1, (.int .u64 p1)), (5, (.own 1)), (6, (.int .i64 0))], [(1, some (.arr 4 ([] : _root_.List api_Right).length fun j => (e_api_Right (([] : _root_.List api_Right).getD j z_api_Right))))], 2⟩) ⟨rfl, rfl, rfl, rfl, trivial⟩ ⟨rfl, trivial⟩ (Nat.le_refl _)) ?_
  obtain ⟨wn2, hwn2, Hrn2⟩ := bnd H
  refine aw_meet (fun y8 : _root_.List api_Right => (⟨[(5, (.own 1))], [(1, some (.arr 4 y8.length fun j => (e_api_Right (y8.getD j z_api_Right))))], 2⟩ : St)) (fun y8 => Fl.nx y8 = wn2) (fun y8 hy => ?_) (aw_block (aw_runs (fun x1 : Int × _root_.List api_Right => (⟨[(0, (e_s_api_Right p0)), (1, (.int .u64 p1)), (5, (.own 1)), (6, (.int .i64 x1.1))], [(1, some (.arr 4 x1.2.length fun j => (e_api_Right (x1.2.getD j z_api_Right))))], 2⟩ : St)) hwn2 (cov_prune ⟨rfl, rfl, rfl, rfl, trivial⟩ ⟨rfl, trivial⟩ (Nat.le_of_ble_eq_true rfl)) (fun x1 st H hsn2 => ?_)))
  · have H := nx_of hy Hrn2
    refine nx_seq ?_
    refine aw_region (es := [_, _]) ⟨Step.plain rfl (does_move (.tmp 5) (.own 1) trivial), ⟨⟨rfl, trivial⟩, trivial, rfl⟩, rfl,
      Step.plain rfl (does_assign (.tmp 28) (.own 1) trivial), ⟨⟨rfl, trivial⟩, trivial, rfl⟩, rfl, rfl⟩ ?_
    refine aw_cov (cov_prune (s1 := ⟨[(4, (.own 1))], [(1, some (.arr 4 y8.length fun j => (e_api_Right (y8.getD j z_api_Right))))], 2⟩) ⟨rfl, trivial⟩ ⟨rfl, trivial⟩ (Nat.le_refl _)) ?_
    refine aw_ret ?_
    exact fun a w hr => ⟨_, [(.own 0)], reach_of hr (cov_to (s1 := ⟨[(4, (.own 0))], [(0, some (.arr 4 y8.length fun j => (e_api_Right (y8.getD j z_api_Right))))], 1⟩) (fun i => match i with | 0 => 1 | k => k) [] ⟨⟨_, rfl, .own 0 _ _ (Nat.le_of_ble_eq_true rfl) rfl rfl (Box.like_refl _)⟩, trivial⟩ ⟨⟨Nat.le_of_ble_eq_true rfl, _, _, rfl, rfl, boxTo_arr (fun _ => (d_api_Right _))⟩, trivial⟩ rfl rfl), ⟨rfl, trivial⟩, by decide, by cases H; rfl, by cases H; exact ⟨rfl, trivial⟩, Nat.le_of_ble_eq_true rfl⟩
  · refine aw_seq ?_
    refine aw_region (es := [_, _, _, _]) ⟨Step.plain rfl (does_move (.tmp 6) (.int .i64 x1.1) trivial), ⟨⟨rfl, trivial⟩, trivial, rfl⟩, rfl,
      Step.plain rfl (does_move (.tmp 0) (e_s_api_Right p0) trivial), ⟨⟨rfl, trivial⟩, trivial, rfl⟩, rfl,
      Step.plain rfl (does_lens 22 4 p0.length 9 (fun j => (e_api_Right (p0.getD j z_api_Right))) el22), ⟨⟨rfl, trivial⟩, trivial, rfl⟩, rfl,
      Step.plain rfl (does_bin .lss 3 3 (.tmp 8) (.tmp 10) .i64 x1.1 (p0.length : Int) (.bool (decide (x1.1 < (p0.length : Int)))) trivial trivial (bin_lss _ _ _ _)), ⟨⟨rfl, rfl, trivial⟩, trivial, rfl⟩, rfl, rfl⟩ ?_
    refine aw_cov (cov_prune (s1 := ⟨[(0, (e_s_api_Right p0)), (1, (.int .u64 p1)), (5, (.own 1)), (6, (.int .i64 x1.1)), (11, (.bool (decide (x1.1 < (p0.length : Int)))))], [(1, some (.arr 4 x1.2.length fun j => (e_api_Right (x1.2.getD j z_api_Right))))], 2⟩) ⟨rfl, rfl, rfl, rfl, rfl, trivial⟩ ⟨rfl, trivial⟩ (Nat.le_refl _)) ?_
    refine aw_cond rfl (fun hc => ?_) (fun hc => ?_)
    · replace H := ite_t hc H
      refine aw_skip ?_
      refine nx_seq ?_
      refine aw_seq ?_
      refine aw_jn (fun x7 : _root_.List api_Right => (⟨[(0, (e_s_api_Right p0)), (1, (.int .u64 p1)), (5, (.own 1)), (6, (.int .i64 x1.1))], [(1, some (.arr 4 x7.length fun j => (e_api_Right (x7.getD j z_api_Right))))], 3⟩ : St)) H (fun x7 H => ?_) (fun j3 H => ?_)
      · refine nx_seq ?_
        refine aw_region1 (es := [_, _, _]) ⟨Step.plain rfl (does_move (.tmp 6) (.int .i64 x1.1) trivial), ⟨⟨rfl, trivial⟩, trivial, rfl⟩, rfl,
          Step.plain rfl (does_bin .add 3 3 (.tmp 12) (.const (.int .i64 1)) .i64 x1.1 1 (.int .i64 (IntKind.i64.wrap (x1.1 + 1))) trivial (fun _ => rfl) (bin_add _ _ _ _)), ⟨⟨rfl, trivial⟩, trivial, rfl⟩, rfl,
          Step.plain rfl (does_assign (.tmp 13) (.int .i64 (IntKind.i64.wrap (x1.1 + 1))) trivial), ⟨⟨rfl, trivial⟩, trivial, rfl⟩, rfl, rfl⟩ ?_
        exact nx_loop ((IntKind.i64.wrap (x1.1 + 1)), x7) H (cov_of (fun i => match i with | 1 => 1 | k => k) ⟨⟨_, rfl, ⟨rfl, (d_s_api_Right _).plain⟩⟩, ⟨_, rfl, ⟨rfl, trivial⟩⟩, ⟨_, rfl, ⟨rfl, Nat.le_of_ble_eq_true rfl⟩⟩, ⟨_, rfl, ⟨rfl, trivial⟩⟩, trivial⟩ ⟨⟨Nat.le_of_ble_eq_true rfl, _, _, rfl, rfl, ⟨rfl, rfl, fun _ => .inl ⟨rfl, (d_api_Right _).plain⟩⟩⟩, trivial⟩ rfl)
      · refine aw_block ?_
        obtain ⟨h4, H⟩ := ib_of H
        refine aw_region (es := [_, _, _, _, _, _, _]) ⟨Step.plain rfl (does_move (.tmp 0) (e_s_api_Right p0) trivial), ⟨⟨rfl, trivial⟩, trivial, rfl⟩, rfl,
          Step.plain rfl (does_move (.tmp 6) (.int .i64 x1.1) trivial), ⟨⟨rfl, trivial⟩, trivial, rfl⟩, rfl,
          Step.plain rfl (does_indexAddrs 22 4 p0.length 14 (fun j => (e_api_Right (p0.getD j z_api_Right))) (.tmp 15) .i64 x1.1 el22 trivial h4.1 h4.2), ⟨⟨rfl, rfl, trivial⟩, trivial, rfl⟩, rfl,
          Step.plain rfl (does_fieldAddrc 46 1 1 16 (e_api_Right (p0.getD x1.1.toNat z_api_Right)) fl46_1 rfl (Nat.le_of_ble_eq_true rfl) rfl), ⟨⟨rfl, trivial⟩, trivial, rfl⟩, rfl,
          Step.plain rfl (does_loadc 23 17 (.int .u64 ((p0.getD x1.1.toNat z_api_Right).Session)) ty23), ⟨⟨rfl, trivial⟩, trivial, rfl⟩, rfl,
          Step.plain rfl (does_move (.tmp 1) (.int .u64 p1) trivial), ⟨⟨rfl, trivial⟩, trivial, rfl⟩, rfl,
          Step.plain rfl (does_bin .neq 23 23 (.tmp 18) (.tmp 19) .u64 ((p0.getD x1.1.toNat z_api_Right).Session) p1 (.bool (((p0.getD x1.1.toNat z_api_Right).Session) != p1)) trivial trivial (bin_neq _ _ _ _)), ⟨⟨rfl, rfl, trivial⟩, trivial, rfl⟩, rfl, rfl⟩ ?_
        refine aw_cov (cov_prune (s1 := ⟨[(0, (e_s_api_Right p0)), (1, (.int .u64 p1)), (5, (.own 1)), (6, (.int .i64 x1.1)), (20, (.bool (((p0.getD x1.1.toNat z_api_Right).Session) != p1)))], [(1, some (.arr 4 x1.2.length fun j => (e_api_Right (x1.2.getD j z_api_Right))))], 2⟩) ⟨rfl, rfl, rfl, rfl, rfl, trivial⟩ ⟨rfl, trivial⟩ (Nat.le_refl _)) ?_
        refine aw_cond rfl (fun hc => ?_) (fun hc => ?_)
        · replace H := ite_t hc H
          obtain ⟨h5, H⟩ := ib_of H
          obtain ⟨h6, H⟩ := fit_of H
          refine aw_region1 (es := [_, _, _, _, _, _, _, _]) ⟨Step.plain rfl (does_move (.tmp 5) (.own 1) trivial), ⟨⟨rfl, trivial⟩, trivial, rfl⟩, rfl,
            Step.plain rfl (does_move (.tmp 0) (e_s_api_Right p0) trivial), ⟨⟨rfl, trivial⟩, trivial, rfl⟩, rfl,
            Step.plain rfl (does_move (.tmp 6) (.int .i64 x1.1) trivial), ⟨⟨rfl, trivial⟩, trivial, rfl⟩, rfl,
            Step.plain rfl (does_indexAddrs 22 4 p0.length 22 (fun j => (e_api_Right (p0.getD j z_api_Right))) (.tmp 23) .i64 x1.1 el22 trivial h5.1 h5.2), ⟨⟨rfl, rfl, trivial⟩, trivial, rfl⟩, rfl,
            Step.plain rfl (does_loadc 46 24 (e_api_Right (p0.getD x1.1.toNat z_api_Right)) ty46), ⟨⟨rfl, trivial⟩, trivial, rfl⟩, rfl,
            Step.plain rfl (does_buildSl 22 1 4 (e_api_Right z_api_Right) (fun j => (e_api_Right (([p0.getD x1.1.toNat z_api_Right] : _root_.List api_Right).getD j z_api_Right))) #[(0, (.tmp 25))] [(0, (.tmp 25))] [(0, (e_api_Right (p0.getD x1.1.toNat z_api_Right)))] rfl so22 (by decide) ⟨⟨rfl, trivial⟩, trivial⟩ ⟨⟨Nat.le_of_ble_eq_true rfl, rfl, rfl⟩, trivial⟩ (fun j h => match j, h with | 0, _ => rfl | k + 1, h => absurd h (by omega))), ⟨⟨rfl, trivial⟩, trivial, rfl⟩, rfl,
            Step.plain rfl (does_appendL e_api_Right z_api_Right x1.2 ([p0.getD x1.1.toNat z_api_Right] : _root_.List api_Right) 22 4 32 1 2 21 26 ap22 h6), ⟨⟨rfl, rfl, trivial⟩, ⟨rfl, trivial⟩, rfl⟩, rfl,
            Step.plain rfl (does_assign (.tmp 27) (.own 2) trivial), ⟨⟨rfl, trivial⟩, trivial, rfl⟩, rfl, rfl⟩ ?_
          refine nx_blk ?_
          exact nx_join ((x1.2 ++ ([p0.getD x1.1.toNat z_api_Right] : _root_.List api_Right))) H (cov_of (fun i => match i with | 1 => 2 | k => k) ⟨⟨_, rfl, ⟨rfl, (d_s_api_Right _).plain⟩⟩, ⟨_, rfl, ⟨rfl, trivial⟩⟩, ⟨_, rfl, ⟨rfl, Nat.le_of_ble_eq_true rfl⟩⟩, ⟨_, rfl, ⟨rfl, trivial⟩⟩, trivial⟩ ⟨⟨Nat.le_of_ble_eq_true rfl, _, _, rfl, rfl, ⟨rfl, rfl, fun _ => .inl ⟨rfl, (d_api_Right _).plain⟩⟩⟩, trivial⟩ rfl)
        · replace H := ite_f hc H
          refine aw_skip ?_
          refine nx_blk ?_
          exact nx_join (x1.2) H (cov_of (fun i => match i with | 1 => 1 | k => k) ⟨⟨_, rfl, ⟨rfl, (d_s_api_Right _).plain⟩⟩, ⟨_, rfl, ⟨rfl, trivial⟩⟩, ⟨_, rfl, ⟨rfl, Nat.le_of_ble_eq_true rfl⟩⟩, ⟨_, rfl, ⟨rfl, trivial⟩⟩, trivial⟩ ⟨⟨Nat.le_of_ble_eq_true rfl, _, _, rfl, rfl, ⟨rfl, rfl, fun _ => .inl ⟨rfl, (d_api_Right _).plain⟩⟩⟩, trivial⟩ rfl)
    · replace H := ite_f hc H
      refine aw_exit ?_
      refine ex_then ?_
      refine ex_then ?_
      refine ex_here ?_
      exact nx_ljoin (x1.2) H hsn2 (cov_prune ⟨rfl, trivial⟩ ⟨rfl, trivial⟩ (Nat.le_of_ble_eq_true rfl))

theorem congressref16_Drop_data (p0 : (_root_.List api_Right)) (p1 : Int) (r : (_root_.List api_Right)) (H : congressref16_Drop p0 p1 = some r) : FSpec Try.prog 16 [(e_s_api_Right p0), (.int .u64 p1)] (e_s_api_Right r) :=
  FSpecO.toData (fz := [0]) (congressref16_Drop_spec p0 p1 r H) (d_s_api_Right r) (.frz 0 _ _ _ rfl (fun _ => (d_api_Right _)) (by decide))

theorem congressref16_May_spec (p0 : (_root_.List api_Right)) (r : Bool) (H : congressref16_May p0 = some r) : FSpec Try.prog 18 [(e_s_api_Right p0)] (.bool r) := by
  refine spec_of (fn := Try.f18) (args := [(e_s_api_Right p0)]) Try.func18 rfl (Nat.le_of_ble_eq_true rfl) ?_
  rintro ⟨G, w0, W, S, Sp⟩ hG
  cases hG
  unfold congressref16_May at H
  refine aw_region (es := [_]) ⟨Step.plain rfl (does_assign (.const (.bool false)) (.bool false) (fun _ => rfl)), ⟨trivial, trivial, rfl⟩, rfl, rfl⟩ ?_
  refine aw_cov (cov_prune (s1 := ⟨[(0, (e_s_api_Right p0))], [], 0⟩) ⟨rfl, trivial⟩ trivial (Nat.le_refl _)) ?_
  refine aw_seq ?_
  refine aw_region (es := [_]) ⟨Step.plain rfl (does_assign (.const (.int .i64 0)) (.int .i64 0) (fun _ => rfl)), ⟨trivial, trivial, rfl⟩, rfl, rfl⟩ ?_
  refine aw_cov (cov_prune (s1 := ⟨[(0, (e_s_api_Right p0)), (3, (.int .i64 0))], [], 0⟩) ⟨rfl, rfl, trivial⟩ trivial (Nat.le_refl _)) ?_
  obtain ⟨wn2, hwn2, Hrn2⟩ := bnd H
  refine aw_meet (fun y10 : Unit => (⟨[(0, (e_s_api_Right p0))], [], 0⟩ : St)) (fun y10 => Fl.nx y10 = wn2) (fun y10 hy => ?_) (aw_block (aw_runs (fun x1 : Int => (⟨[(0, (e_s_api_Right p0)), (3, (.int .i64 x1))], [], 0⟩ : St)) hwn2 (cov_prune ⟨rfl, rfl, trivial⟩ trivial (Nat.le_of_ble_eq_true rfl)) (fun x1 st H hsn2 => ?_)))
  · have H := nx_of hy Hrn2
    refine nx_seq ?_
    refine aw_region (es := [_, _, _, _]) ⟨Step.plain rfl (does_move (.tmp 0) (e_s_api_Right p0) trivial), ⟨⟨rfl, trivial⟩, trivial, rfl⟩, rfl,
      Step.plain rfl (does_lens 22 4 p0.length 43 (fun j => (e_api_Right (p0.getD j z_api_Right))) el22), ⟨⟨rfl, trivial⟩, trivial, rfl⟩, rfl,
      Step.plain rfl (does_bin .leq 3 3 (.tmp 44) (.const (.int .i64 16)) .i64 (p0.length : Int) 16 (.bool (decide ((p0.length : Int) ≤ 16))) trivial (fun _ => rfl) (bin_leq _ _ _ _)), ⟨⟨rfl, trivial⟩, trivial, rfl⟩, rfl,
      Step.plain rfl (does_assign (.tmp 45) (.bool (decide ((p0.length : Int) ≤ 16))) trivial), ⟨⟨rfl, trivial⟩, trivial, rfl⟩, rfl, rfl⟩ ?_
    refine aw_cov (cov_prune (s1 := ⟨[(2, (.bool (decide ((p0.length : Int) ≤ 16))))], [], 0⟩) ⟨rfl, trivial⟩ trivial (Nat.le_refl _)) ?_
    refine aw_ret ?_
    exact fun a w hr => ⟨_, [(.bool (decide ((p0.length : Int) ≤ 16)))], hr, ⟨⟨_, rfl, .data _ trivial⟩, trivial⟩, by decide, by cases H; rfl⟩
  · refine aw_seq ?_
    refine aw_region (es := [_, _, _, _]) ⟨Step.plain rfl (does_move (.tmp 3) (.int .i64 x1) trivial), ⟨⟨rfl, trivial⟩, trivial, rfl⟩, rfl,
      Step.plain rfl (does_move (.tmp 0) (e_s_api_Right p0) trivial), ⟨⟨rfl, trivial⟩, trivial, rfl⟩, rfl,
      Step.plain rfl (does_lens 22 4 p0.length 5 (fun j => (e_api_Right (p0.getD j z_api_Right))) el22), ⟨⟨rfl, trivial⟩, trivial, rfl⟩, rfl,
      Step.plain rfl (does_bin .lss 3 3 (.tmp 4) (.tmp 6) .i64 x1 (p0.length : Int) (.bool (decide (x1 < (p0.length : Int)))) trivial trivial (bin_lss _ _ _ _)), ⟨⟨rfl, rfl, trivial⟩, trivial, rfl⟩, rfl, rfl⟩ ?_
    refine aw_cov (cov_prune (s1 := ⟨[(0, (e_s_api_Right p0)), (3, (.int .i64 x1)), (7, (.bool (decide (x1 < (p0.length : Int)))))], [], 0⟩) ⟨rfl, rfl, rfl, trivial⟩ trivial (Nat.le_refl _)) ?_
    refine aw_cond rfl (fun hc => ?_) (fun hc => ?_)
    · replace H := ite_t hc H
      refine aw_skip ?_
      refine nx_seq ?_
      refine aw_seq ?_
      refine aw_block ?_
      obtain ⟨h3, H⟩ := ib_of H
      obtain ⟨h4, H⟩ := ibg_of H
      obtain ⟨h5, H⟩ := ibg_of H
      obtain ⟨h6, H⟩ := ibg_of H
      obtain ⟨v7, h8, H⟩ := whn_of H
      refine aw_region (es := [_, _, _, _, _, _, _, _, _, _, _, _, _, _, _, _, _, _, _, _, _, _, _, _, _, _, _, _, _, _, _, _, _]) ⟨Step.plain rfl (does_move (.tmp 0) (e_s_api_Right p0) trivial), ⟨⟨rfl, trivial⟩, trivial, rfl⟩, rfl,
        Step.plain rfl (does_move (.tmp 3) (.int .i64 x1) trivial), ⟨⟨rfl, trivial⟩, trivial, rfl⟩, rfl,
        Step.plain rfl (does_indexAddrs 22 4 p0.length 10 (fun j => (e_api_Right (p0.getD j z_api_Right))) (.tmp 11) .i64 x1 el22 trivial h3.1 h3.2), ⟨⟨rfl, rfl, trivial⟩, trivial, rfl⟩, rfl,
        Step.plain rfl (does_fieldAddrc 46 0 0 12 (e_api_Right (p0.getD x1.toNat z_api_Right)) fl46_0 rfl (Nat.le_of_ble_eq_true rfl) rfl), ⟨⟨rfl, trivial⟩, trivial, rfl⟩, rfl,
        Step.plain rfl (does_loadc 23 13 (.int .u64 ((p0.getD x1.toNat z_api_Right).Handle)) ty23), ⟨⟨rfl, trivial⟩, trivial, rfl⟩, rfl,
        Step.plain rfl (does_bin .eql 23 23 (.tmp 14) (.const (.int .u64 0)) .u64 ((p0.getD x1.toNat z_api_Right).Handle) 0 (.bool (((p0.getD x1.toNat z_api_Right).Handle) == 0)) trivial (fun _ => rfl) (bin_eql _ _ _ _)), ⟨⟨rfl, trivial⟩, trivial, rfl⟩, rfl,
        Step.plain rfl (does_move (.tmp 15) (.bool (((p0.getD x1.toNat z_api_Right).Handle) == 0)) trivial), ⟨⟨rfl, trivial⟩, trivial, rfl⟩, rfl,
        Step.guarded rfl rfl rfl rfl (fun hc => does_move (.tmp 0) (e_s_api_Right p0) trivial), ⟨⟨rfl, rfl, trivial⟩, trivial, rfl⟩, rfl,
        Step.guarded rfl rfl rfl rfl (fun hc => does_move (.tmp 3) (.int .i64 x1) trivial), ⟨⟨rfl, rfl, trivial⟩, trivial, rfl⟩, rfl,
        Step.guarded rfl rfl rfl rfl (fun hc => Does.strip (n' := [(17, (.opt (!(((p0.getD x1.toNat z_api_Right).Handle) == 0)) (e_s_api_Right p0))), (18, (.opt (!(((p0.getD x1.toNat z_api_Right).Handle) == 0)) (.int .i64 x1)))]) (n := [(17, (e_s_api_Right p0)), (18, (.int .i64 x1))]) ⟨(.opt _ _ hc), (.opt _ _ hc), trivial⟩ (does_indexAddrs 22 4 p0.length 17 (fun j => (e_api_Right (p0.getD j z_api_Right))) (.tmp 18) .i64 x1 el22 trivial (h4 hc).1 (h4 hc).2)), ⟨⟨rfl, rfl, rfl, trivial⟩, trivial, rfl⟩, rfl,
        Step.guarded rfl rfl rfl rfl (fun hc => Does.strip (n' := [(19, (.opt (!(((p0.getD x1.toNat z_api_Right).Handle) == 0)) (.cptr (e_api_Right (p0.getD x1.toNat z_api_Right)))))]) (n := [(19, (.cptr (e_api_Right (p0.getD x1.toNat z_api_Right))))]) ⟨(.opt _ _ hc), trivial⟩ (does_fieldAddrc 46 2 2 19 (e_api_Right (p0.getD x1.toNat z_api_Right)) fl46_2 rfl (Nat.le_of_ble_eq_true rfl) rfl)), ⟨⟨rfl, rfl, trivial⟩, trivial, rfl⟩, rfl,
        Step.guarded rfl rfl rfl rfl (fun hc => Does.strip (n' := [(20, (.opt (!(((p0.getD x1.toNat z_api_Right).Handle) == 0)) (.cptr (.int .i64 ((p0.getD x1.toNat z_api_Right).Give)))))]) (n := [(20, (.cptr (.int .i64 ((p0.getD x1.toNat z_api_Right).Give))))]) ⟨(.opt _ _ hc), trivial⟩ (does_loadc 3 20 (.int .i64 ((p0.getD x1.toNat z_api_Right).Give)) ty3)), ⟨⟨rfl, rfl, trivial⟩, trivial, rfl⟩, rfl,
        Step.guarded rfl rfl rfl rfl (fun hc => Does.strip (n' := [(21, (.opt (!(((p0.getD x1.toNat z_api_Right).Handle) == 0)) (.int .i64 ((p0.getD x1.toNat z_api_Right).Give))))]) (n := [(21, (.int .i64 ((p0.getD x1.toNat z_api_Right).Give)))]) ⟨(.opt _ _ hc), trivial⟩ (does_bin .lss 3 3 (.tmp 21) (.const (.int .i64 1)) .i64 ((p0.getD x1.toNat z_api_Right).Give) 1 (.bool (decide (((p0.getD x1.toNat z_api_Right).Give) < 1))) trivial (fun _ => rfl) (bin_lss _ _ _ _))), ⟨⟨rfl, rfl, trivial⟩, trivial, rfl⟩, rfl,
        Step.plain rfl (does_or 16 22 (((p0.getD x1.toNat z_api_Right).Handle) == 0) (decide (((p0.getD x1.toNat z_api_Right).Give) < 1))), ⟨⟨rfl, rfl, trivial⟩, trivial, rfl⟩, rfl,
        Step.plain rfl (does_move (.tmp 23) (.bool ((((p0.getD x1.toNat z_api_Right).Handle) == 0) || (decide (((p0.getD x1.toNat z_api_Right).Give) < 1)))) trivial), ⟨⟨rfl, trivial⟩, trivial, rfl⟩, rfl,
        Step.guarded rfl rfl rfl rfl (fun hc => does_move (.tmp 0) (e_s_api_Right p0) trivial), ⟨⟨rfl, rfl, trivial⟩, trivial, rfl⟩, rfl,
        Step.guarded rfl rfl rfl rfl (fun hc => does_move (.tmp 3) (.int .i64 x1) trivial), ⟨⟨rfl, rfl, trivial⟩, trivial, rfl⟩, rfl,
        Step.guarded rfl rfl rfl rfl (fun hc => Does.strip (n' := [(25, (.opt (!((((p0.getD x1.toNat z_api_Right).Handle) == 0) || (decide (((p0.getD x1.toNat z_api_Right).Give) < 1)))) (e_s_api_Right p0))), (26, (.opt (!((((p0.getD x1.toNat z_api_Right).Handle) == 0) || (decide (((p0.getD x1.toNat z_api_Right).Give) < 1)))) (.int .i64 x1)))]) (n := [(25, (e_s_api_Right p0)), (26, (.int .i64 x1))]) ⟨(.opt _ _ hc), (.opt _ _ hc), trivial⟩ (does_indexAddrs 22 4 p0.length 25 (fun j => (e_api_Right (p0.getD j z_api_Right))) (.tmp 26) .i64 x1 el22 trivial (h5 hc).1 (h5 hc).2)), ⟨⟨rfl, rfl, rfl, trivial⟩, trivial, rfl⟩, rfl,
        Step.guarded rfl rfl rfl rfl (fun hc => Does.strip (n' := [(27, (.opt (!((((p0.getD x1.toNat z_api_Right).Handle) == 0) || (decide (((p0.getD x1.toNat z_api_Right).Give) < 1)))) (.cptr (e_api_Right (p0.getD x1.toNat z_api_Right)))))]) (n := [(27, (.cptr (e_api_Right (p0.getD x1.toNat z_api_Right))))]) ⟨(.opt _ _ hc), trivial⟩ (does_fieldAddrc 46 2 2 27 (e_api_Right (p0.getD x1.toNat z_api_Right)) fl46_2 rfl (Nat.le_of_ble_eq_true rfl) rfl)), ⟨⟨rfl, rfl, trivial⟩, trivial, rfl⟩, rfl,
        Step.guarded rfl rfl rfl rfl (fun hc => Does.strip (n' := [(28, (.opt (!((((p0.getD x1.toNat z_api_Right).Handle) == 0) || (decide (((p0.getD x1.toNat z_api_Right).Give) < 1)))) (.cptr (.int .i64 ((p0.getD x1.toNat z_api_Right).Give)))))]) (n := [(28, (.cptr (.int .i64 ((p0.getD x1.toNat z_api_Right).Give))))]) ⟨(.opt _ _ hc), trivial⟩ (does_loadc 3 28 (.int .i64 ((p0.getD x1.toNat z_api_Right).Give)) ty3)), ⟨⟨rfl, rfl, trivial⟩, trivial, rfl⟩, rfl,
        Step.guarded rfl rfl rfl rfl (fun hc => Does.strip (n' := [(29, (.opt (!((((p0.getD x1.toNat z_api_Right).Handle) == 0) || (decide (((p0.getD x1.toNat z_api_Right).Give) < 1)))) (.int .i64 ((p0.getD x1.toNat z_api_Right).Give))))]) (n := [(29, (.int .i64 ((p0.getD x1.toNat z_api_Right).Give)))]) ⟨(.opt _ _ hc), trivial⟩ (does_bin .gtr 3 3 (.tmp 29) (.const (.int .i64 7)) .i64 ((p0.getD x1.toNat z_api_Right).Give) 7 (.bool (decide (((p0.getD x1.toNat z_api_Right).Give) > 7))) trivial (fun _ => rfl) (bin_gtr _ _ _ _))), ⟨⟨rfl, rfl, trivial⟩, trivial, rfl⟩, rfl,
        Step.plain rfl (does_or 24 30 ((((p0.getD x1.toNat z_api_Right).Handle) == 0) || (decide (((p0.getD x1.toNat z_api_Right).Give) < 1))) (decide (((p0.getD x1.toNat z_api_Right).Give) > 7))), ⟨⟨rfl, rfl, trivial⟩, trivial, rfl⟩, rfl,
        Step.plain rfl (does_move (.tmp 31) (.bool (((((p0.getD x1.toNat z_api_Right).Handle) == 0) || (decide (((p0.getD x1.toNat z_api_Right).Give) < 1))) || (decide (((p0.getD x1.toNat z_api_Right).Give) > 7)))) trivial), ⟨⟨rfl, trivial⟩, trivial, rfl⟩, rfl,
        Step.guarded rfl rfl rfl rfl (fun hc => does_move (.tmp 0) (e_s_api_Right p0) trivial), ⟨⟨rfl, rfl, trivial⟩, trivial, rfl⟩, rfl,
        Step.guarded rfl rfl rfl rfl (fun hc => does_move (.tmp 0) (e_s_api_Right p0) trivial), ⟨⟨rfl, rfl, trivial⟩, trivial, rfl⟩, rfl,
        Step.guarded rfl rfl rfl rfl (fun hc => does_move (.tmp 3) (.int .i64 x1) trivial), ⟨⟨rfl, rfl, trivial⟩, trivial, rfl⟩, rfl,
        Step.guarded rfl rfl rfl rfl (fun hc => Does.strip (n' := [(34, (.opt (!(((((p0.getD x1.toNat z_api_Right).Handle) == 0) || (decide (((p0.getD x1.toNat z_api_Right).Give) < 1))) || (decide (((p0.getD x1.toNat z_api_Right).Give) > 7)))) (e_s_api_Right p0))), (35, (.opt (!(((((p0.getD x1.toNat z_api_Right).Handle) == 0) || (decide (((p0.getD x1.toNat z_api_Right).Give) < 1))) || (decide (((p0.getD x1.toNat z_api_Right).Give) > 7)))) (.int .i64 x1)))]) (n := [(34, (e_s_api_Right p0)), (35, (.int .i64 x1))]) ⟨(.opt _ _ hc), (.opt _ _ hc), trivial⟩ (does_indexAddrs 22 4 p0.length 34 (fun j => (e_api_Right (p0.getD j z_api_Right))) (.tmp 35) .i64 x1 el22 trivial (h6 hc).1 (h6 hc).2)), ⟨⟨rfl, rfl, rfl, trivial⟩, trivial, rfl⟩, rfl,
        Step.guarded rfl rfl rfl rfl (fun hc => Does.strip (n' := [(36, (.opt (!(((((p0.getD x1.toNat z_api_Right).Handle) == 0) || (decide (((p0.getD x1.toNat z_api_Right).Give) < 1))) || (decide (((p0.getD x1.toNat z_api_Right).Give) > 7)))) (.cptr (e_api_Right (p0.getD x1.toNat z_api_Right)))))]) (n := [(36, (.cptr (e_api_Right (p0.getD x1.toNat z_api_Right))))]) ⟨(.opt _ _ hc), trivial⟩ (does_fieldAddrc 46 0 0 36 (e_api_Right (p0.getD x1.toNat z_api_Right)) fl46_0 rfl (Nat.le_of_ble_eq_true rfl) rfl)), ⟨⟨rfl, rfl, trivial⟩, trivial, rfl⟩, rfl,
        Step.guarded rfl rfl rfl rfl (fun hc => Does.strip (n' := [(37, (.opt (!(((((p0.getD x1.toNat z_api_Right).Handle) == 0) || (decide (((p0.getD x1.toNat z_api_Right).Give) < 1))) || (decide (((p0.getD x1.toNat z_api_Right).Give) > 7)))) (.cptr (.int .u64 ((p0.getD x1.toNat z_api_Right).Handle)))))]) (n := [(37, (.cptr (.int .u64 ((p0.getD x1.toNat z_api_Right).Handle))))]) ⟨(.opt _ _ hc), trivial⟩ (does_loadc 23 37 (.int .u64 ((p0.getD x1.toNat z_api_Right).Handle)) ty23)), ⟨⟨rfl, rfl, trivial⟩, trivial, rfl⟩, rfl,
        Step.guarded rfl rfl rfl rfl (fun hc => Does.strip (n' := [(33, (.opt (!(((((p0.getD x1.toNat z_api_Right).Handle) == 0) || (decide (((p0.getD x1.toNat z_api_Right).Give) < 1))) || (decide (((p0.getD x1.toNat z_api_Right).Give) > 7)))) (e_s_api_Right p0))), (38, (.opt (!(((((p0.getD x1.toNat z_api_Right).Handle) == 0) || (decide (((p0.getD x1.toNat z_api_Right).Give) < 1))) || (decide (((p0.getD x1.toNat z_api_Right).Give) > 7)))) (.int .u64 ((p0.getD x1.toNat z_api_Right).Handle))))]) (n := [(33, (e_s_api_Right p0)), (38, (.int .u64 ((p0.getD x1.toNat z_api_Right).Handle)))]) ⟨(.opt _ _ hc), (.opt _ _ hc), trivial⟩ (does_call 23 0 (fun _ => .any) (.func 23) [(.tmp 33), (.tmp 38)] [(e_s_api_Right p0), (.int .u64 ((p0.getD x1.toNat z_api_Right).Handle))] [] true [(e_s_api_Right p0), (.int .u64 ((p0.getD x1.toNat z_api_Right).Handle))] (.int .i64 v7) _ _ rfl fo23 rfl ⟨trivial, trivial, trivial⟩ ⟨.data _ (d_s_api_Right p0), .data _ trivial, trivial⟩ (congressref16_Find_spec p0 ((p0.getD x1.toNat z_api_Right).Handle) _ (h8 hc)) trivial)), ⟨⟨rfl, rfl, rfl, trivial⟩, trivial, rfl⟩, rfl,
        Step.guarded rfl rfl rfl rfl (fun hc => does_move (.tmp 3) (.int .i64 x1) trivial), ⟨⟨rfl, rfl, trivial⟩, trivial, rfl⟩, rfl,
        Step.guarded rfl rfl rfl rfl (fun hc => Does.strip (n' := [(39, (.opt (!(((((p0.getD x1.toNat z_api_Right).Handle) == 0) || (decide (((p0.getD x1.toNat z_api_Right).Give) < 1))) || (decide (((p0.getD x1.toNat z_api_Right).Give) > 7)))) (.int .i64 v7))), (40, (.opt (!(((((p0.getD x1.toNat z_api_Right).Handle) == 0) || (decide (((p0.getD x1.toNat z_api_Right).Give) < 1))) || (decide (((p0.getD x1.toNat z_api_Right).Give) > 7)))) (.int .i64 x1)))]) (n := [(39, (.int .i64 v7)), (40, (.int .i64 x1))]) ⟨(.opt _ _ hc), (.opt _ _ hc), trivial⟩ (does_bin .neq 3 3 (.tmp 39) (.tmp 40) .i64 v7 x1 (.bool (v7 != x1)) trivial trivial (bin_neq _ _ _ _))), ⟨⟨rfl, rfl, rfl, trivial⟩, trivial, rfl⟩, rfl,
        Step.plain rfl (does_or 32 41 (((((p0.getD x1.toNat z_api_Right).Handle) == 0) || (decide (((p0.getD x1.toNat z_api_Right).Give) < 1))) || (decide (((p0.getD x1.toNat z_api_Right).Give) > 7))) (v7 != x1)), ⟨⟨rfl, rfl, trivial⟩, trivial, rfl⟩, rfl, rfl⟩ ?_
      obtain ⟨v9, hv9, H⟩ := lt_of H
      refine aw_cov (cov_prune (s1 := ⟨[(0, (e_s_api_Right p0)), (3, (.int .i64 x1)), (42, (.bool v9))], [], 0⟩) ⟨rfl, rfl, (by subst hv9; rfl), trivial⟩ trivial (Nat.le_refl _)) ?_
      refine aw_cond rfl (fun hc => ?_) (fun hc => ?_)
      · replace H := ite_t hc H
        refine aw_region (es := [_]) ⟨Step.plain rfl (does_assign (.const (.bool false)) (.bool false) (fun _ => rfl)), ⟨trivial, trivial, rfl⟩, rfl, rfl⟩ ?_
        refine aw_cov (cov_prune (s1 := ⟨[(2, (.bool false))], [], 0⟩) ⟨rfl, trivial⟩ trivial (Nat.le_refl _)) ?_
        refine aw_ret ?_
        replace H := rt_of H hsn2 Hrn2
        refine rt_blk ?_
        refine rt_then ?_
        refine rt_then ?_
        refine rt_blk ?_
        refine rt_then ?_
        refine rt_then ?_
        exact fun a w hr => ⟨_, [(.bool false)], hr, ⟨⟨_, rfl, .data _ trivial⟩, trivial⟩, by decide, by cases H; rfl⟩
      · replace H := ite_f hc H
        refine aw_skip ?_
        refine nx_blk ?_
        refine nx_seq ?_
        refine aw_region1 (es := [_, _, _]) ⟨Step.plain rfl (does_move (.tmp 3) (.int .i64 x1) trivial), ⟨⟨rfl, trivial⟩, trivial, rfl⟩, rfl,
          Step.plain rfl (does_bin .add 3 3 (.tmp 8) (.const (.int .i64 1)) .i64 x1 1 (.int .i64 (IntKind.i64.wrap (x1 + 1))) trivial (fun _ => rfl) (bin_add _ _ _ _)), ⟨⟨rfl, trivial⟩, trivial, rfl⟩, rfl,
          Step.plain rfl (does_assign (.tmp 9) (.int .i64 (IntKind.i64.wrap (x1 + 1))) trivial), ⟨⟨rfl, trivial⟩, trivial, rfl⟩, rfl, rfl⟩ ?_
        exact nx_loop ((IntKind.i64.wrap (x1 + 1))) H (cov_prune ⟨rfl, rfl, trivial⟩ trivial (Nat.le_of_ble_eq_true rfl))
    · replace H := ite_f hc H
      refine aw_exit ?_
      refine ex_then ?_
      refine ex_then ?_
      refine ex_here ?_
      exact nx_ljoin () H hsn2 (cov_prune ⟨rfl, trivial⟩ trivial (Nat.le_of_ble_eq_true rfl))

theorem congresslaw16_RightTells_spec (p0 : (_root_.List api_Right)) (p1 : congresslaw16_Do) (r : Bool) (H : congresslaw16_RightTells p0 p1 = some r) : FSpec Try.prog 3 [(e_s_api_Right p0), (e_congresslaw16_Do p1)] (.bool r) := by
  refine spec_of (fn := Try.f3) (args := [(e_s_api_Right p0), (e_congresslaw16_Do p1)]) Try.func3 rfl (Nat.le_of_ble_eq_true rfl) ?_
  rintro ⟨G, w0, W, S, Sp⟩ hG
  cases hG
  unfold congresslaw16_RightTells at H
  refine aw_region (es := [_, _]) ⟨Step.plain rfl (does_box 25 (.tmp 1) 0 (e_congresslaw16_Do p1) trivial rfl), ⟨⟨rfl, trivial⟩, trivial, rfl⟩, rfl,
    Step.plain rfl (does_assign (.const (.bool false)) (.bool false) (fun _ => rfl)), ⟨trivial, trivial, rfl⟩, rfl, rfl⟩ ?_
  refine aw_cov (cov_prune (s1 := ⟨[(0, (e_s_api_Right p0)), (3, (.ptr 0 0 []))], [(0, some (.var (e_congresslaw16_Do p1)))], 1⟩) ⟨rfl, rfl, trivial⟩ ⟨rfl, trivial⟩ (Nat.le_refl _)) ?_
  obtain ⟨v1, h2, H⟩ := bnd H
  refine aw_region (es := [_, _, _, _, _, _, _, _, _, _, _, _, _]) ⟨Step.plain rfl (does_move (.tmp 0) (e_s_api_Right p0) trivial), ⟨⟨rfl, trivial⟩, trivial, rfl⟩, rfl,
    Step.plain rfl (does_fieldAddr 25 1 1 3 0 0 [] (.var (e_congresslaw16_Do p1)) fl25_1), ⟨⟨rfl, trivial⟩, ⟨rfl, trivial⟩, rfl⟩, rfl,
    Step.plain rfl (does_load 23 19 0 (0 + 1) [1] (.var (e_congresslaw16_Do p1)) (.int .u64 p1.Handle) ⟨rfl, Nat.le_of_ble_eq_true rfl, trivial⟩ rfl rfl ty23), ⟨⟨rfl, trivial⟩, ⟨rfl, trivial⟩, rfl⟩, rfl,
    Step.plain rfl (does_fieldAddr 25 2 2 3 0 0 [] (.var (e_congresslaw16_Do p1)) fl25_2), ⟨⟨rfl, trivial⟩, ⟨rfl, trivial⟩, rfl⟩, rfl,
    Step.plain rfl (does_load 23 21 0 (0 + 2) [2] (.var (e_congresslaw16_Do p1)) (.int .u64 p1.Session) ⟨rfl, Nat.le_of_ble_eq_true rfl, trivial⟩ rfl rfl ty23), ⟨⟨rfl, trivial⟩, ⟨rfl, trivial⟩, rfl⟩, rfl,
    Step.plain rfl (does_fieldAddr 25 3 3 3 0 0 [] (.var (e_congresslaw16_Do p1)) fl25_3), ⟨⟨rfl, trivial⟩, ⟨rfl, trivial⟩, rfl⟩, rfl,
    Step.plain rfl (does_load 3 23 0 (0 + 3) [3] (.var (e_congresslaw16_Do p1)) (.int .i64 p1.Give) ⟨rfl, Nat.le_of_ble_eq_true rfl, trivial⟩ rfl rfl ty3), ⟨⟨rfl, trivial⟩, ⟨rfl, trivial⟩, rfl⟩, rfl,
    Step.plain rfl (does_callO 7 0 (fun _ => .any) (.func 7) [(.tmp 18), (.tmp 20), (.tmp 22), (.tmp 24)] [(e_s_api_Right p0), (.int .u64 p1.Handle), (.int .u64 p1.Session), (.int .i64 p1.Give)] [] [] true [(e_s_api_Right p0), (.int .u64 p1.Handle), (.int .u64 p1.Session), (.int .i64 p1.Give)] _ (resV [(.own 1), (.int .i64 v1.2)]) _ 1 1 _ _ rfl fo7 rfl ⟨trivial, trivial, trivial, trivial, trivial⟩ ⟨.ro _ _ (.data _ (d_s_api_Right p0)), .ro _ _ (.data _ trivial), .ro _ _ (.data _ trivial), .ro _ _ (.data _ trivial), trivial⟩ (right_Mint_spec p0 p1.Handle p1.Session p1.Give _ h2) rfl (by simp) rfl trivial ⟨⟨Nat.le_of_ble_eq_true rfl, _, rfl, fun _ => (f_api_Right _)⟩, trivial⟩ (.tup _ _ _ (fun j => match j with | 0 => .own 0 (Nat.le_of_ble_eq_true rfl) | 1 => .data _ (trivial) | _ + 2 => .data _ trivial))), ⟨⟨rfl, rfl, rfl, rfl, trivial⟩, trivial, rfl⟩, rfl,
    Step.plain rfl (does_move (.tmp 25) (resV [(.own 1), (.int .i64 v1.2)]) trivial), ⟨⟨rfl, trivial⟩, trivial, rfl⟩, rfl,
    Step.plain rfl (does_extract 17 0 2 (fun j => [(.own 1), (.int .i64 v1.2)].getD j (.bool false)) (Nat.le_of_ble_eq_true rfl)), ⟨⟨rfl, trivial⟩, trivial, rfl⟩, rfl,
    Step.plain rfl (does_extract 17 1 2 (fun j => [(.own 1), (.int .i64 v1.2)].getD j (.bool false)) (Nat.le_of_ble_eq_true rfl)), ⟨⟨rfl, trivial⟩, trivial, rfl⟩, rfl,
    Step.plain rfl (does_assign (.tmp 26) (.own 1) trivial), ⟨⟨rfl, trivial⟩, trivial, rfl⟩, rfl,
    Step.plain rfl (does_assign (.tmp 27) (.int .i64 v1.2) trivial), ⟨⟨rfl, trivial⟩, trivial, rfl⟩, rfl, rfl⟩ ?_
  refine aw_cov (cov_prune (s1 := ⟨[(0, (e_s_api_Right p0)), (3, (.ptr 0 0 [])), (5, (.own 1)), (6, (.int .i64 v1.2))], [(0, some (.var (e_congresslaw16_Do p1))), (1, some (.arr 4 v1.1.length fun j => (e_api_Right (v1.1.getD j z_api_Right))))], 2⟩) ⟨rfl, rfl, rfl, rfl, trivial⟩ ⟨rfl, rfl, trivial⟩ (Nat.le_refl _)) ?_
  obtain ⟨v3, h4, H⟩ := bnd H
  refine aw_region (es := [_, _, _, _, _, _, _, _, _, _, _, _, _]) ⟨Step.plain rfl (does_move (.tmp 0) (e_s_api_Right p0) trivial), ⟨⟨rfl, trivial⟩, trivial, rfl⟩, rfl,
    Step.plain rfl (does_fieldAddr 25 1 1 3 0 0 [] (.var (e_congresslaw16_Do p1)) fl25_1), ⟨⟨rfl, trivial⟩, ⟨rfl, trivial⟩, rfl⟩, rfl,
    Step.plain rfl (does_load 23 30 0 (0 + 1) [1] (.var (e_congresslaw16_Do p1)) (.int .u64 p1.Handle) ⟨rfl, Nat.le_of_ble_eq_true rfl, trivial⟩ rfl rfl ty23), ⟨⟨rfl, trivial⟩, ⟨rfl, trivial⟩, rfl⟩, rfl,
    Step.plain rfl (does_fieldAddr 25 2 2 3 0 0 [] (.var (e_congresslaw16_Do p1)) fl25_2), ⟨⟨rfl, trivial⟩, ⟨rfl, trivial⟩, rfl⟩, rfl,
    Step.plain rfl (does_load 23 32 0 (0 + 2) [2] (.var (e_congresslaw16_Do p1)) (.int .u64 p1.Session) ⟨rfl, Nat.le_of_ble_eq_true rfl, trivial⟩ rfl rfl ty23), ⟨⟨rfl, trivial⟩, ⟨rfl, trivial⟩, rfl⟩, rfl,
    Step.plain rfl (does_fieldAddr 25 3 3 3 0 0 [] (.var (e_congresslaw16_Do p1)) fl25_3), ⟨⟨rfl, trivial⟩, ⟨rfl, trivial⟩, rfl⟩, rfl,
    Step.plain rfl (does_load 3 34 0 (0 + 3) [3] (.var (e_congresslaw16_Do p1)) (.int .i64 p1.Give) ⟨rfl, Nat.le_of_ble_eq_true rfl, trivial⟩ rfl rfl ty3), ⟨⟨rfl, trivial⟩, ⟨rfl, trivial⟩, rfl⟩, rfl,
    Step.plain rfl (does_callO 8 0 (fun _ => .any) (.func 8) [(.tmp 29), (.tmp 31), (.tmp 33), (.tmp 35)] [(e_s_api_Right p0), (.int .u64 p1.Handle), (.int .u64 p1.Session), (.int .i64 p1.Give)] [] [] true [(e_s_api_Right p0), (.int .u64 p1.Handle), (.int .u64 p1.Session), (.int .i64 p1.Give)] _ (resV [(.own 2), (.int .i64 v3.2)]) _ 2 1 _ _ rfl fo8 rfl ⟨trivial, trivial, trivial, trivial, trivial⟩ ⟨.ro _ _ (.data _ (d_s_api_Right p0)), .ro _ _ (.data _ trivial), .ro _ _ (.data _ trivial), .ro _ _ (.data _ trivial), trivial⟩ (congressref16_Mint_spec p0 p1.Handle p1.Session p1.Give _ h4) rfl (by simp) rfl trivial ⟨⟨Nat.le_of_ble_eq_true rfl, _, rfl, fun _ => (f_api_Right _)⟩, trivial⟩ (.tup _ _ _ (fun j => match j with | 0 => .own 0 (Nat.le_of_ble_eq_true rfl) | 1 => .data _ (trivial) | _ + 2 => .data _ trivial))), ⟨⟨rfl, rfl, rfl, rfl, trivial⟩, trivial, rfl⟩, rfl,
    Step.plain rfl (does_move (.tmp 36) (resV [(.own 2), (.int .i64 v3.2)]) trivial), ⟨⟨rfl, trivial⟩, trivial, rfl⟩, rfl,
    Step.plain rfl (does_extract 28 0 2 (fun j => [(.own 2), (.int .i64 v3.2)].getD j (.bool false)) (Nat.le_of_ble_eq_true rfl)), ⟨⟨rfl, trivial⟩, trivial, rfl⟩, rfl,
    Step.plain rfl (does_extract 28 1 2 (fun j => [(.own 2), (.int .i64 v3.2)].getD j (.bool false)) (Nat.le_of_ble_eq_true rfl)), ⟨⟨rfl, trivial⟩, trivial, rfl⟩, rfl,
    Step.plain rfl (does_assign (.tmp 37) (.own 2) trivial), ⟨⟨rfl, trivial⟩, trivial, rfl⟩, rfl,
    Step.plain rfl (does_assign (.tmp 38) (.int .i64 v3.2) trivial), ⟨⟨rfl, trivial⟩, trivial, rfl⟩, rfl, rfl⟩ ?_
  refine aw_cov (cov_prune (s1 := ⟨[(0, (e_s_api_Right p0)), (3, (.ptr 0 0 [])), (5, (.own 1)), (6, (.int .i64 v1.2)), (7, (.own 2)), (8, (.int .i64 v3.2))], [(0, some (.var (e_congresslaw16_Do p1))), (1, some (.arr 4 v1.1.length fun j => (e_api_Right (v1.1.getD j z_api_Right)))), (2, some (.arr 4 v3.1.length fun j => (e_api_Right (v3.1.getD j z_api_Right))))], 3⟩) ⟨rfl, rfl, rfl, rfl, rfl, rfl, trivial⟩ ⟨rfl, rfl, rfl, trivial⟩ (Nat.le_refl _)) ?_
  obtain ⟨v5, h6, H⟩ := bnd H
  refine aw_region (es := [_, _, _, _, _, _, _, _, _, _, _]) ⟨Step.plain rfl (does_move (.tmp 0) (e_s_api_Right p0) trivial), ⟨⟨rfl, trivial⟩, trivial, rfl⟩, rfl,
    Step.plain rfl (does_fieldAddr 25 1 1 3 0 0 [] (.var (e_congresslaw16_Do p1)) fl25_1), ⟨⟨rfl, trivial⟩, ⟨rfl, trivial⟩, rfl⟩, rfl,
    Step.plain rfl (does_load 23 41 0 (0 + 1) [1] (.var (e_congresslaw16_Do p1)) (.int .u64 p1.Handle) ⟨rfl, Nat.le_of_ble_eq_true rfl, trivial⟩ rfl rfl ty23), ⟨⟨rfl, trivial⟩, ⟨rfl, trivial⟩, rfl⟩, rfl,
    Step.plain rfl (does_fieldAddr 25 3 3 3 0 0 [] (.var (e_congresslaw16_Do p1)) fl25_3), ⟨⟨rfl, trivial⟩, ⟨rfl, trivial⟩, rfl⟩, rfl,
    Step.plain rfl (does_load 3 43 0 (0 + 3) [3] (.var (e_congresslaw16_Do p1)) (.int .i64 p1.Give) ⟨rfl, Nat.le_of_ble_eq_true rfl, trivial⟩ rfl rfl ty3), ⟨⟨rfl, trivial⟩, ⟨rfl, trivial⟩, rfl⟩, rfl,
    Step.plain rfl (does_call 9 0 (fun _ => .any) (.func 9) [(.tmp 40), (.tmp 42), (.tmp 44)] [(e_s_api_Right p0), (.int .u64 p1.Handle), (.int .i64 p1.Give)] [] true [(e_s_api_Right p0), (.int .u64 p1.Handle), (.int .i64 p1.Give)] (resV [(.int .u64 v5.1), (.int .i64 v5.2)]) _ _ rfl fo9 rfl ⟨trivial, trivial, trivial, trivial⟩ ⟨.data _ (d_s_api_Right p0), .data _ trivial, .data _ trivial, trivial⟩ (right_Check_spec p0 p1.Handle p1.Give _ h6) (res_flat2 trivial trivial)), ⟨⟨rfl, rfl, rfl, trivial⟩, trivial, rfl⟩, rfl,
    Step.plain rfl (does_move (.tmp 45) (resV [(.int .u64 v5.1), (.int .i64 v5.2)]) trivial), ⟨⟨rfl, trivial⟩, trivial, rfl⟩, rfl,
    Step.plain rfl (does_extract 39 0 2 (fun j => [(.int .u64 v5.1), (.int .i64 v5.2)].getD j (.bool false)) (Nat.le_of_ble_eq_true rfl)), ⟨⟨rfl, trivial⟩, trivial, rfl⟩, rfl,
    Step.plain rfl (does_extract 39 1 2 (fun j => [(.int .u64 v5.1), (.int .i64 v5.2)].getD j (.bool false)) (Nat.le_of_ble_eq_true rfl)), ⟨⟨rfl, trivial⟩, trivial, rfl⟩, rfl,
    Step.plain rfl (does_assign (.tmp 46) (.int .u64 v5.1) trivial), ⟨⟨rfl, trivial⟩, trivial, rfl⟩, rfl,
    Step.plain rfl (does_assign (.tmp 47) (.int .i64 v5.2) trivial), ⟨⟨rfl, trivial⟩, trivial, rfl⟩, rfl, rfl⟩ ?_
  refine aw_cov (cov_prune (s1 := ⟨[(0, (e_s_api_Right p0)), (3, (.ptr 0 0 [])), (5, (.own 1)), (6, (.int .i64 v1.2)), (7, (.own 2)), (8, (.int .i64 v3.2)), (9, (.int .u64 v5.1)), (10, (.int .i64 v5.2))], [(0, some (.var (e_congresslaw16_Do p1))), (1, some (.arr 4 v1.1.length fun j => (e_api_Right (v1.1.getD j z_api_Right)))), (2, some (.arr 4 v3.1.length fun j => (e_api_Right (v3.1.getD j z_api_Right))))], 3⟩) ⟨rfl, rfl, rfl, rfl, rfl, rfl, rfl, rfl, trivial⟩ ⟨rfl, rfl, rfl, trivial⟩ (Nat.le_refl _)) ?_
  obtain ⟨v7, h8, H⟩ := bnd H
  refine aw_region (es := [_, _, _, _, _, _, _, _, _, _, _]) ⟨Step.plain rfl (does_move (.tmp 0) (e_s_api_Right p0) trivial), ⟨⟨rfl, trivial⟩, trivial, rfl⟩, rfl,
    Step.plain rfl (does_fieldAddr 25 1 1 3 0 0 [] (.var (e_congresslaw16_Do p1)) fl25_1), ⟨⟨rfl, trivial⟩, ⟨rfl, trivial⟩, rfl⟩, rfl,
    Step.plain rfl (does_load 23 50 0 (0 + 1) [1] (.var (e_congresslaw16_Do p1)) (.int .u64 p1.Handle) ⟨rfl, Nat.le_of_ble_eq_true rfl, trivial⟩ rfl rfl ty23), ⟨⟨rfl, trivial⟩, ⟨rfl, trivial⟩, rfl⟩, rfl,
    Step.plain rfl (does_fieldAddr 25 3 3 3 0 0 [] (.var (e_congresslaw16_Do p1)) fl25_3), ⟨⟨rfl, trivial⟩, ⟨rfl, trivial⟩, rfl⟩, rfl,
    Step.plain rfl (does_load 3 52 0 (0 + 3) [3] (.var (e_congresslaw16_Do p1)) (.int .i64 p1.Give) ⟨rfl, Nat.le_of_ble_eq_true rfl, trivial⟩ rfl rfl ty3), ⟨⟨rfl, trivial⟩, ⟨rfl, trivial⟩, rfl⟩, rfl,
    Step.plain rfl (does_call 10 0 (fun _ => .any) (.func 10) [(.tmp 49), (.tmp 51), (.tmp 53)] [(e_s_api_Right p0), (.int .u64 p1.Handle), (.int .i64 p1.Give)] [] true [(e_s_api_Right p0), (.int .u64 p1.Handle), (.int .i64 p1.Give)] (resV [(.int .u64 v7.1), (.int .i64 v7.2)]) _ _ rfl fo10 rfl ⟨trivial, trivial, trivial, trivial⟩ ⟨.data _ (d_s_api_Right p0), .data _ trivial, .data _ trivial, trivial⟩ (congressref16_Check_spec p0 p1.Handle p1.Give _ h8) (res_flat2 trivial trivial)), ⟨⟨rfl, rfl, rfl, trivial⟩, trivial, rfl⟩, rfl,
    Step.plain rfl (does_move (.tmp 54) (resV [(.int .u64 v7.1), (.int .i64 v7.2)]) trivial), ⟨⟨rfl, trivial⟩, trivial, rfl⟩, rfl,
    Step.plain rfl (does_extract 48 0 2 (fun j => [(.int .u64 v7.1), (.int .i64 v7.2)].getD j (.bool false)) (Nat.le_of_ble_eq_true rfl)), ⟨⟨rfl, trivial⟩, trivial, rfl⟩, rfl,
    Step.plain rfl (does_extract 48 1 2 (fun j => [(.int .u64 v7.1), (.int .i64 v7.2)].getD j (.bool false)) (Nat.le_of_ble_eq_true rfl)), ⟨⟨rfl, trivial⟩, trivial, rfl⟩, rfl,
    Step.plain rfl (does_assign (.tmp 55) (.int .u64 v7.1) trivial), ⟨⟨rfl, trivial⟩, trivial, rfl⟩, rfl,
    Step.plain rfl (does_assign (.tmp 56) (.int .i64 v7.2) trivial), ⟨⟨rfl, trivial⟩, trivial, rfl⟩, rfl, rfl⟩ ?_
  refine aw_cov (cov_prune (s1 := ⟨[(0, (e_s_api_Right p0)), (3, (.ptr 0 0 [])), (5, (.own 1)), (6, (.int .i64 v1.2)), (7, (.own 2)), (8, (.int .i64 v3.2)), (9, (.int .u64 v5.1)), (10, (.int .i64 v5.2)), (11, (.int .u64 v7.1)), (12, (.int .i64 v7.2))], [(0, some (.var (e_congresslaw16_Do p1))), (1, some (.arr 4 v1.1.length fun j => (e_api_Right (v1.1.getD j z_api_Right)))), (2, some (.arr 4 v3.1.length fun j => (e_api_Right (v3.1.getD j z_api_Right))))], 3⟩) ⟨rfl, rfl, rfl, rfl, rfl, rfl, rfl, rfl, rfl, rfl, trivial⟩ ⟨rfl, rfl, rfl, trivial⟩ (Nat.le_refl _)) ?_
  obtain ⟨v9, h10, H⟩ := bnd H
  refine aw_region (es := [_, _, _, _, _, _, _, _, _]) ⟨Step.plain rfl (does_move (.tmp 0) (e_s_api_Right p0) trivial), ⟨⟨rfl, trivial⟩, trivial, rfl⟩, rfl,
    Step.plain rfl (does_fieldAddr 25 1 1 3 0 0 [] (.var (e_congresslaw16_Do p1)) fl25_1), ⟨⟨rfl, trivial⟩, ⟨rfl, trivial⟩, rfl⟩, rfl,
    Step.plain rfl (does_load 23 59 0 (0 + 1) [1] (.var (e_congresslaw16_Do p1)) (.int .u64 p1.Handle) ⟨rfl, Nat.le_of_ble_eq_true rfl, trivial⟩ rfl rfl ty23), ⟨⟨rfl, trivial⟩, ⟨rfl, trivial⟩, rfl⟩, rfl,
    Step.plain rfl (does_callO 11 0 (fun _ => .any) (.func 11) [(.tmp 58), (.tmp 60)] [(e_s_api_Right p0), (.int .u64 p1.Handle)] [] [] true [(e_s_api_Right p0), (.int .u64 p1.Handle)] _ (resV [(.own 3), (.int .i64 v9.2)]) _ 3 1 _ _ rfl fo11 rfl ⟨trivial, trivial, trivial⟩ ⟨.ro _ _ (.data _ (d_s_api_Right p0)), .ro _ _ (.data _ trivial), trivial⟩ (right_Revoke_spec p0 p1.Handle _ h10) rfl (by simp) rfl trivial ⟨⟨Nat.le_of_ble_eq_true rfl, _, rfl, fun _ => (f_api_Right _)⟩, trivial⟩ (.tup _ _ _ (fun j => match j with | 0 => .own 0 (Nat.le_of_ble_eq_true rfl) | 1 => .data _ (trivial) | _ + 2 => .data _ trivial))), ⟨⟨rfl, rfl, trivial⟩, trivial, rfl⟩, rfl,
    Step.plain rfl (does_move (.tmp 61) (resV [(.own 3), (.int .i64 v9.2)]) trivial), ⟨⟨rfl, trivial⟩, trivial, rfl⟩, rfl,
    Step.plain rfl (does_extract 57 0 2 (fun j => [(.own 3), (.int .i64 v9.2)].getD j (.bool false)) (Nat.le_of_ble_eq_true rfl)), ⟨⟨rfl, trivial⟩, trivial, rfl⟩, rfl,
    Step.plain rfl (does_extract 57 1 2 (fun j => [(.own 3), (.int .i64 v9.2)].getD j (.bool false)) (Nat.le_of_ble_eq_true rfl)), ⟨⟨rfl, trivial⟩, trivial, rfl⟩, rfl,
    Step.plain rfl (does_assign (.tmp 62) (.own 3) trivial), ⟨⟨rfl, trivial⟩, trivial, rfl⟩, rfl,
    Step.plain rfl (does_assign (.tmp 63) (.int .i64 v9.2) trivial), ⟨⟨rfl, trivial⟩, trivial, rfl⟩, rfl, rfl⟩ ?_
  refine aw_cov (cov_prune (s1 := ⟨[(0, (e_s_api_Right p0)), (3, (.ptr 0 0 [])), (5, (.own 1)), (6, (.int .i64 v1.2)), (7, (.own 2)), (8, (.int .i64 v3.2)), (9, (.int .u64 v5.1)), (10, (.int .i64 v5.2)), (11, (.int .u64 v7.1)), (12, (.int .i64 v7.2)), (13, (.own 3)), (14, (.int .i64 v9.2))], [(0, some (.var (e_congresslaw16_Do p1))), (1, some (.arr 4 v1.1.length fun j => (e_api_Right (v1.1.getD j z_api_Right)))), (2, some (.arr 4 v3.1.length fun j => (e_api_Right (v3.1.getD j z_api_Right)))), (3, some (.arr 4 v9.1.length fun j => (e_api_Right (v9.1.getD j z_api_Right))))], 4⟩) ⟨rfl, rfl, rfl, rfl, rfl, rfl, rfl, rfl, rfl, rfl, rfl, rfl, trivial⟩ ⟨rfl, rfl, rfl, rfl, trivial⟩ (Nat.le_refl _)) ?_
  obtain ⟨v11, h12, H⟩ := bnd H
  refine aw_region (es := [_, _, _, _, _, _, _, _, _]) ⟨Step.plain rfl (does_move (.tmp 0) (e_s_api_Right p0) trivial), ⟨⟨rfl, trivial⟩, trivial, rfl⟩, rfl,
    Step.plain rfl (does_fieldAddr 25 1 1 3 0 0 [] (.var (e_congresslaw16_Do p1)) fl25_1), ⟨⟨rfl, trivial⟩, ⟨rfl, trivial⟩, rfl⟩, rfl,
    Step.plain rfl (does_load 23 66 0 (0 + 1) [1] (.var (e_congresslaw16_Do p1)) (.int .u64 p1.Handle) ⟨rfl, Nat.le_of_ble_eq_true rfl, trivial⟩ rfl rfl ty23), ⟨⟨rfl, trivial⟩, ⟨rfl, trivial⟩, rfl⟩, rfl,
    Step.plain rfl (does_callO 12 0 (fun _ => .any) (.func 12) [(.tmp 65), (.tmp 67)] [(e_s_api_Right p0), (.int .u64 p1.Handle)] [] [] true [(e_s_api_Right p0), (.int .u64 p1.Handle)] _ (resV [(.own 4), (.int .i64 v11.2)]) _ 4 1 _ _ rfl fo12 rfl ⟨trivial, trivial, trivial⟩ ⟨.ro _ _ (.data _ (d_s_api_Right p0)), .ro _ _ (.data _ trivial), trivial⟩ (congressref16_Revoke_spec p0 p1.Handle _ h12) rfl (by simp) rfl trivial ⟨⟨Nat.le_of_ble_eq_true rfl, _, rfl, fun _ => (f_api_Right _)⟩, trivial⟩ (.tup _ _ _ (fun j => match j with | 0 => .own 0 (Nat.le_of_ble_eq_true rfl) | 1 => .data _ (trivial) | _ + 2 => .data _ trivial))), ⟨⟨rfl, rfl, trivial⟩, trivial, rfl⟩, rfl,
    Step.plain rfl (does_move (.tmp 68) (resV [(.own 4), (.int .i64 v11.2)]) trivial), ⟨⟨rfl, trivial⟩, trivial, rfl⟩, rfl,
    Step.plain rfl (does_extract 64 0 2 (fun j => [(.own 4), (.int .i64 v11.2)].getD j (.bool false)) (Nat.le_of_ble_eq_true rfl)), ⟨⟨rfl, trivial⟩, trivial, rfl⟩, rfl,
    Step.plain rfl (does_extract 64 1 2 (fun j => [(.own 4), (.int .i64 v11.2)].getD j (.bool false)) (Nat.le_of_ble_eq_true rfl)), ⟨⟨rfl, trivial⟩, trivial, rfl⟩, rfl,
    Step.plain rfl (does_assign (.tmp 69) (.own 4) trivial), ⟨⟨rfl, trivial⟩, trivial, rfl⟩, rfl,
    Step.plain rfl (does_assign (.tmp 70) (.int .i64 v11.2) trivial), ⟨⟨rfl, trivial⟩, trivial, rfl⟩, rfl, rfl⟩ ?_
  refine aw_cov (cov_prune (s1 := ⟨[(0, (e_s_api_Right p0)), (3, (.ptr 0 0 [])), (5, (.own 1)), (6, (.int .i64 v1.2)), (7, (.own 2)), (8, (.int .i64 v3.2)), (9, (.int .u64 v5.1)), (10, (.int .i64 v5.2)), (11, (.int .u64 v7.1)), (12, (.int .i64 v7.2)), (13, (.own 3)), (14, (.int .i64 v9.2)), (15, (.own 4)), (16, (.int .i64 v11.2))], [(0, some (.var (e_congresslaw16_Do p1))), (1, some (.arr 4 v1.1.length fun j => (e_api_Right (v1.1.getD j z_api_Right)))), (2, some (.arr 4 v3.1.length fun j => (e_api_Right (v3.1.getD j z_api_Right)))), (3, some (.arr 4 v9.1.length fun j => (e_api_Right (v9.1.getD j z_api_Right)))), (4, some (.arr 4 v11.1.length fun j => (e_api_Right (v11.1.getD j z_api_Right))))], 5⟩) ⟨rfl, rfl, rfl, rfl, rfl, rfl, rfl, rfl, rfl, rfl, rfl, rfl, rfl, rfl, trivial⟩ ⟨rfl, rfl, rfl, rfl, rfl, trivial⟩ (Nat.le_refl _)) ?_
  obtain ⟨v13, h14, H⟩ := bnd H
  obtain ⟨v15, h16, H⟩ := whn_of H
  obtain ⟨v17, h18, H⟩ := whn_of H
  obtain ⟨v19, h20, H⟩ := whn_of H
  obtain ⟨v21, h22, H⟩ := whn_of H
  obtain ⟨v23, h24, H⟩ := whn_of H
  obtain ⟨v25, h26, H⟩ := whn_of H
  obtain ⟨v27, h28, H⟩ := whn_of H
  refine aw_draw (es := [_, _, _, _, _, _, _, _, _, _, _, _, _, _, _, _, _, _, _, _, _, _, _, _, _, _, _, _, _, _, _, _, _, _, _, _, _, _, _, _, _, _, _, _, _, _, _, _, _, _]) (mixed) ⟨Step.plain rfl (does_call 13 0 (fun _ => .any) (.func 13) [] [] [] true [] (.bool v13) _ _ rfl fo13 rfl trivial trivial (congresslaw16_fixed_spec _ h14) trivial), ⟨trivial, trivial, rfl⟩, rfl,
    Step.plain rfl (does_move (.tmp 71) (.bool v13) trivial), ⟨⟨rfl, trivial⟩, trivial, rfl⟩, rfl,
    Step.guarded rfl rfl rfl rfl (fun hc => does_move (.tmp 5) (.own 1) trivial), ⟨⟨rfl, rfl, trivial⟩, trivial, rfl⟩, rfl,
    Step.guarded rfl rfl rfl rfl (fun hc => does_move (.tmp 7) (.own 2) trivial), ⟨⟨rfl, rfl, trivial⟩, trivial, rfl⟩, rfl,
    Step.guarded rfl rfl rfl rfl (fun hc => Does.strip (n' := [(73, (.opt v13 (.own 1))), (74, (.opt v13 (.own 2)))]) (n := [(73, (.own 1)), (74, (.own 2))]) ⟨(.opt _ _ hc), (.opt _ _ hc), trivial⟩ (does_call 14 0 (fun _ => .any) (.func 14) [(.tmp 73), (.tmp 74)] [(.own 1), (.own 2)] [(1, (.arr 4 v1.1.length fun j => (e_api_Right (v1.1.getD j z_api_Right)))), (2, (.arr 4 v3.1.length fun j => (e_api_Right (v3.1.getD j z_api_Right))))] true [(e_s_api_Right v1.1), (e_s_api_Right v3.1)] (.bool v15) _ _ rfl fo14 rfl ⟨trivial, trivial, trivial⟩ ⟨.own 1 _ _ _ (.head _) rfl (fun _ => (d_api_Right _)), .own 2 _ _ _ (.tail _ (.head _)) rfl (fun _ => (d_api_Right _)), trivial⟩ (congressref16_Same_spec v1.1 v3.1 _ (h16 hc)) trivial)), ⟨⟨rfl, rfl, rfl, trivial⟩, ⟨rfl, rfl, trivial⟩, rfl⟩, rfl,
    Step.plain rfl (does_and 72 75 v13 v15), ⟨⟨rfl, rfl, trivial⟩, trivial, rfl⟩, rfl,
    Step.plain rfl (does_move (.tmp 76) (.bool (v13 && v15)) trivial), ⟨⟨rfl, trivial⟩, trivial, rfl⟩, rfl,
    Step.guarded rfl rfl rfl rfl (fun hc => does_move (.tmp 6) (.int .i64 v1.2) trivial), ⟨⟨rfl, rfl, trivial⟩, trivial, rfl⟩, rfl,
    Step.guarded rfl rfl rfl rfl (fun hc => does_move (.tmp 8) (.int .i64 v3.2) trivial), ⟨⟨rfl, rfl, trivial⟩, trivial, rfl⟩, rfl,
    Step.guarded rfl rfl rfl rfl (fun hc => Does.strip (n' := [(78, (.opt (v13 && v15) (.int .i64 v1.2))), (79, (.opt (v13 && v15) (.int .i64 v3.2)))]) (n := [(78, (.int .i64 v1.2)), (79, (.int .i64 v3.2))]) ⟨(.opt _ _ hc), (.opt _ _ hc), trivial⟩ (does_bin .eql 26 26 (.tmp 78) (.tmp 79) .i64 v1.2 v3.2 (.bool (v1.2 == v3.2)) trivial trivial (bin_eql _ _ _ _))), ⟨⟨rfl, rfl, rfl, trivial⟩, trivial, rfl⟩, rfl,
    Step.plain rfl (does_and 77 80 (v13 && v15) (v1.2 == v3.2)), ⟨⟨rfl, rfl, trivial⟩, trivial, rfl⟩, rfl,
    Step.plain rfl (does_move (.tmp 81) (.bool ((v13 && v15) && (v1.2 == v3.2))) trivial), ⟨⟨rfl, trivial⟩, trivial, rfl⟩, rfl,
    Step.guarded rfl rfl rfl rfl (fun hc => does_move (.tmp 9) (.int .u64 v5.1) trivial), ⟨⟨rfl, rfl, trivial⟩, trivial, rfl⟩, rfl,
    Step.guarded rfl rfl rfl rfl (fun hc => does_move (.tmp 11) (.int .u64 v7.1) trivial), ⟨⟨rfl, rfl, trivial⟩, trivial, rfl⟩, rfl,
    Step.guarded rfl rfl rfl rfl (fun hc => Does.strip (n' := [(83, (.opt ((v13 && v15) && (v1.2 == v3.2)) (.int .u64 v5.1))), (84, (.opt ((v13 && v15) && (v1.2 == v3.2)) (.int .u64 v7.1)))]) (n := [(83, (.int .u64 v5.1)), (84, (.int .u64 v7.1))]) ⟨(.opt _ _ hc), (.opt _ _ hc), trivial⟩ (does_bin .eql 23 23 (.tmp 83) (.tmp 84) .u64 v5.1 v7.1 (.bool (v5.1 == v7.1)) trivial trivial (bin_eql _ _ _ _))), ⟨⟨rfl, rfl, rfl, trivial⟩, trivial, rfl⟩, rfl,
    Step.plain rfl (does_and 82 85 ((v13 && v15) && (v1.2 == v3.2)) (v5.1 == v7.1)), ⟨⟨rfl, rfl, trivial⟩, trivial, rfl⟩, rfl,
    Step.plain rfl (does_move (.tmp 86) (.bool (((v13 && v15) && (v1.2 == v3.2)) && (v5.1 == v7.1))) trivial), ⟨⟨rfl, trivial⟩, trivial, rfl⟩, rfl,
    Step.guarded rfl rfl rfl rfl (fun hc => does_move (.tmp 10) (.int .i64 v5.2) trivial), ⟨⟨rfl, rfl, trivial⟩, trivial, rfl⟩, rfl,
    Step.guarded rfl rfl rfl rfl (fun hc => does_move (.tmp 12) (.int .i64 v7.2) trivial), ⟨⟨rfl, rfl, trivial⟩, trivial, rfl⟩, rfl,
    Step.guarded rfl rfl rfl rfl (fun hc => Does.strip (n' := [(88, (.opt (((v13 && v15) && (v1.2 == v3.2)) && (v5.1 == v7.1)) (.int .i64 v5.2))), (89, (.opt (((v13 && v15) && (v1.2 == v3.2)) && (v5.1 == v7.1)) (.int .i64 v7.2)))]) (n := [(88, (.int .i64 v5.2)), (89, (.int .i64 v7.2))]) ⟨(.opt _ _ hc), (.opt _ _ hc), trivial⟩ (does_bin .eql 26 26 (.tmp 88) (.tmp 89) .i64 v5.2 v7.2 (.bool (v5.2 == v7.2)) trivial trivial (bin_eql _ _ _ _))), ⟨⟨rfl, rfl, rfl, trivial⟩, trivial, rfl⟩, rfl,
    Step.plain rfl (does_and 87 90 (((v13 && v15) && (v1.2 == v3.2)) && (v5.1 == v7.1)) (v5.2 == v7.2)), ⟨⟨rfl, rfl, trivial⟩, trivial, rfl⟩, rfl,
    Step.plain rfl (does_move (.tmp 91) (.bool ((((v13 && v15) && (v1.2 == v3.2)) && (v5.1 == v7.1)) && (v5.2 == v7.2))) trivial), ⟨⟨rfl, trivial⟩, trivial, rfl⟩, rfl,
    Step.guarded rfl rfl rfl rfl (fun hc => does_move (.tmp 13) (.own 3) trivial), ⟨⟨rfl, rfl, trivial⟩, trivial, rfl⟩, rfl,
    Step.guarded rfl rfl rfl rfl (fun hc => does_move (.tmp 15) (.own 4) trivial), ⟨⟨rfl, rfl, trivial⟩, trivial, rfl⟩, rfl,
    Step.guarded rfl rfl rfl rfl (fun hc => Does.strip (n' := [(93, (.opt ((((v13 && v15) && (v1.2 == v3.2)) && (v5.1 == v7.1)) && (v5.2 == v7.2)) (.own 3))), (94, (.opt ((((v13 && v15) && (v1.2 == v3.2)) && (v5.1 == v7.1)) && (v5.2 == v7.2)) (.own 4)))]) (n := [(93, (.own 3)), (94, (.own 4))]) ⟨(.opt _ _ hc), (.opt _ _ hc), trivial⟩ (does_call 14 0 (fun _ => .any) (.func 14) [(.tmp 93), (.tmp 94)] [(.own 3), (.own 4)] [(3, (.arr 4 v9.1.length fun j => (e_api_Right (v9.1.getD j z_api_Right)))), (4, (.arr 4 v11.1.length fun j => (e_api_Right (v11.1.getD j z_api_Right))))] true [(e_s_api_Right v9.1), (e_s_api_Right v11.1)] (.bool v17) _ _ rfl fo14 rfl ⟨trivial, trivial, trivial⟩ ⟨.own 3 _ _ _ (.head _) rfl (fun _ => (d_api_Right _)), .own 4 _ _ _ (.tail _ (.head _)) rfl (fun _ => (d_api_Right _)), trivial⟩ (congressref16_Same_spec v9.1 v11.1 _ (h18 hc)) trivial)), ⟨⟨rfl, rfl, rfl, trivial⟩, ⟨rfl, rfl, trivial⟩, rfl⟩, rfl,
    Step.plain rfl (does_and 92 95 ((((v13 && v15) && (v1.2 == v3.2)) && (v5.1 == v7.1)) && (v5.2 == v7.2)) v17), ⟨⟨rfl, rfl, trivial⟩, trivial, rfl⟩, rfl,
    Step.plain rfl (does_move (.tmp 96) (.bool (((((v13 && v15) && (v1.2 == v3.2)) && (v5.1 == v7.1)) && (v5.2 == v7.2)) && v17)) trivial), ⟨⟨rfl, trivial⟩, trivial, rfl⟩, rfl,
    Step.guarded rfl rfl rfl rfl (fun hc => does_move (.tmp 14) (.int .i64 v9.2) trivial), ⟨⟨rfl, rfl, trivial⟩, trivial, rfl⟩, rfl,
    Step.guarded rfl rfl rfl rfl (fun hc => does_move (.tmp 16) (.int .i64 v11.2) trivial), ⟨⟨rfl, rfl, trivial⟩, trivial, rfl⟩, rfl,
    Step.guarded rfl rfl rfl rfl (fun hc => Does.strip (n' := [(98, (.opt (((((v13 && v15) && (v1.2 == v3.2)) && (v5.1 == v7.1)) && (v5.2 == v7.2)) && v17) (.int .i64 v9.2))), (99, (.opt (((((v13 && v15) && (v1.2 == v3.2)) && (v5.1 == v7.1)) && (v5.2 == v7.2)) && v17) (.int .i64 v11.2)))]) (n := [(98, (.int .i64 v9.2)), (99, (.int .i64 v11.2))]) ⟨(.opt _ _ hc), (.opt _ _ hc), trivial⟩ (does_bin .eql 26 26 (.tmp 98) (.tmp 99) .i64 v9.2 v11.2 (.bool (v9.2 == v11.2)) trivial trivial (bin_eql _ _ _ _))), ⟨⟨rfl, rfl, rfl, trivial⟩, trivial, rfl⟩, rfl,
    Step.plain rfl (does_and 97 100 (((((v13 && v15) && (v1.2 == v3.2)) && (v5.1 == v7.1)) && (v5.2 == v7.2)) && v17) (v9.2 == v11.2)), ⟨⟨rfl, rfl, trivial⟩, trivial, rfl⟩, rfl,
    Step.plain rfl (does_move (.tmp 101) (.bool ((((((v13 && v15) && (v1.2 == v3.2)) && (v5.1 == v7.1)) && (v5.2 == v7.2)) && v17) && (v9.2 == v11.2))) trivial), ⟨⟨rfl, trivial⟩, trivial, rfl⟩, rfl,
    Step.guarded rfl rfl rfl rfl (fun hc => does_move (.tmp 0) (e_s_api_Right p0) trivial), ⟨⟨rfl, rfl, trivial⟩, trivial, rfl⟩, rfl,
    Step.guarded rfl rfl rfl rfl (fun hc => does_fieldAddr 25 2 2 3 0 0 [] (.var (e_congresslaw16_Do p1)) fl25_2), ⟨⟨rfl, rfl, trivial⟩, ⟨rfl, trivial⟩, rfl⟩, rfl,
    Step.guarded rfl rfl rfl rfl (fun hc => Does.strip (n' := [(104, (.opt ((((((v13 && v15) && (v1.2 == v3.2)) && (v5.1 == v7.1)) && (v5.2 == v7.2)) && v17) && (v9.2 == v11.2)) (.ptr 0 (0 + 2) [2])))]) (n := [(104, (.ptr 0 (0 + 2) [2]))]) ⟨(.opt _ _ hc), trivial⟩ (does_load 23 104 0 (0 + 2) [2] (.var (e_congresslaw16_Do p1)) (.int .u64 p1.Session) ⟨rfl, Nat.le_of_ble_eq_true rfl, trivial⟩ rfl rfl ty23)), ⟨⟨rfl, rfl, trivial⟩, ⟨rfl, trivial⟩, rfl⟩, rfl,
    Step.guarded rfl rfl rfl rfl (fun hc => Does.strip (n' := [(103, (.opt ((((((v13 && v15) && (v1.2 == v3.2)) && (v5.1 == v7.1)) && (v5.2 == v7.2)) && v17) && (v9.2 == v11.2)) (e_s_api_Right p0))), (105, (.opt ((((((v13 && v15) && (v1.2 == v3.2)) && (v5.1 == v7.1)) && (v5.2 == v7.2)) && v17) && (v9.2 == v11.2)) (.int .u64 p1.Session)))]) (n := [(103, (e_s_api_Right p0)), (105, (.int .u64 p1.Session))]) ⟨(.opt _ _ hc), (.opt _ _ hc), trivial⟩ (does_call 15 0 (fun _ => .any) (.func 15) [(.tmp 103), (.tmp 105)] [(e_s_api_Right p0), (.int .u64 p1.Session)] [] false [(e_s_api_Right p0), (.int .u64 p1.Session)] (e_s_api_Right v19) _ _ rfl fo15 rfl ⟨trivial, trivial, trivial⟩ ⟨.data _ (d_s_api_Right p0), .data _ trivial, trivial⟩ (right_Drop_data p0 p1.Session _ (h20 hc)) (d_s_api_Right v19))), ⟨⟨rfl, rfl, rfl, trivial⟩, trivial, rfl⟩, rfl,
    Step.guarded rfl rfl rfl rfl (fun hc => does_move (.tmp 0) (e_s_api_Right p0) trivial), ⟨⟨rfl, rfl, trivial⟩, trivial, rfl⟩, rfl,
    Step.guarded rfl rfl rfl rfl (fun hc => does_fieldAddr 25 2 2 3 0 0 [] (.var (e_congresslaw16_Do p1)) fl25_2), ⟨⟨rfl, rfl, trivial⟩, ⟨rfl, trivial⟩, rfl⟩, rfl,
    Step.guarded rfl rfl rfl rfl (fun hc => Does.strip (n' := [(108, (.opt ((((((v13 && v15) && (v1.2 == v3.2)) && (v5.1 == v7.1)) && (v5.2 == v7.2)) && v17) && (v9.2 == v11.2)) (.ptr 0 (0 + 2) [2])))]) (n := [(108, (.ptr 0 (0 + 2) [2]))]) ⟨(.opt _ _ hc), trivial⟩ (does_load 23 108 0 (0 + 2) [2] (.var (e_congresslaw16_Do p1)) (.int .u64 p1.Session) ⟨rfl, Nat.le_of_ble_eq_true rfl, trivial⟩ rfl rfl ty23)), ⟨⟨rfl, rfl, trivial⟩, ⟨rfl, trivial⟩, rfl⟩, rfl,
    Step.guarded rfl rfl rfl rfl (fun hc => Does.strip (n' := [(107, (.opt ((((((v13 && v15) && (v1.2 == v3.2)) && (v5.1 == v7.1)) && (v5.2 == v7.2)) && v17) && (v9.2 == v11.2)) (e_s_api_Right p0))), (109, (.opt ((((((v13 && v15) && (v1.2 == v3.2)) && (v5.1 == v7.1)) && (v5.2 == v7.2)) && v17) && (v9.2 == v11.2)) (.int .u64 p1.Session)))]) (n := [(107, (e_s_api_Right p0)), (109, (.int .u64 p1.Session))]) ⟨(.opt _ _ hc), (.opt _ _ hc), trivial⟩ (does_call 16 0 (fun _ => .any) (.func 16) [(.tmp 107), (.tmp 109)] [(e_s_api_Right p0), (.int .u64 p1.Session)] [] false [(e_s_api_Right p0), (.int .u64 p1.Session)] (e_s_api_Right v21) _ _ rfl fo16 rfl ⟨trivial, trivial, trivial⟩ ⟨.data _ (d_s_api_Right p0), .data _ trivial, trivial⟩ (congressref16_Drop_data p0 p1.Session _ (h22 hc)) (d_s_api_Right v21))), ⟨⟨rfl, rfl, rfl, trivial⟩, trivial, rfl⟩, rfl,
    Step.guarded rfl rfl rfl rfl (fun hc => Does.strip (n' := [(106, (.opt ((((((v13 && v15) && (v1.2 == v3.2)) && (v5.1 == v7.1)) && (v5.2 == v7.2)) && v17) && (v9.2 == v11.2)) (e_s_api_Right v19))), (110, (.opt ((((((v13 && v15) && (v1.2 == v3.2)) && (v5.1 == v7.1)) && (v5.2 == v7.2)) && v17) && (v9.2 == v11.2)) (e_s_api_Right v21)))]) (n := [(106, (e_s_api_Right v19)), (110, (e_s_api_Right v21))]) ⟨(.opt _ _ hc), (.opt _ _ hc), trivial⟩ (does_call 14 0 (fun _ => .any) (.func 14) [(.tmp 106), (.tmp 110)] [(e_s_api_Right v19), (e_s_api_Right v21)] [] true [(e_s_api_Right v19), (e_s_api_Right v21)] (.bool v23) _ _ rfl fo14 rfl ⟨trivial, trivial, trivial⟩ ⟨.data _ (d_s_api_Right v19), .data _ (d_s_api_Right v21), trivial⟩ (congressref16_Same_spec v19 v21 _ (h24 hc)) trivial)), ⟨⟨rfl, rfl, rfl, trivial⟩, trivial, rfl⟩, rfl,
    Step.plain rfl (does_and 102 111 ((((((v13 && v15) && (v1.2 == v3.2)) && (v5.1 == v7.1)) && (v5.2 == v7.2)) && v17) && (v9.2 == v11.2)) v23), ⟨⟨rfl, rfl, trivial⟩, trivial, rfl⟩, rfl,
    Step.plain rfl (does_move (.tmp 112) (.bool (((((((v13 && v15) && (v1.2 == v3.2)) && (v5.1 == v7.1)) && (v5.2 == v7.2)) && v17) && (v9.2 == v11.2)) && v23)) trivial), ⟨⟨rfl, trivial⟩, trivial, rfl⟩, rfl,
    Step.guarded rfl rfl rfl rfl (fun hc => does_move (.tmp 0) (e_s_api_Right p0) trivial), ⟨⟨rfl, rfl, trivial⟩, trivial, rfl⟩, rfl,
    Step.guarded rfl rfl rfl rfl (fun hc => Does.strip (n' := [(114, (.opt (((((((v13 && v15) && (v1.2 == v3.2)) && (v5.1 == v7.1)) && (v5.2 == v7.2)) && v17) && (v9.2 == v11.2)) && v23) (e_s_api_Right p0)))]) (n := [(114, (e_s_api_Right p0))]) ⟨(.opt _ _ hc), trivial⟩ (does_call 17 0 (fun _ => .any) (.func 17) [(.tmp 114)] [(e_s_api_Right p0)] [] true [(e_s_api_Right p0)] (.bool v25) _ _ rfl fo17 rfl ⟨trivial, trivial⟩ ⟨.data _ (d_s_api_Right p0), trivial⟩ (right_May_spec p0 _ (h26 hc)) trivial)), ⟨⟨rfl, rfl, trivial⟩, trivial, rfl⟩, rfl,
    Step.guarded rfl rfl rfl rfl (fun hc => does_move (.tmp 0) (e_s_api_Right p0) trivial), ⟨⟨rfl, rfl, trivial⟩, trivial, rfl⟩, rfl,
    Step.guarded rfl rfl rfl rfl (fun hc => Does.strip (n' := [(116, (.opt (((((((v13 && v15) && (v1.2 == v3.2)) && (v5.1 == v7.1)) && (v5.2 == v7.2)) && v17) && (v9.2 == v11.2)) && v23) (e_s_api_Right p0)))]) (n := [(116, (e_s_api_Right p0))]) ⟨(.opt _ _ hc), trivial⟩ (does_call 18 0 (fun _ => .any) (.func 18) [(.tmp 116)] [(e_s_api_Right p0)] [] true [(e_s_api_Right p0)] (.bool v27) _ _ rfl fo18 rfl ⟨trivial, trivial⟩ ⟨.data _ (d_s_api_Right p0), trivial⟩ (congressref16_May_spec p0 _ (h28 hc)) trivial)), ⟨⟨rfl, rfl, trivial⟩, trivial, rfl⟩, rfl,
    Step.guarded rfl rfl rfl rfl (fun hc => Does.strip (n' := [(115, (.opt (((((((v13 && v15) && (v1.2 == v3.2)) && (v5.1 == v7.1)) && (v5.2 == v7.2)) && v17) && (v9.2 == v11.2)) && v23) (.bool v25))), (117, (.opt (((((((v13 && v15) && (v1.2 == v3.2)) && (v5.1 == v7.1)) && (v5.2 == v7.2)) && v17) && (v9.2 == v11.2)) && v23) (.bool v27)))]) (n := [(115, (.bool v25)), (117, (.bool v27))]) ⟨(.opt _ _ hc), (.opt _ _ hc), trivial⟩ (does_eqBool false 4 4 (.tmp 115) (.tmp 117) v25 v27 trivial trivial rfl)), ⟨⟨rfl, rfl, rfl, trivial⟩, trivial, rfl⟩, rfl,
    Step.plain rfl (does_and 113 118 (((((((v13 && v15) && (v1.2 == v3.2)) && (v5.1 == v7.1)) && (v5.2 == v7.2)) && v17) && (v9.2 == v11.2)) && v23) (v25 == v27)), ⟨⟨rfl, rfl, trivial⟩, trivial, rfl⟩, rfl,
    Step.plain rfl (does_assign (.tmp 119) (.bool ((((((((v13 && v15) && (v1.2 == v3.2)) && (v5.1 == v7.1)) && (v5.2 == v7.2)) && v17) && (v9.2 == v11.2)) && v23) && (v25 == v27))) trivial), ⟨⟨rfl, trivial⟩, trivial, rfl⟩, rfl, rfl⟩ rfl ?_
  obtain ⟨v29, hv29, H⟩ := lt_of H
  refine aw_cov (cov_prune (s1 := ⟨[(4, (.bool v29))], [], 5⟩) ⟨(by subst hv29; rfl), trivial⟩ trivial (Nat.le_refl _)) ?_
  refine aw_ret ?_
  exact fun a w hr => ⟨_, [(.bool v29)], hr, ⟨⟨_, rfl, .data _ trivial⟩, trivial⟩, by decide, by cases H; rfl⟩
end Go.Proofs.Ytffnegdahhlncaa
