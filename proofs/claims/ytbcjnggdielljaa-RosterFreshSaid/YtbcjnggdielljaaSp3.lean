/- Printed by gen.py. Conditions: none. -/
import Derived.Test.YtbcjnggdielljaaSp2
import Derived.KernelRfl
set_option linter.unusedVariables false
set_option maxRecDepth 100000
namespace Go.Proofs.Ytbcjnggdielljaa
open Go.Eng
set_option maxHeartbeats 1600000
theorem congresslaw17_RosterTells_spec (p0 : api_Roster) (p1 : Int) (r : Bool) (H : congresslaw17_RosterTells p0 p1 = some r) : FSpec Try.prog 3 [(e_api_Roster p0), (.int .u64 p1)] (.bool r) := by
  refine spec_of (fn := Try.f3) (args := [(e_api_Roster p0), (.int .u64 p1)]) Try.func3 rfl (Nat.le_of_ble_eq_true rfl) ?_
  rintro ⟨G, w0, W, S, Sp⟩ hG
  cases hG
  unfold congresslaw17_RosterTells at H
  refine aw_region (es := [_, _]) ⟨Step.plain rfl (does_box 25 (.tmp 0) 0 (e_api_Roster p0) trivial rfl), ⟨⟨rfl, trivial⟩, trivial, rfl⟩, rfl,
    Step.plain rfl (does_assign (.const (.bool false)) (.bool false) (fun _ => rfl)), ⟨trivial, trivial, rfl⟩, rfl, rfl⟩ ?_
  refine aw_cov (cov_prune (s1 := ⟨[(1, (.int .u64 p1)), (2, (.ptr 0 0 []))], [(0, some (.var (e_api_Roster p0)))], 1⟩) ⟨rfl, rfl, trivial⟩ ⟨rfl, trivial⟩ (Nat.le_refl _)) ?_
  obtain ⟨v1, h2, H⟩ := bnd H
  refine aw_region (es := [_, _, _, _, _, _, _, _, _, _]) ⟨Step.plain rfl (does_load 25 2 0 0 [] (.var (e_api_Roster p0)) (e_api_Roster p0) trivial rfl rfl ty25), ⟨⟨rfl, trivial⟩, ⟨rfl, trivial⟩, rfl⟩, rfl,
    Step.plain rfl (does_call 7 0 (fun _ => .any) (.func 7) [(.tmp 22)] [(e_api_Roster p0)] [] false [(e_api_Roster p0)] (resV [(e_api_Roster v1.1), (.int .u64 v1.2.1), (.int .i64 v1.2.2)]) _ _ rfl fo7 rfl ⟨trivial, trivial⟩ ⟨.data _ (d_api_Roster p0), trivial⟩ (roster_Open_spec p0 _ h2) (res_data3 (d_api_Roster v1.1) trivial trivial)), ⟨⟨rfl, trivial⟩, trivial, rfl⟩, rfl,
    Step.plain rfl (does_move (.tmp 23) (resV [(e_api_Roster v1.1), (.int .u64 v1.2.1), (.int .i64 v1.2.2)]) trivial), ⟨⟨rfl, trivial⟩, trivial, rfl⟩, rfl,
    Step.plain rfl (does_extract 21 0 3 (fun j => [(e_api_Roster v1.1), (.int .u64 v1.2.1), (.int .i64 v1.2.2)].getD j (.bool false)) (Nat.le_of_ble_eq_true rfl)), ⟨⟨rfl, trivial⟩, trivial, rfl⟩, rfl,
    Step.plain rfl (does_extract 21 1 3 (fun j => [(e_api_Roster v1.1), (.int .u64 v1.2.1), (.int .i64 v1.2.2)].getD j (.bool false)) (Nat.le_of_ble_eq_true rfl)), ⟨⟨rfl, trivial⟩, trivial, rfl⟩, rfl,
    Step.plain rfl (does_extract 21 2 3 (fun j => [(e_api_Roster v1.1), (.int .u64 v1.2.1), (.int .i64 v1.2.2)].getD j (.bool false)) (Nat.le_of_ble_eq_true rfl)), ⟨⟨rfl, trivial⟩, trivial, rfl⟩, rfl,
    Step.plain rfl (does_alloc 25 1 (e_api_Roster z_api_Roster) zr25), ⟨trivial, trivial, rfl⟩, rfl,
    Step.plain rfl (does_store 25 5 (.tmp 24) 1 0 [] (.var (e_api_Roster z_api_Roster)) (.var (e_api_Roster v1.1)) (e_api_Roster v1.1) true trivial rfl trivial rfl rfl rfl ty25), ⟨⟨rfl, rfl, trivial⟩, ⟨rfl, trivial⟩, rfl⟩, rfl,
    Step.plain rfl (does_assign (.tmp 25) (.int .u64 v1.2.1) trivial), ⟨⟨rfl, trivial⟩, trivial, rfl⟩, rfl,
    Step.plain rfl (does_assign (.tmp 26) (.int .i64 v1.2.2) trivial), ⟨⟨rfl, trivial⟩, trivial, rfl⟩, rfl, rfl⟩ ?_
  refine aw_cov (cov_prune (s1 := ⟨[(1, (.int .u64 p1)), (2, (.ptr 0 0 [])), (5, (.ptr 1 0 [])), (6, (.int .u64 v1.2.1)), (7, (.int .i64 v1.2.2))], [(0, some (.var (e_api_Roster p0))), (1, some (.var (e_api_Roster v1.1)))], 2⟩) ⟨rfl, rfl, rfl, rfl, rfl, trivial⟩ ⟨rfl, rfl, trivial⟩ (Nat.le_refl _)) ?_
  obtain ⟨v3, h4, H⟩ := bnd H
  refine aw_region (es := [_, _, _, _, _, _, _, _, _, _]) ⟨Step.plain rfl (does_load 25 2 0 0 [] (.var (e_api_Roster p0)) (e_api_Roster p0) trivial rfl rfl ty25), ⟨⟨rfl, trivial⟩, ⟨rfl, trivial⟩, rfl⟩, rfl,
    Step.plain rfl (does_call 8 0 (fun _ => .any) (.func 8) [(.tmp 28)] [(e_api_Roster p0)] [] false [(e_api_Roster p0)] (resV [(e_api_Roster v3.1), (.int .u64 v3.2.1), (.int .i64 v3.2.2)]) _ _ rfl fo8 rfl ⟨trivial, trivial⟩ ⟨.data _ (d_api_Roster p0), trivial⟩ (congressref17_Open_spec p0 _ h4) (res_data3 (d_api_Roster v3.1) trivial trivial)), ⟨⟨rfl, trivial⟩, trivial, rfl⟩, rfl,
    Step.plain rfl (does_move (.tmp 29) (resV [(e_api_Roster v3.1), (.int .u64 v3.2.1), (.int .i64 v3.2.2)]) trivial), ⟨⟨rfl, trivial⟩, trivial, rfl⟩, rfl,
    Step.plain rfl (does_extract 27 0 3 (fun j => [(e_api_Roster v3.1), (.int .u64 v3.2.1), (.int .i64 v3.2.2)].getD j (.bool false)) (Nat.le_of_ble_eq_true rfl)), ⟨⟨rfl, trivial⟩, trivial, rfl⟩, rfl,
    Step.plain rfl (does_extract 27 1 3 (fun j => [(e_api_Roster v3.1), (.int .u64 v3.2.1), (.int .i64 v3.2.2)].getD j (.bool false)) (Nat.le_of_ble_eq_true rfl)), ⟨⟨rfl, trivial⟩, trivial, rfl⟩, rfl,
    Step.plain rfl (does_extract 27 2 3 (fun j => [(e_api_Roster v3.1), (.int .u64 v3.2.1), (.int .i64 v3.2.2)].getD j (.bool false)) (Nat.le_of_ble_eq_true rfl)), ⟨⟨rfl, trivial⟩, trivial, rfl⟩, rfl,
    Step.plain rfl (does_alloc 25 2 (e_api_Roster z_api_Roster) zr25), ⟨trivial, trivial, rfl⟩, rfl,
    Step.plain rfl (does_store 25 8 (.tmp 30) 2 0 [] (.var (e_api_Roster z_api_Roster)) (.var (e_api_Roster v3.1)) (e_api_Roster v3.1) true trivial rfl trivial rfl rfl rfl ty25), ⟨⟨rfl, rfl, trivial⟩, ⟨rfl, trivial⟩, rfl⟩, rfl,
    Step.plain rfl (does_assign (.tmp 31) (.int .u64 v3.2.1) trivial), ⟨⟨rfl, trivial⟩, trivial, rfl⟩, rfl,
    Step.plain rfl (does_assign (.tmp 32) (.int .i64 v3.2.2) trivial), ⟨⟨rfl, trivial⟩, trivial, rfl⟩, rfl, rfl⟩ ?_
  refine aw_cov (cov_prune (s1 := ⟨[(1, (.int .u64 p1)), (2, (.ptr 0 0 [])), (5, (.ptr 1 0 [])), (6, (.int .u64 v1.2.1)), (7, (.int .i64 v1.2.2)), (8, (.ptr 2 0 [])), (9, (.int .u64 v3.2.1)), (10, (.int .i64 v3.2.2))], [(0, some (.var (e_api_Roster p0))), (1, some (.var (e_api_Roster v1.1))), (2, some (.var (e_api_Roster v3.1)))], 3⟩) ⟨rfl, rfl, rfl, rfl, rfl, rfl, rfl, rfl, trivial⟩ ⟨rfl, rfl, rfl, trivial⟩ (Nat.le_refl _)) ?_
  obtain ⟨v5, h6, H⟩ := bnd H
  refine aw_region (es := [_, _, _, _, _, _, _, _, _]) ⟨Step.plain rfl (does_load 25 2 0 0 [] (.var (e_api_Roster p0)) (e_api_Roster p0) trivial rfl rfl ty25), ⟨⟨rfl, trivial⟩, ⟨rfl, trivial⟩, rfl⟩, rfl,
    Step.plain rfl (does_move (.tmp 1) (.int .u64 p1) trivial), ⟨⟨rfl, trivial⟩, trivial, rfl⟩, rfl,
    Step.plain rfl (does_call 9 0 (fun _ => .any) (.func 9) [(.tmp 34), (.tmp 35)] [(e_api_Roster p0), (.int .u64 p1)] [] false [(e_api_Roster p0), (.int .u64 p1)] (resV [(e_api_Roster v5.1), (.int .i64 v5.2)]) _ _ rfl fo9 rfl ⟨trivial, trivial, trivial⟩ ⟨.data _ (d_api_Roster p0), .data _ trivial, trivial⟩ (roster_Close_spec p0 p1 _ h6) (res_data2 (d_api_Roster v5.1) trivial)), ⟨⟨rfl, rfl, trivial⟩, trivial, rfl⟩, rfl,
    Step.plain rfl (does_move (.tmp 36) (resV [(e_api_Roster v5.1), (.int .i64 v5.2)]) trivial), ⟨⟨rfl, trivial⟩, trivial, rfl⟩, rfl,
    Step.plain rfl (does_extract 33 0 2 (fun j => [(e_api_Roster v5.1), (.int .i64 v5.2)].getD j (.bool false)) (Nat.le_of_ble_eq_true rfl)), ⟨⟨rfl, trivial⟩, trivial, rfl⟩, rfl,
    Step.plain rfl (does_extract 33 1 2 (fun j => [(e_api_Roster v5.1), (.int .i64 v5.2)].getD j (.bool false)) (Nat.le_of_ble_eq_true rfl)), ⟨⟨rfl, trivial⟩, trivial, rfl⟩, rfl,
    Step.plain rfl (does_alloc 25 3 (e_api_Roster z_api_Roster) zr25), ⟨trivial, trivial, rfl⟩, rfl,
    Step.plain rfl (does_store 25 11 (.tmp 37) 3 0 [] (.var (e_api_Roster z_api_Roster)) (.var (e_api_Roster v5.1)) (e_api_Roster v5.1) true trivial rfl trivial rfl rfl rfl ty25), ⟨⟨rfl, rfl, trivial⟩, ⟨rfl, trivial⟩, rfl⟩, rfl,
    Step.plain rfl (does_assign (.tmp 38) (.int .i64 v5.2) trivial), ⟨⟨rfl, trivial⟩, trivial, rfl⟩, rfl, rfl⟩ ?_
  refine aw_cov (cov_prune (s1 := ⟨[(1, (.int .u64 p1)), (2, (.ptr 0 0 [])), (5, (.ptr 1 0 [])), (6, (.int .u64 v1.2.1)), (7, (.int .i64 v1.2.2)), (8, (.ptr 2 0 [])), (9, (.int .u64 v3.2.1)), (10, (.int .i64 v3.2.2)), (11, (.ptr 3 0 [])), (12, (.int .i64 v5.2))], [(0, some (.var (e_api_Roster p0))), (1, some (.var (e_api_Roster v1.1))), (2, some (.var (e_api_Roster v3.1))), (3, some (.var (e_api_Roster v5.1)))], 4⟩) ⟨rfl, rfl, rfl, rfl, rfl, rfl, rfl, rfl, rfl, rfl, trivial⟩ ⟨rfl, rfl, rfl, rfl, trivial⟩ (Nat.le_refl _)) ?_
  obtain ⟨v7, h8, H⟩ := bnd H
  refine aw_region (es := [_, _, _, _, _, _, _, _, _]) ⟨Step.plain rfl (does_load 25 2 0 0 [] (.var (e_api_Roster p0)) (e_api_Roster p0) trivial rfl rfl ty25), ⟨⟨rfl, trivial⟩, ⟨rfl, trivial⟩, rfl⟩, rfl,
    Step.plain rfl (does_move (.tmp 1) (.int .u64 p1) trivial), ⟨⟨rfl, trivial⟩, trivial, rfl⟩, rfl,
    Step.plain rfl (does_callO 10 0 (fun _ => .any) (.func 10) [(.tmp 40), (.tmp 41)] [(e_api_Roster p0), (.int .u64 p1)] [] [] true [(e_api_Roster p0), (.int .u64 p1)] _ (resV [(.agg (.st [1, 1]) (vupd (c_api_Roster v7.1) 1 (.own 4))), (.int .i64 v7.2)]) _ 4 2 _ _ rfl fo10 rfl ⟨trivial, trivial, trivial⟩ ⟨.ro _ _ (.data _ (d_api_Roster p0)), .ro _ _ (.data _ trivial), trivial⟩ (congressref17_Close_spec p0 p1 _ h8) rfl (by simp) rfl trivial ⟨⟨Nat.le_of_ble_eq_true rfl, _, rfl, fun _ => (f_api_Session _)⟩, trivial⟩ (.tup _ _ _ (fun j => match j with | 0 => .agg _ _ _ (fun j => match j with | 0 => .data _ (trivial) | 1 => .own 0 (Nat.le_of_ble_eq_true rfl) | _ + 2 => .data _ trivial) | 1 => .data _ (trivial) | _ + 2 => .data _ trivial))), ⟨⟨rfl, rfl, trivial⟩, trivial, rfl⟩, rfl,
    Step.plain rfl (does_move (.tmp 42) (resV [(.agg (.st [1, 1]) (vupd (c_api_Roster v7.1) 1 (.own 4))), (.int .i64 v7.2)]) trivial), ⟨⟨rfl, trivial⟩, trivial, rfl⟩, rfl,
    Step.plain rfl (does_extract 39 0 2 (fun j => [(.agg (.st [1, 1]) (vupd (c_api_Roster v7.1) 1 (.own 4))), (.int .i64 v7.2)].getD j (.bool false)) (Nat.le_of_ble_eq_true rfl)), ⟨⟨rfl, trivial⟩, trivial, rfl⟩, rfl,
    Step.plain rfl (does_extract 39 1 2 (fun j => [(.agg (.st [1, 1]) (vupd (c_api_Roster v7.1) 1 (.own 4))), (.int .i64 v7.2)].getD j (.bool false)) (Nat.le_of_ble_eq_true rfl)), ⟨⟨rfl, trivial⟩, trivial, rfl⟩, rfl,
    Step.plain rfl (does_alloc 25 6 (e_api_Roster z_api_Roster) zr25), ⟨trivial, trivial, rfl⟩, rfl,
    Step.plain rfl (does_store 25 13 (.tmp 43) 6 0 [] (.var (e_api_Roster z_api_Roster)) (.var (.agg (.st [1, 1]) (vupd (c_api_Roster v7.1) 1 (.own 4)))) (.agg (.st [1, 1]) (vupd (c_api_Roster v7.1) 1 (.own 4))) true trivial rfl trivial rfl rfl rfl ty25), ⟨⟨rfl, rfl, trivial⟩, ⟨rfl, trivial⟩, rfl⟩, rfl,
    Step.plain rfl (does_assign (.tmp 44) (.int .i64 v7.2) trivial), ⟨⟨rfl, trivial⟩, trivial, rfl⟩, rfl, rfl⟩ ?_
  refine aw_cov (cov_prune (s1 := ⟨[(1, (.int .u64 p1)), (2, (.ptr 0 0 [])), (5, (.ptr 1 0 [])), (6, (.int .u64 v1.2.1)), (7, (.int .i64 v1.2.2)), (8, (.ptr 2 0 [])), (9, (.int .u64 v3.2.1)), (10, (.int .i64 v3.2.2)), (11, (.ptr 3 0 [])), (12, (.int .i64 v5.2)), (13, (.ptr 6 0 [])), (14, (.int .i64 v7.2))], [(0, some (.var (e_api_Roster p0))), (1, some (.var (e_api_Roster v1.1))), (2, some (.var (e_api_Roster v3.1))), (3, some (.var (e_api_Roster v5.1))), (4, some (.arr 2 v7.1.List.length fun j => (e_api_Session (v7.1.List.getD j z_api_Session)))), (6, some (.var (.agg (.st [1, 1]) (vupd (c_api_Roster v7.1) 1 (.own 4)))))], 7⟩) ⟨rfl, rfl, rfl, rfl, rfl, rfl, rfl, rfl, rfl, rfl, rfl, rfl, trivial⟩ ⟨rfl, rfl, rfl, rfl, rfl, rfl, trivial⟩ (Nat.le_refl _)) ?_
  obtain ⟨v9, h10, H⟩ := bnd H
  refine aw_region (es := [_, _, _, _, _, _, _, _, _, _, _]) ⟨Step.plain rfl (does_load 25 2 0 0 [] (.var (e_api_Roster p0)) (e_api_Roster p0) trivial rfl rfl ty25), ⟨⟨rfl, trivial⟩, ⟨rfl, trivial⟩, rfl⟩, rfl,
    Step.plain rfl (does_move (.tmp 1) (.int .u64 p1) trivial), ⟨⟨rfl, trivial⟩, trivial, rfl⟩, rfl,
    Step.plain rfl (does_call 11 0 (fun _ => .any) (.func 11) [(.tmp 46), (.tmp 47)] [(e_api_Roster p0), (.int .u64 p1)] [] false [(e_api_Roster p0), (.int .u64 p1)] (resV [(e_api_Roster v9.1), (.int .u64 v9.2.1), (.int .i64 v9.2.2)]) _ _ rfl fo11 rfl ⟨trivial, trivial, trivial⟩ ⟨.data _ (d_api_Roster p0), .data _ trivial, trivial⟩ (roster_Next_spec p0 p1 _ h10) (res_data3 (d_api_Roster v9.1) trivial trivial)), ⟨⟨rfl, rfl, trivial⟩, trivial, rfl⟩, rfl,
    Step.plain rfl (does_move (.tmp 48) (resV [(e_api_Roster v9.1), (.int .u64 v9.2.1), (.int .i64 v9.2.2)]) trivial), ⟨⟨rfl, trivial⟩, trivial, rfl⟩, rfl,
    Step.plain rfl (does_extract 45 0 3 (fun j => [(e_api_Roster v9.1), (.int .u64 v9.2.1), (.int .i64 v9.2.2)].getD j (.bool false)) (Nat.le_of_ble_eq_true rfl)), ⟨⟨rfl, trivial⟩, trivial, rfl⟩, rfl,
    Step.plain rfl (does_extract 45 1 3 (fun j => [(e_api_Roster v9.1), (.int .u64 v9.2.1), (.int .i64 v9.2.2)].getD j (.bool false)) (Nat.le_of_ble_eq_true rfl)), ⟨⟨rfl, trivial⟩, trivial, rfl⟩, rfl,
    Step.plain rfl (does_extract 45 2 3 (fun j => [(e_api_Roster v9.1), (.int .u64 v9.2.1), (.int .i64 v9.2.2)].getD j (.bool false)) (Nat.le_of_ble_eq_true rfl)), ⟨⟨rfl, trivial⟩, trivial, rfl⟩, rfl,
    Step.plain rfl (does_alloc 25 7 (e_api_Roster z_api_Roster) zr25), ⟨trivial, trivial, rfl⟩, rfl,
    Step.plain rfl (does_store 25 15 (.tmp 49) 7 0 [] (.var (e_api_Roster z_api_Roster)) (.var (e_api_Roster v9.1)) (e_api_Roster v9.1) true trivial rfl trivial rfl rfl rfl ty25), ⟨⟨rfl, rfl, trivial⟩, ⟨rfl, trivial⟩, rfl⟩, rfl,
    Step.plain rfl (does_assign (.tmp 50) (.int .u64 v9.2.1) trivial), ⟨⟨rfl, trivial⟩, trivial, rfl⟩, rfl,
    Step.plain rfl (does_assign (.tmp 51) (.int .i64 v9.2.2) trivial), ⟨⟨rfl, trivial⟩, trivial, rfl⟩, rfl, rfl⟩ ?_
  refine aw_cov (cov_prune (s1 := ⟨[(1, (.int .u64 p1)), (2, (.ptr 0 0 [])), (5, (.ptr 1 0 [])), (6, (.int .u64 v1.2.1)), (7, (.int .i64 v1.2.2)), (8, (.ptr 2 0 [])), (9, (.int .u64 v3.2.1)), (10, (.int .i64 v3.2.2)), (11, (.ptr 3 0 [])), (12, (.int .i64 v5.2)), (13, (.ptr 6 0 [])), (14, (.int .i64 v7.2)), (15, (.ptr 7 0 [])), (16, (.int .u64 v9.2.1)), (17, (.int .i64 v9.2.2))], [(0, some (.var (e_api_Roster p0))), (1, some (.var (e_api_Roster v1.1))), (2, some (.var (e_api_Roster v3.1))), (3, some (.var (e_api_Roster v5.1))), (4, some (.arr 2 v7.1.List.length fun j => (e_api_Session (v7.1.List.getD j z_api_Session)))), (6, some (.var (.agg (.st [1, 1]) (vupd (c_api_Roster v7.1) 1 (.own 4))))), (7, some (.var (e_api_Roster v9.1)))], 8⟩) ⟨rfl, rfl, rfl, rfl, rfl, rfl, rfl, rfl, rfl, rfl, rfl, rfl, rfl, rfl, rfl, trivial⟩ ⟨rfl, rfl, rfl, rfl, rfl, rfl, rfl, trivial⟩ (Nat.le_refl _)) ?_
  obtain ⟨v11, h12, H⟩ := bnd H
  refine aw_region (es := [_, _, _, _, _, _, _, _, _, _, _]) ⟨Step.plain rfl (does_load 25 2 0 0 [] (.var (e_api_Roster p0)) (e_api_Roster p0) trivial rfl rfl ty25), ⟨⟨rfl, trivial⟩, ⟨rfl, trivial⟩, rfl⟩, rfl,
    Step.plain rfl (does_move (.tmp 1) (.int .u64 p1) trivial), ⟨⟨rfl, trivial⟩, trivial, rfl⟩, rfl,
    Step.plain rfl (does_call 12 0 (fun _ => .any) (.func 12) [(.tmp 53), (.tmp 54)] [(e_api_Roster p0), (.int .u64 p1)] [] false [(e_api_Roster p0), (.int .u64 p1)] (resV [(e_api_Roster v11.1), (.int .u64 v11.2.1), (.int .i64 v11.2.2)]) _ _ rfl fo12 rfl ⟨trivial, trivial, trivial⟩ ⟨.data _ (d_api_Roster p0), .data _ trivial, trivial⟩ (congressref17_Next_spec p0 p1 _ h12) (res_data3 (d_api_Roster v11.1) trivial trivial)), ⟨⟨rfl, rfl, trivial⟩, trivial, rfl⟩, rfl,
    Step.plain rfl (does_move (.tmp 55) (resV [(e_api_Roster v11.1), (.int .u64 v11.2.1), (.int .i64 v11.2.2)]) trivial), ⟨⟨rfl, trivial⟩, trivial, rfl⟩, rfl,
    Step.plain rfl (does_extract 52 0 3 (fun j => [(e_api_Roster v11.1), (.int .u64 v11.2.1), (.int .i64 v11.2.2)].getD j (.bool false)) (Nat.le_of_ble_eq_true rfl)), ⟨⟨rfl, trivial⟩, trivial, rfl⟩, rfl,
    Step.plain rfl (does_extract 52 1 3 (fun j => [(e_api_Roster v11.1), (.int .u64 v11.2.1), (.int .i64 v11.2.2)].getD j (.bool false)) (Nat.le_of_ble_eq_true rfl)), ⟨⟨rfl, trivial⟩, trivial, rfl⟩, rfl,
    Step.plain rfl (does_extract 52 2 3 (fun j => [(e_api_Roster v11.1), (.int .u64 v11.2.1), (.int .i64 v11.2.2)].getD j (.bool false)) (Nat.le_of_ble_eq_true rfl)), ⟨⟨rfl, trivial⟩, trivial, rfl⟩, rfl,
    Step.plain rfl (does_alloc 25 8 (e_api_Roster z_api_Roster) zr25), ⟨trivial, trivial, rfl⟩, rfl,
    Step.plain rfl (does_store 25 18 (.tmp 56) 8 0 [] (.var (e_api_Roster z_api_Roster)) (.var (e_api_Roster v11.1)) (e_api_Roster v11.1) true trivial rfl trivial rfl rfl rfl ty25), ⟨⟨rfl, rfl, trivial⟩, ⟨rfl, trivial⟩, rfl⟩, rfl,
    Step.plain rfl (does_assign (.tmp 57) (.int .u64 v11.2.1) trivial), ⟨⟨rfl, trivial⟩, trivial, rfl⟩, rfl,
    Step.plain rfl (does_assign (.tmp 58) (.int .i64 v11.2.2) trivial), ⟨⟨rfl, trivial⟩, trivial, rfl⟩, rfl, rfl⟩ ?_
  refine aw_cov (cov_prune (s1 := ⟨[(1, (.int .u64 p1)), (2, (.ptr 0 0 [])), (5, (.ptr 1 0 [])), (6, (.int .u64 v1.2.1)), (7, (.int .i64 v1.2.2)), (8, (.ptr 2 0 [])), (9, (.int .u64 v3.2.1)), (10, (.int .i64 v3.2.2)), (11, (.ptr 3 0 [])), (12, (.int .i64 v5.2)), (13, (.ptr 6 0 [])), (14, (.int .i64 v7.2)), (15, (.ptr 7 0 [])), (16, (.int .u64 v9.2.1)), (17, (.int .i64 v9.2.2)), (18, (.ptr 8 0 [])), (19, (.int .u64 v11.2.1)), (20, (.int .i64 v11.2.2))], [(0, some (.var (e_api_Roster p0))), (1, some (.var (e_api_Roster v1.1))), (2, some (.var (e_api_Roster v3.1))), (3, some (.var (e_api_Roster v5.1))), (4, some (.arr 2 v7.1.List.length fun j => (e_api_Session (v7.1.List.getD j z_api_Session)))), (6, some (.var (.agg (.st [1, 1]) (vupd (c_api_Roster v7.1) 1 (.own 4))))), (7, some (.var (e_api_Roster v9.1))), (8, some (.var (e_api_Roster v11.1)))], 9⟩) ⟨rfl, rfl, rfl, rfl, rfl, rfl, rfl, rfl, rfl, rfl, rfl, rfl, rfl, rfl, rfl, rfl, rfl, rfl, trivial⟩ ⟨rfl, rfl, rfl, rfl, rfl, rfl, rfl, rfl, trivial⟩ (Nat.le_refl _)) ?_
  refine aw_cov (cov_to (s1 := ⟨[(1, (.int .u64 p1)), (2, (.ptr 0 0 [])), (5, (.ptr 1 0 [])), (6, (.int .u64 v1.2.1)), (7, (.int .i64 v1.2.2)), (8, (.ptr 2 0 [])), (9, (.int .u64 v3.2.1)), (10, (.int .i64 v3.2.2)), (11, (.ptr 3 0 [])), (12, (.int .i64 v5.2)), (13, (.ptr 6 0 [])), (14, (.int .i64 v7.2)), (15, (.ptr 7 0 [])), (16, (.int .u64 v9.2.1)), (17, (.int .i64 v9.2.2)), (18, (.ptr 8 0 [])), (19, (.int .u64 v11.2.1)), (20, (.int .i64 v11.2.2))], [(0, some (.var (e_api_Roster p0))), (1, some (.var (e_api_Roster v1.1))), (2, some (.var (e_api_Roster v3.1))), (3, some (.var (e_api_Roster v5.1))), (6, some (.var (e_api_Roster ({ v7.1 with List := v7.1.List })))), (7, some (.var (e_api_Roster v9.1))), (8, some (.var (e_api_Roster v11.1)))], 9⟩) (fun i => i) [4] ⟨⟨_, rfl, .plain _ (trivial)⟩, ⟨_, rfl, .ptr 0 _ _ _ _ (Nat.le_of_ble_eq_true rfl) rfl rfl⟩, ⟨_, rfl, .ptr 1 _ _ _ _ (Nat.le_of_ble_eq_true rfl) rfl rfl⟩, ⟨_, rfl, .plain _ (trivial)⟩, ⟨_, rfl, .plain _ (trivial)⟩, ⟨_, rfl, .ptr 2 _ _ _ _ (Nat.le_of_ble_eq_true rfl) rfl rfl⟩, ⟨_, rfl, .plain _ (trivial)⟩, ⟨_, rfl, .plain _ (trivial)⟩, ⟨_, rfl, .ptr 3 _ _ _ _ (Nat.le_of_ble_eq_true rfl) rfl rfl⟩, ⟨_, rfl, .plain _ (trivial)⟩, ⟨_, rfl, .ptr 6 _ _ _ _ (Nat.le_of_ble_eq_true rfl) rfl rfl⟩, ⟨_, rfl, .plain _ (trivial)⟩, ⟨_, rfl, .ptr 7 _ _ _ _ (Nat.le_of_ble_eq_true rfl) rfl rfl⟩, ⟨_, rfl, .plain _ (trivial)⟩, ⟨_, rfl, .plain _ (trivial)⟩, ⟨_, rfl, .ptr 8 _ _ _ _ (Nat.le_of_ble_eq_true rfl) rfl rfl⟩, ⟨_, rfl, .plain _ (trivial)⟩, ⟨_, rfl, .plain _ (trivial)⟩, trivial⟩ ⟨⟨Nat.le_of_ble_eq_true rfl, _, _, rfl, rfl, boxTo_var ((d_api_Roster _).plain)⟩, ⟨Nat.le_of_ble_eq_true rfl, _, _, rfl, rfl, boxTo_var ((d_api_Roster _).plain)⟩, ⟨Nat.le_of_ble_eq_true rfl, _, _, rfl, rfl, boxTo_var ((d_api_Roster _).plain)⟩, ⟨Nat.le_of_ble_eq_true rfl, _, _, rfl, rfl, boxTo_var ((d_api_Roster _).plain)⟩, ⟨Nat.le_of_ble_eq_true rfl, _, _, rfl, rfl, (boxTo_st (.agg _ _ _ (fun j => match j with | 0 => .plain _ (trivial) | 1 => .frz 4 _ _ _ rfl (fun _ => (d_api_Session _)) (by decide) | _ + 2 => .plain _ trivial)))⟩, ⟨Nat.le_of_ble_eq_true rfl, _, _, rfl, rfl, boxTo_var ((d_api_Roster _).plain)⟩, ⟨Nat.le_of_ble_eq_true rfl, _, _, rfl, rfl, boxTo_var ((d_api_Roster _).plain)⟩, trivial⟩ rfl rfl) ?_
  obtain ⟨v13, h14, H⟩ := bnd H
  obtain ⟨v15, h16, H⟩ := whn_of H
  obtain ⟨v17, h18, H⟩ := whn_of H
  obtain ⟨v19, h20, H⟩ := whn_of H
  obtain ⟨v21, h22, H⟩ := whn_of H
  obtain ⟨v23, h24, H⟩ := whn_of H
  obtain ⟨v25, h26, H⟩ := whn_of H
  obtain ⟨v27, h28, H⟩ := whn_of H
  refine aw_draw (es := [_, _, _, _, _, _, _, _, _, _, _, _, _, _, _, _, _, _, _, _, _, _, _, _, _, _, _, _, _, _, _, _, _, _, _, _, _, _, _, _, _, _, _, _, _, _, _, _, _, _, _, _, _, _, _, _, _, _, _]) (mixed) ⟨Step.plain rfl (does_call 13 0 (fun _ => .any) (.func 13) [] [] [] true [] (.bool v13) _ _ rfl fo13 rfl trivial trivial (congresslaw17_fixed_spec _ h14) trivial), ⟨trivial, trivial, rfl⟩, rfl,
    Step.plain rfl (does_move (.tmp 59) (.bool v13) trivial), ⟨⟨rfl, trivial⟩, trivial, rfl⟩, rfl,
    Step.guarded rfl rfl rfl rfl (fun hc => does_load 25 5 1 0 [] (.var (e_api_Roster v1.1)) (e_api_Roster v1.1) trivial rfl rfl ty25), ⟨⟨rfl, rfl, trivial⟩, ⟨rfl, trivial⟩, rfl⟩, rfl,
    Step.guarded rfl rfl rfl rfl (fun hc => does_load 25 8 2 0 [] (.var (e_api_Roster v3.1)) (e_api_Roster v3.1) trivial rfl rfl ty25), ⟨⟨rfl, rfl, trivial⟩, ⟨rfl, trivial⟩, rfl⟩, rfl,
    Step.guarded rfl rfl rfl rfl (fun hc => Does.strip (n' := [(61, (.opt v13 (e_api_Roster v1.1))), (62, (.opt v13 (e_api_Roster v3.1)))]) (n := [(61, (e_api_Roster v1.1)), (62, (e_api_Roster v3.1))]) ⟨(.opt _ _ hc), (.opt _ _ hc), trivial⟩ (does_call 14 0 (fun _ => .any) (.func 14) [(.tmp 61), (.tmp 62)] [(e_api_Roster v1.1), (e_api_Roster v3.1)] [] true [(e_api_Roster v1.1), (e_api_Roster v3.1)] (.bool v15) _ _ rfl fo14 rfl ⟨trivial, trivial, trivial⟩ ⟨.data _ (d_api_Roster v1.1), .data _ (d_api_Roster v3.1), trivial⟩ (congressref17_Is_spec v1.1 v3.1 _ (h16 hc)) trivial)), ⟨⟨rfl, rfl, rfl, trivial⟩, trivial, rfl⟩, rfl,
    Step.plain rfl (does_and 60 63 v13 v15), ⟨⟨rfl, rfl, trivial⟩, trivial, rfl⟩, rfl,
    Step.plain rfl (does_move (.tmp 64) (.bool (v13 && v15)) trivial), ⟨⟨rfl, trivial⟩, trivial, rfl⟩, rfl,
    Step.guarded rfl rfl rfl rfl (fun hc => does_move (.tmp 6) (.int .u64 v1.2.1) trivial), ⟨⟨rfl, rfl, trivial⟩, trivial, rfl⟩, rfl,
    Step.guarded rfl rfl rfl rfl (fun hc => does_move (.tmp 9) (.int .u64 v3.2.1) trivial), ⟨⟨rfl, rfl, trivial⟩, trivial, rfl⟩, rfl,
    Step.guarded rfl rfl rfl rfl (fun hc => Does.strip (n' := [(66, (.opt (v13 && v15) (.int .u64 v1.2.1))), (67, (.opt (v13 && v15) (.int .u64 v3.2.1)))]) (n := [(66, (.int .u64 v1.2.1)), (67, (.int .u64 v3.2.1))]) ⟨(.opt _ _ hc), (.opt _ _ hc), trivial⟩ (does_bin .eql 22 22 (.tmp 66) (.tmp 67) .u64 v1.2.1 v3.2.1 (.bool (v1.2.1 == v3.2.1)) trivial trivial (bin_eql _ _ _ _))), ⟨⟨rfl, rfl, rfl, trivial⟩, trivial, rfl⟩, rfl,
    Step.plain rfl (does_and 65 68 (v13 && v15) (v1.2.1 == v3.2.1)), ⟨⟨rfl, rfl, trivial⟩, trivial, rfl⟩, rfl,
    Step.plain rfl (does_move (.tmp 69) (.bool ((v13 && v15) && (v1.2.1 == v3.2.1))) trivial), ⟨⟨rfl, trivial⟩, trivial, rfl⟩, rfl,
    Step.guarded rfl rfl rfl rfl (fun hc => does_move (.tmp 7) (.int .i64 v1.2.2) trivial), ⟨⟨rfl, rfl, trivial⟩, trivial, rfl⟩, rfl,
    Step.guarded rfl rfl rfl rfl (fun hc => does_move (.tmp 10) (.int .i64 v3.2.2) trivial), ⟨⟨rfl, rfl, trivial⟩, trivial, rfl⟩, rfl,
    Step.guarded rfl rfl rfl rfl (fun hc => Does.strip (n' := [(71, (.opt ((v13 && v15) && (v1.2.1 == v3.2.1)) (.int .i64 v1.2.2))), (72, (.opt ((v13 && v15) && (v1.2.1 == v3.2.1)) (.int .i64 v3.2.2)))]) (n := [(71, (.int .i64 v1.2.2)), (72, (.int .i64 v3.2.2))]) ⟨(.opt _ _ hc), (.opt _ _ hc), trivial⟩ (does_bin .eql 26 26 (.tmp 71) (.tmp 72) .i64 v1.2.2 v3.2.2 (.bool (v1.2.2 == v3.2.2)) trivial trivial (bin_eql _ _ _ _))), ⟨⟨rfl, rfl, rfl, trivial⟩, trivial, rfl⟩, rfl,
    Step.plain rfl (does_and 70 73 ((v13 && v15) && (v1.2.1 == v3.2.1)) (v1.2.2 == v3.2.2)), ⟨⟨rfl, rfl, trivial⟩, trivial, rfl⟩, rfl,
    Step.plain rfl (does_move (.tmp 74) (.bool (((v13 && v15) && (v1.2.1 == v3.2.1)) && (v1.2.2 == v3.2.2))) trivial), ⟨⟨rfl, trivial⟩, trivial, rfl⟩, rfl,
    Step.guarded rfl rfl rfl rfl (fun hc => does_load 25 11 3 0 [] (.var (e_api_Roster v5.1)) (e_api_Roster v5.1) trivial rfl rfl ty25), ⟨⟨rfl, rfl, trivial⟩, ⟨rfl, trivial⟩, rfl⟩, rfl,
    Step.guarded rfl rfl rfl rfl (fun hc => does_load 25 13 6 0 [] (.var (e_api_Roster ({ v7.1 with List := v7.1.List }))) (e_api_Roster ({ v7.1 with List := v7.1.List })) trivial rfl rfl ty25), ⟨⟨rfl, rfl, trivial⟩, ⟨rfl, trivial⟩, rfl⟩, rfl,
    Step.guarded rfl rfl rfl rfl (fun hc => Does.strip (n' := [(76, (.opt (((v13 && v15) && (v1.2.1 == v3.2.1)) && (v1.2.2 == v3.2.2)) (e_api_Roster v5.1))), (77, (.opt (((v13 && v15) && (v1.2.1 == v3.2.1)) && (v1.2.2 == v3.2.2)) (e_api_Roster ({ v7.1 with List := v7.1.List }))))]) (n := [(76, (e_api_Roster v5.1)), (77, (e_api_Roster ({ v7.1 with List := v7.1.List })))]) ⟨(.opt _ _ hc), (.opt _ _ hc), trivial⟩ (does_call 14 0 (fun _ => .any) (.func 14) [(.tmp 76), (.tmp 77)] [(e_api_Roster v5.1), (e_api_Roster ({ v7.1 with List := v7.1.List }))] [] true [(e_api_Roster v5.1), (e_api_Roster ({ v7.1 with List := v7.1.List }))] (.bool v17) _ _ rfl fo14 rfl ⟨trivial, trivial, trivial⟩ ⟨.data _ (d_api_Roster v5.1), .data _ (d_api_Roster ({ v7.1 with List := v7.1.List })), trivial⟩ (congressref17_Is_spec v5.1 ({ v7.1 with List := v7.1.List }) _ (h18 hc)) trivial)), ⟨⟨rfl, rfl, rfl, trivial⟩, trivial, rfl⟩, rfl,
    Step.plain rfl (does_and 75 78 (((v13 && v15) && (v1.2.1 == v3.2.1)) && (v1.2.2 == v3.2.2)) v17), ⟨⟨rfl, rfl, trivial⟩, trivial, rfl⟩, rfl,
    Step.plain rfl (does_move (.tmp 79) (.bool ((((v13 && v15) && (v1.2.1 == v3.2.1)) && (v1.2.2 == v3.2.2)) && v17)) trivial), ⟨⟨rfl, trivial⟩, trivial, rfl⟩, rfl,
    Step.guarded rfl rfl rfl rfl (fun hc => does_move (.tmp 12) (.int .i64 v5.2) trivial), ⟨⟨rfl, rfl, trivial⟩, trivial, rfl⟩, rfl,
    Step.guarded rfl rfl rfl rfl (fun hc => does_move (.tmp 14) (.int .i64 v7.2) trivial), ⟨⟨rfl, rfl, trivial⟩, trivial, rfl⟩, rfl,
    Step.guarded rfl rfl rfl rfl (fun hc => Does.strip (n' := [(81, (.opt ((((v13 && v15) && (v1.2.1 == v3.2.1)) && (v1.2.2 == v3.2.2)) && v17) (.int .i64 v5.2))), (82, (.opt ((((v13 && v15) && (v1.2.1 == v3.2.1)) && (v1.2.2 == v3.2.2)) && v17) (.int .i64 v7.2)))]) (n := [(81, (.int .i64 v5.2)), (82, (.int .i64 v7.2))]) ⟨(.opt _ _ hc), (.opt _ _ hc), trivial⟩ (does_bin .eql 26 26 (.tmp 81) (.tmp 82) .i64 v5.2 v7.2 (.bool (v5.2 == v7.2)) trivial trivial (bin_eql _ _ _ _))), ⟨⟨rfl, rfl, rfl, trivial⟩, trivial, rfl⟩, rfl,
    Step.plain rfl (does_and 80 83 ((((v13 && v15) && (v1.2.1 == v3.2.1)) && (v1.2.2 == v3.2.2)) && v17) (v5.2 == v7.2)), ⟨⟨rfl, rfl, trivial⟩, trivial, rfl⟩, rfl,
    Step.plain rfl (does_move (.tmp 84) (.bool (((((v13 && v15) && (v1.2.1 == v3.2.1)) && (v1.2.2 == v3.2.2)) && v17) && (v5.2 == v7.2))) trivial), ⟨⟨rfl, trivial⟩, trivial, rfl⟩, rfl,
    Step.guarded rfl rfl rfl rfl (fun hc => does_load 25 15 7 0 [] (.var (e_api_Roster v9.1)) (e_api_Roster v9.1) trivial rfl rfl ty25), ⟨⟨rfl, rfl, trivial⟩, ⟨rfl, trivial⟩, rfl⟩, rfl,
    Step.guarded rfl rfl rfl rfl (fun hc => does_load 25 18 8 0 [] (.var (e_api_Roster v11.1)) (e_api_Roster v11.1) trivial rfl rfl ty25), ⟨⟨rfl, rfl, trivial⟩, ⟨rfl, trivial⟩, rfl⟩, rfl,
    Step.guarded rfl rfl rfl rfl (fun hc => Does.strip (n' := [(86, (.opt (((((v13 && v15) && (v1.2.1 == v3.2.1)) && (v1.2.2 == v3.2.2)) && v17) && (v5.2 == v7.2)) (e_api_Roster v9.1))), (87, (.opt (((((v13 && v15) && (v1.2.1 == v3.2.1)) && (v1.2.2 == v3.2.2)) && v17) && (v5.2 == v7.2)) (e_api_Roster v11.1)))]) (n := [(86, (e_api_Roster v9.1)), (87, (e_api_Roster v11.1))]) ⟨(.opt _ _ hc), (.opt _ _ hc), trivial⟩ (does_call 14 0 (fun _ => .any) (.func 14) [(.tmp 86), (.tmp 87)] [(e_api_Roster v9.1), (e_api_Roster v11.1)] [] true [(e_api_Roster v9.1), (e_api_Roster v11.1)] (.bool v19) _ _ rfl fo14 rfl ⟨trivial, trivial, trivial⟩ ⟨.data _ (d_api_Roster v9.1), .data _ (d_api_Roster v11.1), trivial⟩ (congressref17_Is_spec v9.1 v11.1 _ (h20 hc)) trivial)), ⟨⟨rfl, rfl, rfl, trivial⟩, trivial, rfl⟩, rfl,
    Step.plain rfl (does_and 85 88 (((((v13 && v15) && (v1.2.1 == v3.2.1)) && (v1.2.2 == v3.2.2)) && v17) && (v5.2 == v7.2)) v19), ⟨⟨rfl, rfl, trivial⟩, trivial, rfl⟩, rfl,
    Step.plain rfl (does_move (.tmp 89) (.bool ((((((v13 && v15) && (v1.2.1 == v3.2.1)) && (v1.2.2 == v3.2.2)) && v17) && (v5.2 == v7.2)) && v19)) trivial), ⟨⟨rfl, trivial⟩, trivial, rfl⟩, rfl,
    Step.guarded rfl rfl rfl rfl (fun hc => does_move (.tmp 16) (.int .u64 v9.2.1) trivial), ⟨⟨rfl, rfl, trivial⟩, trivial, rfl⟩, rfl,
    Step.guarded rfl rfl rfl rfl (fun hc => does_move (.tmp 19) (.int .u64 v11.2.1) trivial), ⟨⟨rfl, rfl, trivial⟩, trivial, rfl⟩, rfl,
    Step.guarded rfl rfl rfl rfl (fun hc => Does.strip (n' := [(91, (.opt ((((((v13 && v15) && (v1.2.1 == v3.2.1)) && (v1.2.2 == v3.2.2)) && v17) && (v5.2 == v7.2)) && v19) (.int .u64 v9.2.1))), (92, (.opt ((((((v13 && v15) && (v1.2.1 == v3.2.1)) && (v1.2.2 == v3.2.2)) && v17) && (v5.2 == v7.2)) && v19) (.int .u64 v11.2.1)))]) (n := [(91, (.int .u64 v9.2.1)), (92, (.int .u64 v11.2.1))]) ⟨(.opt _ _ hc), (.opt _ _ hc), trivial⟩ (does_bin .eql 22 22 (.tmp 91) (.tmp 92) .u64 v9.2.1 v11.2.1 (.bool (v9.2.1 == v11.2.1)) trivial trivial (bin_eql _ _ _ _))), ⟨⟨rfl, rfl, rfl, trivial⟩, trivial, rfl⟩, rfl,
    Step.plain rfl (does_and 90 93 ((((((v13 && v15) && (v1.2.1 == v3.2.1)) && (v1.2.2 == v3.2.2)) && v17) && (v5.2 == v7.2)) && v19) (v9.2.1 == v11.2.1)), ⟨⟨rfl, rfl, trivial⟩, trivial, rfl⟩, rfl,
    Step.plain rfl (does_move (.tmp 94) (.bool (((((((v13 && v15) && (v1.2.1 == v3.2.1)) && (v1.2.2 == v3.2.2)) && v17) && (v5.2 == v7.2)) && v19) && (v9.2.1 == v11.2.1))) trivial), ⟨⟨rfl, trivial⟩, trivial, rfl⟩, rfl,
    Step.guarded rfl rfl rfl rfl (fun hc => does_move (.tmp 17) (.int .i64 v9.2.2) trivial), ⟨⟨rfl, rfl, trivial⟩, trivial, rfl⟩, rfl,
    Step.guarded rfl rfl rfl rfl (fun hc => does_move (.tmp 20) (.int .i64 v11.2.2) trivial), ⟨⟨rfl, rfl, trivial⟩, trivial, rfl⟩, rfl,
    Step.guarded rfl rfl rfl rfl (fun hc => Does.strip (n' := [(96, (.opt (((((((v13 && v15) && (v1.2.1 == v3.2.1)) && (v1.2.2 == v3.2.2)) && v17) && (v5.2 == v7.2)) && v19) && (v9.2.1 == v11.2.1)) (.int .i64 v9.2.2))), (97, (.opt (((((((v13 && v15) && (v1.2.1 == v3.2.1)) && (v1.2.2 == v3.2.2)) && v17) && (v5.2 == v7.2)) && v19) && (v9.2.1 == v11.2.1)) (.int .i64 v11.2.2)))]) (n := [(96, (.int .i64 v9.2.2)), (97, (.int .i64 v11.2.2))]) ⟨(.opt _ _ hc), (.opt _ _ hc), trivial⟩ (does_bin .eql 26 26 (.tmp 96) (.tmp 97) .i64 v9.2.2 v11.2.2 (.bool (v9.2.2 == v11.2.2)) trivial trivial (bin_eql _ _ _ _))), ⟨⟨rfl, rfl, rfl, trivial⟩, trivial, rfl⟩, rfl,
    Step.plain rfl (does_and 95 98 (((((((v13 && v15) && (v1.2.1 == v3.2.1)) && (v1.2.2 == v3.2.2)) && v17) && (v5.2 == v7.2)) && v19) && (v9.2.1 == v11.2.1)) (v9.2.2 == v11.2.2)), ⟨⟨rfl, rfl, trivial⟩, trivial, rfl⟩, rfl,
    Step.plain rfl (does_move (.tmp 99) (.bool ((((((((v13 && v15) && (v1.2.1 == v3.2.1)) && (v1.2.2 == v3.2.2)) && v17) && (v5.2 == v7.2)) && v19) && (v9.2.1 == v11.2.1)) && (v9.2.2 == v11.2.2))) trivial), ⟨⟨rfl, trivial⟩, trivial, rfl⟩, rfl,
    Step.guarded rfl rfl rfl rfl (fun hc => does_load 25 2 0 0 [] (.var (e_api_Roster p0)) (e_api_Roster p0) trivial rfl rfl ty25), ⟨⟨rfl, rfl, trivial⟩, ⟨rfl, trivial⟩, rfl⟩, rfl,
    Step.guarded rfl rfl rfl rfl (fun hc => does_move (.tmp 1) (.int .u64 p1) trivial), ⟨⟨rfl, rfl, trivial⟩, trivial, rfl⟩, rfl,
    Step.guarded rfl rfl rfl rfl (fun hc => Does.strip (n' := [(101, (.opt ((((((((v13 && v15) && (v1.2.1 == v3.2.1)) && (v1.2.2 == v3.2.2)) && v17) && (v5.2 == v7.2)) && v19) && (v9.2.1 == v11.2.1)) && (v9.2.2 == v11.2.2)) (e_api_Roster p0))), (102, (.opt ((((((((v13 && v15) && (v1.2.1 == v3.2.1)) && (v1.2.2 == v3.2.2)) && v17) && (v5.2 == v7.2)) && v19) && (v9.2.1 == v11.2.1)) && (v9.2.2 == v11.2.2)) (.int .u64 p1)))]) (n := [(101, (e_api_Roster p0)), (102, (.int .u64 p1))]) ⟨(.opt _ _ hc), (.opt _ _ hc), trivial⟩ (does_call 15 0 (fun _ => .any) (.func 15) [(.tmp 101), (.tmp 102)] [(e_api_Roster p0), (.int .u64 p1)] [] true [(e_api_Roster p0), (.int .u64 p1)] (.bool v21) _ _ rfl fo15 rfl ⟨trivial, trivial, trivial⟩ ⟨.data _ (d_api_Roster p0), .data _ trivial, trivial⟩ (roster_Has_spec p0 p1 _ (h22 hc)) trivial)), ⟨⟨rfl, rfl, rfl, trivial⟩, trivial, rfl⟩, rfl,
    Step.guarded rfl rfl rfl rfl (fun hc => does_load 25 2 0 0 [] (.var (e_api_Roster p0)) (e_api_Roster p0) trivial rfl rfl ty25), ⟨⟨rfl, rfl, trivial⟩, ⟨rfl, trivial⟩, rfl⟩, rfl,
    Step.guarded rfl rfl rfl rfl (fun hc => does_move (.tmp 1) (.int .u64 p1) trivial), ⟨⟨rfl, rfl, trivial⟩, trivial, rfl⟩, rfl,
    Step.guarded rfl rfl rfl rfl (fun hc => Does.strip (n' := [(104, (.opt ((((((((v13 && v15) && (v1.2.1 == v3.2.1)) && (v1.2.2 == v3.2.2)) && v17) && (v5.2 == v7.2)) && v19) && (v9.2.1 == v11.2.1)) && (v9.2.2 == v11.2.2)) (e_api_Roster p0))), (105, (.opt ((((((((v13 && v15) && (v1.2.1 == v3.2.1)) && (v1.2.2 == v3.2.2)) && v17) && (v5.2 == v7.2)) && v19) && (v9.2.1 == v11.2.1)) && (v9.2.2 == v11.2.2)) (.int .u64 p1)))]) (n := [(104, (e_api_Roster p0)), (105, (.int .u64 p1))]) ⟨(.opt _ _ hc), (.opt _ _ hc), trivial⟩ (does_call 16 0 (fun _ => .any) (.func 16) [(.tmp 104), (.tmp 105)] [(e_api_Roster p0), (.int .u64 p1)] [] true [(e_api_Roster p0), (.int .u64 p1)] (.int .i64 v23) _ _ rfl fo16 rfl ⟨trivial, trivial, trivial⟩ ⟨.data _ (d_api_Roster p0), .data _ trivial, trivial⟩ (congressref17_Find_spec p0 p1 _ (h24 hc)) trivial)), ⟨⟨rfl, rfl, rfl, trivial⟩, trivial, rfl⟩, rfl,
    Step.guarded rfl rfl rfl rfl (fun hc => Does.strip (n' := [(106, (.opt ((((((((v13 && v15) && (v1.2.1 == v3.2.1)) && (v1.2.2 == v3.2.2)) && v17) && (v5.2 == v7.2)) && v19) && (v9.2.1 == v11.2.1)) && (v9.2.2 == v11.2.2)) (.int .i64 v23)))]) (n := [(106, (.int .i64 v23))]) ⟨(.opt _ _ hc), trivial⟩ (does_bin .geq 3 3 (.tmp 106) (.const (.int .i64 0)) .i64 v23 0 (.bool (decide (v23 ≥ 0))) trivial (fun _ => rfl) (bin_geq _ _ _ _))), ⟨⟨rfl, rfl, trivial⟩, trivial, rfl⟩, rfl,
    Step.guarded rfl rfl rfl rfl (fun hc => Does.strip (n' := [(103, (.opt ((((((((v13 && v15) && (v1.2.1 == v3.2.1)) && (v1.2.2 == v3.2.2)) && v17) && (v5.2 == v7.2)) && v19) && (v9.2.1 == v11.2.1)) && (v9.2.2 == v11.2.2)) (.bool v21))), (107, (.opt ((((((((v13 && v15) && (v1.2.1 == v3.2.1)) && (v1.2.2 == v3.2.2)) && v17) && (v5.2 == v7.2)) && v19) && (v9.2.1 == v11.2.1)) && (v9.2.2 == v11.2.2)) (.bool (decide (v23 ≥ 0)))))]) (n := [(103, (.bool v21)), (107, (.bool (decide (v23 ≥ 0))))]) ⟨(.opt _ _ hc), (.opt _ _ hc), trivial⟩ (does_eqBool false 4 4 (.tmp 103) (.tmp 107) v21 (decide (v23 ≥ 0)) trivial trivial rfl)), ⟨⟨rfl, rfl, rfl, trivial⟩, trivial, rfl⟩, rfl,
    Step.plain rfl (does_and 100 108 ((((((((v13 && v15) && (v1.2.1 == v3.2.1)) && (v1.2.2 == v3.2.2)) && v17) && (v5.2 == v7.2)) && v19) && (v9.2.1 == v11.2.1)) && (v9.2.2 == v11.2.2)) (v21 == (decide (v23 ≥ 0)))), ⟨⟨rfl, rfl, trivial⟩, trivial, rfl⟩, rfl,
    Step.plain rfl (does_move (.tmp 109) (.bool (((((((((v13 && v15) && (v1.2.1 == v3.2.1)) && (v1.2.2 == v3.2.2)) && v17) && (v5.2 == v7.2)) && v19) && (v9.2.1 == v11.2.1)) && (v9.2.2 == v11.2.2)) && (v21 == (decide (v23 ≥ 0))))) trivial), ⟨⟨rfl, trivial⟩, trivial, rfl⟩, rfl,
    Step.guarded rfl rfl rfl rfl (fun hc => does_load 25 2 0 0 [] (.var (e_api_Roster p0)) (e_api_Roster p0) trivial rfl rfl ty25), ⟨⟨rfl, rfl, trivial⟩, ⟨rfl, trivial⟩, rfl⟩, rfl,
    Step.guarded rfl rfl rfl rfl (fun hc => Does.strip (n' := [(111, (.opt (((((((((v13 && v15) && (v1.2.1 == v3.2.1)) && (v1.2.2 == v3.2.2)) && v17) && (v5.2 == v7.2)) && v19) && (v9.2.1 == v11.2.1)) && (v9.2.2 == v11.2.2)) && (v21 == (decide (v23 ≥ 0)))) (e_api_Roster p0)))]) (n := [(111, (e_api_Roster p0))]) ⟨(.opt _ _ hc), trivial⟩ (does_call 17 0 (fun _ => .any) (.func 17) [(.tmp 111)] [(e_api_Roster p0)] [] true [(e_api_Roster p0)] (.bool v25) _ _ rfl fo17 rfl ⟨trivial, trivial⟩ ⟨.data _ (d_api_Roster p0), trivial⟩ (roster_May_spec p0 _ (h26 hc)) trivial)), ⟨⟨rfl, rfl, trivial⟩, trivial, rfl⟩, rfl,
    Step.guarded rfl rfl rfl rfl (fun hc => does_load 25 2 0 0 [] (.var (e_api_Roster p0)) (e_api_Roster p0) trivial rfl rfl ty25), ⟨⟨rfl, rfl, trivial⟩, ⟨rfl, trivial⟩, rfl⟩, rfl,
    Step.guarded rfl rfl rfl rfl (fun hc => Does.strip (n' := [(113, (.opt (((((((((v13 && v15) && (v1.2.1 == v3.2.1)) && (v1.2.2 == v3.2.2)) && v17) && (v5.2 == v7.2)) && v19) && (v9.2.1 == v11.2.1)) && (v9.2.2 == v11.2.2)) && (v21 == (decide (v23 ≥ 0)))) (e_api_Roster p0)))]) (n := [(113, (e_api_Roster p0))]) ⟨(.opt _ _ hc), trivial⟩ (does_call 18 0 (fun _ => .any) (.func 18) [(.tmp 113)] [(e_api_Roster p0)] [] true [(e_api_Roster p0)] (.bool v27) _ _ rfl fo18 rfl ⟨trivial, trivial⟩ ⟨.data _ (d_api_Roster p0), trivial⟩ (congressref17_May_spec p0 _ (h28 hc)) trivial)), ⟨⟨rfl, rfl, trivial⟩, trivial, rfl⟩, rfl,
    Step.guarded rfl rfl rfl rfl (fun hc => Does.strip (n' := [(112, (.opt (((((((((v13 && v15) && (v1.2.1 == v3.2.1)) && (v1.2.2 == v3.2.2)) && v17) && (v5.2 == v7.2)) && v19) && (v9.2.1 == v11.2.1)) && (v9.2.2 == v11.2.2)) && (v21 == (decide (v23 ≥ 0)))) (.bool v25))), (114, (.opt (((((((((v13 && v15) && (v1.2.1 == v3.2.1)) && (v1.2.2 == v3.2.2)) && v17) && (v5.2 == v7.2)) && v19) && (v9.2.1 == v11.2.1)) && (v9.2.2 == v11.2.2)) && (v21 == (decide (v23 ≥ 0)))) (.bool v27)))]) (n := [(112, (.bool v25)), (114, (.bool v27))]) ⟨(.opt _ _ hc), (.opt _ _ hc), trivial⟩ (does_eqBool false 4 4 (.tmp 112) (.tmp 114) v25 v27 trivial trivial rfl)), ⟨⟨rfl, rfl, rfl, trivial⟩, trivial, rfl⟩, rfl,
    Step.plain rfl (does_and 110 115 (((((((((v13 && v15) && (v1.2.1 == v3.2.1)) && (v1.2.2 == v3.2.2)) && v17) && (v5.2 == v7.2)) && v19) && (v9.2.1 == v11.2.1)) && (v9.2.2 == v11.2.2)) && (v21 == (decide (v23 ≥ 0)))) (v25 == v27)), ⟨⟨rfl, rfl, trivial⟩, trivial, rfl⟩, rfl,
    Step.plain rfl (does_assign (.tmp 116) (.bool ((((((((((v13 && v15) && (v1.2.1 == v3.2.1)) && (v1.2.2 == v3.2.2)) && v17) && (v5.2 == v7.2)) && v19) && (v9.2.1 == v11.2.1)) && (v9.2.2 == v11.2.2)) && (v21 == (decide (v23 ≥ 0)))) && (v25 == v27))) trivial), ⟨⟨rfl, trivial⟩, trivial, rfl⟩, rfl, rfl⟩ rfl ?_
  obtain ⟨v29, hv29, H⟩ := lt_of H
  refine aw_cov (cov_prune (s1 := ⟨[(4, (.bool v29))], [], 9⟩) ⟨(by subst hv29; rfl), trivial⟩ trivial (Nat.le_refl _)) ?_
  refine aw_ret ?_
  exact fun a w hr => ⟨_, [(.bool v29)], hr, ⟨⟨_, rfl, .data (.bool v29) trivial⟩, trivial⟩, by decide, by cases H; rfl⟩

theorem congresslaw17_RosterFresh_spec (p0 : (_root_.List congresslaw17_Do)) (r : Bool) (H : congresslaw17_RosterFresh p0 = some r) : FSpec Try.prog 4 [(e_s_congresslaw17_Do p0)] (.bool r) := by
  refine spec_of (fn := Try.f4) (args := [(e_s_congresslaw17_Do p0)]) Try.func4 rfl (Nat.le_of_ble_eq_true rfl) ?_
  rintro ⟨G, w0, W, S, Sp⟩ hG
  cases hG
  unfold congresslaw17_RosterFresh at H
  refine aw_region (es := [_]) ⟨Step.plain rfl (does_assign (.const (.bool false)) (.bool false) (fun _ => rfl)), ⟨trivial, trivial, rfl⟩, rfl, rfl⟩ ?_
  refine aw_cov (cov_prune (s1 := ⟨[(0, (e_s_congresslaw17_Do p0))], [], 0⟩) ⟨rfl, trivial⟩ trivial (Nat.le_refl _)) ?_
  refine aw_region (es := [_, _, _]) ⟨Step.plain rfl (does_buildT 25 #[] [] [] (.st [1, 1]) (c_api_Roster z_api_Roster) (c_api_Roster ({ Last := 0, List := [] } : api_Roster)) rfl bo25 trivial trivial (by funext j; match j with | 0 => rfl | 1 => rfl | _ + 2 => rfl)), ⟨trivial, trivial, rfl⟩, rfl,
    Step.plain rfl (does_alloc 25 0 (e_api_Roster z_api_Roster) zr25), ⟨trivial, trivial, rfl⟩, rfl,
    Step.plain rfl (does_store 25 3 (.tmp 15) 0 0 [] (.var (e_api_Roster z_api_Roster)) (.var (e_api_Roster ({ Last := 0, List := [] } : api_Roster))) (e_api_Roster ({ Last := 0, List := [] } : api_Roster)) true trivial rfl trivial rfl rfl rfl ty25), ⟨⟨rfl, rfl, trivial⟩, ⟨rfl, trivial⟩, rfl⟩, rfl, rfl⟩ ?_
  refine aw_cov (cov_prune (s1 := ⟨[(0, (e_s_congresslaw17_Do p0)), (3, (.ptr 0 0 []))], [(0, some (.var (e_api_Roster ({ Last := 0, List := [] } : api_Roster))))], 1⟩) ⟨rfl, rfl, trivial⟩ ⟨rfl, trivial⟩ (Nat.le_refl _)) ?_
  refine aw_region (es := [_]) ⟨Step.plain rfl (does_assign (.const (.int .u64 0)) (.int .u64 0) (fun _ => rfl)), ⟨trivial, trivial, rfl⟩, rfl, rfl⟩ ?_
  refine aw_cov (cov_prune (s1 := ⟨[(0, (e_s_congresslaw17_Do p0)), (3, (.ptr 0 0 [])), (4, (.int .u64 0))], [(0, some (.var (e_api_Roster ({ Last := 0, List := [] } : api_Roster))))], 1⟩) ⟨rfl, rfl, rfl, trivial⟩ ⟨rfl, trivial⟩ (Nat.le_refl _)) ?_
  refine aw_region (es := [_, _]) ⟨Step.plain rfl (does_buildOwn 23 0 2 1 (e_api_Session z_api_Session) (fun j => (e_api_Session (([] : _root_.List api_Session).getD j z_api_Session))) #[] [] [] rfl so23 (by decide) trivial trivial (fun j h => match j, h with  | k + 0, h => absurd h (by omega))), ⟨trivial, trivial, rfl⟩, rfl,
    Step.plain rfl (does_assign (.tmp 16) (.own 1) trivial), ⟨⟨rfl, trivial⟩, trivial, rfl⟩, rfl, rfl⟩ ?_
  refine aw_cov (cov_prune (s1 := ⟨[(0, (e_s_congresslaw17_Do p0)), (3, (.ptr 0 0 [])), (4, (.int .u64 0)), (5, (.own 1))], [(0, some (.var (e_api_Roster ({ Last := 0, List := [] } : api_Roster)))), (1, some (.arr 2 ([] : _root_.List api_Session).length fun j => (e_api_Session (([] : _root_.List api_Session).getD j z_api_Session))))], 2⟩) ⟨rfl, rfl, rfl, rfl, trivial⟩ ⟨rfl, rfl, trivial⟩ (Nat.le_refl _)) ?_
  refine aw_seq ?_
  refine aw_region (es := [_]) ⟨Step.plain rfl (does_assign (.const (.int .i64 0)) (.int .i64 0) (fun _ => rfl)), ⟨trivial, trivial, rfl⟩, rfl, rfl⟩ ?_
  refine aw_cov (cov_prune (s1 := ⟨[(0, (e_s_congresslaw17_Do p0)), (3, (.ptr 0 0 [])), (4, (.int .u64 0)), (5, (.own 1)), (6, (.int .i64 0))], [(0, some (.var (e_api_Roster ({ Last := 0, List := [] } : api_Roster)))), (1, some (.arr 2 ([] : _root_.List api_Session).length fun j => (e_api_Session (([] : _root_.List api_Session).getD j z_api_Session))))], 2⟩) ⟨rfl, rfl, rfl, rfl, rfl, trivial⟩ ⟨rfl, rfl, trivial⟩ (Nat.le_refl _)) ?_
  obtain ⟨wn2, hwn2, Hrn2⟩ := bnd H
  refine aw_meet (fun y35 : Unit => (⟨[], [], 2⟩ : St)) (fun y35 => Fl.nx y35 = wn2) (fun y35 hy => ?_) (aw_block (aw_runs (fun x1 : Int × Int × api_Roster × _root_.List api_Session => (⟨[(0, (e_s_congresslaw17_Do p0)), (3, (.ptr 0 0 [])), (4, (.int .u64 x1.1)), (5, (.own 1)), (6, (.int .i64 x1.2.1))], [(0, some (.var (e_api_Roster x1.2.2.1))), (1, some (.arr 2 x1.2.2.2.length fun j => (e_api_Session (x1.2.2.2.getD j z_api_Session))))], 2⟩ : St)) hwn2 (cov_prune ⟨rfl, rfl, rfl, rfl, rfl, trivial⟩ ⟨rfl, rfl, trivial⟩ (Nat.le_of_ble_eq_true rfl)) (fun x1 st H hsn2 => ?_)))
  · have H := nx_of hy Hrn2
    refine nx_seq ?_
    obtain ⟨v36, h37, H⟩ := bnd H
    refine aw_region (es := [_, _]) ⟨Step.plain rfl (does_call 13 0 (fun _ => .any) (.func 13) [] [] [] true [] (.bool v36) _ _ rfl fo13 rfl trivial trivial (congresslaw17_fixed_spec _ h37) trivial), ⟨trivial, trivial, rfl⟩, rfl,
      Step.plain rfl (does_assign (.tmp 170) (.bool v36) trivial), ⟨⟨rfl, trivial⟩, trivial, rfl⟩, rfl, rfl⟩ ?_
    refine aw_cov (cov_prune (s1 := ⟨[(2, (.bool v36))], [], 2⟩) ⟨rfl, trivial⟩ trivial (Nat.le_refl _)) ?_
    refine aw_ret ?_
    exact fun a w hr => ⟨_, [(.bool v36)], hr, ⟨⟨_, rfl, .data (.bool v36) trivial⟩, trivial⟩, by decide, by cases H; rfl⟩
  · refine aw_seq ?_
    refine aw_region (es := [_, _, _, _, _, _, _, _]) ⟨Step.plain rfl (does_move (.tmp 6) (.int .i64 x1.2.1) trivial), ⟨⟨rfl, trivial⟩, trivial, rfl⟩, rfl,
      Step.plain rfl (does_move (.tmp 0) (e_s_congresslaw17_Do p0) trivial), ⟨⟨rfl, trivial⟩, trivial, rfl⟩, rfl,
      Step.plain rfl (does_lens 37 2 p0.length 18 (fun j => (e_congresslaw17_Do (p0.getD j z_congresslaw17_Do))) el37), ⟨⟨rfl, trivial⟩, trivial, rfl⟩, rfl,
      Step.plain rfl (does_bin .lss 3 3 (.tmp 17) (.tmp 19) .i64 x1.2.1 (p0.length : Int) (.bool (decide (x1.2.1 < (p0.length : Int)))) trivial trivial (bin_lss _ _ _ _)), ⟨⟨rfl, rfl, trivial⟩, trivial, rfl⟩, rfl,
      Step.plain rfl (does_move (.tmp 20) (.bool (decide (x1.2.1 < (p0.length : Int)))) trivial), ⟨⟨rfl, trivial⟩, trivial, rfl⟩, rfl,
      Step.guarded rfl rfl rfl rfl (fun hc => does_move (.tmp 6) (.int .i64 x1.2.1) trivial), ⟨⟨rfl, rfl, trivial⟩, trivial, rfl⟩, rfl,
      Step.guarded rfl rfl rfl rfl (fun hc => Does.strip (n' := [(22, (.opt (decide (x1.2.1 < (p0.length : Int))) (.int .i64 x1.2.1)))]) (n := [(22, (.int .i64 x1.2.1))]) ⟨(.opt _ _ hc), trivial⟩ (does_bin .lss 3 3 (.tmp 22) (.const (.int .i64 200)) .i64 x1.2.1 200 (.bool (decide (x1.2.1 < 200))) trivial (fun _ => rfl) (bin_lss _ _ _ _))), ⟨⟨rfl, rfl, trivial⟩, trivial, rfl⟩, rfl,
      Step.plain rfl (does_and 21 23 (decide (x1.2.1 < (p0.length : Int))) (decide (x1.2.1 < 200))), ⟨⟨rfl, rfl, trivial⟩, trivial, rfl⟩, rfl, rfl⟩ ?_
    refine aw_cov (cov_prune (s1 := ⟨[(0, (e_s_congresslaw17_Do p0)), (3, (.ptr 0 0 [])), (4, (.int .u64 x1.1)), (5, (.own 1)), (6, (.int .i64 x1.2.1)), (24, (.bool ((decide (x1.2.1 < (p0.length : Int))) && (decide (x1.2.1 < 200)))))], [(0, some (.var (e_api_Roster x1.2.2.1))), (1, some (.arr 2 x1.2.2.2.length fun j => (e_api_Session (x1.2.2.2.getD j z_api_Session))))], 2⟩) ⟨rfl, rfl, rfl, rfl, rfl, rfl, trivial⟩ ⟨rfl, rfl, trivial⟩ (Nat.le_refl _)) ?_
    refine aw_cond rfl (fun hc => ?_) (fun hc => ?_)
    · replace H := ite_t hc H
      refine aw_skip ?_
      refine nx_seq ?_
      refine aw_seq ?_
      refine aw_block ?_
      refine aw_seq ?_
      obtain ⟨h3, H⟩ := ib_of H
      refine aw_region (es := [_, _, _, _, _]) ⟨Step.plain rfl (does_move (.tmp 0) (e_s_congresslaw17_Do p0) trivial), ⟨⟨rfl, trivial⟩, trivial, rfl⟩, rfl,
        Step.plain rfl (does_move (.tmp 6) (.int .i64 x1.2.1) trivial), ⟨⟨rfl, trivial⟩, trivial, rfl⟩, rfl,
        Step.plain rfl (does_indexAddrs 37 2 p0.length 27 (fun j => (e_congresslaw17_Do (p0.getD j z_congresslaw17_Do))) (.tmp 28) .i64 x1.2.1 el37 trivial h3.1 h3.2), ⟨⟨rfl, rfl, trivial⟩, trivial, rfl⟩, rfl,
        Step.plain rfl (does_fieldAddrc 39 0 0 29 (e_congresslaw17_Do (p0.getD x1.2.1.toNat z_congresslaw17_Do)) fl39_0 rfl (Nat.le_of_ble_eq_true rfl) rfl), ⟨⟨rfl, trivial⟩, trivial, rfl⟩, rfl,
        Step.plain rfl (does_loadc 3 30 (.int .i64 ((p0.getD x1.2.1.toNat z_congresslaw17_Do).Do)) ty3), ⟨⟨rfl, trivial⟩, trivial, rfl⟩, rfl, rfl⟩ ?_
      refine aw_cov (cov_prune (s1 := ⟨[(0, (e_s_congresslaw17_Do p0)), (3, (.ptr 0 0 [])), (4, (.int .u64 x1.1)), (5, (.own 1)), (6, (.int .i64 x1.2.1)), (31, (.int .i64 ((p0.getD x1.2.1.toNat z_congresslaw17_Do).Do)))], [(0, some (.var (e_api_Roster x1.2.2.1))), (1, some (.arr 2 x1.2.2.2.length fun j => (e_api_Session (x1.2.2.2.getD j z_api_Session))))], 2⟩) ⟨rfl, rfl, rfl, rfl, rfl, rfl, trivial⟩ ⟨rfl, rfl, trivial⟩ (Nat.le_refl _)) ?_
      refine aw_jn (fun x31 : Int × api_Roster × _root_.List api_Session => (⟨[(0, (e_s_congresslaw17_Do p0)), (3, (.ptr 0 0 [])), (4, (.int .u64 x31.1)), (5, (.own 1)), (6, (.int .i64 x1.2.1))], [(0, some (.var (e_api_Roster x31.2.1))), (1, some (.arr 2 x31.2.2.length fun j => (e_api_Session (x31.2.2.getD j z_api_Session))))], 4⟩ : St)) H (fun x31 H => ?_) (fun j4 H => ?_)
      · refine nx_seq ?_
        obtain ⟨v32, h33, H⟩ := bnd H
        refine aw_region (es := [_, _, _, _, _, _, _, _, _, _, _, _, _, _, _]) ⟨Step.plain rfl (does_load 25 3 0 0 [] (.var (e_api_Roster x31.2.1)) (e_api_Roster x31.2.1) trivial rfl rfl ty25), ⟨⟨rfl, trivial⟩, ⟨rfl, trivial⟩, rfl⟩, rfl,
          Step.plain rfl (does_call 17 0 (fun _ => .any) (.func 17) [(.tmp 155)] [(e_api_Roster x31.2.1)] [] true [(e_api_Roster x31.2.1)] (.bool v32) _ _ rfl fo17 rfl ⟨trivial, trivial⟩ ⟨.data _ (d_api_Roster x31.2.1), trivial⟩ (roster_May_spec x31.2.1 _ h33) trivial), ⟨⟨rfl, trivial⟩, trivial, rfl⟩, rfl,
          Step.plain rfl (does_not 4 (.tmp 156) v32 trivial), ⟨⟨rfl, trivial⟩, trivial, rfl⟩, rfl,
          Step.plain rfl (does_move (.tmp 157) (.bool (!v32)) trivial), ⟨⟨rfl, trivial⟩, trivial, rfl⟩, rfl,
          Step.guarded rfl rfl rfl rfl (fun hc => does_fieldAddr 25 1 1 3 0 0 [] (.var (e_api_Roster x31.2.1)) fl25_1), ⟨⟨rfl, rfl, trivial⟩, ⟨rfl, trivial⟩, rfl⟩, rfl,
          Step.guarded rfl rfl rfl rfl (fun hc => Does.strip (n' := [(159, (.opt (!(!v32)) (.ptr 0 (0 + 1) [1])))]) (n := [(159, (.ptr 0 (0 + 1) [1]))]) ⟨(.opt _ _ hc), trivial⟩ (does_load 23 159 0 (0 + 1) [1] (.var (e_api_Roster x31.2.1)) (e_s_api_Session x31.2.1.List) ⟨rfl, Nat.le_of_ble_eq_true rfl, trivial⟩ rfl rfl ty23)), ⟨⟨rfl, rfl, trivial⟩, ⟨rfl, trivial⟩, rfl⟩, rfl,
          Step.guarded rfl rfl rfl rfl (fun hc => Does.strip (n' := [(160, (.opt (!(!v32)) (e_s_api_Session x31.2.1.List)))]) (n := [(160, (e_s_api_Session x31.2.1.List))]) ⟨(.opt _ _ hc), trivial⟩ (does_lens 23 2 x31.2.1.List.length 160 (fun j => (e_api_Session (x31.2.1.List.getD j z_api_Session))) el23)), ⟨⟨rfl, rfl, trivial⟩, trivial, rfl⟩, rfl,
          Step.guarded rfl rfl rfl rfl (fun hc => Does.strip (n' := [(161, (.opt (!(!v32)) (.int .i64 (x31.2.1.List.length : Int))))]) (n := [(161, (.int .i64 (x31.2.1.List.length : Int)))]) ⟨(.opt _ _ hc), trivial⟩ (does_bin .gtr 3 3 (.tmp 161) (.const (.int .i64 4)) .i64 (x31.2.1.List.length : Int) 4 (.bool (decide ((x31.2.1.List.length : Int) > 4))) trivial (fun _ => rfl) (bin_gtr _ _ _ _))), ⟨⟨rfl, rfl, trivial⟩, trivial, rfl⟩, rfl,
          Step.plain rfl (does_or 158 162 (!v32) (decide ((x31.2.1.List.length : Int) > 4))), ⟨⟨rfl, rfl, trivial⟩, trivial, rfl⟩, rfl,
          Step.plain rfl (does_move (.tmp 163) (.bool ((!v32) || (decide ((x31.2.1.List.length : Int) > 4)))) trivial), ⟨⟨rfl, trivial⟩, trivial, rfl⟩, rfl,
          Step.guarded rfl rfl rfl rfl (fun hc => does_fieldAddr 25 0 0 3 0 0 [] (.var (e_api_Roster x31.2.1)) fl25_0), ⟨⟨rfl, rfl, trivial⟩, ⟨rfl, trivial⟩, rfl⟩, rfl,
          Step.guarded rfl rfl rfl rfl (fun hc => Does.strip (n' := [(165, (.opt (!((!v32) || (decide ((x31.2.1.List.length : Int) > 4)))) (.ptr 0 (0 + 0) [0])))]) (n := [(165, (.ptr 0 (0 + 0) [0]))]) ⟨(.opt _ _ hc), trivial⟩ (does_load 22 165 0 (0 + 0) [0] (.var (e_api_Roster x31.2.1)) (.int .u64 x31.2.1.Last) ⟨rfl, Nat.le_of_ble_eq_true rfl, trivial⟩ rfl rfl ty22)), ⟨⟨rfl, rfl, trivial⟩, ⟨rfl, trivial⟩, rfl⟩, rfl,
          Step.guarded rfl rfl rfl rfl (fun hc => does_move (.tmp 4) (.int .u64 x31.1) trivial), ⟨⟨rfl, rfl, trivial⟩, trivial, rfl⟩, rfl,
          Step.guarded rfl rfl rfl rfl (fun hc => Does.strip (n' := [(166, (.opt (!((!v32) || (decide ((x31.2.1.List.length : Int) > 4)))) (.int .u64 x31.2.1.Last))), (167, (.opt (!((!v32) || (decide ((x31.2.1.List.length : Int) > 4)))) (.int .u64 x31.1)))]) (n := [(166, (.int .u64 x31.2.1.Last)), (167, (.int .u64 x31.1))]) ⟨(.opt _ _ hc), (.opt _ _ hc), trivial⟩ (does_bin .neq 22 22 (.tmp 166) (.tmp 167) .u64 x31.2.1.Last x31.1 (.bool (x31.2.1.Last != x31.1)) trivial trivial (bin_neq _ _ _ _))), ⟨⟨rfl, rfl, rfl, trivial⟩, trivial, rfl⟩, rfl,
          Step.plain rfl (does_or 164 168 ((!v32) || (decide ((x31.2.1.List.length : Int) > 4))) (x31.2.1.Last != x31.1)), ⟨⟨rfl, rfl, trivial⟩, trivial, rfl⟩, rfl, rfl⟩ ?_
        obtain ⟨v34, hv34, H⟩ := lt_of H
        refine aw_cov (cov_prune (s1 := ⟨[(0, (e_s_congresslaw17_Do p0)), (3, (.ptr 0 0 [])), (4, (.int .u64 x31.1)), (5, (.own 1)), (6, (.int .i64 x1.2.1)), (169, (.bool v34))], [(0, some (.var (e_api_Roster x31.2.1))), (1, some (.arr 2 x31.2.2.length fun j => (e_api_Session (x31.2.2.getD j z_api_Session))))], 4⟩) ⟨rfl, rfl, rfl, rfl, rfl, (by subst hv34; rfl), trivial⟩ ⟨rfl, rfl, trivial⟩ (Nat.le_refl _)) ?_
        refine aw_cond rfl (fun hc => ?_) (fun hc => ?_)
        · replace H := ite_t hc H
          refine aw_region (es := [_]) ⟨Step.plain rfl (does_assign (.const (.bool false)) (.bool false) (fun _ => rfl)), ⟨trivial, trivial, rfl⟩, rfl, rfl⟩ ?_
          refine aw_cov (cov_prune (s1 := ⟨[(2, (.bool false))], [], 4⟩) ⟨rfl, trivial⟩ trivial (Nat.le_refl _)) ?_
          refine aw_ret ?_
          replace H := rt_of H hsn2 Hrn2
          refine rt_blk ?_
          refine rt_then ?_
          refine rt_then ?_
          refine rt_blk ?_
          refine rt_then ?_
          refine rt_then ?_
          exact fun a w hr => ⟨_, [(.bool false)], hr, ⟨⟨_, rfl, .data (.bool false) trivial⟩, trivial⟩, by decide, by cases H; rfl⟩
        · replace H := ite_f hc H
          refine aw_skip ?_
          refine nx_blk ?_
          refine nx_seq ?_
          refine aw_region1 (es := [_, _, _]) ⟨Step.plain rfl (does_move (.tmp 6) (.int .i64 x1.2.1) trivial), ⟨⟨rfl, trivial⟩, trivial, rfl⟩, rfl,
            Step.plain rfl (does_bin .add 3 3 (.tmp 25) (.const (.int .i64 1)) .i64 x1.2.1 1 (.int .i64 (IntKind.i64.wrap (x1.2.1 + 1))) trivial (fun _ => rfl) (bin_add _ _ _ _)), ⟨⟨rfl, trivial⟩, trivial, rfl⟩, rfl,
            Step.plain rfl (does_assign (.tmp 26) (.int .i64 (IntKind.i64.wrap (x1.2.1 + 1))) trivial), ⟨⟨rfl, trivial⟩, trivial, rfl⟩, rfl, rfl⟩ ?_
          exact nx_loop (x31.1, (IntKind.i64.wrap (x1.2.1 + 1)), x31.2.1, x31.2.2) H (cov_of (fun i => match i with | 0 => 0 | 1 => 1 | k => k) ⟨⟨_, rfl, ⟨rfl, (d_s_congresslaw17_Do _).plain⟩⟩, ⟨_, rfl, ⟨rfl, Nat.le_of_ble_eq_true rfl⟩⟩, ⟨_, rfl, ⟨rfl, trivial⟩⟩, ⟨_, rfl, ⟨rfl, Nat.le_of_ble_eq_true rfl⟩⟩, ⟨_, rfl, ⟨rfl, trivial⟩⟩, trivial⟩ ⟨⟨Nat.le_of_ble_eq_true rfl, _, _, rfl, rfl, .inl ⟨rfl, (d_api_Roster _).plain⟩⟩, ⟨Nat.le_of_ble_eq_true rfl, _, _, rfl, rfl, ⟨rfl, rfl, fun _ => .inl ⟨rfl, (d_api_Session _).plain⟩⟩⟩, trivial⟩ rfl)
      · refine aw_block ?_
        refine aw_region (es := [_, _]) ⟨Step.plain rfl (does_bin .eql 3 3 (.tmp 31) (.const (.int .i64 0)) .i64 ((p0.getD x1.2.1.toNat z_congresslaw17_Do).Do) 0 (.bool (((p0.getD x1.2.1.toNat z_congresslaw17_Do).Do) == 0)) trivial (fun _ => rfl) (bin_eql _ _ _ _)), ⟨⟨rfl, trivial⟩, trivial, rfl⟩, rfl,
          Step.plain rfl (does_assign (.tmp 33) (.bool (((p0.getD x1.2.1.toNat z_congresslaw17_Do).Do) == 0)) trivial), ⟨⟨rfl, trivial⟩, trivial, rfl⟩, rfl, rfl⟩ ?_
        refine aw_cov (cov_prune (s1 := ⟨[(0, (e_s_congresslaw17_Do p0)), (3, (.ptr 0 0 [])), (4, (.int .u64 x1.1)), (5, (.own 1)), (6, (.int .i64 x1.2.1)), (31, (.int .i64 ((p0.getD x1.2.1.toNat z_congresslaw17_Do).Do))), (32, (.bool (((p0.getD x1.2.1.toNat z_congresslaw17_Do).Do) == 0)))], [(0, some (.var (e_api_Roster x1.2.2.1))), (1, some (.arr 2 x1.2.2.2.length fun j => (e_api_Session (x1.2.2.2.getD j z_api_Session))))], 2⟩) ⟨rfl, rfl, rfl, rfl, rfl, rfl, rfl, trivial⟩ ⟨rfl, rfl, trivial⟩ (Nat.le_refl _)) ?_
        refine aw_cond rfl (fun hc => ?_) (fun hc => ?_)
        · replace H := ite_t hc H
          obtain ⟨v5, h6, H⟩ := bnd H
          refine aw_region (es := [_, _, _, _, _, _, _, _, _, _]) ⟨Step.plain rfl (does_load 25 3 0 0 [] (.var (e_api_Roster x1.2.2.1)) (e_api_Roster x1.2.2.1) trivial rfl rfl ty25), ⟨⟨rfl, trivial⟩, ⟨rfl, trivial⟩, rfl⟩, rfl,
            Step.plain rfl (does_call 7 0 (fun _ => .any) (.func 7) [(.tmp 35)] [(e_api_Roster x1.2.2.1)] [] false [(e_api_Roster x1.2.2.1)] (resV [(e_api_Roster v5.1), (.int .u64 v5.2.1), (.int .i64 v5.2.2)]) _ _ rfl fo7 rfl ⟨trivial, trivial⟩ ⟨.data _ (d_api_Roster x1.2.2.1), trivial⟩ (roster_Open_spec x1.2.2.1 _ h6) (res_data3 (d_api_Roster v5.1) trivial trivial)), ⟨⟨rfl, trivial⟩, trivial, rfl⟩, rfl,
            Step.plain rfl (does_move (.tmp 36) (resV [(e_api_Roster v5.1), (.int .u64 v5.2.1), (.int .i64 v5.2.2)]) trivial), ⟨⟨rfl, trivial⟩, trivial, rfl⟩, rfl,
            Step.plain rfl (does_extract 34 0 3 (fun j => [(e_api_Roster v5.1), (.int .u64 v5.2.1), (.int .i64 v5.2.2)].getD j (.bool false)) (Nat.le_of_ble_eq_true rfl)), ⟨⟨rfl, trivial⟩, trivial, rfl⟩, rfl,
            Step.plain rfl (does_extract 34 1 3 (fun j => [(e_api_Roster v5.1), (.int .u64 v5.2.1), (.int .i64 v5.2.2)].getD j (.bool false)) (Nat.le_of_ble_eq_true rfl)), ⟨⟨rfl, trivial⟩, trivial, rfl⟩, rfl,
            Step.plain rfl (does_extract 34 2 3 (fun j => [(e_api_Roster v5.1), (.int .u64 v5.2.1), (.int .i64 v5.2.2)].getD j (.bool false)) (Nat.le_of_ble_eq_true rfl)), ⟨⟨rfl, trivial⟩, trivial, rfl⟩, rfl,
            Step.plain rfl (does_alloc 25 2 (e_api_Roster z_api_Roster) zr25), ⟨trivial, trivial, rfl⟩, rfl,
            Step.plain rfl (does_store 25 7 (.tmp 37) 2 0 [] (.var (e_api_Roster z_api_Roster)) (.var (e_api_Roster v5.1)) (e_api_Roster v5.1) true trivial rfl trivial rfl rfl rfl ty25), ⟨⟨rfl, rfl, trivial⟩, ⟨rfl, trivial⟩, rfl⟩, rfl,
            Step.plain rfl (does_assign (.tmp 38) (.int .u64 v5.2.1) trivial), ⟨⟨rfl, trivial⟩, trivial, rfl⟩, rfl,
            Step.plain rfl (does_assign (.tmp 39) (.int .i64 v5.2.2) trivial), ⟨⟨rfl, trivial⟩, trivial, rfl⟩, rfl, rfl⟩ ?_
          refine aw_cov (cov_prune (s1 := ⟨[(0, (e_s_congresslaw17_Do p0)), (3, (.ptr 0 0 [])), (4, (.int .u64 x1.1)), (5, (.own 1)), (6, (.int .i64 x1.2.1)), (7, (.ptr 2 0 [])), (8, (.int .u64 v5.2.1)), (9, (.int .i64 v5.2.2))], [(0, some (.var (e_api_Roster x1.2.2.1))), (1, some (.arr 2 x1.2.2.2.length fun j => (e_api_Session (x1.2.2.2.getD j z_api_Session)))), (2, some (.var (e_api_Roster v5.1)))], 3⟩) ⟨rfl, rfl, rfl, rfl, rfl, rfl, rfl, rfl, trivial⟩ ⟨rfl, rfl, rfl, trivial⟩ (Nat.le_refl _)) ?_
          refine aw_seq ?_
          refine aw_region (es := [_, _, _, _, _, _, _]) ⟨Step.plain rfl (does_move (.tmp 9) (.int .i64 v5.2.2) trivial), ⟨⟨rfl, trivial⟩, trivial, rfl⟩, rfl,
            Step.plain rfl (does_bin .eql 26 26 (.tmp 40) (.const (.int .i64 0)) .i64 v5.2.2 0 (.bool (v5.2.2 == 0)) trivial (fun _ => rfl) (bin_eql _ _ _ _)), ⟨⟨rfl, trivial⟩, trivial, rfl⟩, rfl,
            Step.plain rfl (does_fieldAddr 25 1 1 3 0 0 [] (.var (e_api_Roster x1.2.2.1)) fl25_1), ⟨⟨rfl, trivial⟩, ⟨rfl, trivial⟩, rfl⟩, rfl,
            Step.plain rfl (does_load 23 42 0 (0 + 1) [1] (.var (e_api_Roster x1.2.2.1)) (e_s_api_Session x1.2.2.1.List) ⟨rfl, Nat.le_of_ble_eq_true rfl, trivial⟩ rfl rfl ty23), ⟨⟨rfl, trivial⟩, ⟨rfl, trivial⟩, rfl⟩, rfl,
            Step.plain rfl (does_lens 23 2 x1.2.2.1.List.length 43 (fun j => (e_api_Session (x1.2.2.1.List.getD j z_api_Session))) el23), ⟨⟨rfl, trivial⟩, trivial, rfl⟩, rfl,
            Step.plain rfl (does_bin .lss 3 3 (.tmp 44) (.const (.int .i64 4)) .i64 (x1.2.2.1.List.length : Int) 4 (.bool (decide ((x1.2.2.1.List.length : Int) < 4))) trivial (fun _ => rfl) (bin_lss _ _ _ _)), ⟨⟨rfl, trivial⟩, trivial, rfl⟩, rfl,
            Step.plain rfl (does_eqBool true 4 4 (.tmp 41) (.tmp 45) (v5.2.2 == 0) (decide ((x1.2.2.1.List.length : Int) < 4)) trivial trivial rfl), ⟨⟨rfl, rfl, trivial⟩, trivial, rfl⟩, rfl, rfl⟩ ?_
          refine aw_cov (cov_prune (s1 := ⟨[(0, (e_s_congresslaw17_Do p0)), (3, (.ptr 0 0 [])), (4, (.int .u64 x1.1)), (5, (.own 1)), (6, (.int .i64 x1.2.1)), (7, (.ptr 2 0 [])), (8, (.int .u64 v5.2.1)), (9, (.int .i64 v5.2.2)), (46, (.bool ((v5.2.2 == 0) != (decide ((x1.2.2.1.List.length : Int) < 4)))))], [(0, some (.var (e_api_Roster x1.2.2.1))), (1, some (.arr 2 x1.2.2.2.length fun j => (e_api_Session (x1.2.2.2.getD j z_api_Session)))), (2, some (.var (e_api_Roster v5.1)))], 3⟩) ⟨rfl, rfl, rfl, rfl, rfl, rfl, rfl, rfl, rfl, trivial⟩ ⟨rfl, rfl, rfl, trivial⟩ (Nat.le_refl _)) ?_
          refine aw_cond rfl (fun hc => ?_) (fun hc => ?_)
          · replace H := ite_t hc H
            refine aw_region (es := [_]) ⟨Step.plain rfl (does_assign (.const (.bool false)) (.bool false) (fun _ => rfl)), ⟨trivial, trivial, rfl⟩, rfl, rfl⟩ ?_
            refine aw_cov (cov_prune (s1 := ⟨[(2, (.bool false))], [], 3⟩) ⟨rfl, trivial⟩ trivial (Nat.le_refl _)) ?_
            refine aw_ret ?_
            replace H := rt_of H hsn2 Hrn2
            refine rt_then ?_
            refine rt_blk ?_
            refine rt_then ?_
            refine rt_then ?_
            refine rt_blk ?_
            refine rt_then ?_
            refine rt_then ?_
            refine rt_blk ?_
            refine rt_then ?_
            refine rt_then ?_
            exact fun a w hr => ⟨_, [(.bool false)], hr, ⟨⟨_, rfl, .data (.bool false) trivial⟩, trivial⟩, by decide, by cases H; rfl⟩
          · replace H := ite_f hc H
            refine aw_skip ?_
            refine nx_seq ?_
            refine aw_region (es := [_, _]) ⟨Step.plain rfl (does_move (.tmp 9) (.int .i64 v5.2.2) trivial), ⟨⟨rfl, trivial⟩, trivial, rfl⟩, rfl,
              Step.plain rfl (does_bin .eql 26 26 (.tmp 47) (.const (.int .i64 0)) .i64 v5.2.2 0 (.bool (v5.2.2 == 0)) trivial (fun _ => rfl) (bin_eql _ _ _ _)), ⟨⟨rfl, trivial⟩, trivial, rfl⟩, rfl, rfl⟩ ?_
            refine aw_cov (cov_prune (s1 := ⟨[(0, (e_s_congresslaw17_Do p0)), (3, (.ptr 0 0 [])), (4, (.int .u64 x1.1)), (5, (.own 1)), (6, (.int .i64 x1.2.1)), (7, (.ptr 2 0 [])), (8, (.int .u64 v5.2.1)), (48, (.bool (v5.2.2 == 0)))], [(0, some (.var (e_api_Roster x1.2.2.1))), (1, some (.arr 2 x1.2.2.2.length fun j => (e_api_Session (x1.2.2.2.getD j z_api_Session)))), (2, some (.var (e_api_Roster v5.1)))], 3⟩) ⟨rfl, rfl, rfl, rfl, rfl, rfl, rfl, rfl, trivial⟩ ⟨rfl, rfl, rfl, trivial⟩ (Nat.le_refl _)) ?_
            refine aw_cond rfl (fun hc => ?_) (fun hc => ?_)
            · replace H := ite_t hc H
              refine aw_region (es := [_, _, _]) ⟨Step.plain rfl (does_move (.tmp 4) (.int .u64 x1.1) trivial), ⟨⟨rfl, trivial⟩, trivial, rfl⟩, rfl,
                Step.plain rfl (does_bin .add 22 22 (.tmp 49) (.const (.int .u64 1)) .u64 x1.1 1 (.int .u64 (IntKind.u64.wrap (x1.1 + 1))) trivial (fun _ => rfl) (bin_add _ _ _ _)), ⟨⟨rfl, trivial⟩, trivial, rfl⟩, rfl,
                Step.plain rfl (does_assign (.tmp 50) (.int .u64 (IntKind.u64.wrap (x1.1 + 1))) trivial), ⟨⟨rfl, trivial⟩, trivial, rfl⟩, rfl, rfl⟩ ?_
              refine aw_cov (cov_prune (s1 := ⟨[(0, (e_s_congresslaw17_Do p0)), (3, (.ptr 0 0 [])), (5, (.own 1)), (6, (.int .i64 x1.2.1)), (7, (.ptr 2 0 [])), (8, (.int .u64 v5.2.1)), (4, (.int .u64 (IntKind.u64.wrap (x1.1 + 1))))], [(0, some (.var (e_api_Roster x1.2.2.1))), (1, some (.arr 2 x1.2.2.2.length fun j => (e_api_Session (x1.2.2.2.getD j z_api_Session)))), (2, some (.var (e_api_Roster v5.1)))], 3⟩) ⟨rfl, rfl, rfl, rfl, rfl, rfl, rfl, trivial⟩ ⟨rfl, rfl, rfl, trivial⟩ (Nat.le_refl _)) ?_
              refine aw_seq ?_
              refine aw_region (es := [_, _, _]) ⟨Step.plain rfl (does_move (.tmp 8) (.int .u64 v5.2.1) trivial), ⟨⟨rfl, trivial⟩, trivial, rfl⟩, rfl,
                Step.plain rfl (does_move (.tmp 4) (.int .u64 (IntKind.u64.wrap (x1.1 + 1))) trivial), ⟨⟨rfl, trivial⟩, trivial, rfl⟩, rfl,
                Step.plain rfl (does_bin .neq 22 22 (.tmp 51) (.tmp 52) .u64 v5.2.1 (IntKind.u64.wrap (x1.1 + 1)) (.bool (v5.2.1 != (IntKind.u64.wrap (x1.1 + 1)))) trivial trivial (bin_neq _ _ _ _)), ⟨⟨rfl, rfl, trivial⟩, trivial, rfl⟩, rfl, rfl⟩ ?_
              refine aw_cov (cov_prune (s1 := ⟨[(0, (e_s_congresslaw17_Do p0)), (3, (.ptr 0 0 [])), (5, (.own 1)), (6, (.int .i64 x1.2.1)), (7, (.ptr 2 0 [])), (8, (.int .u64 v5.2.1)), (4, (.int .u64 (IntKind.u64.wrap (x1.1 + 1)))), (53, (.bool (v5.2.1 != (IntKind.u64.wrap (x1.1 + 1)))))], [(0, some (.var (e_api_Roster x1.2.2.1))), (1, some (.arr 2 x1.2.2.2.length fun j => (e_api_Session (x1.2.2.2.getD j z_api_Session)))), (2, some (.var (e_api_Roster v5.1)))], 3⟩) ⟨rfl, rfl, rfl, rfl, rfl, rfl, rfl, rfl, trivial⟩ ⟨rfl, rfl, rfl, trivial⟩ (Nat.le_refl _)) ?_
              refine aw_cond rfl (fun hc => ?_) (fun hc => ?_)
              · replace H := ite_t hc H
                refine aw_region (es := [_]) ⟨Step.plain rfl (does_assign (.const (.bool false)) (.bool false) (fun _ => rfl)), ⟨trivial, trivial, rfl⟩, rfl, rfl⟩ ?_
                refine aw_cov (cov_prune (s1 := ⟨[(2, (.bool false))], [], 3⟩) ⟨rfl, trivial⟩ trivial (Nat.le_refl _)) ?_
                refine aw_ret ?_
                replace H := rt_of H hsn2 Hrn2
                refine rt_then ?_
                refine rt_blk ?_
                refine rt_then ?_
                refine rt_then ?_
                refine rt_blk ?_
                refine rt_then ?_
                refine rt_then ?_
                refine rt_blk ?_
                refine rt_then ?_
                refine rt_then ?_
                exact fun a w hr => ⟨_, [(.bool false)], hr, ⟨⟨_, rfl, .data (.bool false) trivial⟩, trivial⟩, by decide, by cases H; rfl⟩
              · replace H := ite_f hc H
                refine aw_skip ?_
                refine nx_seq ?_
                obtain ⟨h7, H⟩ := fit_of H
                refine aw_region (es := [_, _, _, _, _, _]) ⟨Step.plain rfl (does_move (.tmp 5) (.own 1) trivial), ⟨⟨rfl, trivial⟩, trivial, rfl⟩, rfl,
                  Step.plain rfl (does_move (.tmp 8) (.int .u64 v5.2.1) trivial), ⟨⟨rfl, trivial⟩, trivial, rfl⟩, rfl,
                  Step.plain rfl (does_buildT 41 #[(0, (.tmp 55))] [(0, (.tmp 55))] [(0, (.int .u64 v5.2.1))] (.st [1, 1]) (c_api_Session z_api_Session) (c_api_Session ({ Id := v5.2.1, Number := 0 } : api_Session)) rfl bo41 ⟨⟨rfl, trivial⟩, trivial⟩ ⟨⟨Nat.le_of_ble_eq_true rfl, rfl, rfl⟩, trivial⟩ (by funext j; match j with | 0 => rfl | 1 => rfl | _ + 2 => rfl)), ⟨⟨rfl, trivial⟩, trivial, rfl⟩, rfl,
                  Step.plain rfl (does_buildSl 23 1 2 (e_api_Session z_api_Session) (fun j => (e_api_Session (([({ Id := v5.2.1, Number := 0 } : api_Session)] : _root_.List api_Session).getD j z_api_Session))) #[(0, (.tmp 56))] [(0, (.tmp 56))] [(0, (e_api_Session ({ Id := v5.2.1, Number := 0 } : api_Session)))] rfl so23 (by decide) ⟨⟨rfl, trivial⟩, trivial⟩ ⟨⟨Nat.le_of_ble_eq_true rfl, rfl, rfl⟩, trivial⟩ (fun j h => match j, h with | 0, _ => rfl | k + 1, h => absurd h (by omega))), ⟨⟨rfl, trivial⟩, trivial, rfl⟩, rfl,
                  Step.plain rfl (does_appendL e_api_Session z_api_Session x1.2.2.2 ([({ Id := v5.2.1, Number := 0 } : api_Session)] : _root_.List api_Session) 23 2 16 1 3 54 57 ap23 h7), ⟨⟨rfl, rfl, trivial⟩, ⟨rfl, trivial⟩, rfl⟩, rfl,
                  Step.plain rfl (does_assign (.tmp 58) (.own 3) trivial), ⟨⟨rfl, trivial⟩, trivial, rfl⟩, rfl, rfl⟩ ?_
                obtain ⟨v8, hv8, H⟩ := lt_of H
                refine aw_cov (cov_prune (s1 := ⟨[(0, (e_s_congresslaw17_Do p0)), (3, (.ptr 0 0 [])), (6, (.int .i64 x1.2.1)), (7, (.ptr 2 0 [])), (4, (.int .u64 (IntKind.u64.wrap (x1.1 + 1)))), (5, (.own 3))], [(0, some (.var (e_api_Roster x1.2.2.1))), (2, some (.var (e_api_Roster v5.1))), (3, some (.arr 2 v8.length fun j => (e_api_Session (v8.getD j z_api_Session))))], 4⟩) ⟨rfl, rfl, rfl, rfl, rfl, rfl, trivial⟩ ⟨rfl, rfl, (by subst hv8; rfl), trivial⟩ (Nat.le_refl _)) ?_
                refine aw_region1 (es := [_, _]) ⟨Step.plain rfl (does_load 25 7 2 0 [] (.var (e_api_Roster v5.1)) (e_api_Roster v5.1) trivial rfl rfl ty25), ⟨⟨rfl, trivial⟩, ⟨rfl, trivial⟩, rfl⟩, rfl,
                  Step.plain rfl (does_store 25 3 (.tmp 59) 0 0 [] (.var (e_api_Roster x1.2.2.1)) (.var (e_api_Roster v5.1)) (e_api_Roster v5.1) true trivial rfl trivial rfl rfl rfl ty25), ⟨⟨rfl, rfl, trivial⟩, ⟨rfl, trivial⟩, rfl⟩, rfl, rfl⟩ ?_
                refine nx_blk ?_
                exact nx_join ((IntKind.u64.wrap (x1.1 + 1)), v5.1, v8) H (cov_of (fun i => match i with | 0 => 0 | 1 => 3 | k => k) ⟨⟨_, rfl, ⟨rfl, (d_s_congresslaw17_Do _).plain⟩⟩, ⟨_, rfl, ⟨rfl, Nat.le_of_ble_eq_true rfl⟩⟩, ⟨_, rfl, ⟨rfl, trivial⟩⟩, ⟨_, rfl, ⟨rfl, Nat.le_of_ble_eq_true rfl⟩⟩, ⟨_, rfl, ⟨rfl, trivial⟩⟩, trivial⟩ ⟨⟨Nat.le_of_ble_eq_true rfl, _, _, rfl, rfl, .inl ⟨rfl, (d_api_Roster _).plain⟩⟩, ⟨Nat.le_of_ble_eq_true rfl, _, _, rfl, rfl, ⟨rfl, rfl, fun _ => .inl ⟨rfl, (d_api_Session _).plain⟩⟩⟩, trivial⟩ rfl)
            · replace H := ite_f hc H
              refine aw_skip ?_
              refine nx_blk ?_
              exact nx_join (x1.1, x1.2.2.1, x1.2.2.2) H (cov_of (fun i => match i with | 0 => 0 | 1 => 1 | k => k) ⟨⟨_, rfl, ⟨rfl, (d_s_congresslaw17_Do _).plain⟩⟩, ⟨_, rfl, ⟨rfl, Nat.le_of_ble_eq_true rfl⟩⟩, ⟨_, rfl, ⟨rfl, trivial⟩⟩, ⟨_, rfl, ⟨rfl, Nat.le_of_ble_eq_true rfl⟩⟩, ⟨_, rfl, ⟨rfl, trivial⟩⟩, trivial⟩ ⟨⟨Nat.le_of_ble_eq_true rfl, _, _, rfl, rfl, .inl ⟨rfl, (d_api_Roster _).plain⟩⟩, ⟨Nat.le_of_ble_eq_true rfl, _, _, rfl, rfl, ⟨rfl, rfl, fun _ => .inl ⟨rfl, (d_api_Session _).plain⟩⟩⟩, trivial⟩ rfl)
        · replace H := ite_f hc H
          refine aw_region (es := [_, _]) ⟨Step.plain rfl (does_bin .eql 3 3 (.tmp 31) (.const (.int .i64 1)) .i64 ((p0.getD x1.2.1.toNat z_congresslaw17_Do).Do) 1 (.bool (((p0.getD x1.2.1.toNat z_congresslaw17_Do).Do) == 1)) trivial (fun _ => rfl) (bin_eql _ _ _ _)), ⟨⟨rfl, trivial⟩, trivial, rfl⟩, rfl,
            Step.plain rfl (does_assign (.tmp 61) (.bool (((p0.getD x1.2.1.toNat z_congresslaw17_Do).Do) == 1)) trivial), ⟨⟨rfl, trivial⟩, trivial, rfl⟩, rfl, rfl⟩ ?_
          refine aw_cov (cov_prune (s1 := ⟨[(0, (e_s_congresslaw17_Do p0)), (3, (.ptr 0 0 [])), (4, (.int .u64 x1.1)), (5, (.own 1)), (6, (.int .i64 x1.2.1)), (31, (.int .i64 ((p0.getD x1.2.1.toNat z_congresslaw17_Do).Do))), (60, (.bool (((p0.getD x1.2.1.toNat z_congresslaw17_Do).Do) == 1)))], [(0, some (.var (e_api_Roster x1.2.2.1))), (1, some (.arr 2 x1.2.2.2.length fun j => (e_api_Session (x1.2.2.2.getD j z_api_Session))))], 2⟩) ⟨rfl, rfl, rfl, rfl, rfl, rfl, rfl, trivial⟩ ⟨rfl, rfl, trivial⟩ (Nat.le_refl _)) ?_
          refine aw_cond rfl (fun hc => ?_) (fun hc => ?_)
          · replace H := ite_t hc H
            obtain ⟨h9, H⟩ := ib_of H
            obtain ⟨v10, h11, H⟩ := bnd H
            refine aw_draw (es := [_, _, _, _, _, _, _, _, _, _, _, _, _]) (mixed) ⟨Step.plain rfl (does_load 25 3 0 0 [] (.var (e_api_Roster x1.2.2.1)) (e_api_Roster x1.2.2.1) trivial rfl rfl ty25), ⟨⟨rfl, trivial⟩, ⟨rfl, trivial⟩, rfl⟩, rfl,
              Step.plain rfl (does_move (.tmp 0) (e_s_congresslaw17_Do p0) trivial), ⟨⟨rfl, trivial⟩, trivial, rfl⟩, rfl,
              Step.plain rfl (does_move (.tmp 6) (.int .i64 x1.2.1) trivial), ⟨⟨rfl, trivial⟩, trivial, rfl⟩, rfl,
              Step.plain rfl (does_indexAddrs 37 2 p0.length 64 (fun j => (e_congresslaw17_Do (p0.getD j z_congresslaw17_Do))) (.tmp 65) .i64 x1.2.1 el37 trivial h9.1 h9.2), ⟨⟨rfl, rfl, trivial⟩, trivial, rfl⟩, rfl,
              Step.plain rfl (does_fieldAddrc 39 1 1 66 (e_congresslaw17_Do (p0.getD x1.2.1.toNat z_congresslaw17_Do)) fl39_1 rfl (Nat.le_of_ble_eq_true rfl) rfl), ⟨⟨rfl, trivial⟩, trivial, rfl⟩, rfl,
              Step.plain rfl (does_loadc 22 67 (.int .u64 ((p0.getD x1.2.1.toNat z_congresslaw17_Do).Id)) ty22), ⟨⟨rfl, trivial⟩, trivial, rfl⟩, rfl,
              Step.plain rfl (does_call 9 0 (fun _ => .any) (.func 9) [(.tmp 63), (.tmp 68)] [(e_api_Roster x1.2.2.1), (.int .u64 ((p0.getD x1.2.1.toNat z_congresslaw17_Do).Id))] [] false [(e_api_Roster x1.2.2.1), (.int .u64 ((p0.getD x1.2.1.toNat z_congresslaw17_Do).Id))] (resV [(e_api_Roster v10.1), (.int .i64 v10.2)]) _ _ rfl fo9 rfl ⟨trivial, trivial, trivial⟩ ⟨.data _ (d_api_Roster x1.2.2.1), .data _ trivial, trivial⟩ (roster_Close_spec x1.2.2.1 ((p0.getD x1.2.1.toNat z_congresslaw17_Do).Id) _ h11) (res_data2 (d_api_Roster v10.1) trivial)), ⟨⟨rfl, rfl, trivial⟩, trivial, rfl⟩, rfl,
              Step.plain rfl (does_move (.tmp 69) (resV [(e_api_Roster v10.1), (.int .i64 v10.2)]) trivial), ⟨⟨rfl, trivial⟩, trivial, rfl⟩, rfl,
              Step.plain rfl (does_extract 62 0 2 (fun j => [(e_api_Roster v10.1), (.int .i64 v10.2)].getD j (.bool false)) (Nat.le_of_ble_eq_true rfl)), ⟨⟨rfl, trivial⟩, trivial, rfl⟩, rfl,
              Step.plain rfl (does_extract 62 1 2 (fun j => [(e_api_Roster v10.1), (.int .i64 v10.2)].getD j (.bool false)) (Nat.le_of_ble_eq_true rfl)), ⟨⟨rfl, trivial⟩, trivial, rfl⟩, rfl,
              Step.plain rfl (does_alloc 25 2 (e_api_Roster z_api_Roster) zr25), ⟨trivial, trivial, rfl⟩, rfl,
              Step.plain rfl (does_store 25 10 (.tmp 70) 2 0 [] (.var (e_api_Roster z_api_Roster)) (.var (e_api_Roster v10.1)) (e_api_Roster v10.1) true trivial rfl trivial rfl rfl rfl ty25), ⟨⟨rfl, rfl, trivial⟩, ⟨rfl, trivial⟩, rfl⟩, rfl,
              Step.plain rfl (does_assign (.tmp 71) (.int .i64 v10.2) trivial), ⟨⟨rfl, trivial⟩, trivial, rfl⟩, rfl, rfl⟩ rfl ?_
            refine aw_cov (cov_prune (s1 := ⟨[(0, (e_s_congresslaw17_Do p0)), (3, (.ptr 0 0 [])), (4, (.int .u64 x1.1)), (5, (.own 1)), (6, (.int .i64 x1.2.1)), (10, (.ptr 2 0 [])), (11, (.int .i64 v10.2))], [(0, some (.var (e_api_Roster x1.2.2.1))), (1, some (.arr 2 x1.2.2.2.length fun j => (e_api_Session (x1.2.2.2.getD j z_api_Session)))), (2, some (.var (e_api_Roster v10.1)))], 3⟩) ⟨rfl, rfl, rfl, rfl, rfl, rfl, rfl, trivial⟩ ⟨rfl, rfl, rfl, trivial⟩ (Nat.le_refl _)) ?_
            refine aw_seq ?_
            obtain ⟨h12, H⟩ := ib_of H
            obtain ⟨v13, h14, H⟩ := bnd H
            refine aw_draw (es := [_, _, _, _, _, _, _, _, _, _]) (mixed) ⟨Step.plain rfl (does_move (.tmp 11) (.int .i64 v10.2) trivial), ⟨⟨rfl, trivial⟩, trivial, rfl⟩, rfl,
              Step.plain rfl (does_bin .eql 26 26 (.tmp 72) (.const (.int .i64 0)) .i64 v10.2 0 (.bool (v10.2 == 0)) trivial (fun _ => rfl) (bin_eql _ _ _ _)), ⟨⟨rfl, trivial⟩, trivial, rfl⟩, rfl,
              Step.plain rfl (does_load 25 3 0 0 [] (.var (e_api_Roster x1.2.2.1)) (e_api_Roster x1.2.2.1) trivial rfl rfl ty25), ⟨⟨rfl, trivial⟩, ⟨rfl, trivial⟩, rfl⟩, rfl,
              Step.plain rfl (does_move (.tmp 0) (e_s_congresslaw17_Do p0) trivial), ⟨⟨rfl, trivial⟩, trivial, rfl⟩, rfl,
              Step.plain rfl (does_move (.tmp 6) (.int .i64 x1.2.1) trivial), ⟨⟨rfl, trivial⟩, trivial, rfl⟩, rfl,
              Step.plain rfl (does_indexAddrs 37 2 p0.length 75 (fun j => (e_congresslaw17_Do (p0.getD j z_congresslaw17_Do))) (.tmp 76) .i64 x1.2.1 el37 trivial h12.1 h12.2), ⟨⟨rfl, rfl, trivial⟩, trivial, rfl⟩, rfl,
              Step.plain rfl (does_fieldAddrc 39 1 1 77 (e_congresslaw17_Do (p0.getD x1.2.1.toNat z_congresslaw17_Do)) fl39_1 rfl (Nat.le_of_ble_eq_true rfl) rfl), ⟨⟨rfl, trivial⟩, trivial, rfl⟩, rfl,
              Step.plain rfl (does_loadc 22 78 (.int .u64 ((p0.getD x1.2.1.toNat z_congresslaw17_Do).Id)) ty22), ⟨⟨rfl, trivial⟩, trivial, rfl⟩, rfl,
              Step.plain rfl (does_call 15 0 (fun _ => .any) (.func 15) [(.tmp 74), (.tmp 79)] [(e_api_Roster x1.2.2.1), (.int .u64 ((p0.getD x1.2.1.toNat z_congresslaw17_Do).Id))] [] true [(e_api_Roster x1.2.2.1), (.int .u64 ((p0.getD x1.2.1.toNat z_congresslaw17_Do).Id))] (.bool v13) _ _ rfl fo15 rfl ⟨trivial, trivial, trivial⟩ ⟨.data _ (d_api_Roster x1.2.2.1), .data _ trivial, trivial⟩ (roster_Has_spec x1.2.2.1 ((p0.getD x1.2.1.toNat z_congresslaw17_Do).Id) _ h14) trivial), ⟨⟨rfl, rfl, trivial⟩, trivial, rfl⟩, rfl,
              Step.plain rfl (does_eqBool true 4 4 (.tmp 73) (.tmp 80) (v10.2 == 0) v13 trivial trivial rfl), ⟨⟨rfl, rfl, trivial⟩, trivial, rfl⟩, rfl, rfl⟩ rfl ?_
            refine aw_cov (cov_prune (s1 := ⟨[(0, (e_s_congresslaw17_Do p0)), (3, (.ptr 0 0 [])), (4, (.int .u64 x1.1)), (5, (.own 1)), (6, (.int .i64 x1.2.1)), (10, (.ptr 2 0 [])), (11, (.int .i64 v10.2)), (81, (.bool ((v10.2 == 0) != v13)))], [(0, some (.var (e_api_Roster x1.2.2.1))), (1, some (.arr 2 x1.2.2.2.length fun j => (e_api_Session (x1.2.2.2.getD j z_api_Session)))), (2, some (.var (e_api_Roster v10.1)))], 3⟩) ⟨rfl, rfl, rfl, rfl, rfl, rfl, rfl, rfl, trivial⟩ ⟨rfl, rfl, rfl, trivial⟩ (Nat.le_refl _)) ?_
            refine aw_cond rfl (fun hc => ?_) (fun hc => ?_)
            · replace H := ite_t hc H
              refine aw_region (es := [_]) ⟨Step.plain rfl (does_assign (.const (.bool false)) (.bool false) (fun _ => rfl)), ⟨trivial, trivial, rfl⟩, rfl, rfl⟩ ?_
              refine aw_cov (cov_prune (s1 := ⟨[(2, (.bool false))], [], 3⟩) ⟨rfl, trivial⟩ trivial (Nat.le_refl _)) ?_
              refine aw_ret ?_
              replace H := rt_of H hsn2 Hrn2
              refine rt_then ?_
              refine rt_blk ?_
              refine rt_then ?_
              refine rt_then ?_
              refine rt_blk ?_
              refine rt_then ?_
              refine rt_then ?_
              refine rt_blk ?_
              refine rt_then ?_
              refine rt_then ?_
              exact fun a w hr => ⟨_, [(.bool false)], hr, ⟨⟨_, rfl, .data (.bool false) trivial⟩, trivial⟩, by decide, by cases H; rfl⟩
            · replace H := ite_f hc H
              refine aw_skip ?_
              refine nx_seq ?_
              refine aw_region (es := [_, _]) ⟨Step.plain rfl (does_move (.tmp 11) (.int .i64 v10.2) trivial), ⟨⟨rfl, trivial⟩, trivial, rfl⟩, rfl,
                Step.plain rfl (does_bin .eql 26 26 (.tmp 82) (.const (.int .i64 0)) .i64 v10.2 0 (.bool (v10.2 == 0)) trivial (fun _ => rfl) (bin_eql _ _ _ _)), ⟨⟨rfl, trivial⟩, trivial, rfl⟩, rfl, rfl⟩ ?_
              refine aw_cov (cov_prune (s1 := ⟨[(0, (e_s_congresslaw17_Do p0)), (3, (.ptr 0 0 [])), (4, (.int .u64 x1.1)), (5, (.own 1)), (6, (.int .i64 x1.2.1)), (10, (.ptr 2 0 [])), (83, (.bool (v10.2 == 0)))], [(0, some (.var (e_api_Roster x1.2.2.1))), (1, some (.arr 2 x1.2.2.2.length fun j => (e_api_Session (x1.2.2.2.getD j z_api_Session)))), (2, some (.var (e_api_Roster v10.1)))], 3⟩) ⟨rfl, rfl, rfl, rfl, rfl, rfl, rfl, trivial⟩ ⟨rfl, rfl, rfl, trivial⟩ (Nat.le_refl _)) ?_
              refine aw_cond rfl (fun hc => ?_) (fun hc => ?_)
              · replace H := ite_t hc H
                refine aw_region1 (es := [_, _]) ⟨Step.plain rfl (does_load 25 10 2 0 [] (.var (e_api_Roster v10.1)) (e_api_Roster v10.1) trivial rfl rfl ty25), ⟨⟨rfl, trivial⟩, ⟨rfl, trivial⟩, rfl⟩, rfl,
                  Step.plain rfl (does_store 25 3 (.tmp 84) 0 0 [] (.var (e_api_Roster x1.2.2.1)) (.var (e_api_Roster v10.1)) (e_api_Roster v10.1) true trivial rfl trivial rfl rfl rfl ty25), ⟨⟨rfl, rfl, trivial⟩, ⟨rfl, trivial⟩, rfl⟩, rfl, rfl⟩ ?_
                refine nx_blk ?_
                exact nx_join (x1.1, v10.1, x1.2.2.2) H (cov_of (fun i => match i with | 0 => 0 | 1 => 1 | k => k) ⟨⟨_, rfl, ⟨rfl, (d_s_congresslaw17_Do _).plain⟩⟩, ⟨_, rfl, ⟨rfl, Nat.le_of_ble_eq_true rfl⟩⟩, ⟨_, rfl, ⟨rfl, trivial⟩⟩, ⟨_, rfl, ⟨rfl, Nat.le_of_ble_eq_true rfl⟩⟩, ⟨_, rfl, ⟨rfl, trivial⟩⟩, trivial⟩ ⟨⟨Nat.le_of_ble_eq_true rfl, _, _, rfl, rfl, .inl ⟨rfl, (d_api_Roster _).plain⟩⟩, ⟨Nat.le_of_ble_eq_true rfl, _, _, rfl, rfl, ⟨rfl, rfl, fun _ => .inl ⟨rfl, (d_api_Session _).plain⟩⟩⟩, trivial⟩ rfl)
              · replace H := ite_f hc H
                refine aw_skip ?_
                refine nx_blk ?_
                exact nx_join (x1.1, x1.2.2.1, x1.2.2.2) H (cov_of (fun i => match i with | 0 => 0 | 1 => 1 | k => k) ⟨⟨_, rfl, ⟨rfl, (d_s_congresslaw17_Do _).plain⟩⟩, ⟨_, rfl, ⟨rfl, Nat.le_of_ble_eq_true rfl⟩⟩, ⟨_, rfl, ⟨rfl, trivial⟩⟩, ⟨_, rfl, ⟨rfl, Nat.le_of_ble_eq_true rfl⟩⟩, ⟨_, rfl, ⟨rfl, trivial⟩⟩, trivial⟩ ⟨⟨Nat.le_of_ble_eq_true rfl, _, _, rfl, rfl, .inl ⟨rfl, (d_api_Roster _).plain⟩⟩, ⟨Nat.le_of_ble_eq_true rfl, _, _, rfl, rfl, ⟨rfl, rfl, fun _ => .inl ⟨rfl, (d_api_Session _).plain⟩⟩⟩, trivial⟩ rfl)
          · replace H := ite_f hc H
            refine aw_region (es := [_, _]) ⟨Step.plain rfl (does_bin .eql 3 3 (.tmp 31) (.const (.int .i64 2)) .i64 ((p0.getD x1.2.1.toNat z_congresslaw17_Do).Do) 2 (.bool (((p0.getD x1.2.1.toNat z_congresslaw17_Do).Do) == 2)) trivial (fun _ => rfl) (bin_eql _ _ _ _)), ⟨⟨rfl, trivial⟩, trivial, rfl⟩, rfl,
              Step.plain rfl (does_assign (.tmp 86) (.bool (((p0.getD x1.2.1.toNat z_congresslaw17_Do).Do) == 2)) trivial), ⟨⟨rfl, trivial⟩, trivial, rfl⟩, rfl, rfl⟩ ?_
            refine aw_cov (cov_prune (s1 := ⟨[(0, (e_s_congresslaw17_Do p0)), (3, (.ptr 0 0 [])), (4, (.int .u64 x1.1)), (5, (.own 1)), (6, (.int .i64 x1.2.1)), (85, (.bool (((p0.getD x1.2.1.toNat z_congresslaw17_Do).Do) == 2)))], [(0, some (.var (e_api_Roster x1.2.2.1))), (1, some (.arr 2 x1.2.2.2.length fun j => (e_api_Session (x1.2.2.2.getD j z_api_Session))))], 2⟩) ⟨rfl, rfl, rfl, rfl, rfl, rfl, trivial⟩ ⟨rfl, rfl, trivial⟩ (Nat.le_refl _)) ?_
            refine aw_cond rfl (fun hc => ?_) (fun hc => ?_)
            · replace H := ite_t hc H
              obtain ⟨h15, H⟩ := ib_of H
              obtain ⟨v16, h17, H⟩ := bnd H
              refine aw_draw (es := [_, _, _, _, _, _, _, _, _, _, _, _, _, _, _]) (mixed) ⟨Step.plain rfl (does_load 25 3 0 0 [] (.var (e_api_Roster x1.2.2.1)) (e_api_Roster x1.2.2.1) trivial rfl rfl ty25), ⟨⟨rfl, trivial⟩, ⟨rfl, trivial⟩, rfl⟩, rfl,
                Step.plain rfl (does_move (.tmp 0) (e_s_congresslaw17_Do p0) trivial), ⟨⟨rfl, trivial⟩, trivial, rfl⟩, rfl,
                Step.plain rfl (does_move (.tmp 6) (.int .i64 x1.2.1) trivial), ⟨⟨rfl, trivial⟩, trivial, rfl⟩, rfl,
                Step.plain rfl (does_indexAddrs 37 2 p0.length 89 (fun j => (e_congresslaw17_Do (p0.getD j z_congresslaw17_Do))) (.tmp 90) .i64 x1.2.1 el37 trivial h15.1 h15.2), ⟨⟨rfl, rfl, trivial⟩, trivial, rfl⟩, rfl,
                Step.plain rfl (does_fieldAddrc 39 1 1 91 (e_congresslaw17_Do (p0.getD x1.2.1.toNat z_congresslaw17_Do)) fl39_1 rfl (Nat.le_of_ble_eq_true rfl) rfl), ⟨⟨rfl, trivial⟩, trivial, rfl⟩, rfl,
                Step.plain rfl (does_loadc 22 92 (.int .u64 ((p0.getD x1.2.1.toNat z_congresslaw17_Do).Id)) ty22), ⟨⟨rfl, trivial⟩, trivial, rfl⟩, rfl,
                Step.plain rfl (does_call 11 0 (fun _ => .any) (.func 11) [(.tmp 88), (.tmp 93)] [(e_api_Roster x1.2.2.1), (.int .u64 ((p0.getD x1.2.1.toNat z_congresslaw17_Do).Id))] [] false [(e_api_Roster x1.2.2.1), (.int .u64 ((p0.getD x1.2.1.toNat z_congresslaw17_Do).Id))] (resV [(e_api_Roster v16.1), (.int .u64 v16.2.1), (.int .i64 v16.2.2)]) _ _ rfl fo11 rfl ⟨trivial, trivial, trivial⟩ ⟨.data _ (d_api_Roster x1.2.2.1), .data _ trivial, trivial⟩ (roster_Next_spec x1.2.2.1 ((p0.getD x1.2.1.toNat z_congresslaw17_Do).Id) _ h17) (res_data3 (d_api_Roster v16.1) trivial trivial)), ⟨⟨rfl, rfl, trivial⟩, trivial, rfl⟩, rfl,
                Step.plain rfl (does_move (.tmp 94) (resV [(e_api_Roster v16.1), (.int .u64 v16.2.1), (.int .i64 v16.2.2)]) trivial), ⟨⟨rfl, trivial⟩, trivial, rfl⟩, rfl,
                Step.plain rfl (does_extract 87 0 3 (fun j => [(e_api_Roster v16.1), (.int .u64 v16.2.1), (.int .i64 v16.2.2)].getD j (.bool false)) (Nat.le_of_ble_eq_true rfl)), ⟨⟨rfl, trivial⟩, trivial, rfl⟩, rfl,
                Step.plain rfl (does_extract 87 1 3 (fun j => [(e_api_Roster v16.1), (.int .u64 v16.2.1), (.int .i64 v16.2.2)].getD j (.bool false)) (Nat.le_of_ble_eq_true rfl)), ⟨⟨rfl, trivial⟩, trivial, rfl⟩, rfl,
                Step.plain rfl (does_extract 87 2 3 (fun j => [(e_api_Roster v16.1), (.int .u64 v16.2.1), (.int .i64 v16.2.2)].getD j (.bool false)) (Nat.le_of_ble_eq_true rfl)), ⟨⟨rfl, trivial⟩, trivial, rfl⟩, rfl,
                Step.plain rfl (does_alloc 25 2 (e_api_Roster z_api_Roster) zr25), ⟨trivial, trivial, rfl⟩, rfl,
                Step.plain rfl (does_store 25 12 (.tmp 95) 2 0 [] (.var (e_api_Roster z_api_Roster)) (.var (e_api_Roster v16.1)) (e_api_Roster v16.1) true trivial rfl trivial rfl rfl rfl ty25), ⟨⟨rfl, rfl, trivial⟩, ⟨rfl, trivial⟩, rfl⟩, rfl,
                Step.plain rfl (does_assign (.tmp 96) (.int .u64 v16.2.1) trivial), ⟨⟨rfl, trivial⟩, trivial, rfl⟩, rfl,
                Step.plain rfl (does_assign (.tmp 97) (.int .i64 v16.2.2) trivial), ⟨⟨rfl, trivial⟩, trivial, rfl⟩, rfl, rfl⟩ rfl ?_
              refine aw_cov (cov_prune (s1 := ⟨[(0, (e_s_congresslaw17_Do p0)), (3, (.ptr 0 0 [])), (4, (.int .u64 x1.1)), (5, (.own 1)), (6, (.int .i64 x1.2.1)), (12, (.ptr 2 0 [])), (13, (.int .u64 v16.2.1)), (14, (.int .i64 v16.2.2))], [(0, some (.var (e_api_Roster x1.2.2.1))), (1, some (.arr 2 x1.2.2.2.length fun j => (e_api_Session (x1.2.2.2.getD j z_api_Session)))), (2, some (.var (e_api_Roster v16.1)))], 3⟩) ⟨rfl, rfl, rfl, rfl, rfl, rfl, rfl, rfl, trivial⟩ ⟨rfl, rfl, rfl, trivial⟩ (Nat.le_refl _)) ?_
              refine aw_seq ?_
              obtain ⟨h18, H⟩ := ib_of H
              obtain ⟨v19, h20, H⟩ := bnd H
              refine aw_draw (es := [_, _, _, _, _, _, _, _, _, _]) (mixed) ⟨Step.plain rfl (does_move (.tmp 14) (.int .i64 v16.2.2) trivial), ⟨⟨rfl, trivial⟩, trivial, rfl⟩, rfl,
                Step.plain rfl (does_bin .eql 26 26 (.tmp 98) (.const (.int .i64 0)) .i64 v16.2.2 0 (.bool (v16.2.2 == 0)) trivial (fun _ => rfl) (bin_eql _ _ _ _)), ⟨⟨rfl, trivial⟩, trivial, rfl⟩, rfl,
                Step.plain rfl (does_load 25 3 0 0 [] (.var (e_api_Roster x1.2.2.1)) (e_api_Roster x1.2.2.1) trivial rfl rfl ty25), ⟨⟨rfl, trivial⟩, ⟨rfl, trivial⟩, rfl⟩, rfl,
                Step.plain rfl (does_move (.tmp 0) (e_s_congresslaw17_Do p0) trivial), ⟨⟨rfl, trivial⟩, trivial, rfl⟩, rfl,
                Step.plain rfl (does_move (.tmp 6) (.int .i64 x1.2.1) trivial), ⟨⟨rfl, trivial⟩, trivial, rfl⟩, rfl,
                Step.plain rfl (does_indexAddrs 37 2 p0.length 101 (fun j => (e_congresslaw17_Do (p0.getD j z_congresslaw17_Do))) (.tmp 102) .i64 x1.2.1 el37 trivial h18.1 h18.2), ⟨⟨rfl, rfl, trivial⟩, trivial, rfl⟩, rfl,
                Step.plain rfl (does_fieldAddrc 39 1 1 103 (e_congresslaw17_Do (p0.getD x1.2.1.toNat z_congresslaw17_Do)) fl39_1 rfl (Nat.le_of_ble_eq_true rfl) rfl), ⟨⟨rfl, trivial⟩, trivial, rfl⟩, rfl,
                Step.plain rfl (does_loadc 22 104 (.int .u64 ((p0.getD x1.2.1.toNat z_congresslaw17_Do).Id)) ty22), ⟨⟨rfl, trivial⟩, trivial, rfl⟩, rfl,
                Step.plain rfl (does_call 15 0 (fun _ => .any) (.func 15) [(.tmp 100), (.tmp 105)] [(e_api_Roster x1.2.2.1), (.int .u64 ((p0.getD x1.2.1.toNat z_congresslaw17_Do).Id))] [] true [(e_api_Roster x1.2.2.1), (.int .u64 ((p0.getD x1.2.1.toNat z_congresslaw17_Do).Id))] (.bool v19) _ _ rfl fo15 rfl ⟨trivial, trivial, trivial⟩ ⟨.data _ (d_api_Roster x1.2.2.1), .data _ trivial, trivial⟩ (roster_Has_spec x1.2.2.1 ((p0.getD x1.2.1.toNat z_congresslaw17_Do).Id) _ h20) trivial), ⟨⟨rfl, rfl, trivial⟩, trivial, rfl⟩, rfl,
                Step.plain rfl (does_eqBool true 4 4 (.tmp 99) (.tmp 106) (v16.2.2 == 0) v19 trivial trivial rfl), ⟨⟨rfl, rfl, trivial⟩, trivial, rfl⟩, rfl, rfl⟩ rfl ?_
              refine aw_cov (cov_prune (s1 := ⟨[(0, (e_s_congresslaw17_Do p0)), (3, (.ptr 0 0 [])), (4, (.int .u64 x1.1)), (5, (.own 1)), (6, (.int .i64 x1.2.1)), (12, (.ptr 2 0 [])), (13, (.int .u64 v16.2.1)), (14, (.int .i64 v16.2.2)), (107, (.bool ((v16.2.2 == 0) != v19)))], [(0, some (.var (e_api_Roster x1.2.2.1))), (1, some (.arr 2 x1.2.2.2.length fun j => (e_api_Session (x1.2.2.2.getD j z_api_Session)))), (2, some (.var (e_api_Roster v16.1)))], 3⟩) ⟨rfl, rfl, rfl, rfl, rfl, rfl, rfl, rfl, rfl, trivial⟩ ⟨rfl, rfl, rfl, trivial⟩ (Nat.le_refl _)) ?_
              refine aw_cond rfl (fun hc => ?_) (fun hc => ?_)
              · replace H := ite_t hc H
                refine aw_region (es := [_]) ⟨Step.plain rfl (does_assign (.const (.bool false)) (.bool false) (fun _ => rfl)), ⟨trivial, trivial, rfl⟩, rfl, rfl⟩ ?_
                refine aw_cov (cov_prune (s1 := ⟨[(2, (.bool false))], [], 3⟩) ⟨rfl, trivial⟩ trivial (Nat.le_refl _)) ?_
                refine aw_ret ?_
                replace H := rt_of H hsn2 Hrn2
                refine rt_then ?_
                refine rt_blk ?_
                refine rt_then ?_
                refine rt_then ?_
                refine rt_blk ?_
                refine rt_then ?_
                refine rt_then ?_
                refine rt_blk ?_
                refine rt_then ?_
                refine rt_then ?_
                exact fun a w hr => ⟨_, [(.bool false)], hr, ⟨⟨_, rfl, .data (.bool false) trivial⟩, trivial⟩, by decide, by cases H; rfl⟩
              · replace H := ite_f hc H
                refine aw_skip ?_
                refine nx_seq ?_
                refine aw_region (es := [_, _]) ⟨Step.plain rfl (does_move (.tmp 14) (.int .i64 v16.2.2) trivial), ⟨⟨rfl, trivial⟩, trivial, rfl⟩, rfl,
                  Step.plain rfl (does_bin .eql 26 26 (.tmp 108) (.const (.int .i64 0)) .i64 v16.2.2 0 (.bool (v16.2.2 == 0)) trivial (fun _ => rfl) (bin_eql _ _ _ _)), ⟨⟨rfl, trivial⟩, trivial, rfl⟩, rfl, rfl⟩ ?_
                refine aw_cov (cov_prune (s1 := ⟨[(0, (e_s_congresslaw17_Do p0)), (3, (.ptr 0 0 [])), (4, (.int .u64 x1.1)), (5, (.own 1)), (6, (.int .i64 x1.2.1)), (12, (.ptr 2 0 [])), (13, (.int .u64 v16.2.1)), (109, (.bool (v16.2.2 == 0)))], [(0, some (.var (e_api_Roster x1.2.2.1))), (1, some (.arr 2 x1.2.2.2.length fun j => (e_api_Session (x1.2.2.2.getD j z_api_Session)))), (2, some (.var (e_api_Roster v16.1)))], 3⟩) ⟨rfl, rfl, rfl, rfl, rfl, rfl, rfl, rfl, trivial⟩ ⟨rfl, rfl, rfl, trivial⟩ (Nat.le_refl _)) ?_
                refine aw_cond rfl (fun hc => ?_) (fun hc => ?_)
                · replace H := ite_t hc H
                  refine aw_seq ?_
                  obtain ⟨h21, H⟩ := ib_of H
                  obtain ⟨h22, H⟩ := ibg_of H
                  refine aw_region (es := [_, _, _, _, _, _, _, _, _, _, _, _, _, _, _, _, _]) ⟨Step.plain rfl (does_move (.tmp 0) (e_s_congresslaw17_Do p0) trivial), ⟨⟨rfl, trivial⟩, trivial, rfl⟩, rfl,
                    Step.plain rfl (does_move (.tmp 6) (.int .i64 x1.2.1) trivial), ⟨⟨rfl, trivial⟩, trivial, rfl⟩, rfl,
                    Step.plain rfl (does_indexAddrs 37 2 p0.length 110 (fun j => (e_congresslaw17_Do (p0.getD j z_congresslaw17_Do))) (.tmp 111) .i64 x1.2.1 el37 trivial h21.1 h21.2), ⟨⟨rfl, rfl, trivial⟩, trivial, rfl⟩, rfl,
                    Step.plain rfl (does_fieldAddrc 39 1 1 112 (e_congresslaw17_Do (p0.getD x1.2.1.toNat z_congresslaw17_Do)) fl39_1 rfl (Nat.le_of_ble_eq_true rfl) rfl), ⟨⟨rfl, trivial⟩, trivial, rfl⟩, rfl,
                    Step.plain rfl (does_loadc 22 113 (.int .u64 ((p0.getD x1.2.1.toNat z_congresslaw17_Do).Id)) ty22), ⟨⟨rfl, trivial⟩, trivial, rfl⟩, rfl,
                    Step.plain rfl (does_bin .lss 22 22 (.tmp 114) (.const (.int .u64 1)) .u64 ((p0.getD x1.2.1.toNat z_congresslaw17_Do).Id) 1 (.bool (decide (((p0.getD x1.2.1.toNat z_congresslaw17_Do).Id) < 1))) trivial (fun _ => rfl) (bin_lss _ _ _ _)), ⟨⟨rfl, trivial⟩, trivial, rfl⟩, rfl,
                    Step.plain rfl (does_move (.tmp 115) (.bool (decide (((p0.getD x1.2.1.toNat z_congresslaw17_Do).Id) < 1))) trivial), ⟨⟨rfl, trivial⟩, trivial, rfl⟩, rfl,
                    Step.guarded rfl rfl rfl rfl (fun hc => does_move (.tmp 0) (e_s_congresslaw17_Do p0) trivial), ⟨⟨rfl, rfl, trivial⟩, trivial, rfl⟩, rfl,
                    Step.guarded rfl rfl rfl rfl (fun hc => does_move (.tmp 6) (.int .i64 x1.2.1) trivial), ⟨⟨rfl, rfl, trivial⟩, trivial, rfl⟩, rfl,
                    Step.guarded rfl rfl rfl rfl (fun hc => Does.strip (n' := [(117, (.opt (!(decide (((p0.getD x1.2.1.toNat z_congresslaw17_Do).Id) < 1))) (e_s_congresslaw17_Do p0))), (118, (.opt (!(decide (((p0.getD x1.2.1.toNat z_congresslaw17_Do).Id) < 1))) (.int .i64 x1.2.1)))]) (n := [(117, (e_s_congresslaw17_Do p0)), (118, (.int .i64 x1.2.1))]) ⟨(.opt _ _ hc), (.opt _ _ hc), trivial⟩ (does_indexAddrs 37 2 p0.length 117 (fun j => (e_congresslaw17_Do (p0.getD j z_congresslaw17_Do))) (.tmp 118) .i64 x1.2.1 el37 trivial (h22 hc).1 (h22 hc).2)), ⟨⟨rfl, rfl, rfl, trivial⟩, trivial, rfl⟩, rfl,
                    Step.guarded rfl rfl rfl rfl (fun hc => Does.strip (n' := [(119, (.opt (!(decide (((p0.getD x1.2.1.toNat z_congresslaw17_Do).Id) < 1))) (.cptr (e_congresslaw17_Do (p0.getD x1.2.1.toNat z_congresslaw17_Do)))))]) (n := [(119, (.cptr (e_congresslaw17_Do (p0.getD x1.2.1.toNat z_congresslaw17_Do))))]) ⟨(.opt _ _ hc), trivial⟩ (does_fieldAddrc 39 1 1 119 (e_congresslaw17_Do (p0.getD x1.2.1.toNat z_congresslaw17_Do)) fl39_1 rfl (Nat.le_of_ble_eq_true rfl) rfl)), ⟨⟨rfl, rfl, trivial⟩, trivial, rfl⟩, rfl,
                    Step.guarded rfl rfl rfl rfl (fun hc => Does.strip (n' := [(120, (.opt (!(decide (((p0.getD x1.2.1.toNat z_congresslaw17_Do).Id) < 1))) (.cptr (.int .u64 ((p0.getD x1.2.1.toNat z_congresslaw17_Do).Id)))))]) (n := [(120, (.cptr (.int .u64 ((p0.getD x1.2.1.toNat z_congresslaw17_Do).Id))))]) ⟨(.opt _ _ hc), trivial⟩ (does_loadc 22 120 (.int .u64 ((p0.getD x1.2.1.toNat z_congresslaw17_Do).Id)) ty22)), ⟨⟨rfl, rfl, trivial⟩, trivial, rfl⟩, rfl,
                    Step.guarded rfl rfl rfl rfl (fun hc => does_move (.tmp 5) (.own 1) trivial), ⟨⟨rfl, rfl, trivial⟩, trivial, rfl⟩, rfl,
                    Step.guarded rfl rfl rfl rfl (fun hc => Does.strip (n' := [(122, (.opt (!(decide (((p0.getD x1.2.1.toNat z_congresslaw17_Do).Id) < 1))) (.own 1)))]) (n := [(122, (.own 1))]) ⟨(.opt _ _ hc), trivial⟩ (does_leno 23 2 x1.2.2.2.length 122 1 (fun j => (e_api_Session (x1.2.2.2.getD j z_api_Session))) el23)), ⟨⟨rfl, rfl, trivial⟩, ⟨rfl, trivial⟩, rfl⟩, rfl,
                    Step.guarded rfl rfl rfl rfl (fun hc => Does.strip (n' := [(123, (.opt (!(decide (((p0.getD x1.2.1.toNat z_congresslaw17_Do).Id) < 1))) (.int .i64 (x1.2.2.2.length : Int))))]) (n := [(123, (.int .i64 (x1.2.2.2.length : Int)))]) ⟨(.opt _ _ hc), trivial⟩ (does_convInt 3 22 (.tmp 123) .i64 .u64 (x1.2.2.2.length : Int) trivial rfl rfl)), ⟨⟨rfl, rfl, trivial⟩, trivial, rfl⟩, rfl,
                    Step.guarded rfl rfl rfl rfl (fun hc => Does.strip (n' := [(121, (.opt (!(decide (((p0.getD x1.2.1.toNat z_congresslaw17_Do).Id) < 1))) (.int .u64 ((p0.getD x1.2.1.toNat z_congresslaw17_Do).Id)))), (124, (.opt (!(decide (((p0.getD x1.2.1.toNat z_congresslaw17_Do).Id) < 1))) (.int .u64 (IntKind.u64.wrap ((x1.2.2.2.length : Int))))))]) (n := [(121, (.int .u64 ((p0.getD x1.2.1.toNat z_congresslaw17_Do).Id))), (124, (.int .u64 (IntKind.u64.wrap ((x1.2.2.2.length : Int)))))]) ⟨(.opt _ _ hc), (.opt _ _ hc), trivial⟩ (does_bin .gtr 22 22 (.tmp 121) (.tmp 124) .u64 ((p0.getD x1.2.1.toNat z_congresslaw17_Do).Id) (IntKind.u64.wrap ((x1.2.2.2.length : Int))) (.bool (decide (((p0.getD x1.2.1.toNat z_congresslaw17_Do).Id) > (IntKind.u64.wrap ((x1.2.2.2.length : Int)))))) trivial trivial (bin_gtr _ _ _ _))), ⟨⟨rfl, rfl, rfl, trivial⟩, trivial, rfl⟩, rfl,
                    Step.plain rfl (does_or 116 125 (decide (((p0.getD x1.2.1.toNat z_congresslaw17_Do).Id) < 1)) (decide (((p0.getD x1.2.1.toNat z_congresslaw17_Do).Id) > (IntKind.u64.wrap ((x1.2.2.2.length : Int)))))), ⟨⟨rfl, rfl, trivial⟩, trivial, rfl⟩, rfl, rfl⟩ ?_
                  obtain ⟨v23, hv23, H⟩ := lt_of H
                  refine aw_cov (cov_prune (s1 := ⟨[(0, (e_s_congresslaw17_Do p0)), (3, (.ptr 0 0 [])), (4, (.int .u64 x1.1)), (5, (.own 1)), (6, (.int .i64 x1.2.1)), (12, (.ptr 2 0 [])), (13, (.int .u64 v16.2.1)), (126, (.bool v23))], [(0, some (.var (e_api_Roster x1.2.2.1))), (1, some (.arr 2 x1.2.2.2.length fun j => (e_api_Session (x1.2.2.2.getD j z_api_Session)))), (2, some (.var (e_api_Roster v16.1)))], 3⟩) ⟨rfl, rfl, rfl, rfl, rfl, rfl, rfl, (by subst hv23; rfl), trivial⟩ ⟨rfl, rfl, rfl, trivial⟩ (Nat.le_refl _)) ?_
                  refine aw_cond rfl (fun hc => ?_) (fun hc => ?_)
                  · replace H := ite_t hc H
                    refine aw_region (es := [_]) ⟨Step.plain rfl (does_assign (.const (.bool false)) (.bool false) (fun _ => rfl)), ⟨trivial, trivial, rfl⟩, rfl, rfl⟩ ?_
                    refine aw_cov (cov_prune (s1 := ⟨[(2, (.bool false))], [], 3⟩) ⟨rfl, trivial⟩ trivial (Nat.le_refl _)) ?_
                    refine aw_ret ?_
                    replace H := rt_of H hsn2 Hrn2
                    refine rt_then ?_
                    refine rt_blk ?_
                    refine rt_then ?_
                    refine rt_then ?_
                    refine rt_blk ?_
                    refine rt_then ?_
                    refine rt_then ?_
                    refine rt_blk ?_
                    refine rt_then ?_
                    refine rt_then ?_
                    exact fun a w hr => ⟨_, [(.bool false)], hr, ⟨⟨_, rfl, .data (.bool false) trivial⟩, trivial⟩, by decide, by cases H; rfl⟩
                  · replace H := ite_f hc H
                    refine aw_skip ?_
                    refine nx_seq ?_
                    obtain ⟨h24, H⟩ := ib_of H
                    obtain ⟨h25, H⟩ := ib_of H
                    obtain ⟨h26, H⟩ := ib_of H
                    refine aw_region (es := [_, _, _, _, _, _, _, _, _, _, _, _, _, _, _]) ⟨Step.plain rfl (does_move (.tmp 5) (.own 1) trivial), ⟨⟨rfl, trivial⟩, trivial, rfl⟩, rfl,
                      Step.plain rfl (does_move (.tmp 0) (e_s_congresslaw17_Do p0) trivial), ⟨⟨rfl, trivial⟩, trivial, rfl⟩, rfl,
                      Step.plain rfl (does_move (.tmp 6) (.int .i64 x1.2.1) trivial), ⟨⟨rfl, trivial⟩, trivial, rfl⟩, rfl,
                      Step.plain rfl (does_indexAddrs 37 2 p0.length 128 (fun j => (e_congresslaw17_Do (p0.getD j z_congresslaw17_Do))) (.tmp 129) .i64 x1.2.1 el37 trivial h24.1 h24.2), ⟨⟨rfl, rfl, trivial⟩, trivial, rfl⟩, rfl,
                      Step.plain rfl (does_fieldAddrc 39 1 1 130 (e_congresslaw17_Do (p0.getD x1.2.1.toNat z_congresslaw17_Do)) fl39_1 rfl (Nat.le_of_ble_eq_true rfl) rfl), ⟨⟨rfl, trivial⟩, trivial, rfl⟩, rfl,
                      Step.plain rfl (does_loadc 22 131 (.int .u64 ((p0.getD x1.2.1.toNat z_congresslaw17_Do).Id)) ty22), ⟨⟨rfl, trivial⟩, trivial, rfl⟩, rfl,
                      Step.plain rfl (does_convInt 22 3 (.tmp 132) .u64 .i64 ((p0.getD x1.2.1.toNat z_congresslaw17_Do).Id) trivial rfl rfl), ⟨⟨rfl, trivial⟩, trivial, rfl⟩, rfl,
                      Step.plain rfl (does_bin .sub 3 3 (.tmp 133) (.const (.int .i64 1)) .i64 (IntKind.i64.wrap ((p0.getD x1.2.1.toNat z_congresslaw17_Do).Id)) 1 (.int .i64 (IntKind.i64.wrap ((IntKind.i64.wrap ((p0.getD x1.2.1.toNat z_congresslaw17_Do).Id)) - 1))) trivial (fun _ => rfl) (bin_sub _ _ _ _)), ⟨⟨rfl, trivial⟩, trivial, rfl⟩, rfl,
                      Step.plain rfl (does_indexAddro 23 2 x1.2.2.2.length 127 1 (fun j => (e_api_Session (x1.2.2.2.getD j z_api_Session))) (.tmp 134) .i64 (IntKind.i64.wrap ((IntKind.i64.wrap ((p0.getD x1.2.1.toNat z_congresslaw17_Do).Id)) - 1)) el23 trivial h25.1 h25.2), ⟨⟨rfl, rfl, trivial⟩, ⟨rfl, trivial⟩, rfl⟩, rfl,
                      Step.plain rfl (does_fieldAddr 41 1 1 135 1 ((IntKind.i64.wrap ((IntKind.i64.wrap ((p0.getD x1.2.1.toNat z_congresslaw17_Do).Id)) - 1)).toNat * 2) [(IntKind.i64.wrap ((IntKind.i64.wrap ((p0.getD x1.2.1.toNat z_congresslaw17_Do).Id)) - 1)).toNat] (.arr 2 x1.2.2.2.length fun j => (e_api_Session (x1.2.2.2.getD j z_api_Session))) fl41_1), ⟨⟨rfl, trivial⟩, ⟨rfl, trivial⟩, rfl⟩, rfl,
                      Step.plain rfl (does_load 22 136 1 (((IntKind.i64.wrap ((IntKind.i64.wrap ((p0.getD x1.2.1.toNat z_congresslaw17_Do).Id)) - 1)).toNat * 2) + 1) [(IntKind.i64.wrap ((IntKind.i64.wrap ((p0.getD x1.2.1.toNat z_congresslaw17_Do).Id)) - 1)).toNat, 1] (.arr 2 x1.2.2.2.length fun j => (e_api_Session (x1.2.2.2.getD j z_api_Session))) (.int .u64 ((x1.2.2.2.getD ((IntKind.i64.wrap ((IntKind.i64.wrap ((p0.getD x1.2.1.toNat z_congresslaw17_Do).Id)) - 1)).toNat) z_api_Session).Number)) ⟨(ixl h25), ⟨rfl, Nat.le_of_ble_eq_true rfl, trivial⟩⟩ rfl rfl ty22), ⟨⟨rfl, trivial⟩, ⟨rfl, trivial⟩, rfl⟩, rfl,
                      Step.plain rfl (does_bin .add 22 22 (.tmp 137) (.const (.int .u64 1)) .u64 ((x1.2.2.2.getD ((IntKind.i64.wrap ((IntKind.i64.wrap ((p0.getD x1.2.1.toNat z_congresslaw17_Do).Id)) - 1)).toNat) z_api_Session).Number) 1 (.int .u64 (IntKind.u64.wrap (((x1.2.2.2.getD ((IntKind.i64.wrap ((IntKind.i64.wrap ((p0.getD x1.2.1.toNat z_congresslaw17_Do).Id)) - 1)).toNat) z_api_Session).Number) + 1))) trivial (fun _ => rfl) (bin_add _ _ _ _)), ⟨⟨rfl, trivial⟩, trivial, rfl⟩, rfl,
                      Step.plain rfl (does_indexAddro 23 2 x1.2.2.2.length 127 1 (fun j => (e_api_Session (x1.2.2.2.getD j z_api_Session))) (.tmp 134) .i64 (IntKind.i64.wrap ((IntKind.i64.wrap ((p0.getD x1.2.1.toNat z_congresslaw17_Do).Id)) - 1)) el23 trivial h26.1 h26.2), ⟨⟨rfl, rfl, trivial⟩, ⟨rfl, trivial⟩, rfl⟩, rfl,
                      Step.plain rfl (does_fieldAddr 41 1 1 139 1 ((IntKind.i64.wrap ((IntKind.i64.wrap ((p0.getD x1.2.1.toNat z_congresslaw17_Do).Id)) - 1)).toNat * 2) [(IntKind.i64.wrap ((IntKind.i64.wrap ((p0.getD x1.2.1.toNat z_congresslaw17_Do).Id)) - 1)).toNat] (.arr 2 x1.2.2.2.length fun j => (e_api_Session (x1.2.2.2.getD j z_api_Session))) fl41_1), ⟨⟨rfl, trivial⟩, ⟨rfl, trivial⟩, rfl⟩, rfl,
                      Step.plain rfl (does_store 22 140 (.tmp 138) 1 (((IntKind.i64.wrap ((IntKind.i64.wrap ((p0.getD x1.2.1.toNat z_congresslaw17_Do).Id)) - 1)).toNat * 2) + 1) [(IntKind.i64.wrap ((IntKind.i64.wrap ((p0.getD x1.2.1.toNat z_congresslaw17_Do).Id)) - 1)).toNat, 1] (.arr 2 x1.2.2.2.length fun j => (e_api_Session (x1.2.2.2.getD j z_api_Session))) (.arr 2 (x1.2.2.2.set ((IntKind.i64.wrap ((IntKind.i64.wrap ((p0.getD x1.2.1.toNat z_congresslaw17_Do).Id)) - 1)).toNat) ({ x1.2.2.2.getD ((IntKind.i64.wrap ((IntKind.i64.wrap ((p0.getD x1.2.1.toNat z_congresslaw17_Do).Id)) - 1)).toNat) z_api_Session with Number := (IntKind.u64.wrap (((x1.2.2.2.getD ((IntKind.i64.wrap ((IntKind.i64.wrap ((p0.getD x1.2.1.toNat z_congresslaw17_Do).Id)) - 1)).toNat) z_api_Session).Number) + 1)) })).length fun j => (e_api_Session ((x1.2.2.2.set ((IntKind.i64.wrap ((IntKind.i64.wrap ((p0.getD x1.2.1.toNat z_congresslaw17_Do).Id)) - 1)).toNat) ({ x1.2.2.2.getD ((IntKind.i64.wrap ((IntKind.i64.wrap ((p0.getD x1.2.1.toNat z_congresslaw17_Do).Id)) - 1)).toNat) z_api_Session with Number := (IntKind.u64.wrap (((x1.2.2.2.getD ((IntKind.i64.wrap ((IntKind.i64.wrap ((p0.getD x1.2.1.toNat z_congresslaw17_Do).Id)) - 1)).toNat) z_api_Session).Number) + 1)) })).getD j z_api_Session))) (.int .u64 (IntKind.u64.wrap (((x1.2.2.2.getD ((IntKind.i64.wrap ((IntKind.i64.wrap ((p0.getD x1.2.1.toNat z_congresslaw17_Do).Id)) - 1)).toNat) z_api_Session).Number) + 1))) false trivial rfl ⟨(ixl h26), ⟨rfl, Nat.le_of_ble_eq_true rfl, trivial⟩⟩ rfl rfl (set_arr e_api_Session z_api_Session _ (ixl h26) (set_cons rfl (st_api_Session_1 _ _))) ty22), ⟨⟨rfl, rfl, trivial⟩, ⟨rfl, trivial⟩, rfl⟩, rfl, rfl⟩ ?_
                    obtain ⟨v27, hv27, H⟩ := lt_of H
                    refine aw_cov (cov_prune (s1 := ⟨[(0, (e_s_congresslaw17_Do p0)), (3, (.ptr 0 0 [])), (4, (.int .u64 x1.1)), (5, (.own 1)), (6, (.int .i64 x1.2.1)), (12, (.ptr 2 0 [])), (13, (.int .u64 v16.2.1))], [(0, some (.var (e_api_Roster x1.2.2.1))), (1, some (.arr 2 v27.length fun j => (e_api_Session (v27.getD j z_api_Session)))), (2, some (.var (e_api_Roster v16.1)))], 3⟩) ⟨rfl, rfl, rfl, rfl, rfl, rfl, rfl, trivial⟩ ⟨rfl, (by subst hv27; rfl), rfl, trivial⟩ (Nat.le_refl _)) ?_
                    refine aw_seq ?_
                    obtain ⟨h28, H⟩ := ib_of H
                    obtain ⟨h29, H⟩ := ib_of H
                    refine aw_region (es := [_, _, _, _, _, _, _, _, _, _, _, _, _]) ⟨Step.plain rfl (does_move (.tmp 13) (.int .u64 v16.2.1) trivial), ⟨⟨rfl, trivial⟩, trivial, rfl⟩, rfl,
                      Step.plain rfl (does_move (.tmp 5) (.own 1) trivial), ⟨⟨rfl, trivial⟩, trivial, rfl⟩, rfl,
                      Step.plain rfl (does_move (.tmp 0) (e_s_congresslaw17_Do p0) trivial), ⟨⟨rfl, trivial⟩, trivial, rfl⟩, rfl,
                      Step.plain rfl (does_move (.tmp 6) (.int .i64 x1.2.1) trivial), ⟨⟨rfl, trivial⟩, trivial, rfl⟩, rfl,
                      Step.plain rfl (does_indexAddrs 37 2 p0.length 143 (fun j => (e_congresslaw17_Do (p0.getD j z_congresslaw17_Do))) (.tmp 144) .i64 x1.2.1 el37 trivial h28.1 h28.2), ⟨⟨rfl, rfl, trivial⟩, trivial, rfl⟩, rfl,
                      Step.plain rfl (does_fieldAddrc 39 1 1 145 (e_congresslaw17_Do (p0.getD x1.2.1.toNat z_congresslaw17_Do)) fl39_1 rfl (Nat.le_of_ble_eq_true rfl) rfl), ⟨⟨rfl, trivial⟩, trivial, rfl⟩, rfl,
                      Step.plain rfl (does_loadc 22 146 (.int .u64 ((p0.getD x1.2.1.toNat z_congresslaw17_Do).Id)) ty22), ⟨⟨rfl, trivial⟩, trivial, rfl⟩, rfl,
                      Step.plain rfl (does_convInt 22 3 (.tmp 147) .u64 .i64 ((p0.getD x1.2.1.toNat z_congresslaw17_Do).Id) trivial rfl rfl), ⟨⟨rfl, trivial⟩, trivial, rfl⟩, rfl,
                      Step.plain rfl (does_bin .sub 3 3 (.tmp 148) (.const (.int .i64 1)) .i64 (IntKind.i64.wrap ((p0.getD x1.2.1.toNat z_congresslaw17_Do).Id)) 1 (.int .i64 (IntKind.i64.wrap ((IntKind.i64.wrap ((p0.getD x1.2.1.toNat z_congresslaw17_Do).Id)) - 1))) trivial (fun _ => rfl) (bin_sub _ _ _ _)), ⟨⟨rfl, trivial⟩, trivial, rfl⟩, rfl,
                      Step.plain rfl (does_indexAddro 23 2 v27.length 142 1 (fun j => (e_api_Session (v27.getD j z_api_Session))) (.tmp 149) .i64 (IntKind.i64.wrap ((IntKind.i64.wrap ((p0.getD x1.2.1.toNat z_congresslaw17_Do).Id)) - 1)) el23 trivial h29.1 h29.2), ⟨⟨rfl, rfl, trivial⟩, ⟨rfl, trivial⟩, rfl⟩, rfl,
                      Step.plain rfl (does_fieldAddr 41 1 1 150 1 ((IntKind.i64.wrap ((IntKind.i64.wrap ((p0.getD x1.2.1.toNat z_congresslaw17_Do).Id)) - 1)).toNat * 2) [(IntKind.i64.wrap ((IntKind.i64.wrap ((p0.getD x1.2.1.toNat z_congresslaw17_Do).Id)) - 1)).toNat] (.arr 2 v27.length fun j => (e_api_Session (v27.getD j z_api_Session))) fl41_1), ⟨⟨rfl, trivial⟩, ⟨rfl, trivial⟩, rfl⟩, rfl,
                      Step.plain rfl (does_load 22 151 1 (((IntKind.i64.wrap ((IntKind.i64.wrap ((p0.getD x1.2.1.toNat z_congresslaw17_Do).Id)) - 1)).toNat * 2) + 1) [(IntKind.i64.wrap ((IntKind.i64.wrap ((p0.getD x1.2.1.toNat z_congresslaw17_Do).Id)) - 1)).toNat, 1] (.arr 2 v27.length fun j => (e_api_Session (v27.getD j z_api_Session))) (.int .u64 ((v27.getD ((IntKind.i64.wrap ((IntKind.i64.wrap ((p0.getD x1.2.1.toNat z_congresslaw17_Do).Id)) - 1)).toNat) z_api_Session).Number)) ⟨(ixl h29), ⟨rfl, Nat.le_of_ble_eq_true rfl, trivial⟩⟩ rfl rfl ty22), ⟨⟨rfl, trivial⟩, ⟨rfl, trivial⟩, rfl⟩, rfl,
                      Step.plain rfl (does_bin .neq 22 22 (.tmp 141) (.tmp 152) .u64 v16.2.1 ((v27.getD ((IntKind.i64.wrap ((IntKind.i64.wrap ((p0.getD x1.2.1.toNat z_congresslaw17_Do).Id)) - 1)).toNat) z_api_Session).Number) (.bool (v16.2.1 != ((v27.getD ((IntKind.i64.wrap ((IntKind.i64.wrap ((p0.getD x1.2.1.toNat z_congresslaw17_Do).Id)) - 1)).toNat) z_api_Session).Number))) trivial trivial (bin_neq _ _ _ _)), ⟨⟨rfl, rfl, trivial⟩, trivial, rfl⟩, rfl, rfl⟩ ?_
                    obtain ⟨v30, hv30, H⟩ := lt_of H
                    refine aw_cov (cov_prune (s1 := ⟨[(0, (e_s_congresslaw17_Do p0)), (3, (.ptr 0 0 [])), (4, (.int .u64 x1.1)), (5, (.own 1)), (6, (.int .i64 x1.2.1)), (12, (.ptr 2 0 [])), (153, (.bool v30))], [(0, some (.var (e_api_Roster x1.2.2.1))), (1, some (.arr 2 v27.length fun j => (e_api_Session (v27.getD j z_api_Session)))), (2, some (.var (e_api_Roster v16.1)))], 3⟩) ⟨rfl, rfl, rfl, rfl, rfl, rfl, (by subst hv30; rfl), trivial⟩ ⟨rfl, rfl, rfl, trivial⟩ (Nat.le_refl _)) ?_
                    refine aw_cond rfl (fun hc => ?_) (fun hc => ?_)
                    · replace H := ite_t hc H
                      refine aw_region (es := [_]) ⟨Step.plain rfl (does_assign (.const (.bool false)) (.bool false) (fun _ => rfl)), ⟨trivial, trivial, rfl⟩, rfl, rfl⟩ ?_
                      refine aw_cov (cov_prune (s1 := ⟨[(2, (.bool false))], [], 3⟩) ⟨rfl, trivial⟩ trivial (Nat.le_refl _)) ?_
                      refine aw_ret ?_
                      replace H := rt_of H hsn2 Hrn2
                      refine rt_then ?_
                      refine rt_blk ?_
                      refine rt_then ?_
                      refine rt_then ?_
                      refine rt_blk ?_
                      refine rt_then ?_
                      refine rt_then ?_
                      refine rt_blk ?_
                      refine rt_then ?_
                      refine rt_then ?_
                      exact fun a w hr => ⟨_, [(.bool false)], hr, ⟨⟨_, rfl, .data (.bool false) trivial⟩, trivial⟩, by decide, by cases H; rfl⟩
                    · replace H := ite_f hc H
                      refine aw_skip ?_
                      refine nx_seq ?_
                      refine aw_region1 (es := [_, _]) ⟨Step.plain rfl (does_load 25 12 2 0 [] (.var (e_api_Roster v16.1)) (e_api_Roster v16.1) trivial rfl rfl ty25), ⟨⟨rfl, trivial⟩, ⟨rfl, trivial⟩, rfl⟩, rfl,
                        Step.plain rfl (does_store 25 3 (.tmp 154) 0 0 [] (.var (e_api_Roster x1.2.2.1)) (.var (e_api_Roster v16.1)) (e_api_Roster v16.1) true trivial rfl trivial rfl rfl rfl ty25), ⟨⟨rfl, rfl, trivial⟩, ⟨rfl, trivial⟩, rfl⟩, rfl, rfl⟩ ?_
                      refine nx_blk ?_
                      exact nx_join (x1.1, v16.1, v27) H (cov_of (fun i => match i with | 0 => 0 | 1 => 1 | k => k) ⟨⟨_, rfl, ⟨rfl, (d_s_congresslaw17_Do _).plain⟩⟩, ⟨_, rfl, ⟨rfl, Nat.le_of_ble_eq_true rfl⟩⟩, ⟨_, rfl, ⟨rfl, trivial⟩⟩, ⟨_, rfl, ⟨rfl, Nat.le_of_ble_eq_true rfl⟩⟩, ⟨_, rfl, ⟨rfl, trivial⟩⟩, trivial⟩ ⟨⟨Nat.le_of_ble_eq_true rfl, _, _, rfl, rfl, .inl ⟨rfl, (d_api_Roster _).plain⟩⟩, ⟨Nat.le_of_ble_eq_true rfl, _, _, rfl, rfl, ⟨rfl, rfl, fun _ => .inl ⟨rfl, (d_api_Session _).plain⟩⟩⟩, trivial⟩ rfl)
                · replace H := ite_f hc H
                  refine aw_skip ?_
                  refine nx_blk ?_
                  exact nx_join (x1.1, x1.2.2.1, x1.2.2.2) H (cov_of (fun i => match i with | 0 => 0 | 1 => 1 | k => k) ⟨⟨_, rfl, ⟨rfl, (d_s_congresslaw17_Do _).plain⟩⟩, ⟨_, rfl, ⟨rfl, Nat.le_of_ble_eq_true rfl⟩⟩, ⟨_, rfl, ⟨rfl, trivial⟩⟩, ⟨_, rfl, ⟨rfl, Nat.le_of_ble_eq_true rfl⟩⟩, ⟨_, rfl, ⟨rfl, trivial⟩⟩, trivial⟩ ⟨⟨Nat.le_of_ble_eq_true rfl, _, _, rfl, rfl, .inl ⟨rfl, (d_api_Roster _).plain⟩⟩, ⟨Nat.le_of_ble_eq_true rfl, _, _, rfl, rfl, ⟨rfl, rfl, fun _ => .inl ⟨rfl, (d_api_Session _).plain⟩⟩⟩, trivial⟩ rfl)
            · replace H := ite_f hc H
              refine aw_skip ?_
              refine nx_blk ?_
              exact nx_join (x1.1, x1.2.2.1, x1.2.2.2) H (cov_of (fun i => match i with | 0 => 0 | 1 => 1 | k => k) ⟨⟨_, rfl, ⟨rfl, (d_s_congresslaw17_Do _).plain⟩⟩, ⟨_, rfl, ⟨rfl, Nat.le_of_ble_eq_true rfl⟩⟩, ⟨_, rfl, ⟨rfl, trivial⟩⟩, ⟨_, rfl, ⟨rfl, Nat.le_of_ble_eq_true rfl⟩⟩, ⟨_, rfl, ⟨rfl, trivial⟩⟩, trivial⟩ ⟨⟨Nat.le_of_ble_eq_true rfl, _, _, rfl, rfl, .inl ⟨rfl, (d_api_Roster _).plain⟩⟩, ⟨Nat.le_of_ble_eq_true rfl, _, _, rfl, rfl, ⟨rfl, rfl, fun _ => .inl ⟨rfl, (d_api_Session _).plain⟩⟩⟩, trivial⟩ rfl)
    · replace H := ite_f hc H
      refine aw_exit ?_
      refine ex_then ?_
      refine ex_then ?_
      refine ex_here ?_
      exact nx_ljoin () H hsn2 (cov_prune trivial trivial (Nat.le_of_ble_eq_true rfl))
end Go.Proofs.Ytbcjnggdielljaa
