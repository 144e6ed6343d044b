/- Printed by gen.py. Conditions: none. -/
import Derived.Test.YtbcjnggdielljaaSp3
import Derived.KernelRfl
set_option linter.unusedVariables false
set_option maxRecDepth 100000
namespace Go.Proofs.Ytbcjnggdielljaa
open Go.Eng
set_option maxHeartbeats 1600000
theorem congresslaw17_RosterStays_spec (p0 : api_Roster) (p1 : Int) (r : Bool) (H : congresslaw17_RosterStays p0 p1 = some r) : FSpec Try.prog 5 [(e_api_Roster p0), (.int .u64 p1)] (.bool r) := by
  refine spec_of (fn := Try.f5) (args := [(e_api_Roster p0), (.int .u64 p1)]) Try.func5 rfl (Nat.le_of_ble_eq_true rfl) ?_
  rintro ⟨G, w0, W, S, Sp⟩ hG
  cases hG
  unfold congresslaw17_RosterStays at H
  refine aw_region (es := [_, _]) ⟨Step.plain rfl (does_box 25 (.tmp 0) 0 (e_api_Roster p0) trivial rfl), ⟨⟨rfl, trivial⟩, trivial, rfl⟩, rfl,
    Step.plain rfl (does_assign (.const (.bool false)) (.bool false) (fun _ => rfl)), ⟨trivial, trivial, rfl⟩, rfl, rfl⟩ ?_
  refine aw_cov (cov_prune (s1 := ⟨[(1, (.int .u64 p1)), (2, (.ptr 0 0 []))], [(0, some (.var (e_api_Roster p0)))], 1⟩) ⟨rfl, rfl, trivial⟩ ⟨rfl, trivial⟩ (Nat.le_refl _)) ?_
  refine aw_seq ?_
  obtain ⟨v1, h2, H⟩ := bnd H
  obtain ⟨v3, h4, H⟩ := whn_of H
  refine aw_region (es := [_, _, _, _, _, _, _]) ⟨Step.plain rfl (does_call 13 0 (fun _ => .any) (.func 13) [] [] [] true [] (.bool v1) _ _ rfl fo13 rfl trivial trivial (congresslaw17_fixed_spec _ h2) trivial), ⟨trivial, trivial, rfl⟩, rfl,
    Step.plain rfl (does_not 4 (.tmp 15) v1 trivial), ⟨⟨rfl, trivial⟩, trivial, rfl⟩, rfl,
    Step.plain rfl (does_move (.tmp 16) (.bool (!v1)) trivial), ⟨⟨rfl, trivial⟩, trivial, rfl⟩, rfl,
    Step.guarded rfl rfl rfl rfl (fun hc => does_load 25 2 0 0 [] (.var (e_api_Roster p0)) (e_api_Roster p0) trivial rfl rfl ty25), ⟨⟨rfl, rfl, trivial⟩, ⟨rfl, trivial⟩, rfl⟩, rfl,
    Step.guarded rfl rfl rfl rfl (fun hc => Does.strip (n' := [(18, (.opt (!(!v1)) (e_api_Roster p0)))]) (n := [(18, (e_api_Roster p0))]) ⟨(.opt _ _ hc), trivial⟩ (does_call 17 0 (fun _ => .any) (.func 17) [(.tmp 18)] [(e_api_Roster p0)] [] true [(e_api_Roster p0)] (.bool v3) _ _ rfl fo17 rfl ⟨trivial, trivial⟩ ⟨.data _ (d_api_Roster p0), trivial⟩ (roster_May_spec p0 _ (h4 hc)) trivial)), ⟨⟨rfl, rfl, trivial⟩, trivial, rfl⟩, rfl,
    Step.guarded rfl rfl rfl rfl (fun hc => Does.strip (n' := [(19, (.opt (!(!v1)) (.bool v3)))]) (n := [(19, (.bool v3))]) ⟨(.opt _ _ hc), trivial⟩ (does_not 4 (.tmp 19) v3 trivial)), ⟨⟨rfl, rfl, trivial⟩, trivial, rfl⟩, rfl,
    Step.plain rfl (does_or 17 20 (!v1) (!v3)), ⟨⟨rfl, rfl, trivial⟩, trivial, rfl⟩, rfl, rfl⟩ ?_
  refine aw_cov (cov_prune (s1 := ⟨[(1, (.int .u64 p1)), (2, (.ptr 0 0 [])), (21, (.bool ((!v1) || (!v3))))], [(0, some (.var (e_api_Roster p0)))], 1⟩) ⟨rfl, rfl, rfl, trivial⟩ ⟨rfl, trivial⟩ (Nat.le_refl _)) ?_
  refine aw_cond rfl (fun hc => ?_) (fun hc => ?_)
  · replace H := ite_t hc H
    obtain ⟨v5, h6, H⟩ := bnd H
    refine aw_region (es := [_, _]) ⟨Step.plain rfl (does_call 13 0 (fun _ => .any) (.func 13) [] [] [] true [] (.bool v5) _ _ rfl fo13 rfl trivial trivial (congresslaw17_fixed_spec _ h6) trivial), ⟨trivial, trivial, rfl⟩, rfl,
      Step.plain rfl (does_assign (.tmp 22) (.bool v5) trivial), ⟨⟨rfl, trivial⟩, trivial, rfl⟩, rfl, rfl⟩ ?_
    refine aw_cov (cov_prune (s1 := ⟨[(4, (.bool v5))], [], 1⟩) ⟨rfl, trivial⟩ trivial (Nat.le_refl _)) ?_
    refine aw_ret ?_
    refine rt_then ?_
    exact fun a w hr => ⟨_, [(.bool v5)], hr, ⟨⟨_, rfl, .data (.bool v5) trivial⟩, trivial⟩, by decide, by cases H; rfl⟩
  · replace H := ite_f hc H
    refine aw_skip ?_
    refine nx_seq ?_
    obtain ⟨v7, h8, H⟩ := bnd H
    refine aw_region (es := [_, _, _, _, _, _, _, _, _, _]) ⟨Step.plain rfl (does_load 25 2 0 0 [] (.var (e_api_Roster p0)) (e_api_Roster p0) trivial rfl rfl ty25), ⟨⟨rfl, trivial⟩, ⟨rfl, trivial⟩, rfl⟩, rfl,
      Step.plain rfl (does_call 7 0 (fun _ => .any) (.func 7) [(.tmp 24)] [(e_api_Roster p0)] [] false [(e_api_Roster p0)] (resV [(e_api_Roster v7.1), (.int .u64 v7.2.1), (.int .i64 v7.2.2)]) _ _ rfl fo7 rfl ⟨trivial, trivial⟩ ⟨.data _ (d_api_Roster p0), trivial⟩ (roster_Open_spec p0 _ h8) (res_data3 (d_api_Roster v7.1) trivial trivial)), ⟨⟨rfl, trivial⟩, trivial, rfl⟩, rfl,
      Step.plain rfl (does_move (.tmp 25) (resV [(e_api_Roster v7.1), (.int .u64 v7.2.1), (.int .i64 v7.2.2)]) trivial), ⟨⟨rfl, trivial⟩, trivial, rfl⟩, rfl,
      Step.plain rfl (does_extract 23 0 3 (fun j => [(e_api_Roster v7.1), (.int .u64 v7.2.1), (.int .i64 v7.2.2)].getD j (.bool false)) (Nat.le_of_ble_eq_true rfl)), ⟨⟨rfl, trivial⟩, trivial, rfl⟩, rfl,
      Step.plain rfl (does_extract 23 1 3 (fun j => [(e_api_Roster v7.1), (.int .u64 v7.2.1), (.int .i64 v7.2.2)].getD j (.bool false)) (Nat.le_of_ble_eq_true rfl)), ⟨⟨rfl, trivial⟩, trivial, rfl⟩, rfl,
      Step.plain rfl (does_extract 23 2 3 (fun j => [(e_api_Roster v7.1), (.int .u64 v7.2.1), (.int .i64 v7.2.2)].getD j (.bool false)) (Nat.le_of_ble_eq_true rfl)), ⟨⟨rfl, trivial⟩, trivial, rfl⟩, rfl,
      Step.plain rfl (does_alloc 25 1 (e_api_Roster z_api_Roster) zr25), ⟨trivial, trivial, rfl⟩, rfl,
      Step.plain rfl (does_store 25 5 (.tmp 26) 1 0 [] (.var (e_api_Roster z_api_Roster)) (.var (e_api_Roster v7.1)) (e_api_Roster v7.1) true trivial rfl trivial rfl rfl rfl ty25), ⟨⟨rfl, rfl, trivial⟩, ⟨rfl, trivial⟩, rfl⟩, rfl,
      Step.plain rfl (does_assign (.tmp 27) (.int .u64 v7.2.1) trivial), ⟨⟨rfl, trivial⟩, trivial, rfl⟩, rfl,
      Step.plain rfl (does_assign (.tmp 28) (.int .i64 v7.2.2) trivial), ⟨⟨rfl, trivial⟩, trivial, rfl⟩, rfl, rfl⟩ ?_
    refine aw_cov (cov_prune (s1 := ⟨[(1, (.int .u64 p1)), (2, (.ptr 0 0 [])), (5, (.ptr 1 0 [])), (7, (.int .i64 v7.2.2))], [(0, some (.var (e_api_Roster p0))), (1, some (.var (e_api_Roster v7.1)))], 2⟩) ⟨rfl, rfl, rfl, rfl, trivial⟩ ⟨rfl, rfl, trivial⟩ (Nat.le_refl _)) ?_
    obtain ⟨v9, h10, H⟩ := bnd H
    refine aw_region (es := [_, _, _, _, _, _, _, _, _]) ⟨Step.plain rfl (does_load 25 2 0 0 [] (.var (e_api_Roster p0)) (e_api_Roster p0) trivial rfl rfl ty25), ⟨⟨rfl, trivial⟩, ⟨rfl, trivial⟩, rfl⟩, rfl,
      Step.plain rfl (does_move (.tmp 1) (.int .u64 p1) trivial), ⟨⟨rfl, trivial⟩, trivial, rfl⟩, rfl,
      Step.plain rfl (does_call 9 0 (fun _ => .any) (.func 9) [(.tmp 30), (.tmp 31)] [(e_api_Roster p0), (.int .u64 p1)] [] false [(e_api_Roster p0), (.int .u64 p1)] (resV [(e_api_Roster v9.1), (.int .i64 v9.2)]) _ _ rfl fo9 rfl ⟨trivial, trivial, trivial⟩ ⟨.data _ (d_api_Roster p0), .data _ trivial, trivial⟩ (roster_Close_spec p0 p1 _ h10) (res_data2 (d_api_Roster v9.1) trivial)), ⟨⟨rfl, rfl, trivial⟩, trivial, rfl⟩, rfl,
      Step.plain rfl (does_move (.tmp 32) (resV [(e_api_Roster v9.1), (.int .i64 v9.2)]) trivial), ⟨⟨rfl, trivial⟩, trivial, rfl⟩, rfl,
      Step.plain rfl (does_extract 29 0 2 (fun j => [(e_api_Roster v9.1), (.int .i64 v9.2)].getD j (.bool false)) (Nat.le_of_ble_eq_true rfl)), ⟨⟨rfl, trivial⟩, trivial, rfl⟩, rfl,
      Step.plain rfl (does_extract 29 1 2 (fun j => [(e_api_Roster v9.1), (.int .i64 v9.2)].getD j (.bool false)) (Nat.le_of_ble_eq_true rfl)), ⟨⟨rfl, trivial⟩, trivial, rfl⟩, rfl,
      Step.plain rfl (does_alloc 25 2 (e_api_Roster z_api_Roster) zr25), ⟨trivial, trivial, rfl⟩, rfl,
      Step.plain rfl (does_store 25 8 (.tmp 33) 2 0 [] (.var (e_api_Roster z_api_Roster)) (.var (e_api_Roster v9.1)) (e_api_Roster v9.1) true trivial rfl trivial rfl rfl rfl ty25), ⟨⟨rfl, rfl, trivial⟩, ⟨rfl, trivial⟩, rfl⟩, rfl,
      Step.plain rfl (does_assign (.tmp 34) (.int .i64 v9.2) trivial), ⟨⟨rfl, trivial⟩, trivial, rfl⟩, rfl, rfl⟩ ?_
    refine aw_cov (cov_prune (s1 := ⟨[(1, (.int .u64 p1)), (2, (.ptr 0 0 [])), (5, (.ptr 1 0 [])), (7, (.int .i64 v7.2.2)), (8, (.ptr 2 0 [])), (9, (.int .i64 v9.2))], [(0, some (.var (e_api_Roster p0))), (1, some (.var (e_api_Roster v7.1))), (2, some (.var (e_api_Roster v9.1)))], 3⟩) ⟨rfl, rfl, rfl, rfl, rfl, rfl, trivial⟩ ⟨rfl, rfl, rfl, trivial⟩ (Nat.le_refl _)) ?_
    obtain ⟨v11, h12, H⟩ := bnd H
    refine aw_region (es := [_, _, _, _, _, _, _, _, _, _, _]) ⟨Step.plain rfl (does_load 25 2 0 0 [] (.var (e_api_Roster p0)) (e_api_Roster p0) trivial rfl rfl ty25), ⟨⟨rfl, trivial⟩, ⟨rfl, trivial⟩, rfl⟩, rfl,
      Step.plain rfl (does_move (.tmp 1) (.int .u64 p1) trivial), ⟨⟨rfl, trivial⟩, trivial, rfl⟩, rfl,
      Step.plain rfl (does_call 11 0 (fun _ => .any) (.func 11) [(.tmp 36), (.tmp 37)] [(e_api_Roster p0), (.int .u64 p1)] [] false [(e_api_Roster p0), (.int .u64 p1)] (resV [(e_api_Roster v11.1), (.int .u64 v11.2.1), (.int .i64 v11.2.2)]) _ _ rfl fo11 rfl ⟨trivial, trivial, trivial⟩ ⟨.data _ (d_api_Roster p0), .data _ trivial, trivial⟩ (roster_Next_spec p0 p1 _ h12) (res_data3 (d_api_Roster v11.1) trivial trivial)), ⟨⟨rfl, rfl, trivial⟩, trivial, rfl⟩, rfl,
      Step.plain rfl (does_move (.tmp 38) (resV [(e_api_Roster v11.1), (.int .u64 v11.2.1), (.int .i64 v11.2.2)]) trivial), ⟨⟨rfl, trivial⟩, trivial, rfl⟩, rfl,
      Step.plain rfl (does_extract 35 0 3 (fun j => [(e_api_Roster v11.1), (.int .u64 v11.2.1), (.int .i64 v11.2.2)].getD j (.bool false)) (Nat.le_of_ble_eq_true rfl)), ⟨⟨rfl, trivial⟩, trivial, rfl⟩, rfl,
      Step.plain rfl (does_extract 35 1 3 (fun j => [(e_api_Roster v11.1), (.int .u64 v11.2.1), (.int .i64 v11.2.2)].getD j (.bool false)) (Nat.le_of_ble_eq_true rfl)), ⟨⟨rfl, trivial⟩, trivial, rfl⟩, rfl,
      Step.plain rfl (does_extract 35 2 3 (fun j => [(e_api_Roster v11.1), (.int .u64 v11.2.1), (.int .i64 v11.2.2)].getD j (.bool false)) (Nat.le_of_ble_eq_true rfl)), ⟨⟨rfl, trivial⟩, trivial, rfl⟩, rfl,
      Step.plain rfl (does_alloc 25 3 (e_api_Roster z_api_Roster) zr25), ⟨trivial, trivial, rfl⟩, rfl,
      Step.plain rfl (does_store 25 10 (.tmp 39) 3 0 [] (.var (e_api_Roster z_api_Roster)) (.var (e_api_Roster v11.1)) (e_api_Roster v11.1) true trivial rfl trivial rfl rfl rfl ty25), ⟨⟨rfl, rfl, trivial⟩, ⟨rfl, trivial⟩, rfl⟩, rfl,
      Step.plain rfl (does_assign (.tmp 40) (.int .u64 v11.2.1) trivial), ⟨⟨rfl, trivial⟩, trivial, rfl⟩, rfl,
      Step.plain rfl (does_assign (.tmp 41) (.int .i64 v11.2.2) trivial), ⟨⟨rfl, trivial⟩, trivial, rfl⟩, rfl, rfl⟩ ?_
    refine aw_cov (cov_prune (s1 := ⟨[(1, (.int .u64 p1)), (2, (.ptr 0 0 [])), (5, (.ptr 1 0 [])), (7, (.int .i64 v7.2.2)), (8, (.ptr 2 0 [])), (9, (.int .i64 v9.2)), (10, (.ptr 3 0 [])), (12, (.int .i64 v11.2.2))], [(0, some (.var (e_api_Roster p0))), (1, some (.var (e_api_Roster v7.1))), (2, some (.var (e_api_Roster v9.1))), (3, some (.var (e_api_Roster v11.1)))], 4⟩) ⟨rfl, rfl, rfl, rfl, rfl, rfl, rfl, rfl, trivial⟩ ⟨rfl, rfl, rfl, rfl, trivial⟩ (Nat.le_refl _)) ?_
    refine aw_seq ?_
    obtain ⟨v13, h14, H⟩ := whn_of H
    obtain ⟨v15, h16, H⟩ := whn_of H
    obtain ⟨v17, h18, H⟩ := whn_of H
    obtain ⟨v19, h20, H⟩ := whn_of H
    refine aw_region (es := [_, _, _, _, _, _, _, _, _, _, _, _, _, _, _, _, _, _, _, _, _, _, _, _, _, _, _, _, _, _]) ⟨Step.plain rfl (does_move (.tmp 7) (.int .i64 v7.2.2) trivial), ⟨⟨rfl, trivial⟩, trivial, rfl⟩, rfl,
      Step.plain rfl (does_bin .eql 26 26 (.tmp 42) (.const (.int .i64 0)) .i64 v7.2.2 0 (.bool (v7.2.2 == 0)) trivial (fun _ => rfl) (bin_eql _ _ _ _)), ⟨⟨rfl, trivial⟩, trivial, rfl⟩, rfl,
      Step.plain rfl (does_move (.tmp 43) (.bool (v7.2.2 == 0)) trivial), ⟨⟨rfl, trivial⟩, trivial, rfl⟩, rfl,
      Step.guarded rfl rfl rfl rfl (fun hc => does_load 25 5 1 0 [] (.var (e_api_Roster v7.1)) (e_api_Roster v7.1) trivial rfl rfl ty25), ⟨⟨rfl, rfl, trivial⟩, ⟨rfl, trivial⟩, rfl⟩, rfl,
      Step.guarded rfl rfl rfl rfl (fun hc => Does.strip (n' := [(45, (.opt (v7.2.2 == 0) (e_api_Roster v7.1)))]) (n := [(45, (e_api_Roster v7.1))]) ⟨(.opt _ _ hc), trivial⟩ (does_call 17 0 (fun _ => .any) (.func 17) [(.tmp 45)] [(e_api_Roster v7.1)] [] true [(e_api_Roster v7.1)] (.bool v13) _ _ rfl fo17 rfl ⟨trivial, trivial⟩ ⟨.data _ (d_api_Roster v7.1), trivial⟩ (roster_May_spec v7.1 _ (h14 hc)) trivial)), ⟨⟨rfl, rfl, trivial⟩, trivial, rfl⟩, rfl,
      Step.guarded rfl rfl rfl rfl (fun hc => Does.strip (n' := [(46, (.opt (v7.2.2 == 0) (.bool v13)))]) (n := [(46, (.bool v13))]) ⟨(.opt _ _ hc), trivial⟩ (does_not 4 (.tmp 46) v13 trivial)), ⟨⟨rfl, rfl, trivial⟩, trivial, rfl⟩, rfl,
      Step.plain rfl (does_and 44 47 (v7.2.2 == 0) (!v13)), ⟨⟨rfl, rfl, trivial⟩, trivial, rfl⟩, rfl,
      Step.plain rfl (does_move (.tmp 48) (.bool ((v7.2.2 == 0) && (!v13))) trivial), ⟨⟨rfl, trivial⟩, trivial, rfl⟩, rfl,
      Step.guarded rfl rfl rfl rfl (fun hc => does_move (.tmp 9) (.int .i64 v9.2) trivial), ⟨⟨rfl, rfl, trivial⟩, trivial, rfl⟩, rfl,
      Step.guarded rfl rfl rfl rfl (fun hc => Does.strip (n' := [(50, (.opt (!((v7.2.2 == 0) && (!v13))) (.int .i64 v9.2)))]) (n := [(50, (.int .i64 v9.2))]) ⟨(.opt _ _ hc), trivial⟩ (does_bin .eql 26 26 (.tmp 50) (.const (.int .i64 0)) .i64 v9.2 0 (.bool (v9.2 == 0)) trivial (fun _ => rfl) (bin_eql _ _ _ _))), ⟨⟨rfl, rfl, trivial⟩, trivial, rfl⟩, rfl,
      Step.guarded rfl rfl rfl rfl (fun hc => Does.strip (n' := [(51, (.opt (!((v7.2.2 == 0) && (!v13))) (.bool (v9.2 == 0))))]) (n := [(51, (.bool (v9.2 == 0)))]) ⟨(.opt _ _ hc), trivial⟩ (does_move (.tmp 51) (.bool (v9.2 == 0)) trivial)), ⟨⟨rfl, rfl, trivial⟩, trivial, rfl⟩, rfl,
      Step.guarded rfl rfl rfl rfl (fun hc => does_load 25 8 2 0 [] (.var (e_api_Roster v9.1)) (e_api_Roster v9.1) trivial rfl rfl ty25), ⟨⟨rfl, rfl, trivial⟩, ⟨rfl, trivial⟩, rfl⟩, rfl,
      Step.guarded rfl rfl rfl rfl (fun hc => Does.strip (n' := [(53, (.opt ((!((v7.2.2 == 0) && (!v13))) && (v9.2 == 0)) (e_api_Roster v9.1)))]) (n := [(53, (e_api_Roster v9.1))]) ⟨(.opt _ _ hc), trivial⟩ (does_call 17 0 (fun _ => .any) (.func 17) [(.tmp 53)] [(e_api_Roster v9.1)] [] true [(e_api_Roster v9.1)] (.bool v15) _ _ rfl fo17 rfl ⟨trivial, trivial⟩ ⟨.data _ (d_api_Roster v9.1), trivial⟩ (roster_May_spec v9.1 _ (h16 hc)) trivial)), ⟨⟨rfl, rfl, trivial⟩, trivial, rfl⟩, rfl,
      Step.guarded rfl rfl rfl rfl (fun hc => Does.strip (n' := [(54, (.opt ((!((v7.2.2 == 0) && (!v13))) && (v9.2 == 0)) (.bool v15)))]) (n := [(54, (.bool v15))]) ⟨(.opt _ _ hc), trivial⟩ (does_not 4 (.tmp 54) v15 trivial)), ⟨⟨rfl, rfl, trivial⟩, trivial, rfl⟩, rfl,
      Step.guarded rfl rfl rfl rfl (fun hc => Does.strip (n' := [(55, (.opt ((!((v7.2.2 == 0) && (!v13))) && (v9.2 == 0)) (.bool (!v15))))]) (n := [(55, (.bool (!v15)))]) ⟨(.opt _ _ hc), trivial⟩ (does_move (.tmp 55) (.bool (!v15)) trivial)), ⟨⟨rfl, rfl, trivial⟩, trivial, rfl⟩, rfl,
      Step.guarded rfl rfl rfl rfl (fun hc => does_load 25 8 2 0 [] (.var (e_api_Roster v9.1)) (e_api_Roster v9.1) trivial rfl rfl ty25), ⟨⟨rfl, rfl, trivial⟩, ⟨rfl, trivial⟩, rfl⟩, rfl,
      Step.guarded rfl rfl rfl rfl (fun hc => does_move (.tmp 1) (.int .u64 p1) trivial), ⟨⟨rfl, rfl, trivial⟩, trivial, rfl⟩, rfl,
      Step.guarded rfl rfl rfl rfl (fun hc => Does.strip (n' := [(57, (.opt (((!((v7.2.2 == 0) && (!v13))) && (v9.2 == 0)) && (!(!v15))) (e_api_Roster v9.1))), (58, (.opt (((!((v7.2.2 == 0) && (!v13))) && (v9.2 == 0)) && (!(!v15))) (.int .u64 p1)))]) (n := [(57, (e_api_Roster v9.1)), (58, (.int .u64 p1))]) ⟨(.opt _ _ hc), (.opt _ _ hc), trivial⟩ (does_call 15 0 (fun _ => .any) (.func 15) [(.tmp 57), (.tmp 58)] [(e_api_Roster v9.1), (.int .u64 p1)] [] true [(e_api_Roster v9.1), (.int .u64 p1)] (.bool v17) _ _ rfl fo15 rfl ⟨trivial, trivial, trivial⟩ ⟨.data _ (d_api_Roster v9.1), .data _ trivial, trivial⟩ (roster_Has_spec v9.1 p1 _ (h18 hc)) trivial)), ⟨⟨rfl, rfl, rfl, trivial⟩, trivial, rfl⟩, rfl,
      Step.guarded rfl rfl rfl rfl (fun hc => Does.strip (n' := [(56, (.opt ((!((v7.2.2 == 0) && (!v13))) && (v9.2 == 0)) (.bool (!v15)))), (59, (.opt (((!((v7.2.2 == 0) && (!v13))) && (v9.2 == 0)) && (!(!v15))) (.bool v17)))]) (n := [(56, (.bool (!v15))), (59, (.opt (!(!v15)) (.bool v17)))]) ⟨(.opt _ _ hc), (.half _ _ hc), trivial⟩ (does_or 56 59 (!v15) v17)), ⟨⟨rfl, rfl, rfl, trivial⟩, trivial, rfl⟩, rfl,
      Step.guarded rfl rfl rfl rfl (fun hc => Does.strip (n' := [(52, (.opt (!((v7.2.2 == 0) && (!v13))) (.bool (v9.2 == 0)))), (60, (.opt ((!((v7.2.2 == 0) && (!v13))) && (v9.2 == 0)) (.bool ((!v15) || v17))))]) (n := [(52, (.bool (v9.2 == 0))), (60, (.opt (v9.2 == 0) (.bool ((!v15) || v17))))]) ⟨(.opt _ _ hc), (.half _ _ hc), trivial⟩ (does_and 52 60 (v9.2 == 0) ((!v15) || v17))), ⟨⟨rfl, rfl, rfl, trivial⟩, trivial, rfl⟩, rfl,
      Step.plain rfl (does_or 49 61 ((v7.2.2 == 0) && (!v13)) ((v9.2 == 0) && ((!v15) || v17))), ⟨⟨rfl, rfl, trivial⟩, trivial, rfl⟩, rfl,
      Step.plain rfl (does_move (.tmp 62) (.bool (((v7.2.2 == 0) && (!v13)) || ((v9.2 == 0) && ((!v15) || v17)))) trivial), ⟨⟨rfl, trivial⟩, trivial, rfl⟩, rfl,
      Step.guarded rfl rfl rfl rfl (fun hc => does_move (.tmp 12) (.int .i64 v11.2.2) trivial), ⟨⟨rfl, rfl, trivial⟩, trivial, rfl⟩, rfl,
      Step.guarded rfl rfl rfl rfl (fun hc => Does.strip (n' := [(64, (.opt (!(((v7.2.2 == 0) && (!v13)) || ((v9.2 == 0) && ((!v15) || v17)))) (.int .i64 v11.2.2)))]) (n := [(64, (.int .i64 v11.2.2))]) ⟨(.opt _ _ hc), trivial⟩ (does_bin .eql 26 26 (.tmp 64) (.const (.int .i64 0)) .i64 v11.2.2 0 (.bool (v11.2.2 == 0)) trivial (fun _ => rfl) (bin_eql _ _ _ _))), ⟨⟨rfl, rfl, trivial⟩, trivial, rfl⟩, rfl,
      Step.guarded rfl rfl rfl rfl (fun hc => Does.strip (n' := [(65, (.opt (!(((v7.2.2 == 0) && (!v13)) || ((v9.2 == 0) && ((!v15) || v17)))) (.bool (v11.2.2 == 0))))]) (n := [(65, (.bool (v11.2.2 == 0)))]) ⟨(.opt _ _ hc), trivial⟩ (does_move (.tmp 65) (.bool (v11.2.2 == 0)) trivial)), ⟨⟨rfl, rfl, trivial⟩, trivial, rfl⟩, rfl,
      Step.guarded rfl rfl rfl rfl (fun hc => does_load 25 10 3 0 [] (.var (e_api_Roster v11.1)) (e_api_Roster v11.1) trivial rfl rfl ty25), ⟨⟨rfl, rfl, trivial⟩, ⟨rfl, trivial⟩, rfl⟩, rfl,
      Step.guarded rfl rfl rfl rfl (fun hc => Does.strip (n' := [(67, (.opt ((!(((v7.2.2 == 0) && (!v13)) || ((v9.2 == 0) && ((!v15) || v17)))) && (v11.2.2 == 0)) (e_api_Roster v11.1)))]) (n := [(67, (e_api_Roster v11.1))]) ⟨(.opt _ _ hc), trivial⟩ (does_call 17 0 (fun _ => .any) (.func 17) [(.tmp 67)] [(e_api_Roster v11.1)] [] true [(e_api_Roster v11.1)] (.bool v19) _ _ rfl fo17 rfl ⟨trivial, trivial⟩ ⟨.data _ (d_api_Roster v11.1), trivial⟩ (roster_May_spec v11.1 _ (h20 hc)) trivial)), ⟨⟨rfl, rfl, trivial⟩, trivial, rfl⟩, rfl,
      Step.guarded rfl rfl rfl rfl (fun hc => Does.strip (n' := [(68, (.opt ((!(((v7.2.2 == 0) && (!v13)) || ((v9.2 == 0) && ((!v15) || v17)))) && (v11.2.2 == 0)) (.bool v19)))]) (n := [(68, (.bool v19))]) ⟨(.opt _ _ hc), trivial⟩ (does_not 4 (.tmp 68) v19 trivial)), ⟨⟨rfl, rfl, trivial⟩, trivial, rfl⟩, rfl,
      Step.guarded rfl rfl rfl rfl (fun hc => Does.strip (n' := [(66, (.opt (!(((v7.2.2 == 0) && (!v13)) || ((v9.2 == 0) && ((!v15) || v17)))) (.bool (v11.2.2 == 0)))), (69, (.opt ((!(((v7.2.2 == 0) && (!v13)) || ((v9.2 == 0) && ((!v15) || v17)))) && (v11.2.2 == 0)) (.bool (!v19))))]) (n := [(66, (.bool (v11.2.2 == 0))), (69, (.opt (v11.2.2 == 0) (.bool (!v19))))]) ⟨(.opt _ _ hc), (.half _ _ hc), trivial⟩ (does_and 66 69 (v11.2.2 == 0) (!v19))), ⟨⟨rfl, rfl, rfl, trivial⟩, trivial, rfl⟩, rfl,
      Step.plain rfl (does_or 63 70 (((v7.2.2 == 0) && (!v13)) || ((v9.2 == 0) && ((!v15) || v17))) ((v11.2.2 == 0) && (!v19))), ⟨⟨rfl, rfl, trivial⟩, trivial, rfl⟩, rfl, rfl⟩ ?_
    obtain ⟨v21, hv21, H⟩ := lt_of H
    refine aw_cov (cov_prune (s1 := ⟨[(1, (.int .u64 p1)), (2, (.ptr 0 0 [])), (5, (.ptr 1 0 [])), (7, (.int .i64 v7.2.2)), (8, (.ptr 2 0 [])), (9, (.int .i64 v9.2)), (10, (.ptr 3 0 [])), (12, (.int .i64 v11.2.2)), (71, (.bool v21))], [(0, some (.var (e_api_Roster p0))), (1, some (.var (e_api_Roster v7.1))), (2, some (.var (e_api_Roster v9.1))), (3, some (.var (e_api_Roster v11.1)))], 4⟩) ⟨rfl, rfl, rfl, rfl, rfl, rfl, rfl, rfl, (by subst hv21; rfl), trivial⟩ ⟨rfl, rfl, rfl, rfl, trivial⟩ (Nat.le_refl _)) ?_
    refine aw_cond rfl (fun hc => ?_) (fun hc => ?_)
    · replace H := ite_t hc H
      refine aw_region (es := [_]) ⟨Step.plain rfl (does_assign (.const (.bool false)) (.bool false) (fun _ => rfl)), ⟨trivial, trivial, rfl⟩, rfl, rfl⟩ ?_
      refine aw_cov (cov_prune (s1 := ⟨[(4, (.bool false))], [], 4⟩) ⟨rfl, trivial⟩ trivial (Nat.le_refl _)) ?_
      refine aw_ret ?_
      refine rt_then ?_
      exact fun a w hr => ⟨_, [(.bool false)], hr, ⟨⟨_, rfl, .data (.bool false) trivial⟩, trivial⟩, by decide, by cases H; rfl⟩
    · replace H := ite_f hc H
      refine aw_skip ?_
      refine nx_seq ?_
      refine aw_seq ?_
      refine aw_region (es := [_, _, _, _, _, _, _, _, _, _, _, _, _, _, _, _, _, _, _, _, _, _, _, _, _]) ⟨Step.plain rfl (does_move (.tmp 7) (.int .i64 v7.2.2) trivial), ⟨⟨rfl, trivial⟩, trivial, rfl⟩, rfl,
        Step.plain rfl (does_bin .eql 26 26 (.tmp 72) (.const (.int .i64 0)) .i64 v7.2.2 0 (.bool (v7.2.2 == 0)) trivial (fun _ => rfl) (bin_eql _ _ _ _)), ⟨⟨rfl, trivial⟩, trivial, rfl⟩, rfl,
        Step.plain rfl (does_move (.tmp 73) (.bool (v7.2.2 == 0)) trivial), ⟨⟨rfl, trivial⟩, trivial, rfl⟩, rfl,
        Step.guarded rfl rfl rfl rfl (fun hc => does_fieldAddr 25 1 1 5 1 0 [] (.var (e_api_Roster v7.1)) fl25_1), ⟨⟨rfl, rfl, trivial⟩, ⟨rfl, trivial⟩, rfl⟩, rfl,
        Step.guarded rfl rfl rfl rfl (fun hc => Does.strip (n' := [(75, (.opt (v7.2.2 == 0) (.ptr 1 (0 + 1) [1])))]) (n := [(75, (.ptr 1 (0 + 1) [1]))]) ⟨(.opt _ _ hc), trivial⟩ (does_load 23 75 1 (0 + 1) [1] (.var (e_api_Roster v7.1)) (e_s_api_Session v7.1.List) ⟨rfl, Nat.le_of_ble_eq_true rfl, trivial⟩ rfl rfl ty23)), ⟨⟨rfl, rfl, trivial⟩, ⟨rfl, trivial⟩, rfl⟩, rfl,
        Step.guarded rfl rfl rfl rfl (fun hc => Does.strip (n' := [(76, (.opt (v7.2.2 == 0) (e_s_api_Session v7.1.List)))]) (n := [(76, (e_s_api_Session v7.1.List))]) ⟨(.opt _ _ hc), trivial⟩ (does_lens 23 2 v7.1.List.length 76 (fun j => (e_api_Session (v7.1.List.getD j z_api_Session))) el23)), ⟨⟨rfl, rfl, trivial⟩, trivial, rfl⟩, rfl,
        Step.guarded rfl rfl rfl rfl (fun hc => does_fieldAddr 25 1 1 2 0 0 [] (.var (e_api_Roster p0)) fl25_1), ⟨⟨rfl, rfl, trivial⟩, ⟨rfl, trivial⟩, rfl⟩, rfl,
        Step.guarded rfl rfl rfl rfl (fun hc => Does.strip (n' := [(78, (.opt (v7.2.2 == 0) (.ptr 0 (0 + 1) [1])))]) (n := [(78, (.ptr 0 (0 + 1) [1]))]) ⟨(.opt _ _ hc), trivial⟩ (does_load 23 78 0 (0 + 1) [1] (.var (e_api_Roster p0)) (e_s_api_Session p0.List) ⟨rfl, Nat.le_of_ble_eq_true rfl, trivial⟩ rfl rfl ty23)), ⟨⟨rfl, rfl, trivial⟩, ⟨rfl, trivial⟩, rfl⟩, rfl,
        Step.guarded rfl rfl rfl rfl (fun hc => Does.strip (n' := [(79, (.opt (v7.2.2 == 0) (e_s_api_Session p0.List)))]) (n := [(79, (e_s_api_Session p0.List))]) ⟨(.opt _ _ hc), trivial⟩ (does_lens 23 2 p0.List.length 79 (fun j => (e_api_Session (p0.List.getD j z_api_Session))) el23)), ⟨⟨rfl, rfl, trivial⟩, trivial, rfl⟩, rfl,
        Step.guarded rfl rfl rfl rfl (fun hc => Does.strip (n' := [(80, (.opt (v7.2.2 == 0) (.int .i64 (p0.List.length : Int))))]) (n := [(80, (.int .i64 (p0.List.length : Int)))]) ⟨(.opt _ _ hc), trivial⟩ (does_bin .add 3 3 (.tmp 80) (.const (.int .i64 1)) .i64 (p0.List.length : Int) 1 (.int .i64 (IntKind.i64.wrap ((p0.List.length : Int) + 1))) trivial (fun _ => rfl) (bin_add _ _ _ _))), ⟨⟨rfl, rfl, trivial⟩, trivial, rfl⟩, rfl,
        Step.guarded rfl rfl rfl rfl (fun hc => Does.strip (n' := [(77, (.opt (v7.2.2 == 0) (.int .i64 (v7.1.List.length : Int)))), (81, (.opt (v7.2.2 == 0) (.int .i64 (IntKind.i64.wrap ((p0.List.length : Int) + 1)))))]) (n := [(77, (.int .i64 (v7.1.List.length : Int))), (81, (.int .i64 (IntKind.i64.wrap ((p0.List.length : Int) + 1))))]) ⟨(.opt _ _ hc), (.opt _ _ hc), trivial⟩ (does_bin .neq 3 3 (.tmp 77) (.tmp 81) .i64 (v7.1.List.length : Int) (IntKind.i64.wrap ((p0.List.length : Int) + 1)) (.bool ((v7.1.List.length : Int) != (IntKind.i64.wrap ((p0.List.length : Int) + 1)))) trivial trivial (bin_neq _ _ _ _))), ⟨⟨rfl, rfl, rfl, trivial⟩, trivial, rfl⟩, rfl,
        Step.plain rfl (does_and 74 82 (v7.2.2 == 0) ((v7.1.List.length : Int) != (IntKind.i64.wrap ((p0.List.length : Int) + 1)))), ⟨⟨rfl, rfl, trivial⟩, trivial, rfl⟩, rfl,
        Step.plain rfl (does_move (.tmp 83) (.bool ((v7.2.2 == 0) && ((v7.1.List.length : Int) != (IntKind.i64.wrap ((p0.List.length : Int) + 1))))) trivial), ⟨⟨rfl, trivial⟩, trivial, rfl⟩, rfl,
        Step.guarded rfl rfl rfl rfl (fun hc => does_move (.tmp 12) (.int .i64 v11.2.2) trivial), ⟨⟨rfl, rfl, trivial⟩, trivial, rfl⟩, rfl,
        Step.guarded rfl rfl rfl rfl (fun hc => Does.strip (n' := [(85, (.opt (!((v7.2.2 == 0) && ((v7.1.List.length : Int) != (IntKind.i64.wrap ((p0.List.length : Int) + 1))))) (.int .i64 v11.2.2)))]) (n := [(85, (.int .i64 v11.2.2))]) ⟨(.opt _ _ hc), trivial⟩ (does_bin .eql 26 26 (.tmp 85) (.const (.int .i64 0)) .i64 v11.2.2 0 (.bool (v11.2.2 == 0)) trivial (fun _ => rfl) (bin_eql _ _ _ _))), ⟨⟨rfl, rfl, trivial⟩, trivial, rfl⟩, rfl,
        Step.guarded rfl rfl rfl rfl (fun hc => Does.strip (n' := [(86, (.opt (!((v7.2.2 == 0) && ((v7.1.List.length : Int) != (IntKind.i64.wrap ((p0.List.length : Int) + 1))))) (.bool (v11.2.2 == 0))))]) (n := [(86, (.bool (v11.2.2 == 0)))]) ⟨(.opt _ _ hc), trivial⟩ (does_move (.tmp 86) (.bool (v11.2.2 == 0)) trivial)), ⟨⟨rfl, rfl, trivial⟩, trivial, rfl⟩, rfl,
        Step.guarded rfl rfl rfl rfl (fun hc => does_fieldAddr 25 1 1 10 3 0 [] (.var (e_api_Roster v11.1)) fl25_1), ⟨⟨rfl, rfl, trivial⟩, ⟨rfl, trivial⟩, rfl⟩, rfl,
        Step.guarded rfl rfl rfl rfl (fun hc => Does.strip (n' := [(88, (.opt ((!((v7.2.2 == 0) && ((v7.1.List.length : Int) != (IntKind.i64.wrap ((p0.List.length : Int) + 1))))) && (v11.2.2 == 0)) (.ptr 3 (0 + 1) [1])))]) (n := [(88, (.ptr 3 (0 + 1) [1]))]) ⟨(.opt _ _ hc), trivial⟩ (does_load 23 88 3 (0 + 1) [1] (.var (e_api_Roster v11.1)) (e_s_api_Session v11.1.List) ⟨rfl, Nat.le_of_ble_eq_true rfl, trivial⟩ rfl rfl ty23)), ⟨⟨rfl, rfl, trivial⟩, ⟨rfl, trivial⟩, rfl⟩, rfl,
        Step.guarded rfl rfl rfl rfl (fun hc => Does.strip (n' := [(89, (.opt ((!((v7.2.2 == 0) && ((v7.1.List.length : Int) != (IntKind.i64.wrap ((p0.List.length : Int) + 1))))) && (v11.2.2 == 0)) (e_s_api_Session v11.1.List)))]) (n := [(89, (e_s_api_Session v11.1.List))]) ⟨(.opt _ _ hc), trivial⟩ (does_lens 23 2 v11.1.List.length 89 (fun j => (e_api_Session (v11.1.List.getD j z_api_Session))) el23)), ⟨⟨rfl, rfl, trivial⟩, trivial, rfl⟩, rfl,
        Step.guarded rfl rfl rfl rfl (fun hc => does_fieldAddr 25 1 1 2 0 0 [] (.var (e_api_Roster p0)) fl25_1), ⟨⟨rfl, rfl, trivial⟩, ⟨rfl, trivial⟩, rfl⟩, rfl,
        Step.guarded rfl rfl rfl rfl (fun hc => Does.strip (n' := [(91, (.opt ((!((v7.2.2 == 0) && ((v7.1.List.length : Int) != (IntKind.i64.wrap ((p0.List.length : Int) + 1))))) && (v11.2.2 == 0)) (.ptr 0 (0 + 1) [1])))]) (n := [(91, (.ptr 0 (0 + 1) [1]))]) ⟨(.opt _ _ hc), trivial⟩ (does_load 23 91 0 (0 + 1) [1] (.var (e_api_Roster p0)) (e_s_api_Session p0.List) ⟨rfl, Nat.le_of_ble_eq_true rfl, trivial⟩ rfl rfl ty23)), ⟨⟨rfl, rfl, trivial⟩, ⟨rfl, trivial⟩, rfl⟩, rfl,
        Step.guarded rfl rfl rfl rfl (fun hc => Does.strip (n' := [(92, (.opt ((!((v7.2.2 == 0) && ((v7.1.List.length : Int) != (IntKind.i64.wrap ((p0.List.length : Int) + 1))))) && (v11.2.2 == 0)) (e_s_api_Session p0.List)))]) (n := [(92, (e_s_api_Session p0.List))]) ⟨(.opt _ _ hc), trivial⟩ (does_lens 23 2 p0.List.length 92 (fun j => (e_api_Session (p0.List.getD j z_api_Session))) el23)), ⟨⟨rfl, rfl, trivial⟩, trivial, rfl⟩, rfl,
        Step.guarded rfl rfl rfl rfl (fun hc => Does.strip (n' := [(90, (.opt ((!((v7.2.2 == 0) && ((v7.1.List.length : Int) != (IntKind.i64.wrap ((p0.List.length : Int) + 1))))) && (v11.2.2 == 0)) (.int .i64 (v11.1.List.length : Int)))), (93, (.opt ((!((v7.2.2 == 0) && ((v7.1.List.length : Int) != (IntKind.i64.wrap ((p0.List.length : Int) + 1))))) && (v11.2.2 == 0)) (.int .i64 (p0.List.length : Int))))]) (n := [(90, (.int .i64 (v11.1.List.length : Int))), (93, (.int .i64 (p0.List.length : Int)))]) ⟨(.opt _ _ hc), (.opt _ _ hc), trivial⟩ (does_bin .neq 3 3 (.tmp 90) (.tmp 93) .i64 (v11.1.List.length : Int) (p0.List.length : Int) (.bool ((v11.1.List.length : Int) != (p0.List.length : Int))) trivial trivial (bin_neq _ _ _ _))), ⟨⟨rfl, rfl, rfl, trivial⟩, trivial, rfl⟩, rfl,
        Step.guarded rfl rfl rfl rfl (fun hc => Does.strip (n' := [(87, (.opt (!((v7.2.2 == 0) && ((v7.1.List.length : Int) != (IntKind.i64.wrap ((p0.List.length : Int) + 1))))) (.bool (v11.2.2 == 0)))), (94, (.opt ((!((v7.2.2 == 0) && ((v7.1.List.length : Int) != (IntKind.i64.wrap ((p0.List.length : Int) + 1))))) && (v11.2.2 == 0)) (.bool ((v11.1.List.length : Int) != (p0.List.length : Int)))))]) (n := [(87, (.bool (v11.2.2 == 0))), (94, (.opt (v11.2.2 == 0) (.bool ((v11.1.List.length : Int) != (p0.List.length : Int)))))]) ⟨(.opt _ _ hc), (.half _ _ hc), trivial⟩ (does_and 87 94 (v11.2.2 == 0) ((v11.1.List.length : Int) != (p0.List.length : Int)))), ⟨⟨rfl, rfl, rfl, trivial⟩, trivial, rfl⟩, rfl,
        Step.plain rfl (does_or 84 95 ((v7.2.2 == 0) && ((v7.1.List.length : Int) != (IntKind.i64.wrap ((p0.List.length : Int) + 1)))) ((v11.2.2 == 0) && ((v11.1.List.length : Int) != (p0.List.length : Int)))), ⟨⟨rfl, rfl, trivial⟩, trivial, rfl⟩, rfl, rfl⟩ ?_
      obtain ⟨v22, hv22, H⟩ := lt_of H
      refine aw_cov (cov_prune (s1 := ⟨[(1, (.int .u64 p1)), (2, (.ptr 0 0 [])), (5, (.ptr 1 0 [])), (7, (.int .i64 v7.2.2)), (8, (.ptr 2 0 [])), (9, (.int .i64 v9.2)), (10, (.ptr 3 0 [])), (12, (.int .i64 v11.2.2)), (96, (.bool v22))], [(0, some (.var (e_api_Roster p0))), (1, some (.var (e_api_Roster v7.1))), (2, some (.var (e_api_Roster v9.1))), (3, some (.var (e_api_Roster v11.1)))], 4⟩) ⟨rfl, rfl, rfl, rfl, rfl, rfl, rfl, rfl, (by subst hv22; rfl), trivial⟩ ⟨rfl, rfl, rfl, rfl, trivial⟩ (Nat.le_refl _)) ?_
      refine aw_cond rfl (fun hc => ?_) (fun hc => ?_)
      · replace H := ite_t hc H
        refine aw_region (es := [_]) ⟨Step.plain rfl (does_assign (.const (.bool false)) (.bool false) (fun _ => rfl)), ⟨trivial, trivial, rfl⟩, rfl, rfl⟩ ?_
        refine aw_cov (cov_prune (s1 := ⟨[(4, (.bool false))], [], 4⟩) ⟨rfl, trivial⟩ trivial (Nat.le_refl _)) ?_
        refine aw_ret ?_
        refine rt_then ?_
        exact fun a w hr => ⟨_, [(.bool false)], hr, ⟨⟨_, rfl, .data (.bool false) trivial⟩, trivial⟩, by decide, by cases H; rfl⟩
      · replace H := ite_f hc H
        refine aw_skip ?_
        refine nx_seq ?_
        refine aw_seq ?_
        refine aw_region (es := [_]) ⟨Step.plain rfl (does_assign (.const (.int .i64 0)) (.int .i64 0) (fun _ => rfl)), ⟨trivial, trivial, rfl⟩, rfl, rfl⟩ ?_
        refine aw_cov (cov_prune (s1 := ⟨[(1, (.int .u64 p1)), (2, (.ptr 0 0 [])), (5, (.ptr 1 0 [])), (7, (.int .i64 v7.2.2)), (8, (.ptr 2 0 [])), (9, (.int .i64 v9.2)), (10, (.ptr 3 0 [])), (12, (.int .i64 v11.2.2)), (13, (.int .i64 0))], [(0, some (.var (e_api_Roster p0))), (1, some (.var (e_api_Roster v7.1))), (2, some (.var (e_api_Roster v9.1))), (3, some (.var (e_api_Roster v11.1)))], 4⟩) ⟨rfl, rfl, rfl, rfl, rfl, rfl, rfl, rfl, rfl, trivial⟩ ⟨rfl, rfl, rfl, rfl, trivial⟩ (Nat.le_refl _)) ?_
        obtain ⟨wn24, hwn24, Hrn24⟩ := bnd H
        refine aw_meet (fun y31 : Unit => (⟨[], [], 4⟩ : St)) (fun y31 => Fl.nx y31 = wn24) (fun y31 hy => ?_) (aw_block (aw_runs (fun x23 : Int => (⟨[(1, (.int .u64 p1)), (2, (.ptr 0 0 [])), (5, (.ptr 1 0 [])), (7, (.int .i64 v7.2.2)), (8, (.ptr 2 0 [])), (9, (.int .i64 v9.2)), (10, (.ptr 3 0 [])), (12, (.int .i64 v11.2.2)), (13, (.int .i64 x23))], [(0, some (.var (e_api_Roster p0))), (1, some (.var (e_api_Roster v7.1))), (2, some (.var (e_api_Roster v9.1))), (3, some (.var (e_api_Roster v11.1)))], 4⟩ : St)) hwn24 (cov_prune ⟨rfl, rfl, rfl, rfl, rfl, rfl, rfl, rfl, rfl, trivial⟩ ⟨rfl, rfl, rfl, rfl, trivial⟩ (Nat.le_of_ble_eq_true rfl)) (fun x23 st H hsn24 => ?_)))
        · have H := nx_of hy Hrn24
          refine nx_seq ?_
          refine aw_region (es := [_]) ⟨Step.plain rfl (does_assign (.const (.bool true)) (.bool true) (fun _ => rfl)), ⟨trivial, trivial, rfl⟩, rfl, rfl⟩ ?_
          refine aw_cov (cov_prune (s1 := ⟨[(4, (.bool true))], [], 4⟩) ⟨rfl, trivial⟩ trivial (Nat.le_refl _)) ?_
          refine aw_ret ?_
          exact fun a w hr => ⟨_, [(.bool true)], hr, ⟨⟨_, rfl, .data (.bool true) trivial⟩, trivial⟩, by decide, by cases H; rfl⟩
        · refine aw_seq ?_
          refine aw_region (es := [_, _, _, _, _]) ⟨Step.plain rfl (does_move (.tmp 13) (.int .i64 x23) trivial), ⟨⟨rfl, trivial⟩, trivial, rfl⟩, rfl,
            Step.plain rfl (does_fieldAddr 25 1 1 2 0 0 [] (.var (e_api_Roster p0)) fl25_1), ⟨⟨rfl, trivial⟩, ⟨rfl, trivial⟩, rfl⟩, rfl,
            Step.plain rfl (does_load 23 98 0 (0 + 1) [1] (.var (e_api_Roster p0)) (e_s_api_Session p0.List) ⟨rfl, Nat.le_of_ble_eq_true rfl, trivial⟩ rfl rfl ty23), ⟨⟨rfl, trivial⟩, ⟨rfl, trivial⟩, rfl⟩, rfl,
            Step.plain rfl (does_lens 23 2 p0.List.length 99 (fun j => (e_api_Session (p0.List.getD j z_api_Session))) el23), ⟨⟨rfl, trivial⟩, trivial, rfl⟩, rfl,
            Step.plain rfl (does_bin .lss 3 3 (.tmp 97) (.tmp 100) .i64 x23 (p0.List.length : Int) (.bool (decide (x23 < (p0.List.length : Int)))) trivial trivial (bin_lss _ _ _ _)), ⟨⟨rfl, rfl, trivial⟩, trivial, rfl⟩, rfl, rfl⟩ ?_
          refine aw_cov (cov_prune (s1 := ⟨[(1, (.int .u64 p1)), (2, (.ptr 0 0 [])), (5, (.ptr 1 0 [])), (7, (.int .i64 v7.2.2)), (8, (.ptr 2 0 [])), (9, (.int .i64 v9.2)), (10, (.ptr 3 0 [])), (12, (.int .i64 v11.2.2)), (13, (.int .i64 x23)), (101, (.bool (decide (x23 < (p0.List.length : Int)))))], [(0, some (.var (e_api_Roster p0))), (1, some (.var (e_api_Roster v7.1))), (2, some (.var (e_api_Roster v9.1))), (3, some (.var (e_api_Roster v11.1)))], 4⟩) ⟨rfl, rfl, rfl, rfl, rfl, rfl, rfl, rfl, rfl, rfl, trivial⟩ ⟨rfl, rfl, rfl, rfl, trivial⟩ (Nat.le_refl _)) ?_
          refine aw_cond rfl (fun hc => ?_) (fun hc => ?_)
          · replace H := ite_t hc H
            refine aw_skip ?_
            refine nx_seq ?_
            refine aw_seq ?_
            refine aw_block ?_
            obtain ⟨h25, H⟩ := ib_of H
            refine aw_region (es := [_, _, _, _, _, _, _]) ⟨Step.plain rfl (does_fieldAddr 25 1 1 2 0 0 [] (.var (e_api_Roster p0)) fl25_1), ⟨⟨rfl, trivial⟩, ⟨rfl, trivial⟩, rfl⟩, rfl,
              Step.plain rfl (does_load 23 104 0 (0 + 1) [1] (.var (e_api_Roster p0)) (e_s_api_Session p0.List) ⟨rfl, Nat.le_of_ble_eq_true rfl, trivial⟩ rfl rfl ty23), ⟨⟨rfl, trivial⟩, ⟨rfl, trivial⟩, rfl⟩, rfl,
              Step.plain rfl (does_move (.tmp 13) (.int .i64 x23) trivial), ⟨⟨rfl, trivial⟩, trivial, rfl⟩, rfl,
              Step.plain rfl (does_indexAddrs 23 2 p0.List.length 105 (fun j => (e_api_Session (p0.List.getD j z_api_Session))) (.tmp 106) .i64 x23 el23 trivial h25.1 h25.2), ⟨⟨rfl, rfl, trivial⟩, trivial, rfl⟩, rfl,
              Step.plain rfl (does_loadc 41 107 (e_api_Session (p0.List.getD x23.toNat z_api_Session)) ty41), ⟨⟨rfl, trivial⟩, trivial, rfl⟩, rfl,
              Step.plain rfl (does_alloc 41 4 (e_api_Session z_api_Session) zr41), ⟨trivial, trivial, rfl⟩, rfl,
              Step.plain rfl (does_store 41 14 (.tmp 108) 4 0 [] (.var (e_api_Session z_api_Session)) (.var (e_api_Session (p0.List.getD x23.toNat z_api_Session))) (e_api_Session (p0.List.getD x23.toNat z_api_Session)) true trivial rfl trivial rfl rfl rfl ty41), ⟨⟨rfl, rfl, trivial⟩, ⟨rfl, trivial⟩, rfl⟩, rfl, rfl⟩ ?_
            refine aw_cov (cov_prune (s1 := ⟨[(1, (.int .u64 p1)), (2, (.ptr 0 0 [])), (5, (.ptr 1 0 [])), (7, (.int .i64 v7.2.2)), (8, (.ptr 2 0 [])), (9, (.int .i64 v9.2)), (10, (.ptr 3 0 [])), (12, (.int .i64 v11.2.2)), (13, (.int .i64 x23)), (14, (.ptr 4 0 []))], [(0, some (.var (e_api_Roster p0))), (1, some (.var (e_api_Roster v7.1))), (2, some (.var (e_api_Roster v9.1))), (3, some (.var (e_api_Roster v11.1))), (4, some (.var (e_api_Session (p0.List.getD x23.toNat z_api_Session))))], 5⟩) ⟨rfl, rfl, rfl, rfl, rfl, rfl, rfl, rfl, rfl, rfl, trivial⟩ ⟨rfl, rfl, rfl, rfl, rfl, trivial⟩ (Nat.le_refl _)) ?_
            obtain ⟨h26, H⟩ := ibg_of H
            obtain ⟨h27, H⟩ := ibg_of H
            obtain ⟨v28, h29, H⟩ := whn_of H
            refine aw_draw (es := [_, _, _, _, _, _, _, _, _, _, _, _, _, _, _, _, _, _, _, _, _, _, _, _, _, _, _, _, _, _, _, _, _, _, _, _, _, _, _, _, _, _, _, _, _, _, _]) (mixed) ⟨Step.plain rfl (does_move (.tmp 7) (.int .i64 v7.2.2) trivial), ⟨⟨rfl, trivial⟩, trivial, rfl⟩, rfl,
              Step.plain rfl (does_bin .eql 26 26 (.tmp 109) (.const (.int .i64 0)) .i64 v7.2.2 0 (.bool (v7.2.2 == 0)) trivial (fun _ => rfl) (bin_eql _ _ _ _)), ⟨⟨rfl, trivial⟩, trivial, rfl⟩, rfl,
              Step.plain rfl (does_move (.tmp 110) (.bool (v7.2.2 == 0)) trivial), ⟨⟨rfl, trivial⟩, trivial, rfl⟩, rfl,
              Step.guarded rfl rfl rfl rfl (fun hc => does_fieldAddr 25 1 1 5 1 0 [] (.var (e_api_Roster v7.1)) fl25_1), ⟨⟨rfl, rfl, trivial⟩, ⟨rfl, trivial⟩, rfl⟩, rfl,
              Step.guarded rfl rfl rfl rfl (fun hc => Does.strip (n' := [(112, (.opt (v7.2.2 == 0) (.ptr 1 (0 + 1) [1])))]) (n := [(112, (.ptr 1 (0 + 1) [1]))]) ⟨(.opt _ _ hc), trivial⟩ (does_load 23 112 1 (0 + 1) [1] (.var (e_api_Roster v7.1)) (e_s_api_Session v7.1.List) ⟨rfl, Nat.le_of_ble_eq_true rfl, trivial⟩ rfl rfl ty23)), ⟨⟨rfl, rfl, trivial⟩, ⟨rfl, trivial⟩, rfl⟩, rfl,
              Step.guarded rfl rfl rfl rfl (fun hc => does_move (.tmp 13) (.int .i64 x23) trivial), ⟨⟨rfl, rfl, trivial⟩, trivial, rfl⟩, rfl,
              Step.guarded rfl rfl rfl rfl (fun hc => Does.strip (n' := [(113, (.opt (v7.2.2 == 0) (e_s_api_Session v7.1.List))), (114, (.opt (v7.2.2 == 0) (.int .i64 x23)))]) (n := [(113, (e_s_api_Session v7.1.List)), (114, (.int .i64 x23))]) ⟨(.opt _ _ hc), (.opt _ _ hc), trivial⟩ (does_indexAddrs 23 2 v7.1.List.length 113 (fun j => (e_api_Session (v7.1.List.getD j z_api_Session))) (.tmp 114) .i64 x23 el23 trivial (h26 hc).1 (h26 hc).2)), ⟨⟨rfl, rfl, rfl, trivial⟩, trivial, rfl⟩, rfl,
              Step.guarded rfl rfl rfl rfl (fun hc => Does.strip (n' := [(115, (.opt (v7.2.2 == 0) (.cptr (e_api_Session (v7.1.List.getD x23.toNat z_api_Session)))))]) (n := [(115, (.cptr (e_api_Session (v7.1.List.getD x23.toNat z_api_Session))))]) ⟨(.opt _ _ hc), trivial⟩ (does_loadc 41 115 (e_api_Session (v7.1.List.getD x23.toNat z_api_Session)) ty41)), ⟨⟨rfl, rfl, trivial⟩, trivial, rfl⟩, rfl,
              Step.guarded rfl rfl rfl rfl (fun hc => does_load 41 14 4 0 [] (.var (e_api_Session (p0.List.getD x23.toNat z_api_Session))) (e_api_Session (p0.List.getD x23.toNat z_api_Session)) trivial rfl rfl ty41), ⟨⟨rfl, rfl, trivial⟩, ⟨rfl, trivial⟩, rfl⟩, rfl,
              Step.guarded rfl rfl rfl rfl (fun hc => Does.strip (n' := [(116, (.opt (v7.2.2 == 0) (e_api_Session (v7.1.List.getD x23.toNat z_api_Session)))), (117, (.opt (v7.2.2 == 0) (e_api_Session (p0.List.getD x23.toNat z_api_Session))))]) (n := [(116, (e_api_Session (v7.1.List.getD x23.toNat z_api_Session))), (117, (e_api_Session (p0.List.getD x23.toNat z_api_Session)))]) ⟨(.opt _ _ hc), (.opt _ _ hc), trivial⟩ (does_eqT true 41 41 (.tmp 116) (.tmp 117) (e_api_Session (v7.1.List.getD x23.toNat z_api_Session)) (e_api_Session (p0.List.getD x23.toNat z_api_Session)) (e_api_Session z_api_Session) (b_api_Session (v7.1.List.getD x23.toNat z_api_Session) (p0.List.getD x23.toNat z_api_Session)) rfl rfl trivial trivial eg41 sh41 (al_api_Session _ _) (al_api_Session _ _) (q_api_Session _ _))), ⟨⟨rfl, rfl, rfl, trivial⟩, trivial, rfl⟩, rfl,
              Step.plain rfl (does_and 111 118 (v7.2.2 == 0) (!(b_api_Session (v7.1.List.getD x23.toNat z_api_Session) (p0.List.getD x23.toNat z_api_Session)))), ⟨⟨rfl, rfl, trivial⟩, trivial, rfl⟩, rfl,
              Step.plain rfl (does_move (.tmp 119) (.bool ((v7.2.2 == 0) && (!(b_api_Session (v7.1.List.getD x23.toNat z_api_Session) (p0.List.getD x23.toNat z_api_Session))))) trivial), ⟨⟨rfl, trivial⟩, trivial, rfl⟩, rfl,
              Step.guarded rfl rfl rfl rfl (fun hc => does_move (.tmp 12) (.int .i64 v11.2.2) trivial), ⟨⟨rfl, rfl, trivial⟩, trivial, rfl⟩, rfl,
              Step.guarded rfl rfl rfl rfl (fun hc => Does.strip (n' := [(121, (.opt (!((v7.2.2 == 0) && (!(b_api_Session (v7.1.List.getD x23.toNat z_api_Session) (p0.List.getD x23.toNat z_api_Session))))) (.int .i64 v11.2.2)))]) (n := [(121, (.int .i64 v11.2.2))]) ⟨(.opt _ _ hc), trivial⟩ (does_bin .eql 26 26 (.tmp 121) (.const (.int .i64 0)) .i64 v11.2.2 0 (.bool (v11.2.2 == 0)) trivial (fun _ => rfl) (bin_eql _ _ _ _))), ⟨⟨rfl, rfl, trivial⟩, trivial, rfl⟩, rfl,
              Step.guarded rfl rfl rfl rfl (fun hc => Does.strip (n' := [(122, (.opt (!((v7.2.2 == 0) && (!(b_api_Session (v7.1.List.getD x23.toNat z_api_Session) (p0.List.getD x23.toNat z_api_Session))))) (.bool (v11.2.2 == 0))))]) (n := [(122, (.bool (v11.2.2 == 0)))]) ⟨(.opt _ _ hc), trivial⟩ (does_move (.tmp 122) (.bool (v11.2.2 == 0)) trivial)), ⟨⟨rfl, rfl, trivial⟩, trivial, rfl⟩, rfl,
              Step.guarded rfl rfl rfl rfl (fun hc => does_fieldAddr 41 0 0 14 4 0 [] (.var (e_api_Session (p0.List.getD x23.toNat z_api_Session))) fl41_0), ⟨⟨rfl, rfl, trivial⟩, ⟨rfl, trivial⟩, rfl⟩, rfl,
              Step.guarded rfl rfl rfl rfl (fun hc => Does.strip (n' := [(124, (.opt ((!((v7.2.2 == 0) && (!(b_api_Session (v7.1.List.getD x23.toNat z_api_Session) (p0.List.getD x23.toNat z_api_Session))))) && (v11.2.2 == 0)) (.ptr 4 (0 + 0) [0])))]) (n := [(124, (.ptr 4 (0 + 0) [0]))]) ⟨(.opt _ _ hc), trivial⟩ (does_load 22 124 4 (0 + 0) [0] (.var (e_api_Session (p0.List.getD x23.toNat z_api_Session))) (.int .u64 ((p0.List.getD x23.toNat z_api_Session).Id)) ⟨rfl, Nat.le_of_ble_eq_true rfl, trivial⟩ rfl rfl ty22)), ⟨⟨rfl, rfl, trivial⟩, ⟨rfl, trivial⟩, rfl⟩, rfl,
              Step.guarded rfl rfl rfl rfl (fun hc => does_move (.tmp 1) (.int .u64 p1) trivial), ⟨⟨rfl, rfl, trivial⟩, trivial, rfl⟩, rfl,
              Step.guarded rfl rfl rfl rfl (fun hc => Does.strip (n' := [(125, (.opt ((!((v7.2.2 == 0) && (!(b_api_Session (v7.1.List.getD x23.toNat z_api_Session) (p0.List.getD x23.toNat z_api_Session))))) && (v11.2.2 == 0)) (.int .u64 ((p0.List.getD x23.toNat z_api_Session).Id)))), (126, (.opt ((!((v7.2.2 == 0) && (!(b_api_Session (v7.1.List.getD x23.toNat z_api_Session) (p0.List.getD x23.toNat z_api_Session))))) && (v11.2.2 == 0)) (.int .u64 p1)))]) (n := [(125, (.int .u64 ((p0.List.getD x23.toNat z_api_Session).Id))), (126, (.int .u64 p1))]) ⟨(.opt _ _ hc), (.opt _ _ hc), trivial⟩ (does_bin .neq 22 22 (.tmp 125) (.tmp 126) .u64 ((p0.List.getD x23.toNat z_api_Session).Id) p1 (.bool (((p0.List.getD x23.toNat z_api_Session).Id) != p1)) trivial trivial (bin_neq _ _ _ _))), ⟨⟨rfl, rfl, rfl, trivial⟩, trivial, rfl⟩, rfl,
              Step.guarded rfl rfl rfl rfl (fun hc => Does.strip (n' := [(123, (.opt (!((v7.2.2 == 0) && (!(b_api_Session (v7.1.List.getD x23.toNat z_api_Session) (p0.List.getD x23.toNat z_api_Session))))) (.bool (v11.2.2 == 0)))), (127, (.opt ((!((v7.2.2 == 0) && (!(b_api_Session (v7.1.List.getD x23.toNat z_api_Session) (p0.List.getD x23.toNat z_api_Session))))) && (v11.2.2 == 0)) (.bool (((p0.List.getD x23.toNat z_api_Session).Id) != p1))))]) (n := [(123, (.bool (v11.2.2 == 0))), (127, (.opt (v11.2.2 == 0) (.bool (((p0.List.getD x23.toNat z_api_Session).Id) != p1))))]) ⟨(.opt _ _ hc), (.half _ _ hc), trivial⟩ (does_and 123 127 (v11.2.2 == 0) (((p0.List.getD x23.toNat z_api_Session).Id) != p1))), ⟨⟨rfl, rfl, rfl, trivial⟩, trivial, rfl⟩, rfl,
              Step.guarded rfl rfl rfl rfl (fun hc => Does.strip (n' := [(128, (.opt (!((v7.2.2 == 0) && (!(b_api_Session (v7.1.List.getD x23.toNat z_api_Session) (p0.List.getD x23.toNat z_api_Session))))) (.bool ((v11.2.2 == 0) && (((p0.List.getD x23.toNat z_api_Session).Id) != p1)))))]) (n := [(128, (.bool ((v11.2.2 == 0) && (((p0.List.getD x23.toNat z_api_Session).Id) != p1))))]) ⟨(.opt _ _ hc), trivial⟩ (does_move (.tmp 128) (.bool ((v11.2.2 == 0) && (((p0.List.getD x23.toNat z_api_Session).Id) != p1))) trivial)), ⟨⟨rfl, rfl, trivial⟩, trivial, rfl⟩, rfl,
              Step.guarded rfl rfl rfl rfl (fun hc => does_fieldAddr 25 1 1 10 3 0 [] (.var (e_api_Roster v11.1)) fl25_1), ⟨⟨rfl, rfl, trivial⟩, ⟨rfl, trivial⟩, rfl⟩, rfl,
              Step.guarded rfl rfl rfl rfl (fun hc => Does.strip (n' := [(130, (.opt ((!((v7.2.2 == 0) && (!(b_api_Session (v7.1.List.getD x23.toNat z_api_Session) (p0.List.getD x23.toNat z_api_Session))))) && ((v11.2.2 == 0) && (((p0.List.getD x23.toNat z_api_Session).Id) != p1))) (.ptr 3 (0 + 1) [1])))]) (n := [(130, (.ptr 3 (0 + 1) [1]))]) ⟨(.opt _ _ hc), trivial⟩ (does_load 23 130 3 (0 + 1) [1] (.var (e_api_Roster v11.1)) (e_s_api_Session v11.1.List) ⟨rfl, Nat.le_of_ble_eq_true rfl, trivial⟩ rfl rfl ty23)), ⟨⟨rfl, rfl, trivial⟩, ⟨rfl, trivial⟩, rfl⟩, rfl,
              Step.guarded rfl rfl rfl rfl (fun hc => does_move (.tmp 13) (.int .i64 x23) trivial), ⟨⟨rfl, rfl, trivial⟩, trivial, rfl⟩, rfl,
              Step.guarded rfl rfl rfl rfl (fun hc => Does.strip (n' := [(131, (.opt ((!((v7.2.2 == 0) && (!(b_api_Session (v7.1.List.getD x23.toNat z_api_Session) (p0.List.getD x23.toNat z_api_Session))))) && ((v11.2.2 == 0) && (((p0.List.getD x23.toNat z_api_Session).Id) != p1))) (e_s_api_Session v11.1.List))), (132, (.opt ((!((v7.2.2 == 0) && (!(b_api_Session (v7.1.List.getD x23.toNat z_api_Session) (p0.List.getD x23.toNat z_api_Session))))) && ((v11.2.2 == 0) && (((p0.List.getD x23.toNat z_api_Session).Id) != p1))) (.int .i64 x23)))]) (n := [(131, (e_s_api_Session v11.1.List)), (132, (.int .i64 x23))]) ⟨(.opt _ _ hc), (.opt _ _ hc), trivial⟩ (does_indexAddrs 23 2 v11.1.List.length 131 (fun j => (e_api_Session (v11.1.List.getD j z_api_Session))) (.tmp 132) .i64 x23 el23 trivial (h27 hc).1 (h27 hc).2)), ⟨⟨rfl, rfl, rfl, trivial⟩, trivial, rfl⟩, rfl,
              Step.guarded rfl rfl rfl rfl (fun hc => Does.strip (n' := [(133, (.opt ((!((v7.2.2 == 0) && (!(b_api_Session (v7.1.List.getD x23.toNat z_api_Session) (p0.List.getD x23.toNat z_api_Session))))) && ((v11.2.2 == 0) && (((p0.List.getD x23.toNat z_api_Session).Id) != p1))) (.cptr (e_api_Session (v11.1.List.getD x23.toNat z_api_Session)))))]) (n := [(133, (.cptr (e_api_Session (v11.1.List.getD x23.toNat z_api_Session))))]) ⟨(.opt _ _ hc), trivial⟩ (does_loadc 41 133 (e_api_Session (v11.1.List.getD x23.toNat z_api_Session)) ty41)), ⟨⟨rfl, rfl, trivial⟩, trivial, rfl⟩, rfl,
              Step.guarded rfl rfl rfl rfl (fun hc => does_load 41 14 4 0 [] (.var (e_api_Session (p0.List.getD x23.toNat z_api_Session))) (e_api_Session (p0.List.getD x23.toNat z_api_Session)) trivial rfl rfl ty41), ⟨⟨rfl, rfl, trivial⟩, ⟨rfl, trivial⟩, rfl⟩, rfl,
              Step.guarded rfl rfl rfl rfl (fun hc => Does.strip (n' := [(134, (.opt ((!((v7.2.2 == 0) && (!(b_api_Session (v7.1.List.getD x23.toNat z_api_Session) (p0.List.getD x23.toNat z_api_Session))))) && ((v11.2.2 == 0) && (((p0.List.getD x23.toNat z_api_Session).Id) != p1))) (e_api_Session (v11.1.List.getD x23.toNat z_api_Session)))), (135, (.opt ((!((v7.2.2 == 0) && (!(b_api_Session (v7.1.List.getD x23.toNat z_api_Session) (p0.List.getD x23.toNat z_api_Session))))) && ((v11.2.2 == 0) && (((p0.List.getD x23.toNat z_api_Session).Id) != p1))) (e_api_Session (p0.List.getD x23.toNat z_api_Session))))]) (n := [(134, (e_api_Session (v11.1.List.getD x23.toNat z_api_Session))), (135, (e_api_Session (p0.List.getD x23.toNat z_api_Session)))]) ⟨(.opt _ _ hc), (.opt _ _ hc), trivial⟩ (does_eqT true 41 41 (.tmp 134) (.tmp 135) (e_api_Session (v11.1.List.getD x23.toNat z_api_Session)) (e_api_Session (p0.List.getD x23.toNat z_api_Session)) (e_api_Session z_api_Session) (b_api_Session (v11.1.List.getD x23.toNat z_api_Session) (p0.List.getD x23.toNat z_api_Session)) rfl rfl trivial trivial eg41 sh41 (al_api_Session _ _) (al_api_Session _ _) (q_api_Session _ _))), ⟨⟨rfl, rfl, rfl, trivial⟩, trivial, rfl⟩, rfl,
              Step.guarded rfl rfl rfl rfl (fun hc => Does.strip (n' := [(129, (.opt (!((v7.2.2 == 0) && (!(b_api_Session (v7.1.List.getD x23.toNat z_api_Session) (p0.List.getD x23.toNat z_api_Session))))) (.bool ((v11.2.2 == 0) && (((p0.List.getD x23.toNat z_api_Session).Id) != p1))))), (136, (.opt ((!((v7.2.2 == 0) && (!(b_api_Session (v7.1.List.getD x23.toNat z_api_Session) (p0.List.getD x23.toNat z_api_Session))))) && ((v11.2.2 == 0) && (((p0.List.getD x23.toNat z_api_Session).Id) != p1))) (.bool (!(b_api_Session (v11.1.List.getD x23.toNat z_api_Session) (p0.List.getD x23.toNat z_api_Session))))))]) (n := [(129, (.bool ((v11.2.2 == 0) && (((p0.List.getD x23.toNat z_api_Session).Id) != p1)))), (136, (.opt ((v11.2.2 == 0) && (((p0.List.getD x23.toNat z_api_Session).Id) != p1)) (.bool (!(b_api_Session (v11.1.List.getD x23.toNat z_api_Session) (p0.List.getD x23.toNat z_api_Session))))))]) ⟨(.opt _ _ hc), (.half _ _ hc), trivial⟩ (does_and 129 136 ((v11.2.2 == 0) && (((p0.List.getD x23.toNat z_api_Session).Id) != p1)) (!(b_api_Session (v11.1.List.getD x23.toNat z_api_Session) (p0.List.getD x23.toNat z_api_Session))))), ⟨⟨rfl, rfl, rfl, trivial⟩, trivial, rfl⟩, rfl,
              Step.plain rfl (does_or 120 137 ((v7.2.2 == 0) && (!(b_api_Session (v7.1.List.getD x23.toNat z_api_Session) (p0.List.getD x23.toNat z_api_Session)))) (((v11.2.2 == 0) && (((p0.List.getD x23.toNat z_api_Session).Id) != p1)) && (!(b_api_Session (v11.1.List.getD x23.toNat z_api_Session) (p0.List.getD x23.toNat z_api_Session))))), ⟨⟨rfl, rfl, trivial⟩, trivial, rfl⟩, rfl,
              Step.plain rfl (does_move (.tmp 138) (.bool (((v7.2.2 == 0) && (!(b_api_Session (v7.1.List.getD x23.toNat z_api_Session) (p0.List.getD x23.toNat z_api_Session)))) || (((v11.2.2 == 0) && (((p0.List.getD x23.toNat z_api_Session).Id) != p1)) && (!(b_api_Session (v11.1.List.getD x23.toNat z_api_Session) (p0.List.getD x23.toNat z_api_Session)))))) trivial), ⟨⟨rfl, trivial⟩, trivial, rfl⟩, rfl,
              Step.guarded rfl rfl rfl rfl (fun hc => does_move (.tmp 9) (.int .i64 v9.2) trivial), ⟨⟨rfl, rfl, trivial⟩, trivial, rfl⟩, rfl,
              Step.guarded rfl rfl rfl rfl (fun hc => Does.strip (n' := [(140, (.opt (!(((v7.2.2 == 0) && (!(b_api_Session (v7.1.List.getD x23.toNat z_api_Session) (p0.List.getD x23.toNat z_api_Session)))) || (((v11.2.2 == 0) && (((p0.List.getD x23.toNat z_api_Session).Id) != p1)) && (!(b_api_Session (v11.1.List.getD x23.toNat z_api_Session) (p0.List.getD x23.toNat z_api_Session)))))) (.int .i64 v9.2)))]) (n := [(140, (.int .i64 v9.2))]) ⟨(.opt _ _ hc), trivial⟩ (does_bin .eql 26 26 (.tmp 140) (.const (.int .i64 0)) .i64 v9.2 0 (.bool (v9.2 == 0)) trivial (fun _ => rfl) (bin_eql _ _ _ _))), ⟨⟨rfl, rfl, trivial⟩, trivial, rfl⟩, rfl,
              Step.guarded rfl rfl rfl rfl (fun hc => Does.strip (n' := [(141, (.opt (!(((v7.2.2 == 0) && (!(b_api_Session (v7.1.List.getD x23.toNat z_api_Session) (p0.List.getD x23.toNat z_api_Session)))) || (((v11.2.2 == 0) && (((p0.List.getD x23.toNat z_api_Session).Id) != p1)) && (!(b_api_Session (v11.1.List.getD x23.toNat z_api_Session) (p0.List.getD x23.toNat z_api_Session)))))) (.bool (v9.2 == 0))))]) (n := [(141, (.bool (v9.2 == 0)))]) ⟨(.opt _ _ hc), trivial⟩ (does_move (.tmp 141) (.bool (v9.2 == 0)) trivial)), ⟨⟨rfl, rfl, trivial⟩, trivial, rfl⟩, rfl,
              Step.guarded rfl rfl rfl rfl (fun hc => does_fieldAddr 41 0 0 14 4 0 [] (.var (e_api_Session (p0.List.getD x23.toNat z_api_Session))) fl41_0), ⟨⟨rfl, rfl, trivial⟩, ⟨rfl, trivial⟩, rfl⟩, rfl,
              Step.guarded rfl rfl rfl rfl (fun hc => Does.strip (n' := [(143, (.opt ((!(((v7.2.2 == 0) && (!(b_api_Session (v7.1.List.getD x23.toNat z_api_Session) (p0.List.getD x23.toNat z_api_Session)))) || (((v11.2.2 == 0) && (((p0.List.getD x23.toNat z_api_Session).Id) != p1)) && (!(b_api_Session (v11.1.List.getD x23.toNat z_api_Session) (p0.List.getD x23.toNat z_api_Session)))))) && (v9.2 == 0)) (.ptr 4 (0 + 0) [0])))]) (n := [(143, (.ptr 4 (0 + 0) [0]))]) ⟨(.opt _ _ hc), trivial⟩ (does_load 22 143 4 (0 + 0) [0] (.var (e_api_Session (p0.List.getD x23.toNat z_api_Session))) (.int .u64 ((p0.List.getD x23.toNat z_api_Session).Id)) ⟨rfl, Nat.le_of_ble_eq_true rfl, trivial⟩ rfl rfl ty22)), ⟨⟨rfl, rfl, trivial⟩, ⟨rfl, trivial⟩, rfl⟩, rfl,
              Step.guarded rfl rfl rfl rfl (fun hc => does_move (.tmp 1) (.int .u64 p1) trivial), ⟨⟨rfl, rfl, trivial⟩, trivial, rfl⟩, rfl,
              Step.guarded rfl rfl rfl rfl (fun hc => Does.strip (n' := [(144, (.opt ((!(((v7.2.2 == 0) && (!(b_api_Session (v7.1.List.getD x23.toNat z_api_Session) (p0.List.getD x23.toNat z_api_Session)))) || (((v11.2.2 == 0) && (((p0.List.getD x23.toNat z_api_Session).Id) != p1)) && (!(b_api_Session (v11.1.List.getD x23.toNat z_api_Session) (p0.List.getD x23.toNat z_api_Session)))))) && (v9.2 == 0)) (.int .u64 ((p0.List.getD x23.toNat z_api_Session).Id)))), (145, (.opt ((!(((v7.2.2 == 0) && (!(b_api_Session (v7.1.List.getD x23.toNat z_api_Session) (p0.List.getD x23.toNat z_api_Session)))) || (((v11.2.2 == 0) && (((p0.List.getD x23.toNat z_api_Session).Id) != p1)) && (!(b_api_Session (v11.1.List.getD x23.toNat z_api_Session) (p0.List.getD x23.toNat z_api_Session)))))) && (v9.2 == 0)) (.int .u64 p1)))]) (n := [(144, (.int .u64 ((p0.List.getD x23.toNat z_api_Session).Id))), (145, (.int .u64 p1))]) ⟨(.opt _ _ hc), (.opt _ _ hc), trivial⟩ (does_bin .neq 22 22 (.tmp 144) (.tmp 145) .u64 ((p0.List.getD x23.toNat z_api_Session).Id) p1 (.bool (((p0.List.getD x23.toNat z_api_Session).Id) != p1)) trivial trivial (bin_neq _ _ _ _))), ⟨⟨rfl, rfl, rfl, trivial⟩, trivial, rfl⟩, rfl,
              Step.guarded rfl rfl rfl rfl (fun hc => Does.strip (n' := [(142, (.opt (!(((v7.2.2 == 0) && (!(b_api_Session (v7.1.List.getD x23.toNat z_api_Session) (p0.List.getD x23.toNat z_api_Session)))) || (((v11.2.2 == 0) && (((p0.List.getD x23.toNat z_api_Session).Id) != p1)) && (!(b_api_Session (v11.1.List.getD x23.toNat z_api_Session) (p0.List.getD x23.toNat z_api_Session)))))) (.bool (v9.2 == 0)))), (146, (.opt ((!(((v7.2.2 == 0) && (!(b_api_Session (v7.1.List.getD x23.toNat z_api_Session) (p0.List.getD x23.toNat z_api_Session)))) || (((v11.2.2 == 0) && (((p0.List.getD x23.toNat z_api_Session).Id) != p1)) && (!(b_api_Session (v11.1.List.getD x23.toNat z_api_Session) (p0.List.getD x23.toNat z_api_Session)))))) && (v9.2 == 0)) (.bool (((p0.List.getD x23.toNat z_api_Session).Id) != p1))))]) (n := [(142, (.bool (v9.2 == 0))), (146, (.opt (v9.2 == 0) (.bool (((p0.List.getD x23.toNat z_api_Session).Id) != p1))))]) ⟨(.opt _ _ hc), (.half _ _ hc), trivial⟩ (does_and 142 146 (v9.2 == 0) (((p0.List.getD x23.toNat z_api_Session).Id) != p1))), ⟨⟨rfl, rfl, rfl, trivial⟩, trivial, rfl⟩, rfl,
              Step.guarded rfl rfl rfl rfl (fun hc => Does.strip (n' := [(147, (.opt (!(((v7.2.2 == 0) && (!(b_api_Session (v7.1.List.getD x23.toNat z_api_Session) (p0.List.getD x23.toNat z_api_Session)))) || (((v11.2.2 == 0) && (((p0.List.getD x23.toNat z_api_Session).Id) != p1)) && (!(b_api_Session (v11.1.List.getD x23.toNat z_api_Session) (p0.List.getD x23.toNat z_api_Session)))))) (.bool ((v9.2 == 0) && (((p0.List.getD x23.toNat z_api_Session).Id) != p1)))))]) (n := [(147, (.bool ((v9.2 == 0) && (((p0.List.getD x23.toNat z_api_Session).Id) != p1))))]) ⟨(.opt _ _ hc), trivial⟩ (does_move (.tmp 147) (.bool ((v9.2 == 0) && (((p0.List.getD x23.toNat z_api_Session).Id) != p1))) trivial)), ⟨⟨rfl, rfl, trivial⟩, trivial, rfl⟩, rfl,
              Step.guarded rfl rfl rfl rfl (fun hc => does_load 25 8 2 0 [] (.var (e_api_Roster v9.1)) (e_api_Roster v9.1) trivial rfl rfl ty25), ⟨⟨rfl, rfl, trivial⟩, ⟨rfl, trivial⟩, rfl⟩, rfl,
              Step.guarded rfl rfl rfl rfl (fun hc => does_fieldAddr 41 0 0 14 4 0 [] (.var (e_api_Session (p0.List.getD x23.toNat z_api_Session))) fl41_0), ⟨⟨rfl, rfl, trivial⟩, ⟨rfl, trivial⟩, rfl⟩, rfl,
              Step.guarded rfl rfl rfl rfl (fun hc => Does.strip (n' := [(150, (.opt ((!(((v7.2.2 == 0) && (!(b_api_Session (v7.1.List.getD x23.toNat z_api_Session) (p0.List.getD x23.toNat z_api_Session)))) || (((v11.2.2 == 0) && (((p0.List.getD x23.toNat z_api_Session).Id) != p1)) && (!(b_api_Session (v11.1.List.getD x23.toNat z_api_Session) (p0.List.getD x23.toNat z_api_Session)))))) && ((v9.2 == 0) && (((p0.List.getD x23.toNat z_api_Session).Id) != p1))) (.ptr 4 (0 + 0) [0])))]) (n := [(150, (.ptr 4 (0 + 0) [0]))]) ⟨(.opt _ _ hc), trivial⟩ (does_load 22 150 4 (0 + 0) [0] (.var (e_api_Session (p0.List.getD x23.toNat z_api_Session))) (.int .u64 ((p0.List.getD x23.toNat z_api_Session).Id)) ⟨rfl, Nat.le_of_ble_eq_true rfl, trivial⟩ rfl rfl ty22)), ⟨⟨rfl, rfl, trivial⟩, ⟨rfl, trivial⟩, rfl⟩, rfl,
              Step.guarded rfl rfl rfl rfl (fun hc => Does.strip (n' := [(149, (.opt ((!(((v7.2.2 == 0) && (!(b_api_Session (v7.1.List.getD x23.toNat z_api_Session) (p0.List.getD x23.toNat z_api_Session)))) || (((v11.2.2 == 0) && (((p0.List.getD x23.toNat z_api_Session).Id) != p1)) && (!(b_api_Session (v11.1.List.getD x23.toNat z_api_Session) (p0.List.getD x23.toNat z_api_Session)))))) && ((v9.2 == 0) && (((p0.List.getD x23.toNat z_api_Session).Id) != p1))) (e_api_Roster v9.1))), (151, (.opt ((!(((v7.2.2 == 0) && (!(b_api_Session (v7.1.List.getD x23.toNat z_api_Session) (p0.List.getD x23.toNat z_api_Session)))) || (((v11.2.2 == 0) && (((p0.List.getD x23.toNat z_api_Session).Id) != p1)) && (!(b_api_Session (v11.1.List.getD x23.toNat z_api_Session) (p0.List.getD x23.toNat z_api_Session)))))) && ((v9.2 == 0) && (((p0.List.getD x23.toNat z_api_Session).Id) != p1))) (.int .u64 ((p0.List.getD x23.toNat z_api_Session).Id))))]) (n := [(149, (e_api_Roster v9.1)), (151, (.int .u64 ((p0.List.getD x23.toNat z_api_Session).Id)))]) ⟨(.opt _ _ hc), (.opt _ _ hc), trivial⟩ (does_call 15 0 (fun _ => .any) (.func 15) [(.tmp 149), (.tmp 151)] [(e_api_Roster v9.1), (.int .u64 ((p0.List.getD x23.toNat z_api_Session).Id))] [] true [(e_api_Roster v9.1), (.int .u64 ((p0.List.getD x23.toNat z_api_Session).Id))] (.bool v28) _ _ rfl fo15 rfl ⟨trivial, trivial, trivial⟩ ⟨.data _ (d_api_Roster v9.1), .data _ trivial, trivial⟩ (roster_Has_spec v9.1 ((p0.List.getD x23.toNat z_api_Session).Id) _ (h29 hc)) trivial)), ⟨⟨rfl, rfl, rfl, trivial⟩, trivial, rfl⟩, rfl,
              Step.guarded rfl rfl rfl rfl (fun hc => Does.strip (n' := [(152, (.opt ((!(((v7.2.2 == 0) && (!(b_api_Session (v7.1.List.getD x23.toNat z_api_Session) (p0.List.getD x23.toNat z_api_Session)))) || (((v11.2.2 == 0) && (((p0.List.getD x23.toNat z_api_Session).Id) != p1)) && (!(b_api_Session (v11.1.List.getD x23.toNat z_api_Session) (p0.List.getD x23.toNat z_api_Session)))))) && ((v9.2 == 0) && (((p0.List.getD x23.toNat z_api_Session).Id) != p1))) (.bool v28)))]) (n := [(152, (.bool v28))]) ⟨(.opt _ _ hc), trivial⟩ (does_not 4 (.tmp 152) v28 trivial)), ⟨⟨rfl, rfl, trivial⟩, trivial, rfl⟩, rfl,
              Step.guarded rfl rfl rfl rfl (fun hc => Does.strip (n' := [(148, (.opt (!(((v7.2.2 == 0) && (!(b_api_Session (v7.1.List.getD x23.toNat z_api_Session) (p0.List.getD x23.toNat z_api_Session)))) || (((v11.2.2 == 0) && (((p0.List.getD x23.toNat z_api_Session).Id) != p1)) && (!(b_api_Session (v11.1.List.getD x23.toNat z_api_Session) (p0.List.getD x23.toNat z_api_Session)))))) (.bool ((v9.2 == 0) && (((p0.List.getD x23.toNat z_api_Session).Id) != p1))))), (153, (.opt ((!(((v7.2.2 == 0) && (!(b_api_Session (v7.1.List.getD x23.toNat z_api_Session) (p0.List.getD x23.toNat z_api_Session)))) || (((v11.2.2 == 0) && (((p0.List.getD x23.toNat z_api_Session).Id) != p1)) && (!(b_api_Session (v11.1.List.getD x23.toNat z_api_Session) (p0.List.getD x23.toNat z_api_Session)))))) && ((v9.2 == 0) && (((p0.List.getD x23.toNat z_api_Session).Id) != p1))) (.bool (!v28))))]) (n := [(148, (.bool ((v9.2 == 0) && (((p0.List.getD x23.toNat z_api_Session).Id) != p1)))), (153, (.opt ((v9.2 == 0) && (((p0.List.getD x23.toNat z_api_Session).Id) != p1)) (.bool (!v28))))]) ⟨(.opt _ _ hc), (.half _ _ hc), trivial⟩ (does_and 148 153 ((v9.2 == 0) && (((p0.List.getD x23.toNat z_api_Session).Id) != p1)) (!v28))), ⟨⟨rfl, rfl, rfl, trivial⟩, trivial, rfl⟩, rfl,
              Step.plain rfl (does_or 139 154 (((v7.2.2 == 0) && (!(b_api_Session (v7.1.List.getD x23.toNat z_api_Session) (p0.List.getD x23.toNat z_api_Session)))) || (((v11.2.2 == 0) && (((p0.List.getD x23.toNat z_api_Session).Id) != p1)) && (!(b_api_Session (v11.1.List.getD x23.toNat z_api_Session) (p0.List.getD x23.toNat z_api_Session))))) (((v9.2 == 0) && (((p0.List.getD x23.toNat z_api_Session).Id) != p1)) && (!v28))), ⟨⟨rfl, rfl, trivial⟩, trivial, rfl⟩, rfl, rfl⟩ rfl ?_
            obtain ⟨v30, hv30, H⟩ := lt_of H
            refine aw_cov (cov_prune (s1 := ⟨[(1, (.int .u64 p1)), (2, (.ptr 0 0 [])), (5, (.ptr 1 0 [])), (7, (.int .i64 v7.2.2)), (8, (.ptr 2 0 [])), (9, (.int .i64 v9.2)), (10, (.ptr 3 0 [])), (12, (.int .i64 v11.2.2)), (13, (.int .i64 x23)), (155, (.bool v30))], [(0, some (.var (e_api_Roster p0))), (1, some (.var (e_api_Roster v7.1))), (2, some (.var (e_api_Roster v9.1))), (3, some (.var (e_api_Roster v11.1)))], 5⟩) ⟨rfl, rfl, rfl, rfl, rfl, rfl, rfl, rfl, rfl, (by subst hv30; rfl), trivial⟩ ⟨rfl, rfl, rfl, rfl, trivial⟩ (Nat.le_refl _)) ?_
            refine aw_cond rfl (fun hc => ?_) (fun hc => ?_)
            · replace H := ite_t hc H
              refine aw_region (es := [_]) ⟨Step.plain rfl (does_assign (.const (.bool false)) (.bool false) (fun _ => rfl)), ⟨trivial, trivial, rfl⟩, rfl, rfl⟩ ?_
              refine aw_cov (cov_prune (s1 := ⟨[(4, (.bool false))], [], 5⟩) ⟨rfl, trivial⟩ trivial (Nat.le_refl _)) ?_
              refine aw_ret ?_
              replace H := rt_of H hsn24 Hrn24
              refine rt_blk ?_
              refine rt_then ?_
              refine rt_then ?_
              refine rt_blk ?_
              refine rt_then ?_
              refine rt_then ?_
              exact fun a w hr => ⟨_, [(.bool false)], hr, ⟨⟨_, rfl, .data (.bool false) trivial⟩, trivial⟩, by decide, by cases H; rfl⟩
            · replace H := ite_f hc H
              refine aw_skip ?_
              refine nx_blk ?_
              refine nx_seq ?_
              refine aw_region1 (es := [_, _, _]) ⟨Step.plain rfl (does_move (.tmp 13) (.int .i64 x23) trivial), ⟨⟨rfl, trivial⟩, trivial, rfl⟩, rfl,
                Step.plain rfl (does_bin .add 3 3 (.tmp 102) (.const (.int .i64 1)) .i64 x23 1 (.int .i64 (IntKind.i64.wrap (x23 + 1))) trivial (fun _ => rfl) (bin_add _ _ _ _)), ⟨⟨rfl, trivial⟩, trivial, rfl⟩, rfl,
                Step.plain rfl (does_assign (.tmp 103) (.int .i64 (IntKind.i64.wrap (x23 + 1))) trivial), ⟨⟨rfl, trivial⟩, trivial, rfl⟩, rfl, rfl⟩ ?_
              exact nx_loop ((IntKind.i64.wrap (x23 + 1))) H (cov_of (fun i => match i with | 0 => 0 | 1 => 1 | 2 => 2 | 3 => 3 | k => k) ⟨⟨_, rfl, ⟨rfl, trivial⟩⟩, ⟨_, rfl, ⟨rfl, Nat.le_of_ble_eq_true rfl⟩⟩, ⟨_, rfl, ⟨rfl, Nat.le_of_ble_eq_true rfl⟩⟩, ⟨_, rfl, ⟨rfl, trivial⟩⟩, ⟨_, rfl, ⟨rfl, Nat.le_of_ble_eq_true rfl⟩⟩, ⟨_, rfl, ⟨rfl, trivial⟩⟩, ⟨_, rfl, ⟨rfl, Nat.le_of_ble_eq_true rfl⟩⟩, ⟨_, rfl, ⟨rfl, trivial⟩⟩, ⟨_, rfl, ⟨rfl, trivial⟩⟩, trivial⟩ ⟨⟨Nat.le_of_ble_eq_true rfl, _, _, rfl, rfl, .inl ⟨rfl, (d_api_Roster _).plain⟩⟩, ⟨Nat.le_of_ble_eq_true rfl, _, _, rfl, rfl, .inl ⟨rfl, (d_api_Roster _).plain⟩⟩, ⟨Nat.le_of_ble_eq_true rfl, _, _, rfl, rfl, .inl ⟨rfl, (d_api_Roster _).plain⟩⟩, ⟨Nat.le_of_ble_eq_true rfl, _, _, rfl, rfl, .inl ⟨rfl, (d_api_Roster _).plain⟩⟩, trivial⟩ rfl)
          · replace H := ite_f hc H
            refine aw_exit ?_
            refine ex_then ?_
            refine ex_then ?_
            refine ex_here ?_
            exact nx_ljoin () H hsn24 (cov_prune trivial trivial (Nat.le_of_ble_eq_true rfl))

theorem congresslaw17_RosterFull_spec (p0 : Int) (r : Bool) (H : congresslaw17_RosterFull p0 = some r) : FSpec Try.prog 6 [(.int .u64 p0)] (.bool r) := by
  refine spec_of (fn := Try.f6) (args := [(.int .u64 p0)]) Try.func6 rfl (Nat.le_of_ble_eq_true rfl) ?_
  rintro ⟨G, w0, W, S, Sp⟩ hG
  cases hG
  unfold congresslaw17_RosterFull at H
  refine aw_region (es := [_]) ⟨Step.plain rfl (does_assign (.const (.bool false)) (.bool false) (fun _ => rfl)), ⟨trivial, trivial, rfl⟩, rfl, rfl⟩ ?_
  refine aw_cov (cov_prune (s1 := ⟨[(0, (.int .u64 p0))], [], 0⟩) ⟨rfl, trivial⟩ trivial (Nat.le_refl _)) ?_
  refine aw_region (es := [_, _, _]) ⟨Step.plain rfl (does_buildT 25 #[] [] [] (.st [1, 1]) (c_api_Roster z_api_Roster) (c_api_Roster ({ Last := 0, List := [] } : api_Roster)) rfl bo25 trivial trivial (by funext j; match j with | 0 => rfl | 1 => rfl | _ + 2 => rfl)), ⟨trivial, trivial, rfl⟩, rfl,
    Step.plain rfl (does_alloc 25 0 (e_api_Roster z_api_Roster) zr25), ⟨trivial, trivial, rfl⟩, rfl,
    Step.plain rfl (does_store 25 3 (.tmp 19) 0 0 [] (.var (e_api_Roster z_api_Roster)) (.var (e_api_Roster ({ Last := 0, List := [] } : api_Roster))) (e_api_Roster ({ Last := 0, List := [] } : api_Roster)) true trivial rfl trivial rfl rfl rfl ty25), ⟨⟨rfl, rfl, trivial⟩, ⟨rfl, trivial⟩, rfl⟩, rfl, rfl⟩ ?_
  refine aw_cov (cov_prune (s1 := ⟨[(0, (.int .u64 p0)), (3, (.ptr 0 0 []))], [(0, some (.var (e_api_Roster ({ Last := 0, List := [] } : api_Roster))))], 1⟩) ⟨rfl, rfl, trivial⟩ ⟨rfl, trivial⟩ (Nat.le_refl _)) ?_
  refine aw_seq ?_
  refine aw_region (es := [_]) ⟨Step.plain rfl (does_assign (.const (.int .i64 0)) (.int .i64 0) (fun _ => rfl)), ⟨trivial, trivial, rfl⟩, rfl, rfl⟩ ?_
  refine aw_cov (cov_prune (s1 := ⟨[(0, (.int .u64 p0)), (3, (.ptr 0 0 [])), (4, (.int .i64 0))], [(0, some (.var (e_api_Roster ({ Last := 0, List := [] } : api_Roster))))], 1⟩) ⟨rfl, rfl, rfl, trivial⟩ ⟨rfl, trivial⟩ (Nat.le_refl _)) ?_
  obtain ⟨wn2, hwn2, Hrn2⟩ := bnd H
  refine aw_meet (fun y6 : api_Roster => (⟨[(0, (.int .u64 p0)), (3, (.ptr 0 0 []))], [(0, some (.var (e_api_Roster y6)))], 1⟩ : St)) (fun y6 => Fl.nx y6 = wn2) (fun y6 hy => ?_) (aw_block (aw_runs (fun x1 : Int × api_Roster => (⟨[(0, (.int .u64 p0)), (3, (.ptr 0 0 [])), (4, (.int .i64 x1.1))], [(0, some (.var (e_api_Roster x1.2)))], 1⟩ : St)) hwn2 (cov_prune ⟨rfl, rfl, rfl, trivial⟩ ⟨rfl, trivial⟩ (Nat.le_of_ble_eq_true rfl)) (fun x1 st H hsn2 => ?_)))
  · have H := nx_of hy Hrn2
    refine nx_seq ?_
    obtain ⟨v7, h8, H⟩ := bnd H
    refine aw_region (es := [_, _, _, _, _, _, _, _, _, _]) ⟨Step.plain rfl (does_load 25 3 0 0 [] (.var (e_api_Roster y6)) (e_api_Roster y6) trivial rfl rfl ty25), ⟨⟨rfl, trivial⟩, ⟨rfl, trivial⟩, rfl⟩, rfl,
      Step.plain rfl (does_call 7 0 (fun _ => .any) (.func 7) [(.tmp 41)] [(e_api_Roster y6)] [] false [(e_api_Roster y6)] (resV [(e_api_Roster v7.1), (.int .u64 v7.2.1), (.int .i64 v7.2.2)]) _ _ rfl fo7 rfl ⟨trivial, trivial⟩ ⟨.data _ (d_api_Roster y6), trivial⟩ (roster_Open_spec y6 _ h8) (res_data3 (d_api_Roster v7.1) trivial trivial)), ⟨⟨rfl, trivial⟩, trivial, rfl⟩, rfl,
      Step.plain rfl (does_move (.tmp 42) (resV [(e_api_Roster v7.1), (.int .u64 v7.2.1), (.int .i64 v7.2.2)]) trivial), ⟨⟨rfl, trivial⟩, trivial, rfl⟩, rfl,
      Step.plain rfl (does_extract 40 0 3 (fun j => [(e_api_Roster v7.1), (.int .u64 v7.2.1), (.int .i64 v7.2.2)].getD j (.bool false)) (Nat.le_of_ble_eq_true rfl)), ⟨⟨rfl, trivial⟩, trivial, rfl⟩, rfl,
      Step.plain rfl (does_extract 40 1 3 (fun j => [(e_api_Roster v7.1), (.int .u64 v7.2.1), (.int .i64 v7.2.2)].getD j (.bool false)) (Nat.le_of_ble_eq_true rfl)), ⟨⟨rfl, trivial⟩, trivial, rfl⟩, rfl,
      Step.plain rfl (does_extract 40 2 3 (fun j => [(e_api_Roster v7.1), (.int .u64 v7.2.1), (.int .i64 v7.2.2)].getD j (.bool false)) (Nat.le_of_ble_eq_true rfl)), ⟨⟨rfl, trivial⟩, trivial, rfl⟩, rfl,
      Step.plain rfl (does_alloc 25 1 (e_api_Roster z_api_Roster) zr25), ⟨trivial, trivial, rfl⟩, rfl,
      Step.plain rfl (does_store 25 8 (.tmp 43) 1 0 [] (.var (e_api_Roster z_api_Roster)) (.var (e_api_Roster v7.1)) (e_api_Roster v7.1) true trivial rfl trivial rfl rfl rfl ty25), ⟨⟨rfl, rfl, trivial⟩, ⟨rfl, trivial⟩, rfl⟩, rfl,
      Step.plain rfl (does_assign (.tmp 44) (.int .u64 v7.2.1) trivial), ⟨⟨rfl, trivial⟩, trivial, rfl⟩, rfl,
      Step.plain rfl (does_assign (.tmp 45) (.int .i64 v7.2.2) trivial), ⟨⟨rfl, trivial⟩, trivial, rfl⟩, rfl, rfl⟩ ?_
    refine aw_cov (cov_prune (s1 := ⟨[(0, (.int .u64 p0)), (3, (.ptr 0 0 [])), (10, (.int .i64 v7.2.2))], [(0, some (.var (e_api_Roster y6)))], 2⟩) ⟨rfl, rfl, rfl, trivial⟩ ⟨rfl, trivial⟩ (Nat.le_refl _)) ?_
    obtain ⟨v9, h10, H⟩ := bnd H
    refine aw_region (es := [_, _, _, _, _, _, _, _, _]) ⟨Step.plain rfl (does_load 25 3 0 0 [] (.var (e_api_Roster y6)) (e_api_Roster y6) trivial rfl rfl ty25), ⟨⟨rfl, trivial⟩, ⟨rfl, trivial⟩, rfl⟩, rfl,
      Step.plain rfl (does_move (.tmp 0) (.int .u64 p0) trivial), ⟨⟨rfl, trivial⟩, trivial, rfl⟩, rfl,
      Step.plain rfl (does_call 9 0 (fun _ => .any) (.func 9) [(.tmp 47), (.tmp 48)] [(e_api_Roster y6), (.int .u64 p0)] [] false [(e_api_Roster y6), (.int .u64 p0)] (resV [(e_api_Roster v9.1), (.int .i64 v9.2)]) _ _ rfl fo9 rfl ⟨trivial, trivial, trivial⟩ ⟨.data _ (d_api_Roster y6), .data _ trivial, trivial⟩ (roster_Close_spec y6 p0 _ h10) (res_data2 (d_api_Roster v9.1) trivial)), ⟨⟨rfl, rfl, trivial⟩, trivial, rfl⟩, rfl,
      Step.plain rfl (does_move (.tmp 49) (resV [(e_api_Roster v9.1), (.int .i64 v9.2)]) trivial), ⟨⟨rfl, trivial⟩, trivial, rfl⟩, rfl,
      Step.plain rfl (does_extract 46 0 2 (fun j => [(e_api_Roster v9.1), (.int .i64 v9.2)].getD j (.bool false)) (Nat.le_of_ble_eq_true rfl)), ⟨⟨rfl, trivial⟩, trivial, rfl⟩, rfl,
      Step.plain rfl (does_extract 46 1 2 (fun j => [(e_api_Roster v9.1), (.int .i64 v9.2)].getD j (.bool false)) (Nat.le_of_ble_eq_true rfl)), ⟨⟨rfl, trivial⟩, trivial, rfl⟩, rfl,
      Step.plain rfl (does_alloc 25 2 (e_api_Roster z_api_Roster) zr25), ⟨trivial, trivial, rfl⟩, rfl,
      Step.plain rfl (does_store 25 11 (.tmp 50) 2 0 [] (.var (e_api_Roster z_api_Roster)) (.var (e_api_Roster v9.1)) (e_api_Roster v9.1) true trivial rfl trivial rfl rfl rfl ty25), ⟨⟨rfl, rfl, trivial⟩, ⟨rfl, trivial⟩, rfl⟩, rfl,
      Step.plain rfl (does_assign (.tmp 51) (.int .i64 v9.2) trivial), ⟨⟨rfl, trivial⟩, trivial, rfl⟩, rfl, rfl⟩ ?_
    refine aw_cov (cov_prune (s1 := ⟨[(0, (.int .u64 p0)), (10, (.int .i64 v7.2.2)), (11, (.ptr 2 0 [])), (12, (.int .i64 v9.2))], [(2, some (.var (e_api_Roster v9.1)))], 3⟩) ⟨rfl, rfl, rfl, rfl, trivial⟩ ⟨rfl, trivial⟩ (Nat.le_refl _)) ?_
    refine aw_seq ?_
    obtain ⟨v11, h12, H⟩ := bnd H
    refine aw_region (es := [_, _, _, _, _, _, _, _, _, _, _, _, _, _, _, _, _]) ⟨Step.plain rfl (does_call 13 0 (fun _ => .any) (.func 13) [] [] [] true [] (.bool v11) _ _ rfl fo13 rfl trivial trivial (congresslaw17_fixed_spec _ h12) trivial), ⟨trivial, trivial, rfl⟩, rfl,
      Step.plain rfl (does_not 4 (.tmp 52) v11 trivial), ⟨⟨rfl, trivial⟩, trivial, rfl⟩, rfl,
      Step.plain rfl (does_move (.tmp 53) (.bool (!v11)) trivial), ⟨⟨rfl, trivial⟩, trivial, rfl⟩, rfl,
      Step.guarded rfl rfl rfl rfl (fun hc => does_move (.tmp 10) (.int .i64 v7.2.2) trivial), ⟨⟨rfl, rfl, trivial⟩, trivial, rfl⟩, rfl,
      Step.guarded rfl rfl rfl rfl (fun hc => Does.strip (n' := [(55, (.opt (!(!v11)) (.int .i64 v7.2.2)))]) (n := [(55, (.int .i64 v7.2.2))]) ⟨(.opt _ _ hc), trivial⟩ (does_bin .neq 26 26 (.tmp 55) (.const (.int .i64 161)) .i64 v7.2.2 161 (.bool (v7.2.2 != 161)) trivial (fun _ => rfl) (bin_neq _ _ _ _))), ⟨⟨rfl, rfl, trivial⟩, trivial, rfl⟩, rfl,
      Step.plain rfl (does_or 54 56 (!v11) (v7.2.2 != 161)), ⟨⟨rfl, rfl, trivial⟩, trivial, rfl⟩, rfl,
      Step.plain rfl (does_move (.tmp 57) (.bool ((!v11) || (v7.2.2 != 161))) trivial), ⟨⟨rfl, trivial⟩, trivial, rfl⟩, rfl,
      Step.guarded rfl rfl rfl rfl (fun hc => does_move (.tmp 12) (.int .i64 v9.2) trivial), ⟨⟨rfl, rfl, trivial⟩, trivial, rfl⟩, rfl,
      Step.guarded rfl rfl rfl rfl (fun hc => Does.strip (n' := [(59, (.opt (!((!v11) || (v7.2.2 != 161))) (.int .i64 v9.2)))]) (n := [(59, (.int .i64 v9.2))]) ⟨(.opt _ _ hc), trivial⟩ (does_bin .eql 26 26 (.tmp 59) (.const (.int .i64 0)) .i64 v9.2 0 (.bool (v9.2 == 0)) trivial (fun _ => rfl) (bin_eql _ _ _ _))), ⟨⟨rfl, rfl, trivial⟩, trivial, rfl⟩, rfl,
      Step.guarded rfl rfl rfl rfl (fun hc => does_move (.tmp 0) (.int .u64 p0) trivial), ⟨⟨rfl, rfl, trivial⟩, trivial, rfl⟩, rfl,
      Step.guarded rfl rfl rfl rfl (fun hc => Does.strip (n' := [(61, (.opt (!((!v11) || (v7.2.2 != 161))) (.int .u64 p0)))]) (n := [(61, (.int .u64 p0))]) ⟨(.opt _ _ hc), trivial⟩ (does_bin .geq 22 22 (.tmp 61) (.const (.int .u64 1)) .u64 p0 1 (.bool (decide (p0 ≥ 1))) trivial (fun _ => rfl) (bin_geq _ _ _ _))), ⟨⟨rfl, rfl, trivial⟩, trivial, rfl⟩, rfl,
      Step.guarded rfl rfl rfl rfl (fun hc => Does.strip (n' := [(62, (.opt (!((!v11) || (v7.2.2 != 161))) (.bool (decide (p0 ≥ 1)))))]) (n := [(62, (.bool (decide (p0 ≥ 1))))]) ⟨(.opt _ _ hc), trivial⟩ (does_move (.tmp 62) (.bool (decide (p0 ≥ 1))) trivial)), ⟨⟨rfl, rfl, trivial⟩, trivial, rfl⟩, rfl,
      Step.guarded rfl rfl rfl rfl (fun hc => does_move (.tmp 0) (.int .u64 p0) trivial), ⟨⟨rfl, rfl, trivial⟩, trivial, rfl⟩, rfl,
      Step.guarded rfl rfl rfl rfl (fun hc => Does.strip (n' := [(64, (.opt ((!((!v11) || (v7.2.2 != 161))) && (decide (p0 ≥ 1))) (.int .u64 p0)))]) (n := [(64, (.int .u64 p0))]) ⟨(.opt _ _ hc), trivial⟩ (does_bin .leq 22 22 (.tmp 64) (.const (.int .u64 4)) .u64 p0 4 (.bool (decide (p0 ≤ 4))) trivial (fun _ => rfl) (bin_leq _ _ _ _))), ⟨⟨rfl, rfl, trivial⟩, trivial, rfl⟩, rfl,
      Step.guarded rfl rfl rfl rfl (fun hc => Does.strip (n' := [(63, (.opt (!((!v11) || (v7.2.2 != 161))) (.bool (decide (p0 ≥ 1))))), (65, (.opt ((!((!v11) || (v7.2.2 != 161))) && (decide (p0 ≥ 1))) (.bool (decide (p0 ≤ 4)))))]) (n := [(63, (.bool (decide (p0 ≥ 1)))), (65, (.opt (decide (p0 ≥ 1)) (.bool (decide (p0 ≤ 4)))))]) ⟨(.opt _ _ hc), (.half _ _ hc), trivial⟩ (does_and 63 65 (decide (p0 ≥ 1)) (decide (p0 ≤ 4)))), ⟨⟨rfl, rfl, rfl, trivial⟩, trivial, rfl⟩, rfl,
      Step.guarded rfl rfl rfl rfl (fun hc => Does.strip (n' := [(60, (.opt (!((!v11) || (v7.2.2 != 161))) (.bool (v9.2 == 0)))), (66, (.opt (!((!v11) || (v7.2.2 != 161))) (.bool ((decide (p0 ≥ 1)) && (decide (p0 ≤ 4))))))]) (n := [(60, (.bool (v9.2 == 0))), (66, (.bool ((decide (p0 ≥ 1)) && (decide (p0 ≤ 4)))))]) ⟨(.opt _ _ hc), (.opt _ _ hc), trivial⟩ (does_eqBool true 4 4 (.tmp 60) (.tmp 66) (v9.2 == 0) ((decide (p0 ≥ 1)) && (decide (p0 ≤ 4))) trivial trivial rfl)), ⟨⟨rfl, rfl, rfl, trivial⟩, trivial, rfl⟩, rfl,
      Step.plain rfl (does_or 58 67 ((!v11) || (v7.2.2 != 161)) ((v9.2 == 0) != ((decide (p0 ≥ 1)) && (decide (p0 ≤ 4))))), ⟨⟨rfl, rfl, trivial⟩, trivial, rfl⟩, rfl, rfl⟩ ?_
    obtain ⟨v13, hv13, H⟩ := lt_of H
    refine aw_cov (cov_prune (s1 := ⟨[(0, (.int .u64 p0)), (11, (.ptr 2 0 [])), (12, (.int .i64 v9.2)), (68, (.bool v13))], [(2, some (.var (e_api_Roster v9.1)))], 3⟩) ⟨rfl, rfl, rfl, (by subst hv13; rfl), trivial⟩ ⟨rfl, trivial⟩ (Nat.le_refl _)) ?_
    refine aw_cond rfl (fun hc => ?_) (fun hc => ?_)
    · replace H := ite_t hc H
      refine aw_region (es := [_]) ⟨Step.plain rfl (does_assign (.const (.bool false)) (.bool false) (fun _ => rfl)), ⟨trivial, trivial, rfl⟩, rfl, rfl⟩ ?_
      refine aw_cov (cov_prune (s1 := ⟨[(2, (.bool false))], [], 3⟩) ⟨rfl, trivial⟩ trivial (Nat.le_refl _)) ?_
      refine aw_ret ?_
      refine rt_then ?_
      exact fun a w hr => ⟨_, [(.bool false)], hr, ⟨⟨_, rfl, .data (.bool false) trivial⟩, trivial⟩, by decide, by cases H; rfl⟩
    · replace H := ite_f hc H
      refine aw_skip ?_
      refine nx_seq ?_
      refine aw_seq ?_
      refine aw_region (es := [_, _]) ⟨Step.plain rfl (does_move (.tmp 12) (.int .i64 v9.2) trivial), ⟨⟨rfl, trivial⟩, trivial, rfl⟩, rfl,
        Step.plain rfl (does_bin .neq 26 26 (.tmp 69) (.const (.int .i64 0)) .i64 v9.2 0 (.bool (v9.2 != 0)) trivial (fun _ => rfl) (bin_neq _ _ _ _)), ⟨⟨rfl, trivial⟩, trivial, rfl⟩, rfl, rfl⟩ ?_
      refine aw_cov (cov_prune (s1 := ⟨[(0, (.int .u64 p0)), (11, (.ptr 2 0 [])), (70, (.bool (v9.2 != 0)))], [(2, some (.var (e_api_Roster v9.1)))], 3⟩) ⟨rfl, rfl, rfl, trivial⟩ ⟨rfl, trivial⟩ (Nat.le_refl _)) ?_
      refine aw_cond rfl (fun hc => ?_) (fun hc => ?_)
      · replace H := ite_t hc H
        refine aw_region (es := [_]) ⟨Step.plain rfl (does_assign (.const (.bool true)) (.bool true) (fun _ => rfl)), ⟨trivial, trivial, rfl⟩, rfl, rfl⟩ ?_
        refine aw_cov (cov_prune (s1 := ⟨[(2, (.bool true))], [], 3⟩) ⟨rfl, trivial⟩ trivial (Nat.le_refl _)) ?_
        refine aw_ret ?_
        refine rt_then ?_
        exact fun a w hr => ⟨_, [(.bool true)], hr, ⟨⟨_, rfl, .data (.bool true) trivial⟩, trivial⟩, by decide, by cases H; rfl⟩
      · replace H := ite_f hc H
        refine aw_skip ?_
        refine nx_seq ?_
        obtain ⟨v14, h15, H⟩ := bnd H
        refine aw_region (es := [_, _, _, _, _, _, _, _, _, _]) ⟨Step.plain rfl (does_load 25 11 2 0 [] (.var (e_api_Roster v9.1)) (e_api_Roster v9.1) trivial rfl rfl ty25), ⟨⟨rfl, trivial⟩, ⟨rfl, trivial⟩, rfl⟩, rfl,
          Step.plain rfl (does_call 7 0 (fun _ => .any) (.func 7) [(.tmp 72)] [(e_api_Roster v9.1)] [] false [(e_api_Roster v9.1)] (resV [(e_api_Roster v14.1), (.int .u64 v14.2.1), (.int .i64 v14.2.2)]) _ _ rfl fo7 rfl ⟨trivial, trivial⟩ ⟨.data _ (d_api_Roster v9.1), trivial⟩ (roster_Open_spec v9.1 _ h15) (res_data3 (d_api_Roster v14.1) trivial trivial)), ⟨⟨rfl, trivial⟩, trivial, rfl⟩, rfl,
          Step.plain rfl (does_move (.tmp 73) (resV [(e_api_Roster v14.1), (.int .u64 v14.2.1), (.int .i64 v14.2.2)]) trivial), ⟨⟨rfl, trivial⟩, trivial, rfl⟩, rfl,
          Step.plain rfl (does_extract 71 0 3 (fun j => [(e_api_Roster v14.1), (.int .u64 v14.2.1), (.int .i64 v14.2.2)].getD j (.bool false)) (Nat.le_of_ble_eq_true rfl)), ⟨⟨rfl, trivial⟩, trivial, rfl⟩, rfl,
          Step.plain rfl (does_extract 71 1 3 (fun j => [(e_api_Roster v14.1), (.int .u64 v14.2.1), (.int .i64 v14.2.2)].getD j (.bool false)) (Nat.le_of_ble_eq_true rfl)), ⟨⟨rfl, trivial⟩, trivial, rfl⟩, rfl,
          Step.plain rfl (does_extract 71 2 3 (fun j => [(e_api_Roster v14.1), (.int .u64 v14.2.1), (.int .i64 v14.2.2)].getD j (.bool false)) (Nat.le_of_ble_eq_true rfl)), ⟨⟨rfl, trivial⟩, trivial, rfl⟩, rfl,
          Step.plain rfl (does_alloc 25 3 (e_api_Roster z_api_Roster) zr25), ⟨trivial, trivial, rfl⟩, rfl,
          Step.plain rfl (does_store 25 13 (.tmp 74) 3 0 [] (.var (e_api_Roster z_api_Roster)) (.var (e_api_Roster v14.1)) (e_api_Roster v14.1) true trivial rfl trivial rfl rfl rfl ty25), ⟨⟨rfl, rfl, trivial⟩, ⟨rfl, trivial⟩, rfl⟩, rfl,
          Step.plain rfl (does_assign (.tmp 75) (.int .u64 v14.2.1) trivial), ⟨⟨rfl, trivial⟩, trivial, rfl⟩, rfl,
          Step.plain rfl (does_assign (.tmp 76) (.int .i64 v14.2.2) trivial), ⟨⟨rfl, trivial⟩, trivial, rfl⟩, rfl, rfl⟩ ?_
        refine aw_cov (cov_prune (s1 := ⟨[(0, (.int .u64 p0)), (13, (.ptr 3 0 [])), (14, (.int .u64 v14.2.1)), (15, (.int .i64 v14.2.2))], [(3, some (.var (e_api_Roster v14.1)))], 4⟩) ⟨rfl, rfl, rfl, rfl, trivial⟩ ⟨rfl, trivial⟩ (Nat.le_refl _)) ?_
        obtain ⟨v16, h17, H⟩ := bnd H
        refine aw_region (es := [_, _, _, _, _, _, _, _, _, _]) ⟨Step.plain rfl (does_load 25 13 3 0 [] (.var (e_api_Roster v14.1)) (e_api_Roster v14.1) trivial rfl rfl ty25), ⟨⟨rfl, trivial⟩, ⟨rfl, trivial⟩, rfl⟩, rfl,
          Step.plain rfl (does_call 7 0 (fun _ => .any) (.func 7) [(.tmp 78)] [(e_api_Roster v14.1)] [] false [(e_api_Roster v14.1)] (resV [(e_api_Roster v16.1), (.int .u64 v16.2.1), (.int .i64 v16.2.2)]) _ _ rfl fo7 rfl ⟨trivial, trivial⟩ ⟨.data _ (d_api_Roster v14.1), trivial⟩ (roster_Open_spec v14.1 _ h17) (res_data3 (d_api_Roster v16.1) trivial trivial)), ⟨⟨rfl, trivial⟩, trivial, rfl⟩, rfl,
          Step.plain rfl (does_move (.tmp 79) (resV [(e_api_Roster v16.1), (.int .u64 v16.2.1), (.int .i64 v16.2.2)]) trivial), ⟨⟨rfl, trivial⟩, trivial, rfl⟩, rfl,
          Step.plain rfl (does_extract 77 0 3 (fun j => [(e_api_Roster v16.1), (.int .u64 v16.2.1), (.int .i64 v16.2.2)].getD j (.bool false)) (Nat.le_of_ble_eq_true rfl)), ⟨⟨rfl, trivial⟩, trivial, rfl⟩, rfl,
          Step.plain rfl (does_extract 77 1 3 (fun j => [(e_api_Roster v16.1), (.int .u64 v16.2.1), (.int .i64 v16.2.2)].getD j (.bool false)) (Nat.le_of_ble_eq_true rfl)), ⟨⟨rfl, trivial⟩, trivial, rfl⟩, rfl,
          Step.plain rfl (does_extract 77 2 3 (fun j => [(e_api_Roster v16.1), (.int .u64 v16.2.1), (.int .i64 v16.2.2)].getD j (.bool false)) (Nat.le_of_ble_eq_true rfl)), ⟨⟨rfl, trivial⟩, trivial, rfl⟩, rfl,
          Step.plain rfl (does_alloc 25 4 (e_api_Roster z_api_Roster) zr25), ⟨trivial, trivial, rfl⟩, rfl,
          Step.plain rfl (does_store 25 16 (.tmp 80) 4 0 [] (.var (e_api_Roster z_api_Roster)) (.var (e_api_Roster v16.1)) (e_api_Roster v16.1) true trivial rfl trivial rfl rfl rfl ty25), ⟨⟨rfl, rfl, trivial⟩, ⟨rfl, trivial⟩, rfl⟩, rfl,
          Step.plain rfl (does_assign (.tmp 81) (.int .u64 v16.2.1) trivial), ⟨⟨rfl, trivial⟩, trivial, rfl⟩, rfl,
          Step.plain rfl (does_assign (.tmp 82) (.int .i64 v16.2.2) trivial), ⟨⟨rfl, trivial⟩, trivial, rfl⟩, rfl, rfl⟩ ?_
        refine aw_cov (cov_prune (s1 := ⟨[(0, (.int .u64 p0)), (13, (.ptr 3 0 [])), (14, (.int .u64 v14.2.1)), (15, (.int .i64 v14.2.2)), (18, (.int .i64 v16.2.2))], [(3, some (.var (e_api_Roster v14.1)))], 5⟩) ⟨rfl, rfl, rfl, rfl, rfl, trivial⟩ ⟨rfl, trivial⟩ (Nat.le_refl _)) ?_
        obtain ⟨v18, h19, H⟩ := whn_of H
        obtain ⟨v20, h21, H⟩ := whn_of H
        refine aw_region (es := [_, _, _, _, _, _, _, _, _, _, _, _, _, _, _, _, _, _, _, _, _]) ⟨Step.plain rfl (does_move (.tmp 15) (.int .i64 v14.2.2) trivial), ⟨⟨rfl, trivial⟩, trivial, rfl⟩, rfl,
          Step.plain rfl (does_bin .eql 26 26 (.tmp 83) (.const (.int .i64 0)) .i64 v14.2.2 0 (.bool (v14.2.2 == 0)) trivial (fun _ => rfl) (bin_eql _ _ _ _)), ⟨⟨rfl, trivial⟩, trivial, rfl⟩, rfl,
          Step.plain rfl (does_move (.tmp 84) (.bool (v14.2.2 == 0)) trivial), ⟨⟨rfl, trivial⟩, trivial, rfl⟩, rfl,
          Step.guarded rfl rfl rfl rfl (fun hc => does_move (.tmp 14) (.int .u64 v14.2.1) trivial), ⟨⟨rfl, rfl, trivial⟩, trivial, rfl⟩, rfl,
          Step.guarded rfl rfl rfl rfl (fun hc => Does.strip (n' := [(86, (.opt (v14.2.2 == 0) (.int .u64 v14.2.1)))]) (n := [(86, (.int .u64 v14.2.1))]) ⟨(.opt _ _ hc), trivial⟩ (does_bin .eql 22 22 (.tmp 86) (.const (.int .u64 5)) .u64 v14.2.1 5 (.bool (v14.2.1 == 5)) trivial (fun _ => rfl) (bin_eql _ _ _ _))), ⟨⟨rfl, rfl, trivial⟩, trivial, rfl⟩, rfl,
          Step.plain rfl (does_and 85 87 (v14.2.2 == 0) (v14.2.1 == 5)), ⟨⟨rfl, rfl, trivial⟩, trivial, rfl⟩, rfl,
          Step.plain rfl (does_move (.tmp 88) (.bool ((v14.2.2 == 0) && (v14.2.1 == 5))) trivial), ⟨⟨rfl, trivial⟩, trivial, rfl⟩, rfl,
          Step.guarded rfl rfl rfl rfl (fun hc => does_move (.tmp 18) (.int .i64 v16.2.2) trivial), ⟨⟨rfl, rfl, trivial⟩, trivial, rfl⟩, rfl,
          Step.guarded rfl rfl rfl rfl (fun hc => Does.strip (n' := [(90, (.opt ((v14.2.2 == 0) && (v14.2.1 == 5)) (.int .i64 v16.2.2)))]) (n := [(90, (.int .i64 v16.2.2))]) ⟨(.opt _ _ hc), trivial⟩ (does_bin .eql 26 26 (.tmp 90) (.const (.int .i64 161)) .i64 v16.2.2 161 (.bool (v16.2.2 == 161)) trivial (fun _ => rfl) (bin_eql _ _ _ _))), ⟨⟨rfl, rfl, trivial⟩, trivial, rfl⟩, rfl,
          Step.plain rfl (does_and 89 91 ((v14.2.2 == 0) && (v14.2.1 == 5)) (v16.2.2 == 161)), ⟨⟨rfl, rfl, trivial⟩, trivial, rfl⟩, rfl,
          Step.plain rfl (does_move (.tmp 92) (.bool (((v14.2.2 == 0) && (v14.2.1 == 5)) && (v16.2.2 == 161))) trivial), ⟨⟨rfl, trivial⟩, trivial, rfl⟩, rfl,
          Step.guarded rfl rfl rfl rfl (fun hc => does_load 25 13 3 0 [] (.var (e_api_Roster v14.1)) (e_api_Roster v14.1) trivial rfl rfl ty25), ⟨⟨rfl, rfl, trivial⟩, ⟨rfl, trivial⟩, rfl⟩, rfl,
          Step.guarded rfl rfl rfl rfl (fun hc => does_move (.tmp 0) (.int .u64 p0) trivial), ⟨⟨rfl, rfl, trivial⟩, trivial, rfl⟩, rfl,
          Step.guarded rfl rfl rfl rfl (fun hc => Does.strip (n' := [(94, (.opt (((v14.2.2 == 0) && (v14.2.1 == 5)) && (v16.2.2 == 161)) (e_api_Roster v14.1))), (95, (.opt (((v14.2.2 == 0) && (v14.2.1 == 5)) && (v16.2.2 == 161)) (.int .u64 p0)))]) (n := [(94, (e_api_Roster v14.1)), (95, (.int .u64 p0))]) ⟨(.opt _ _ hc), (.opt _ _ hc), trivial⟩ (does_call 15 0 (fun _ => .any) (.func 15) [(.tmp 94), (.tmp 95)] [(e_api_Roster v14.1), (.int .u64 p0)] [] true [(e_api_Roster v14.1), (.int .u64 p0)] (.bool v18) _ _ rfl fo15 rfl ⟨trivial, trivial, trivial⟩ ⟨.data _ (d_api_Roster v14.1), .data _ trivial, trivial⟩ (roster_Has_spec v14.1 p0 _ (h19 hc)) trivial)), ⟨⟨rfl, rfl, rfl, trivial⟩, trivial, rfl⟩, rfl,
          Step.guarded rfl rfl rfl rfl (fun hc => Does.strip (n' := [(96, (.opt (((v14.2.2 == 0) && (v14.2.1 == 5)) && (v16.2.2 == 161)) (.bool v18)))]) (n := [(96, (.bool v18))]) ⟨(.opt _ _ hc), trivial⟩ (does_not 4 (.tmp 96) v18 trivial)), ⟨⟨rfl, rfl, trivial⟩, trivial, rfl⟩, rfl,
          Step.plain rfl (does_and 93 97 (((v14.2.2 == 0) && (v14.2.1 == 5)) && (v16.2.2 == 161)) (!v18)), ⟨⟨rfl, rfl, trivial⟩, trivial, rfl⟩, rfl,
          Step.plain rfl (does_move (.tmp 98) (.bool ((((v14.2.2 == 0) && (v14.2.1 == 5)) && (v16.2.2 == 161)) && (!v18))) trivial), ⟨⟨rfl, trivial⟩, trivial, rfl⟩, rfl,
          Step.guarded rfl rfl rfl rfl (fun hc => does_load 25 13 3 0 [] (.var (e_api_Roster v14.1)) (e_api_Roster v14.1) trivial rfl rfl ty25), ⟨⟨rfl, rfl, trivial⟩, ⟨rfl, trivial⟩, rfl⟩, rfl,
          Step.guarded rfl rfl rfl rfl (fun hc => Does.strip (n' := [(100, (.opt ((((v14.2.2 == 0) && (v14.2.1 == 5)) && (v16.2.2 == 161)) && (!v18)) (e_api_Roster v14.1)))]) (n := [(100, (e_api_Roster v14.1))]) ⟨(.opt _ _ hc), trivial⟩ (does_call 15 0 (fun _ => .any) (.func 15) [(.tmp 100), (.const (.int .u64 5))] [(e_api_Roster v14.1), (.int .u64 5)] [] true [(e_api_Roster v14.1), (.int .u64 5)] (.bool v20) _ _ rfl fo15 rfl ⟨trivial, (fun _ => rfl), trivial⟩ ⟨.data _ (d_api_Roster v14.1), .data _ trivial, trivial⟩ (roster_Has_spec v14.1 5 _ (h21 hc)) trivial)), ⟨⟨rfl, rfl, trivial⟩, trivial, rfl⟩, rfl,
          Step.plain rfl (does_and 99 101 ((((v14.2.2 == 0) && (v14.2.1 == 5)) && (v16.2.2 == 161)) && (!v18)) v20), ⟨⟨rfl, rfl, trivial⟩, trivial, rfl⟩, rfl,
          Step.plain rfl (does_assign (.tmp 102) (.bool (((((v14.2.2 == 0) && (v14.2.1 == 5)) && (v16.2.2 == 161)) && (!v18)) && v20)) trivial), ⟨⟨rfl, trivial⟩, trivial, rfl⟩, rfl, rfl⟩ ?_
        obtain ⟨v22, hv22, H⟩ := lt_of H
        refine aw_cov (cov_prune (s1 := ⟨[(2, (.bool v22))], [], 5⟩) ⟨(by subst hv22; rfl), trivial⟩ trivial (Nat.le_refl _)) ?_
        refine aw_ret ?_
        exact fun a w hr => ⟨_, [(.bool v22)], hr, ⟨⟨_, rfl, .data (.bool v22) trivial⟩, trivial⟩, by decide, by cases H; rfl⟩
  · refine aw_seq ?_
    refine aw_region (es := [_, _]) ⟨Step.plain rfl (does_move (.tmp 4) (.int .i64 x1.1) trivial), ⟨⟨rfl, trivial⟩, trivial, rfl⟩, rfl,
      Step.plain rfl (does_bin .lss 3 3 (.tmp 20) (.const (.int .i64 4)) .i64 x1.1 4 (.bool (decide (x1.1 < 4))) trivial (fun _ => rfl) (bin_lss _ _ _ _)), ⟨⟨rfl, trivial⟩, trivial, rfl⟩, rfl, rfl⟩ ?_
    refine aw_cov (cov_prune (s1 := ⟨[(0, (.int .u64 p0)), (3, (.ptr 0 0 [])), (4, (.int .i64 x1.1)), (21, (.bool (decide (x1.1 < 4))))], [(0, some (.var (e_api_Roster x1.2)))], 1⟩) ⟨rfl, rfl, rfl, rfl, trivial⟩ ⟨rfl, trivial⟩ (Nat.le_refl _)) ?_
    refine aw_cond rfl (fun hc => ?_) (fun hc => ?_)
    · replace H := ite_t hc H
      refine aw_skip ?_
      refine nx_seq ?_
      refine aw_seq ?_
      refine aw_block ?_
      obtain ⟨v3, h4, H⟩ := bnd H
      refine aw_region (es := [_, _, _, _, _, _, _, _, _, _]) ⟨Step.plain rfl (does_load 25 3 0 0 [] (.var (e_api_Roster x1.2)) (e_api_Roster x1.2) trivial rfl rfl ty25), ⟨⟨rfl, trivial⟩, ⟨rfl, trivial⟩, rfl⟩, rfl,
        Step.plain rfl (does_call 7 0 (fun _ => .any) (.func 7) [(.tmp 25)] [(e_api_Roster x1.2)] [] false [(e_api_Roster x1.2)] (resV [(e_api_Roster v3.1), (.int .u64 v3.2.1), (.int .i64 v3.2.2)]) _ _ rfl fo7 rfl ⟨trivial, trivial⟩ ⟨.data _ (d_api_Roster x1.2), trivial⟩ (roster_Open_spec x1.2 _ h4) (res_data3 (d_api_Roster v3.1) trivial trivial)), ⟨⟨rfl, trivial⟩, trivial, rfl⟩, rfl,
        Step.plain rfl (does_move (.tmp 26) (resV [(e_api_Roster v3.1), (.int .u64 v3.2.1), (.int .i64 v3.2.2)]) trivial), ⟨⟨rfl, trivial⟩, trivial, rfl⟩, rfl,
        Step.plain rfl (does_extract 24 0 3 (fun j => [(e_api_Roster v3.1), (.int .u64 v3.2.1), (.int .i64 v3.2.2)].getD j (.bool false)) (Nat.le_of_ble_eq_true rfl)), ⟨⟨rfl, trivial⟩, trivial, rfl⟩, rfl,
        Step.plain rfl (does_extract 24 1 3 (fun j => [(e_api_Roster v3.1), (.int .u64 v3.2.1), (.int .i64 v3.2.2)].getD j (.bool false)) (Nat.le_of_ble_eq_true rfl)), ⟨⟨rfl, trivial⟩, trivial, rfl⟩, rfl,
        Step.plain rfl (does_extract 24 2 3 (fun j => [(e_api_Roster v3.1), (.int .u64 v3.2.1), (.int .i64 v3.2.2)].getD j (.bool false)) (Nat.le_of_ble_eq_true rfl)), ⟨⟨rfl, trivial⟩, trivial, rfl⟩, rfl,
        Step.plain rfl (does_alloc 25 1 (e_api_Roster z_api_Roster) zr25), ⟨trivial, trivial, rfl⟩, rfl,
        Step.plain rfl (does_store 25 5 (.tmp 27) 1 0 [] (.var (e_api_Roster z_api_Roster)) (.var (e_api_Roster v3.1)) (e_api_Roster v3.1) true trivial rfl trivial rfl rfl rfl ty25), ⟨⟨rfl, rfl, trivial⟩, ⟨rfl, trivial⟩, rfl⟩, rfl,
        Step.plain rfl (does_assign (.tmp 28) (.int .u64 v3.2.1) trivial), ⟨⟨rfl, trivial⟩, trivial, rfl⟩, rfl,
        Step.plain rfl (does_assign (.tmp 29) (.int .i64 v3.2.2) trivial), ⟨⟨rfl, trivial⟩, trivial, rfl⟩, rfl, rfl⟩ ?_
      refine aw_cov (cov_prune (s1 := ⟨[(0, (.int .u64 p0)), (3, (.ptr 0 0 [])), (4, (.int .i64 x1.1)), (5, (.ptr 1 0 [])), (6, (.int .u64 v3.2.1)), (7, (.int .i64 v3.2.2))], [(0, some (.var (e_api_Roster x1.2))), (1, some (.var (e_api_Roster v3.1)))], 2⟩) ⟨rfl, rfl, rfl, rfl, rfl, rfl, trivial⟩ ⟨rfl, rfl, trivial⟩ (Nat.le_refl _)) ?_
      refine aw_seq ?_
      refine aw_region (es := [_, _, _, _, _, _, _, _, _]) ⟨Step.plain rfl (does_move (.tmp 7) (.int .i64 v3.2.2) trivial), ⟨⟨rfl, trivial⟩, trivial, rfl⟩, rfl,
        Step.plain rfl (does_bin .neq 26 26 (.tmp 30) (.const (.int .i64 0)) .i64 v3.2.2 0 (.bool (v3.2.2 != 0)) trivial (fun _ => rfl) (bin_neq _ _ _ _)), ⟨⟨rfl, trivial⟩, trivial, rfl⟩, rfl,
        Step.plain rfl (does_move (.tmp 31) (.bool (v3.2.2 != 0)) trivial), ⟨⟨rfl, trivial⟩, trivial, rfl⟩, rfl,
        Step.guarded rfl rfl rfl rfl (fun hc => does_move (.tmp 6) (.int .u64 v3.2.1) trivial), ⟨⟨rfl, rfl, trivial⟩, trivial, rfl⟩, rfl,
        Step.guarded rfl rfl rfl rfl (fun hc => does_move (.tmp 4) (.int .i64 x1.1) trivial), ⟨⟨rfl, rfl, trivial⟩, trivial, rfl⟩, rfl,
        Step.guarded rfl rfl rfl rfl (fun hc => Does.strip (n' := [(34, (.opt (!(v3.2.2 != 0)) (.int .i64 x1.1)))]) (n := [(34, (.int .i64 x1.1))]) ⟨(.opt _ _ hc), trivial⟩ (does_bin .add 3 3 (.tmp 34) (.const (.int .i64 1)) .i64 x1.1 1 (.int .i64 (IntKind.i64.wrap (x1.1 + 1))) trivial (fun _ => rfl) (bin_add _ _ _ _))), ⟨⟨rfl, rfl, trivial⟩, trivial, rfl⟩, rfl,
        Step.guarded rfl rfl rfl rfl (fun hc => Does.strip (n' := [(35, (.opt (!(v3.2.2 != 0)) (.int .i64 (IntKind.i64.wrap (x1.1 + 1)))))]) (n := [(35, (.int .i64 (IntKind.i64.wrap (x1.1 + 1))))]) ⟨(.opt _ _ hc), trivial⟩ (does_convInt 3 22 (.tmp 35) .i64 .u64 (IntKind.i64.wrap (x1.1 + 1)) trivial rfl rfl)), ⟨⟨rfl, rfl, trivial⟩, trivial, rfl⟩, rfl,
        Step.guarded rfl rfl rfl rfl (fun hc => Does.strip (n' := [(33, (.opt (!(v3.2.2 != 0)) (.int .u64 v3.2.1))), (36, (.opt (!(v3.2.2 != 0)) (.int .u64 (IntKind.u64.wrap ((IntKind.i64.wrap (x1.1 + 1)))))))]) (n := [(33, (.int .u64 v3.2.1)), (36, (.int .u64 (IntKind.u64.wrap ((IntKind.i64.wrap (x1.1 + 1))))))]) ⟨(.opt _ _ hc), (.opt _ _ hc), trivial⟩ (does_bin .neq 22 22 (.tmp 33) (.tmp 36) .u64 v3.2.1 (IntKind.u64.wrap ((IntKind.i64.wrap (x1.1 + 1)))) (.bool (v3.2.1 != (IntKind.u64.wrap ((IntKind.i64.wrap (x1.1 + 1)))))) trivial trivial (bin_neq _ _ _ _))), ⟨⟨rfl, rfl, rfl, trivial⟩, trivial, rfl⟩, rfl,
        Step.plain rfl (does_or 32 37 (v3.2.2 != 0) (v3.2.1 != (IntKind.u64.wrap ((IntKind.i64.wrap (x1.1 + 1)))))), ⟨⟨rfl, rfl, trivial⟩, trivial, rfl⟩, rfl, rfl⟩ ?_
      obtain ⟨v5, hv5, H⟩ := lt_of H
      refine aw_cov (cov_prune (s1 := ⟨[(0, (.int .u64 p0)), (3, (.ptr 0 0 [])), (4, (.int .i64 x1.1)), (5, (.ptr 1 0 [])), (38, (.bool v5))], [(0, some (.var (e_api_Roster x1.2))), (1, some (.var (e_api_Roster v3.1)))], 2⟩) ⟨rfl, rfl, rfl, rfl, (by subst hv5; rfl), trivial⟩ ⟨rfl, rfl, trivial⟩ (Nat.le_refl _)) ?_
      refine aw_cond rfl (fun hc => ?_) (fun hc => ?_)
      · replace H := ite_t hc H
        refine aw_region (es := [_]) ⟨Step.plain rfl (does_assign (.const (.bool false)) (.bool false) (fun _ => rfl)), ⟨trivial, trivial, rfl⟩, rfl, rfl⟩ ?_
        refine aw_cov (cov_prune (s1 := ⟨[(2, (.bool false))], [], 2⟩) ⟨rfl, trivial⟩ trivial (Nat.le_refl _)) ?_
        refine aw_ret ?_
        replace H := rt_of H hsn2 Hrn2
        refine rt_then ?_
        refine rt_blk ?_
        refine rt_then ?_
        refine rt_then ?_
        refine rt_blk ?_
        refine rt_then ?_
        refine rt_then ?_
        exact fun a w hr => ⟨_, [(.bool false)], hr, ⟨⟨_, rfl, .data (.bool false) trivial⟩, trivial⟩, by decide, by cases H; rfl⟩
      · replace H := ite_f hc H
        refine aw_skip ?_
        refine nx_seq ?_
        refine aw_region1 (es := [_, _]) ⟨Step.plain rfl (does_load 25 5 1 0 [] (.var (e_api_Roster v3.1)) (e_api_Roster v3.1) trivial rfl rfl ty25), ⟨⟨rfl, trivial⟩, ⟨rfl, trivial⟩, rfl⟩, rfl,
          Step.plain rfl (does_store 25 3 (.tmp 39) 0 0 [] (.var (e_api_Roster x1.2)) (.var (e_api_Roster v3.1)) (e_api_Roster v3.1) true trivial rfl trivial rfl rfl rfl ty25), ⟨⟨rfl, rfl, trivial⟩, ⟨rfl, trivial⟩, rfl⟩, rfl, rfl⟩ ?_
        refine nx_blk ?_
        refine nx_seq ?_
        refine aw_cov (cov_prune (s1 := ⟨[(0, (.int .u64 p0)), (3, (.ptr 0 0 [])), (4, (.int .i64 x1.1))], [(0, some (.var (e_api_Roster v3.1)))], 2⟩) ⟨rfl, rfl, rfl, trivial⟩ ⟨rfl, trivial⟩ (Nat.le_refl _)) ?_
        refine aw_region1 (es := [_, _, _]) ⟨Step.plain rfl (does_move (.tmp 4) (.int .i64 x1.1) trivial), ⟨⟨rfl, trivial⟩, trivial, rfl⟩, rfl,
          Step.plain rfl (does_bin .add 3 3 (.tmp 22) (.const (.int .i64 1)) .i64 x1.1 1 (.int .i64 (IntKind.i64.wrap (x1.1 + 1))) trivial (fun _ => rfl) (bin_add _ _ _ _)), ⟨⟨rfl, trivial⟩, trivial, rfl⟩, rfl,
          Step.plain rfl (does_assign (.tmp 23) (.int .i64 (IntKind.i64.wrap (x1.1 + 1))) trivial), ⟨⟨rfl, trivial⟩, trivial, rfl⟩, rfl, rfl⟩ ?_
        exact nx_loop ((IntKind.i64.wrap (x1.1 + 1)), v3.1) H (cov_of (fun i => match i with | 0 => 0 | k => k) ⟨⟨_, rfl, ⟨rfl, trivial⟩⟩, ⟨_, rfl, ⟨rfl, Nat.le_of_ble_eq_true rfl⟩⟩, ⟨_, rfl, ⟨rfl, trivial⟩⟩, trivial⟩ ⟨⟨Nat.le_of_ble_eq_true rfl, _, _, rfl, rfl, .inl ⟨rfl, (d_api_Roster _).plain⟩⟩, trivial⟩ rfl)
    · replace H := ite_f hc H
      refine aw_exit ?_
      refine ex_then ?_
      refine ex_then ?_
      refine ex_here ?_
      exact nx_ljoin (x1.2) H hsn2 (cov_prune ⟨rfl, rfl, trivial⟩ ⟨rfl, trivial⟩ (Nat.le_of_ble_eq_true rfl))
end Go.Proofs.Ytbcjnggdielljaa
