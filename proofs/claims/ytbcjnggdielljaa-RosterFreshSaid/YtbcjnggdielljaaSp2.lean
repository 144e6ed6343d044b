/- Printed by gen.py. Conditions: none. -/
import Derived.Test.YtbcjnggdielljaaSp1
import Derived.KernelRfl
set_option linter.unusedVariables false
set_option maxRecDepth 100000
namespace Go.Proofs.Ytbcjnggdielljaa
open Go.Eng
set_option maxHeartbeats 1600000
theorem roster_Next_spec (p0 : api_Roster) (p1 : Int) (r : api_Roster × Int × Int) (H : roster_Next p0 p1 = some r) : FSpec Try.prog 11 [(e_api_Roster p0), (.int .u64 p1)] (resV [(e_api_Roster r.1), (.int .u64 r.2.1), (.int .i64 r.2.2)]) := by
  refine spec_of (fn := Try.f11) (args := [(e_api_Roster p0), (.int .u64 p1)]) Try.func11 rfl (Nat.le_of_ble_eq_true rfl) ?_
  rintro ⟨G, w0, W, S, Sp⟩ hG
  cases hG
  unfold roster_Next at H
  refine aw_region (es := [_, _, _, _]) ⟨Step.plain rfl (does_box 25 (.tmp 0) 0 (e_api_Roster p0) trivial rfl), ⟨⟨rfl, trivial⟩, trivial, rfl⟩, rfl,
    Step.plain rfl (does_alloc 25 1 (e_api_Roster z_api_Roster) zr25), ⟨trivial, trivial, rfl⟩, rfl,
    Step.plain rfl (does_assign (.const (.int .u64 0)) (.int .u64 0) (fun _ => rfl)), ⟨trivial, trivial, rfl⟩, rfl,
    Step.plain rfl (does_assign (.const (.int .i64 0)) (.int .i64 0) (fun _ => rfl)), ⟨trivial, trivial, rfl⟩, rfl, rfl⟩ ?_
  refine aw_cov (cov_prune (s1 := ⟨[(1, (.int .u64 p1)), (2, (.ptr 0 0 [])), (4, (.ptr 1 0 []))], [(0, some (.var (e_api_Roster p0))), (1, some (.var (e_api_Roster z_api_Roster)))], 2⟩) ⟨rfl, rfl, rfl, trivial⟩ ⟨rfl, rfl, trivial⟩ (Nat.le_refl _)) ?_
  obtain ⟨v1, h2, H⟩ := bnd H
  refine aw_region (es := [_, _, _, _]) ⟨Step.plain rfl (does_load 25 2 0 0 [] (.var (e_api_Roster p0)) (e_api_Roster p0) trivial rfl rfl ty25), ⟨⟨rfl, trivial⟩, ⟨rfl, trivial⟩, rfl⟩, rfl,
    Step.plain rfl (does_move (.tmp 1) (.int .u64 p1) trivial), ⟨⟨rfl, trivial⟩, trivial, rfl⟩, rfl,
    Step.plain rfl (does_call 20 0 (fun _ => .any) (.func 20) [(.tmp 9), (.tmp 10)] [(e_api_Roster p0), (.int .u64 p1)] [] true [(e_api_Roster p0), (.int .u64 p1)] (.int .i64 v1) _ _ rfl fo20 rfl ⟨trivial, trivial, trivial⟩ ⟨.data _ (d_api_Roster p0), .data _ trivial, trivial⟩ (roster_find_spec p0 p1 _ h2) trivial), ⟨⟨rfl, rfl, trivial⟩, trivial, rfl⟩, rfl,
    Step.plain rfl (does_assign (.tmp 11) (.int .i64 v1) trivial), ⟨⟨rfl, trivial⟩, trivial, rfl⟩, rfl, rfl⟩ ?_
  refine aw_cov (cov_prune (s1 := ⟨[(2, (.ptr 0 0 [])), (4, (.ptr 1 0 [])), (7, (.int .i64 v1))], [(0, some (.var (e_api_Roster p0))), (1, some (.var (e_api_Roster z_api_Roster)))], 2⟩) ⟨rfl, rfl, rfl, trivial⟩ ⟨rfl, rfl, trivial⟩ (Nat.le_refl _)) ?_
  refine aw_seq ?_
  obtain ⟨h3, H⟩ := ibg_of H
  refine aw_region (es := [_, _, _, _, _, _, _, _, _, _, _]) ⟨Step.plain rfl (does_move (.tmp 7) (.int .i64 v1) trivial), ⟨⟨rfl, trivial⟩, trivial, rfl⟩, rfl,
    Step.plain rfl (does_bin .lss 3 3 (.tmp 12) (.const (.int .i64 0)) .i64 v1 0 (.bool (decide (v1 < 0))) trivial (fun _ => rfl) (bin_lss _ _ _ _)), ⟨⟨rfl, trivial⟩, trivial, rfl⟩, rfl,
    Step.plain rfl (does_move (.tmp 13) (.bool (decide (v1 < 0))) trivial), ⟨⟨rfl, trivial⟩, trivial, rfl⟩, rfl,
    Step.guarded rfl rfl rfl rfl (fun hc => does_fieldAddr 25 1 1 2 0 0 [] (.var (e_api_Roster p0)) fl25_1), ⟨⟨rfl, rfl, trivial⟩, ⟨rfl, trivial⟩, rfl⟩, rfl,
    Step.guarded rfl rfl rfl rfl (fun hc => Does.strip (n' := [(15, (.opt (!(decide (v1 < 0))) (.ptr 0 (0 + 1) [1])))]) (n := [(15, (.ptr 0 (0 + 1) [1]))]) ⟨(.opt _ _ hc), trivial⟩ (does_load 23 15 0 (0 + 1) [1] (.var (e_api_Roster p0)) (e_s_api_Session p0.List) ⟨rfl, Nat.le_of_ble_eq_true rfl, trivial⟩ rfl rfl ty23)), ⟨⟨rfl, rfl, trivial⟩, ⟨rfl, trivial⟩, rfl⟩, rfl,
    Step.guarded rfl rfl rfl rfl (fun hc => does_move (.tmp 7) (.int .i64 v1) trivial), ⟨⟨rfl, rfl, trivial⟩, trivial, rfl⟩, rfl,
    Step.guarded rfl rfl rfl rfl (fun hc => Does.strip (n' := [(16, (.opt (!(decide (v1 < 0))) (e_s_api_Session p0.List))), (17, (.opt (!(decide (v1 < 0))) (.int .i64 v1)))]) (n := [(16, (e_s_api_Session p0.List)), (17, (.int .i64 v1))]) ⟨(.opt _ _ hc), (.opt _ _ hc), trivial⟩ (does_indexAddrs 23 2 p0.List.length 16 (fun j => (e_api_Session (p0.List.getD j z_api_Session))) (.tmp 17) .i64 v1 el23 trivial (h3 hc).1 (h3 hc).2)), ⟨⟨rfl, rfl, rfl, trivial⟩, trivial, rfl⟩, rfl,
    Step.guarded rfl rfl rfl rfl (fun hc => Does.strip (n' := [(18, (.opt (!(decide (v1 < 0))) (.cptr (e_api_Session (p0.List.getD v1.toNat z_api_Session)))))]) (n := [(18, (.cptr (e_api_Session (p0.List.getD v1.toNat z_api_Session))))]) ⟨(.opt _ _ hc), trivial⟩ (does_fieldAddrc 41 1 1 18 (e_api_Session (p0.List.getD v1.toNat z_api_Session)) fl41_1 rfl (Nat.le_of_ble_eq_true rfl) rfl)), ⟨⟨rfl, rfl, trivial⟩, trivial, rfl⟩, rfl,
    Step.guarded rfl rfl rfl rfl (fun hc => Does.strip (n' := [(19, (.opt (!(decide (v1 < 0))) (.cptr (.int .u64 ((p0.List.getD v1.toNat z_api_Session).Number)))))]) (n := [(19, (.cptr (.int .u64 ((p0.List.getD v1.toNat z_api_Session).Number))))]) ⟨(.opt _ _ hc), trivial⟩ (does_loadc 22 19 (.int .u64 ((p0.List.getD v1.toNat z_api_Session).Number)) ty22)), ⟨⟨rfl, rfl, trivial⟩, trivial, rfl⟩, rfl,
    Step.guarded rfl rfl rfl rfl (fun hc => Does.strip (n' := [(20, (.opt (!(decide (v1 < 0))) (.int .u64 ((p0.List.getD v1.toNat z_api_Session).Number))))]) (n := [(20, (.int .u64 ((p0.List.getD v1.toNat z_api_Session).Number)))]) ⟨(.opt _ _ hc), trivial⟩ (does_bin .geq 22 22 (.tmp 20) (.const (.int .u64 4294967295)) .u64 ((p0.List.getD v1.toNat z_api_Session).Number) 4294967295 (.bool (decide (((p0.List.getD v1.toNat z_api_Session).Number) ≥ 4294967295))) trivial (fun _ => rfl) (bin_geq _ _ _ _))), ⟨⟨rfl, rfl, trivial⟩, trivial, rfl⟩, rfl,
    Step.plain rfl (does_or 14 21 (decide (v1 < 0)) (decide (((p0.List.getD v1.toNat z_api_Session).Number) ≥ 4294967295))), ⟨⟨rfl, rfl, trivial⟩, trivial, rfl⟩, rfl, rfl⟩ ?_
  obtain ⟨v4, hv4, H⟩ := lt_of H
  refine aw_cov (cov_prune (s1 := ⟨[(2, (.ptr 0 0 [])), (4, (.ptr 1 0 [])), (7, (.int .i64 v1)), (22, (.bool v4))], [(0, some (.var (e_api_Roster p0))), (1, some (.var (e_api_Roster z_api_Roster)))], 2⟩) ⟨rfl, rfl, rfl, (by subst hv4; rfl), trivial⟩ ⟨rfl, rfl, trivial⟩ (Nat.le_refl _)) ?_
  refine aw_cond rfl (fun hc => ?_) (fun hc => ?_)
  · replace H := ite_t hc H
    refine aw_region (es := [_, _, _, _]) ⟨Step.plain rfl (does_buildT 25 #[] [] [] (.st [1, 1]) (c_api_Roster z_api_Roster) (c_api_Roster ({ Last := 0, List := [] } : api_Roster)) rfl bo25 trivial trivial (by funext j; match j with | 0 => rfl | 1 => rfl | _ + 2 => rfl)), ⟨trivial, trivial, rfl⟩, rfl,
      Step.plain rfl (does_store 25 4 (.tmp 23) 1 0 [] (.var (e_api_Roster z_api_Roster)) (.var (e_api_Roster ({ Last := 0, List := [] } : api_Roster))) (e_api_Roster ({ Last := 0, List := [] } : api_Roster)) true trivial rfl trivial rfl rfl rfl ty25), ⟨⟨rfl, rfl, trivial⟩, ⟨rfl, trivial⟩, rfl⟩, rfl,
      Step.plain rfl (does_assign (.const (.int .u64 0)) (.int .u64 0) (fun _ => rfl)), ⟨trivial, trivial, rfl⟩, rfl,
      Step.plain rfl (does_assign (.const (.int .i64 162)) (.int .i64 162) (fun _ => rfl)), ⟨trivial, trivial, rfl⟩, rfl, rfl⟩ ?_
    refine aw_cov (cov_prune (s1 := ⟨[(4, (.ptr 1 0 [])), (5, (.int .u64 0)), (6, (.int .i64 162))], [(1, some (.var (e_api_Roster ({ Last := 0, List := [] } : api_Roster))))], 2⟩) ⟨rfl, rfl, rfl, trivial⟩ ⟨rfl, trivial⟩ (Nat.le_refl _)) ?_
    refine aw_ret ?_
    refine rt_then ?_
    exact fun a w hr => ⟨_, [(e_api_Roster ({ Last := 0, List := [] } : api_Roster)), (.int .u64 0), (.int .i64 162)], hr, ⟨⟨1, _, rfl, rfl, .data _ (d_api_Roster ({ Last := 0, List := [] } : api_Roster)), ty25⟩, ⟨_, rfl, .data (.int .u64 0) trivial⟩, ⟨_, rfl, .data (.int .i64 162) trivial⟩, trivial⟩, by decide, by cases H; rfl⟩
  · replace H := ite_f hc H
    refine aw_skip ?_
    refine nx_seq ?_
    obtain ⟨v5, h6, H⟩ := bnd H
    refine aw_region (es := [_, _, _, _]) ⟨Step.plain rfl (does_load 25 2 0 0 [] (.var (e_api_Roster p0)) (e_api_Roster p0) trivial rfl rfl ty25), ⟨⟨rfl, trivial⟩, ⟨rfl, trivial⟩, rfl⟩, rfl,
      Step.plain rfl (does_callO 19 0 (fun _ => .any) (.func 19) [(.tmp 24)] [(e_api_Roster p0)] [] [] true [(e_api_Roster p0)] _ (.agg (.st [1, 1]) (vupd (c_api_Roster v5) 1 (.own 2))) _ 2 2 _ _ rfl fo19 rfl ⟨trivial, trivial⟩ ⟨.ro _ _ (.data _ (d_api_Roster p0)), trivial⟩ (roster_copied_spec p0 _ h6) rfl (by simp) rfl trivial ⟨⟨Nat.le_of_ble_eq_true rfl, _, rfl, fun _ => (f_api_Session _)⟩, trivial⟩ (.agg _ _ _ (fun j => match j with | 0 => .data _ (trivial) | 1 => .own 0 (Nat.le_of_ble_eq_true rfl) | _ + 2 => .data _ trivial))), ⟨⟨rfl, trivial⟩, trivial, rfl⟩, rfl,
      Step.plain rfl (does_alloc 25 4 (e_api_Roster z_api_Roster) zr25), ⟨trivial, trivial, rfl⟩, rfl,
      Step.plain rfl (does_store 25 8 (.tmp 25) 4 0 [] (.var (e_api_Roster z_api_Roster)) (.var (.agg (.st [1, 1]) (vupd (c_api_Roster v5) 1 (.own 2)))) (.agg (.st [1, 1]) (vupd (c_api_Roster v5) 1 (.own 2))) true trivial rfl trivial rfl rfl rfl ty25), ⟨⟨rfl, rfl, trivial⟩, ⟨rfl, trivial⟩, rfl⟩, rfl, rfl⟩ ?_
    refine aw_cov (cov_prune (s1 := ⟨[(4, (.ptr 1 0 [])), (7, (.int .i64 v1)), (8, (.ptr 4 0 []))], [(1, some (.var (e_api_Roster z_api_Roster))), (2, some (.arr 2 v5.List.length fun j => (e_api_Session (v5.List.getD j z_api_Session)))), (4, some (.var (.agg (.st [1, 1]) (vupd (c_api_Roster v5) 1 (.own 2)))))], 5⟩) ⟨rfl, rfl, rfl, trivial⟩ ⟨rfl, rfl, rfl, trivial⟩ (Nat.le_refl _)) ?_
    obtain ⟨h7, H⟩ := ib_of H
    obtain ⟨h8, H⟩ := ib_of H
    refine aw_region (es := [_, _, _, _, _, _, _, _, _, _]) ⟨Step.plain rfl (does_fieldAddr 25 1 1 8 4 0 [] (.var (.agg (.st [1, 1]) (vupd (c_api_Roster v5) 1 (.own 2)))) fl25_1), ⟨⟨rfl, trivial⟩, ⟨rfl, trivial⟩, rfl⟩, rfl,
      Step.plain rfl (does_load 23 26 4 (0 + 1) [1] (.var (.agg (.st [1, 1]) (vupd (c_api_Roster v5) 1 (.own 2)))) (.own 2) ⟨rfl, Nat.le_of_ble_eq_true rfl, trivial⟩ rfl rfl ty23), ⟨⟨rfl, trivial⟩, ⟨rfl, trivial⟩, rfl⟩, rfl,
      Step.plain rfl (does_move (.tmp 7) (.int .i64 v1) trivial), ⟨⟨rfl, trivial⟩, trivial, rfl⟩, rfl,
      Step.plain rfl (does_indexAddro 23 2 v5.List.length 27 2 (fun j => (e_api_Session (v5.List.getD j z_api_Session))) (.tmp 28) .i64 v1 el23 trivial h7.1 h7.2), ⟨⟨rfl, rfl, trivial⟩, ⟨rfl, trivial⟩, rfl⟩, rfl,
      Step.plain rfl (does_fieldAddr 41 1 1 29 2 (v1.toNat * 2) [v1.toNat] (.arr 2 v5.List.length fun j => (e_api_Session (v5.List.getD j z_api_Session))) fl41_1), ⟨⟨rfl, trivial⟩, ⟨rfl, trivial⟩, rfl⟩, rfl,
      Step.plain rfl (does_load 22 30 2 ((v1.toNat * 2) + 1) [v1.toNat, 1] (.arr 2 v5.List.length fun j => (e_api_Session (v5.List.getD j z_api_Session))) (.int .u64 ((v5.List.getD v1.toNat z_api_Session).Number)) ⟨(ixl h7), ⟨rfl, Nat.le_of_ble_eq_true rfl, trivial⟩⟩ rfl rfl ty22), ⟨⟨rfl, trivial⟩, ⟨rfl, trivial⟩, rfl⟩, rfl,
      Step.plain rfl (does_bin .add 22 22 (.tmp 31) (.const (.int .u64 1)) .u64 ((v5.List.getD v1.toNat z_api_Session).Number) 1 (.int .u64 (IntKind.u64.wrap (((v5.List.getD v1.toNat z_api_Session).Number) + 1))) trivial (fun _ => rfl) (bin_add _ _ _ _)), ⟨⟨rfl, trivial⟩, trivial, rfl⟩, rfl,
      Step.plain rfl (does_indexAddro 23 2 v5.List.length 27 2 (fun j => (e_api_Session (v5.List.getD j z_api_Session))) (.tmp 28) .i64 v1 el23 trivial h8.1 h8.2), ⟨⟨rfl, rfl, trivial⟩, ⟨rfl, trivial⟩, rfl⟩, rfl,
      Step.plain rfl (does_fieldAddr 41 1 1 33 2 (v1.toNat * 2) [v1.toNat] (.arr 2 v5.List.length fun j => (e_api_Session (v5.List.getD j z_api_Session))) fl41_1), ⟨⟨rfl, trivial⟩, ⟨rfl, trivial⟩, rfl⟩, rfl,
      Step.plain rfl (does_store 22 34 (.tmp 32) 2 ((v1.toNat * 2) + 1) [v1.toNat, 1] (.arr 2 v5.List.length fun j => (e_api_Session (v5.List.getD j z_api_Session))) (.arr 2 (v5.List.set v1.toNat ({ v5.List.getD v1.toNat z_api_Session with Number := (IntKind.u64.wrap (((v5.List.getD v1.toNat z_api_Session).Number) + 1)) })).length fun j => (e_api_Session ((v5.List.set v1.toNat ({ v5.List.getD v1.toNat z_api_Session with Number := (IntKind.u64.wrap (((v5.List.getD v1.toNat z_api_Session).Number) + 1)) })).getD j z_api_Session))) (.int .u64 (IntKind.u64.wrap (((v5.List.getD v1.toNat z_api_Session).Number) + 1))) false trivial rfl ⟨(ixl h8), ⟨rfl, Nat.le_of_ble_eq_true rfl, trivial⟩⟩ rfl rfl (set_arr e_api_Session z_api_Session _ (ixl h8) (set_cons rfl (st_api_Session_1 _ _))) ty22), ⟨⟨rfl, rfl, trivial⟩, ⟨rfl, trivial⟩, rfl⟩, rfl, rfl⟩ ?_
    obtain ⟨v9, hv9, H⟩ := lt_of H
    refine aw_cov (cov_prune (s1 := ⟨[(4, (.ptr 1 0 [])), (7, (.int .i64 v1)), (8, (.ptr 4 0 []))], [(1, some (.var (e_api_Roster z_api_Roster))), (2, some (.arr 2 v9.length fun j => (e_api_Session (v9.getD j z_api_Session)))), (4, some (.var (.agg (.st [1, 1]) (vupd (c_api_Roster v5) 1 (.own 2)))))], 5⟩) ⟨rfl, rfl, rfl, trivial⟩ ⟨rfl, (by subst hv9; rfl), rfl, trivial⟩ (Nat.le_refl _)) ?_
    obtain ⟨h10, H⟩ := ib_of H
    refine aw_draw (es := [_, _, _, _, _, _, _, _, _, _]) (mixed) ⟨Step.plain rfl (does_load 25 8 4 0 [] (.var (.agg (.st [1, 1]) (vupd (c_api_Roster v5) 1 (.own 2)))) (.agg (.st [1, 1]) (vupd (c_api_Roster v5) 1 (.own 2))) trivial rfl rfl ty25), ⟨⟨rfl, trivial⟩, ⟨rfl, trivial⟩, rfl⟩, rfl,
      Step.plain rfl (does_fieldAddr 25 1 1 8 4 0 [] (.var (.agg (.st [1, 1]) (vupd (c_api_Roster v5) 1 (.own 2)))) fl25_1), ⟨⟨rfl, trivial⟩, ⟨rfl, trivial⟩, rfl⟩, rfl,
      Step.plain rfl (does_load 23 36 4 (0 + 1) [1] (.var (.agg (.st [1, 1]) (vupd (c_api_Roster v5) 1 (.own 2)))) (.own 2) ⟨rfl, Nat.le_of_ble_eq_true rfl, trivial⟩ rfl rfl ty23), ⟨⟨rfl, trivial⟩, ⟨rfl, trivial⟩, rfl⟩, rfl,
      Step.plain rfl (does_move (.tmp 7) (.int .i64 v1) trivial), ⟨⟨rfl, trivial⟩, trivial, rfl⟩, rfl,
      Step.plain rfl (does_indexAddro 23 2 v9.length 37 2 (fun j => (e_api_Session (v9.getD j z_api_Session))) (.tmp 38) .i64 v1 el23 trivial h10.1 h10.2), ⟨⟨rfl, rfl, trivial⟩, ⟨rfl, trivial⟩, rfl⟩, rfl,
      Step.plain rfl (does_fieldAddr 41 1 1 39 2 (v1.toNat * 2) [v1.toNat] (.arr 2 v9.length fun j => (e_api_Session (v9.getD j z_api_Session))) fl41_1), ⟨⟨rfl, trivial⟩, ⟨rfl, trivial⟩, rfl⟩, rfl,
      Step.plain rfl (does_load 22 40 2 ((v1.toNat * 2) + 1) [v1.toNat, 1] (.arr 2 v9.length fun j => (e_api_Session (v9.getD j z_api_Session))) (.int .u64 ((v9.getD v1.toNat z_api_Session).Number)) ⟨(ixl h10), ⟨rfl, Nat.le_of_ble_eq_true rfl, trivial⟩⟩ rfl rfl ty22), ⟨⟨rfl, trivial⟩, ⟨rfl, trivial⟩, rfl⟩, rfl,
      Step.plain rfl (does_store 25 4 (.tmp 35) 1 0 [] (.var (e_api_Roster z_api_Roster)) (.var (.agg (.st [1, 1]) (vupd (c_api_Roster v5) 1 (.own 2)))) (.agg (.st [1, 1]) (vupd (c_api_Roster v5) 1 (.own 2))) true trivial rfl trivial rfl rfl rfl ty25), ⟨⟨rfl, rfl, trivial⟩, ⟨rfl, trivial⟩, rfl⟩, rfl,
      Step.plain rfl (does_assign (.tmp 41) (.int .u64 ((v9.getD v1.toNat z_api_Session).Number)) trivial), ⟨⟨rfl, trivial⟩, trivial, rfl⟩, rfl,
      Step.plain rfl (does_assign (.const (.int .i64 0)) (.int .i64 0) (fun _ => rfl)), ⟨trivial, trivial, rfl⟩, rfl, rfl⟩ rfl ?_
    refine aw_cov (cov_prune (s1 := ⟨[(4, (.ptr 1 0 [])), (5, (.int .u64 ((v9.getD v1.toNat z_api_Session).Number))), (6, (.int .i64 0))], [(1, some (.var (.agg (.st [1, 1]) (vupd (c_api_Roster v5) 1 (.own 2))))), (2, some (.arr 2 v9.length fun j => (e_api_Session (v9.getD j z_api_Session))))], 5⟩) ⟨rfl, rfl, rfl, trivial⟩ ⟨rfl, rfl, trivial⟩ (Nat.le_refl _)) ?_
    refine aw_ret ?_
    exact fun a w hr => ⟨_, [(e_api_Roster ({ v5 with List := v9 })), (.int .u64 ((v9.getD v1.toNat z_api_Session).Number)), (.int .i64 0)], hr, ⟨⟨1, _, rfl, rfl, .agg _ _ _ (fun j hj => match j, hj with | 0, _ => ⟨rfl, rfl⟩ | 1, _ => ⟨rfl, rfl⟩ | k + 2, hj => absurd (show k + 2 < 2 from hj) (by omega)) (fun j hj => match j, hj with | 0, _ => .data (.int .u64 (({ v5 with List := v9 }).Last)) (trivial) | 1, _ => .own _ _ _ _ rfl (fun _ => (d_api_Session _)) | k + 2, hj => absurd (show k + 2 < 2 from hj) (by omega)), ty25⟩, ⟨_, rfl, .data (.int .u64 ((v9.getD v1.toNat z_api_Session).Number)) trivial⟩, ⟨_, rfl, .data (.int .i64 0) trivial⟩, trivial⟩, by decide, by cases H; rfl⟩

theorem congressref17_Next_spec (p0 : api_Roster) (p1 : Int) (r : api_Roster × Int × Int) (H : congressref17_Next p0 p1 = some r) : FSpec Try.prog 12 [(e_api_Roster p0), (.int .u64 p1)] (resV [(e_api_Roster r.1), (.int .u64 r.2.1), (.int .i64 r.2.2)]) := by
  refine spec_of (fn := Try.f12) (args := [(e_api_Roster p0), (.int .u64 p1)]) Try.func12 rfl (Nat.le_of_ble_eq_true rfl) ?_
  rintro ⟨G, w0, W, S, Sp⟩ hG
  cases hG
  unfold congressref17_Next at H
  refine aw_region (es := [_, _, _, _]) ⟨Step.plain rfl (does_box 25 (.tmp 0) 0 (e_api_Roster p0) trivial rfl), ⟨⟨rfl, trivial⟩, trivial, rfl⟩, rfl,
    Step.plain rfl (does_alloc 25 1 (e_api_Roster z_api_Roster) zr25), ⟨trivial, trivial, rfl⟩, rfl,
    Step.plain rfl (does_assign (.const (.int .u64 0)) (.int .u64 0) (fun _ => rfl)), ⟨trivial, trivial, rfl⟩, rfl,
    Step.plain rfl (does_assign (.const (.int .i64 0)) (.int .i64 0) (fun _ => rfl)), ⟨trivial, trivial, rfl⟩, rfl, rfl⟩ ?_
  refine aw_cov (cov_prune (s1 := ⟨[(1, (.int .u64 p1)), (2, (.ptr 0 0 [])), (4, (.ptr 1 0 []))], [(0, some (.var (e_api_Roster p0))), (1, some (.var (e_api_Roster z_api_Roster)))], 2⟩) ⟨rfl, rfl, rfl, trivial⟩ ⟨rfl, rfl, trivial⟩ (Nat.le_refl _)) ?_
  obtain ⟨v1, h2, H⟩ := bnd H
  refine aw_region (es := [_, _, _, _]) ⟨Step.plain rfl (does_load 25 2 0 0 [] (.var (e_api_Roster p0)) (e_api_Roster p0) trivial rfl rfl ty25), ⟨⟨rfl, trivial⟩, ⟨rfl, trivial⟩, rfl⟩, rfl,
    Step.plain rfl (does_move (.tmp 1) (.int .u64 p1) trivial), ⟨⟨rfl, trivial⟩, trivial, rfl⟩, rfl,
    Step.plain rfl (does_call 16 0 (fun _ => .any) (.func 16) [(.tmp 9), (.tmp 10)] [(e_api_Roster p0), (.int .u64 p1)] [] true [(e_api_Roster p0), (.int .u64 p1)] (.int .i64 v1) _ _ rfl fo16 rfl ⟨trivial, trivial, trivial⟩ ⟨.data _ (d_api_Roster p0), .data _ trivial, trivial⟩ (congressref17_Find_spec p0 p1 _ h2) trivial), ⟨⟨rfl, rfl, trivial⟩, trivial, rfl⟩, rfl,
    Step.plain rfl (does_assign (.tmp 11) (.int .i64 v1) trivial), ⟨⟨rfl, trivial⟩, trivial, rfl⟩, rfl, rfl⟩ ?_
  refine aw_cov (cov_prune (s1 := ⟨[(2, (.ptr 0 0 [])), (4, (.ptr 1 0 [])), (7, (.int .i64 v1))], [(0, some (.var (e_api_Roster p0))), (1, some (.var (e_api_Roster z_api_Roster)))], 2⟩) ⟨rfl, rfl, rfl, trivial⟩ ⟨rfl, rfl, trivial⟩ (Nat.le_refl _)) ?_
  refine aw_seq ?_
  obtain ⟨h3, H⟩ := ibg_of H
  refine aw_region (es := [_, _, _, _, _, _, _, _, _, _, _]) ⟨Step.plain rfl (does_move (.tmp 7) (.int .i64 v1) trivial), ⟨⟨rfl, trivial⟩, trivial, rfl⟩, rfl,
    Step.plain rfl (does_bin .lss 3 3 (.tmp 12) (.const (.int .i64 0)) .i64 v1 0 (.bool (decide (v1 < 0))) trivial (fun _ => rfl) (bin_lss _ _ _ _)), ⟨⟨rfl, trivial⟩, trivial, rfl⟩, rfl,
    Step.plain rfl (does_move (.tmp 13) (.bool (decide (v1 < 0))) trivial), ⟨⟨rfl, trivial⟩, trivial, rfl⟩, rfl,
    Step.guarded rfl rfl rfl rfl (fun hc => does_fieldAddr 25 1 1 2 0 0 [] (.var (e_api_Roster p0)) fl25_1), ⟨⟨rfl, rfl, trivial⟩, ⟨rfl, trivial⟩, rfl⟩, rfl,
    Step.guarded rfl rfl rfl rfl (fun hc => Does.strip (n' := [(15, (.opt (!(decide (v1 < 0))) (.ptr 0 (0 + 1) [1])))]) (n := [(15, (.ptr 0 (0 + 1) [1]))]) ⟨(.opt _ _ hc), trivial⟩ (does_load 23 15 0 (0 + 1) [1] (.var (e_api_Roster p0)) (e_s_api_Session p0.List) ⟨rfl, Nat.le_of_ble_eq_true rfl, trivial⟩ rfl rfl ty23)), ⟨⟨rfl, rfl, trivial⟩, ⟨rfl, trivial⟩, rfl⟩, rfl,
    Step.guarded rfl rfl rfl rfl (fun hc => does_move (.tmp 7) (.int .i64 v1) trivial), ⟨⟨rfl, rfl, trivial⟩, trivial, rfl⟩, rfl,
    Step.guarded rfl rfl rfl rfl (fun hc => Does.strip (n' := [(16, (.opt (!(decide (v1 < 0))) (e_s_api_Session p0.List))), (17, (.opt (!(decide (v1 < 0))) (.int .i64 v1)))]) (n := [(16, (e_s_api_Session p0.List)), (17, (.int .i64 v1))]) ⟨(.opt _ _ hc), (.opt _ _ hc), trivial⟩ (does_indexAddrs 23 2 p0.List.length 16 (fun j => (e_api_Session (p0.List.getD j z_api_Session))) (.tmp 17) .i64 v1 el23 trivial (h3 hc).1 (h3 hc).2)), ⟨⟨rfl, rfl, rfl, trivial⟩, trivial, rfl⟩, rfl,
    Step.guarded rfl rfl rfl rfl (fun hc => Does.strip (n' := [(18, (.opt (!(decide (v1 < 0))) (.cptr (e_api_Session (p0.List.getD v1.toNat z_api_Session)))))]) (n := [(18, (.cptr (e_api_Session (p0.List.getD v1.toNat z_api_Session))))]) ⟨(.opt _ _ hc), trivial⟩ (does_fieldAddrc 41 1 1 18 (e_api_Session (p0.List.getD v1.toNat z_api_Session)) fl41_1 rfl (Nat.le_of_ble_eq_true rfl) rfl)), ⟨⟨rfl, rfl, trivial⟩, trivial, rfl⟩, rfl,
    Step.guarded rfl rfl rfl rfl (fun hc => Does.strip (n' := [(19, (.opt (!(decide (v1 < 0))) (.cptr (.int .u64 ((p0.List.getD v1.toNat z_api_Session).Number)))))]) (n := [(19, (.cptr (.int .u64 ((p0.List.getD v1.toNat z_api_Session).Number))))]) ⟨(.opt _ _ hc), trivial⟩ (does_loadc 22 19 (.int .u64 ((p0.List.getD v1.toNat z_api_Session).Number)) ty22)), ⟨⟨rfl, rfl, trivial⟩, trivial, rfl⟩, rfl,
    Step.guarded rfl rfl rfl rfl (fun hc => Does.strip (n' := [(20, (.opt (!(decide (v1 < 0))) (.int .u64 ((p0.List.getD v1.toNat z_api_Session).Number))))]) (n := [(20, (.int .u64 ((p0.List.getD v1.toNat z_api_Session).Number)))]) ⟨(.opt _ _ hc), trivial⟩ (does_bin .geq 22 22 (.tmp 20) (.const (.int .u64 4294967295)) .u64 ((p0.List.getD v1.toNat z_api_Session).Number) 4294967295 (.bool (decide (((p0.List.getD v1.toNat z_api_Session).Number) ≥ 4294967295))) trivial (fun _ => rfl) (bin_geq _ _ _ _))), ⟨⟨rfl, rfl, trivial⟩, trivial, rfl⟩, rfl,
    Step.plain rfl (does_or 14 21 (decide (v1 < 0)) (decide (((p0.List.getD v1.toNat z_api_Session).Number) ≥ 4294967295))), ⟨⟨rfl, rfl, trivial⟩, trivial, rfl⟩, rfl, rfl⟩ ?_
  obtain ⟨v4, hv4, H⟩ := lt_of H
  refine aw_cov (cov_prune (s1 := ⟨[(2, (.ptr 0 0 [])), (4, (.ptr 1 0 [])), (7, (.int .i64 v1)), (22, (.bool v4))], [(0, some (.var (e_api_Roster p0))), (1, some (.var (e_api_Roster z_api_Roster)))], 2⟩) ⟨rfl, rfl, rfl, (by subst hv4; rfl), trivial⟩ ⟨rfl, rfl, trivial⟩ (Nat.le_refl _)) ?_
  refine aw_cond rfl (fun hc => ?_) (fun hc => ?_)
  · replace H := ite_t hc H
    refine aw_region (es := [_, _, _, _]) ⟨Step.plain rfl (does_buildT 25 #[] [] [] (.st [1, 1]) (c_api_Roster z_api_Roster) (c_api_Roster ({ Last := 0, List := [] } : api_Roster)) rfl bo25 trivial trivial (by funext j; match j with | 0 => rfl | 1 => rfl | _ + 2 => rfl)), ⟨trivial, trivial, rfl⟩, rfl,
      Step.plain rfl (does_store 25 4 (.tmp 23) 1 0 [] (.var (e_api_Roster z_api_Roster)) (.var (e_api_Roster ({ Last := 0, List := [] } : api_Roster))) (e_api_Roster ({ Last := 0, List := [] } : api_Roster)) true trivial rfl trivial rfl rfl rfl ty25), ⟨⟨rfl, rfl, trivial⟩, ⟨rfl, trivial⟩, rfl⟩, rfl,
      Step.plain rfl (does_assign (.const (.int .u64 0)) (.int .u64 0) (fun _ => rfl)), ⟨trivial, trivial, rfl⟩, rfl,
      Step.plain rfl (does_assign (.const (.int .i64 162)) (.int .i64 162) (fun _ => rfl)), ⟨trivial, trivial, rfl⟩, rfl, rfl⟩ ?_
    refine aw_cov (cov_prune (s1 := ⟨[(4, (.ptr 1 0 [])), (5, (.int .u64 0)), (6, (.int .i64 162))], [(1, some (.var (e_api_Roster ({ Last := 0, List := [] } : api_Roster))))], 2⟩) ⟨rfl, rfl, rfl, trivial⟩ ⟨rfl, trivial⟩ (Nat.le_refl _)) ?_
    refine aw_ret ?_
    refine rt_then ?_
    exact fun a w hr => ⟨_, [(e_api_Roster ({ Last := 0, List := [] } : api_Roster)), (.int .u64 0), (.int .i64 162)], hr, ⟨⟨1, _, rfl, rfl, .data _ (d_api_Roster ({ Last := 0, List := [] } : api_Roster)), ty25⟩, ⟨_, rfl, .data (.int .u64 0) trivial⟩, ⟨_, rfl, .data (.int .i64 162) trivial⟩, trivial⟩, by decide, by cases H; rfl⟩
  · replace H := ite_f hc H
    refine aw_skip ?_
    refine nx_seq ?_
    obtain ⟨h5, H⟩ := fit_of H
    refine aw_draw (es := [_, _, _, _, _, _, _, _, _]) (mixed) ⟨Step.plain rfl (does_fieldAddr 25 0 0 2 0 0 [] (.var (e_api_Roster p0)) fl25_0), ⟨⟨rfl, trivial⟩, ⟨rfl, trivial⟩, rfl⟩, rfl,
      Step.plain rfl (does_load 22 24 0 (0 + 0) [0] (.var (e_api_Roster p0)) (.int .u64 p0.Last) ⟨rfl, Nat.le_of_ble_eq_true rfl, trivial⟩ rfl rfl ty22), ⟨⟨rfl, trivial⟩, ⟨rfl, trivial⟩, rfl⟩, rfl,
      Step.plain rfl (does_buildOwn 23 0 2 2 (e_api_Session z_api_Session) (fun j => (e_api_Session (([] : _root_.List api_Session).getD j z_api_Session))) #[] [] [] rfl so23 (by decide) trivial trivial (fun j h => match j, h with  | k + 0, h => absurd h (by omega))), ⟨trivial, trivial, rfl⟩, rfl,
      Step.plain rfl (does_fieldAddr 25 1 1 2 0 0 [] (.var (e_api_Roster p0)) fl25_1), ⟨⟨rfl, trivial⟩, ⟨rfl, trivial⟩, rfl⟩, rfl,
      Step.plain rfl (does_load 23 27 0 (0 + 1) [1] (.var (e_api_Roster p0)) (e_s_api_Session p0.List) ⟨rfl, Nat.le_of_ble_eq_true rfl, trivial⟩ rfl rfl ty23), ⟨⟨rfl, trivial⟩, ⟨rfl, trivial⟩, rfl⟩, rfl,
      Step.plain rfl (does_appendL e_api_Session z_api_Session ([] : _root_.List api_Session) p0.List 23 2 16 2 3 26 28 ap23 h5), ⟨⟨rfl, rfl, trivial⟩, ⟨rfl, trivial⟩, rfl⟩, rfl,
      Step.plain rfl (does_buildO 25 #[(0, (.tmp 25)), (1, (.tmp 29))] [(0, (.tmp 25)), (1, (.tmp 29))] [(0, (.int .u64 p0.Last)), (1, (.own 3))] (.st [1, 1]) (c_api_Roster z_api_Roster) (vupd (c_api_Roster ({ Last := p0.Last, List := [] } : api_Roster)) 1 (.own 3)) [(3, (.arr 2 (([] : _root_.List api_Session) ++ p0.List).length fun j => (e_api_Session ((([] : _root_.List api_Session) ++ p0.List).getD j z_api_Session))))] rfl bo25 ⟨⟨rfl, trivial⟩, ⟨rfl, trivial⟩, trivial⟩ (fun e hn => ⟨⟨Nat.le_of_ble_eq_true rfl, sol_solid rfl, rfl⟩, ⟨Nat.le_of_ble_eq_true rfl, sol_own (hn _ (.head _)) _ rfl, rfl⟩, trivial⟩) (by funext j; match j with | 0 => rfl | 1 => rfl | _ + 2 => rfl)), ⟨⟨rfl, rfl, trivial⟩, ⟨rfl, trivial⟩, rfl⟩, rfl,
      Step.plain rfl (does_alloc 25 4 (e_api_Roster z_api_Roster) zr25), ⟨trivial, trivial, rfl⟩, rfl,
      Step.plain rfl (does_store 25 8 (.tmp 30) 4 0 [] (.var (e_api_Roster z_api_Roster)) (.var (.agg (.st [1, 1]) (vupd (c_api_Roster ({ Last := p0.Last, List := [] } : api_Roster)) 1 (.own 3)))) (.agg (.st [1, 1]) (vupd (c_api_Roster ({ Last := p0.Last, List := [] } : api_Roster)) 1 (.own 3))) true trivial rfl trivial rfl rfl rfl ty25), ⟨⟨rfl, rfl, trivial⟩, ⟨rfl, trivial⟩, rfl⟩, rfl, rfl⟩ rfl ?_
    refine aw_cov (cov_prune (s1 := ⟨[(4, (.ptr 1 0 [])), (7, (.int .i64 v1)), (8, (.ptr 4 0 []))], [(1, some (.var (e_api_Roster z_api_Roster))), (3, some (.arr 2 (([] : _root_.List api_Session) ++ p0.List).length fun j => (e_api_Session ((([] : _root_.List api_Session) ++ p0.List).getD j z_api_Session)))), (4, some (.var (.agg (.st [1, 1]) (vupd (c_api_Roster ({ Last := p0.Last, List := [] } : api_Roster)) 1 (.own 3)))))], 5⟩) ⟨rfl, rfl, rfl, trivial⟩ ⟨rfl, rfl, rfl, trivial⟩ (Nat.le_refl _)) ?_
    obtain ⟨h6, H⟩ := ib_of H
    obtain ⟨h7, H⟩ := ib_of H
    refine aw_region (es := [_, _, _, _, _, _, _, _, _, _]) ⟨Step.plain rfl (does_fieldAddr 25 1 1 8 4 0 [] (.var (.agg (.st [1, 1]) (vupd (c_api_Roster ({ Last := p0.Last, List := [] } : api_Roster)) 1 (.own 3)))) fl25_1), ⟨⟨rfl, trivial⟩, ⟨rfl, trivial⟩, rfl⟩, rfl,
      Step.plain rfl (does_load 23 31 4 (0 + 1) [1] (.var (.agg (.st [1, 1]) (vupd (c_api_Roster ({ Last := p0.Last, List := [] } : api_Roster)) 1 (.own 3)))) (.own 3) ⟨rfl, Nat.le_of_ble_eq_true rfl, trivial⟩ rfl rfl ty23), ⟨⟨rfl, trivial⟩, ⟨rfl, trivial⟩, rfl⟩, rfl,
      Step.plain rfl (does_move (.tmp 7) (.int .i64 v1) trivial), ⟨⟨rfl, trivial⟩, trivial, rfl⟩, rfl,
      Step.plain rfl (does_indexAddro 23 2 (([] : _root_.List api_Session) ++ p0.List).length 32 3 (fun j => (e_api_Session ((([] : _root_.List api_Session) ++ p0.List).getD j z_api_Session))) (.tmp 33) .i64 v1 el23 trivial h6.1 h6.2), ⟨⟨rfl, rfl, trivial⟩, ⟨rfl, trivial⟩, rfl⟩, rfl,
      Step.plain rfl (does_fieldAddr 41 1 1 34 3 (v1.toNat * 2) [v1.toNat] (.arr 2 (([] : _root_.List api_Session) ++ p0.List).length fun j => (e_api_Session ((([] : _root_.List api_Session) ++ p0.List).getD j z_api_Session))) fl41_1), ⟨⟨rfl, trivial⟩, ⟨rfl, trivial⟩, rfl⟩, rfl,
      Step.plain rfl (does_load 22 35 3 ((v1.toNat * 2) + 1) [v1.toNat, 1] (.arr 2 (([] : _root_.List api_Session) ++ p0.List).length fun j => (e_api_Session ((([] : _root_.List api_Session) ++ p0.List).getD j z_api_Session))) (.int .u64 (((([] : _root_.List api_Session) ++ p0.List).getD v1.toNat z_api_Session).Number)) ⟨(ixl h6), ⟨rfl, Nat.le_of_ble_eq_true rfl, trivial⟩⟩ rfl rfl ty22), ⟨⟨rfl, trivial⟩, ⟨rfl, trivial⟩, rfl⟩, rfl,
      Step.plain rfl (does_bin .add 22 22 (.tmp 36) (.const (.int .u64 1)) .u64 (((([] : _root_.List api_Session) ++ p0.List).getD v1.toNat z_api_Session).Number) 1 (.int .u64 (IntKind.u64.wrap ((((([] : _root_.List api_Session) ++ p0.List).getD v1.toNat z_api_Session).Number) + 1))) trivial (fun _ => rfl) (bin_add _ _ _ _)), ⟨⟨rfl, trivial⟩, trivial, rfl⟩, rfl,
      Step.plain rfl (does_indexAddro 23 2 (([] : _root_.List api_Session) ++ p0.List).length 32 3 (fun j => (e_api_Session ((([] : _root_.List api_Session) ++ p0.List).getD j z_api_Session))) (.tmp 33) .i64 v1 el23 trivial h7.1 h7.2), ⟨⟨rfl, rfl, trivial⟩, ⟨rfl, trivial⟩, rfl⟩, rfl,
      Step.plain rfl (does_fieldAddr 41 1 1 38 3 (v1.toNat * 2) [v1.toNat] (.arr 2 (([] : _root_.List api_Session) ++ p0.List).length fun j => (e_api_Session ((([] : _root_.List api_Session) ++ p0.List).getD j z_api_Session))) fl41_1), ⟨⟨rfl, trivial⟩, ⟨rfl, trivial⟩, rfl⟩, rfl,
      Step.plain rfl (does_store 22 39 (.tmp 37) 3 ((v1.toNat * 2) + 1) [v1.toNat, 1] (.arr 2 (([] : _root_.List api_Session) ++ p0.List).length fun j => (e_api_Session ((([] : _root_.List api_Session) ++ p0.List).getD j z_api_Session))) (.arr 2 ((([] : _root_.List api_Session) ++ p0.List).set v1.toNat ({ (([] : _root_.List api_Session) ++ p0.List).getD v1.toNat z_api_Session with Number := (IntKind.u64.wrap ((((([] : _root_.List api_Session) ++ p0.List).getD v1.toNat z_api_Session).Number) + 1)) })).length fun j => (e_api_Session (((([] : _root_.List api_Session) ++ p0.List).set v1.toNat ({ (([] : _root_.List api_Session) ++ p0.List).getD v1.toNat z_api_Session with Number := (IntKind.u64.wrap ((((([] : _root_.List api_Session) ++ p0.List).getD v1.toNat z_api_Session).Number) + 1)) })).getD j z_api_Session))) (.int .u64 (IntKind.u64.wrap ((((([] : _root_.List api_Session) ++ p0.List).getD v1.toNat z_api_Session).Number) + 1))) false trivial rfl ⟨(ixl h7), ⟨rfl, Nat.le_of_ble_eq_true rfl, trivial⟩⟩ rfl rfl (set_arr e_api_Session z_api_Session _ (ixl h7) (set_cons rfl (st_api_Session_1 _ _))) ty22), ⟨⟨rfl, rfl, trivial⟩, ⟨rfl, trivial⟩, rfl⟩, rfl, rfl⟩ ?_
    obtain ⟨v8, hv8, H⟩ := lt_of H
    refine aw_cov (cov_prune (s1 := ⟨[(4, (.ptr 1 0 [])), (7, (.int .i64 v1)), (8, (.ptr 4 0 []))], [(1, some (.var (e_api_Roster z_api_Roster))), (3, some (.arr 2 v8.length fun j => (e_api_Session (v8.getD j z_api_Session)))), (4, some (.var (.agg (.st [1, 1]) (vupd (c_api_Roster ({ Last := p0.Last, List := [] } : api_Roster)) 1 (.own 3)))))], 5⟩) ⟨rfl, rfl, rfl, trivial⟩ ⟨rfl, (by subst hv8; rfl), rfl, trivial⟩ (Nat.le_refl _)) ?_
    obtain ⟨h9, H⟩ := ib_of H
    refine aw_draw (es := [_, _, _, _, _, _, _, _, _, _]) (mixed) ⟨Step.plain rfl (does_load 25 8 4 0 [] (.var (.agg (.st [1, 1]) (vupd (c_api_Roster ({ Last := p0.Last, List := [] } : api_Roster)) 1 (.own 3)))) (.agg (.st [1, 1]) (vupd (c_api_Roster ({ Last := p0.Last, List := [] } : api_Roster)) 1 (.own 3))) trivial rfl rfl ty25), ⟨⟨rfl, trivial⟩, ⟨rfl, trivial⟩, rfl⟩, rfl,
      Step.plain rfl (does_fieldAddr 25 1 1 8 4 0 [] (.var (.agg (.st [1, 1]) (vupd (c_api_Roster ({ Last := p0.Last, List := [] } : api_Roster)) 1 (.own 3)))) fl25_1), ⟨⟨rfl, trivial⟩, ⟨rfl, trivial⟩, rfl⟩, rfl,
      Step.plain rfl (does_load 23 41 4 (0 + 1) [1] (.var (.agg (.st [1, 1]) (vupd (c_api_Roster ({ Last := p0.Last, List := [] } : api_Roster)) 1 (.own 3)))) (.own 3) ⟨rfl, Nat.le_of_ble_eq_true rfl, trivial⟩ rfl rfl ty23), ⟨⟨rfl, trivial⟩, ⟨rfl, trivial⟩, rfl⟩, rfl,
      Step.plain rfl (does_move (.tmp 7) (.int .i64 v1) trivial), ⟨⟨rfl, trivial⟩, trivial, rfl⟩, rfl,
      Step.plain rfl (does_indexAddro 23 2 v8.length 42 3 (fun j => (e_api_Session (v8.getD j z_api_Session))) (.tmp 43) .i64 v1 el23 trivial h9.1 h9.2), ⟨⟨rfl, rfl, trivial⟩, ⟨rfl, trivial⟩, rfl⟩, rfl,
      Step.plain rfl (does_fieldAddr 41 1 1 44 3 (v1.toNat * 2) [v1.toNat] (.arr 2 v8.length fun j => (e_api_Session (v8.getD j z_api_Session))) fl41_1), ⟨⟨rfl, trivial⟩, ⟨rfl, trivial⟩, rfl⟩, rfl,
      Step.plain rfl (does_load 22 45 3 ((v1.toNat * 2) + 1) [v1.toNat, 1] (.arr 2 v8.length fun j => (e_api_Session (v8.getD j z_api_Session))) (.int .u64 ((v8.getD v1.toNat z_api_Session).Number)) ⟨(ixl h9), ⟨rfl, Nat.le_of_ble_eq_true rfl, trivial⟩⟩ rfl rfl ty22), ⟨⟨rfl, trivial⟩, ⟨rfl, trivial⟩, rfl⟩, rfl,
      Step.plain rfl (does_store 25 4 (.tmp 40) 1 0 [] (.var (e_api_Roster z_api_Roster)) (.var (.agg (.st [1, 1]) (vupd (c_api_Roster ({ Last := p0.Last, List := [] } : api_Roster)) 1 (.own 3)))) (.agg (.st [1, 1]) (vupd (c_api_Roster ({ Last := p0.Last, List := [] } : api_Roster)) 1 (.own 3))) true trivial rfl trivial rfl rfl rfl ty25), ⟨⟨rfl, rfl, trivial⟩, ⟨rfl, trivial⟩, rfl⟩, rfl,
      Step.plain rfl (does_assign (.tmp 46) (.int .u64 ((v8.getD v1.toNat z_api_Session).Number)) trivial), ⟨⟨rfl, trivial⟩, trivial, rfl⟩, rfl,
      Step.plain rfl (does_assign (.const (.int .i64 0)) (.int .i64 0) (fun _ => rfl)), ⟨trivial, trivial, rfl⟩, rfl, rfl⟩ rfl ?_
    refine aw_cov (cov_prune (s1 := ⟨[(4, (.ptr 1 0 [])), (5, (.int .u64 ((v8.getD v1.toNat z_api_Session).Number))), (6, (.int .i64 0))], [(1, some (.var (.agg (.st [1, 1]) (vupd (c_api_Roster ({ Last := p0.Last, List := [] } : api_Roster)) 1 (.own 3))))), (3, some (.arr 2 v8.length fun j => (e_api_Session (v8.getD j z_api_Session))))], 5⟩) ⟨rfl, rfl, rfl, trivial⟩ ⟨rfl, rfl, trivial⟩ (Nat.le_refl _)) ?_
    refine aw_ret ?_
    exact fun a w hr => ⟨_, [(e_api_Roster ({ ({ Last := p0.Last, List := [] } : api_Roster) with List := v8 })), (.int .u64 ((v8.getD v1.toNat z_api_Session).Number)), (.int .i64 0)], hr, ⟨⟨1, _, rfl, rfl, .agg _ _ _ (fun j hj => match j, hj with | 0, _ => ⟨rfl, rfl⟩ | 1, _ => ⟨rfl, rfl⟩ | k + 2, hj => absurd (show k + 2 < 2 from hj) (by omega)) (fun j hj => match j, hj with | 0, _ => .data (.int .u64 (({ ({ Last := p0.Last, List := [] } : api_Roster) with List := v8 }).Last)) (trivial) | 1, _ => .own _ _ _ _ rfl (fun _ => (d_api_Session _)) | k + 2, hj => absurd (show k + 2 < 2 from hj) (by omega)), ty25⟩, ⟨_, rfl, .data (.int .u64 ((v8.getD v1.toNat z_api_Session).Number)) trivial⟩, ⟨_, rfl, .data (.int .i64 0) trivial⟩, trivial⟩, by decide, by cases H; rfl⟩

theorem roster_Has_spec (p0 : api_Roster) (p1 : Int) (r : Bool) (H : roster_Has p0 p1 = some r) : FSpec Try.prog 15 [(e_api_Roster p0), (.int .u64 p1)] (.bool r) := by
  refine spec_of (fn := Try.f15) (args := [(e_api_Roster p0), (.int .u64 p1)]) Try.func15 rfl (Nat.le_of_ble_eq_true rfl) ?_
  rintro ⟨G, w0, W, S, Sp⟩ hG
  cases hG
  unfold roster_Has at H
  refine aw_region (es := [_, _]) ⟨Step.plain rfl (does_box 25 (.tmp 0) 0 (e_api_Roster p0) trivial rfl), ⟨⟨rfl, trivial⟩, trivial, rfl⟩, rfl,
    Step.plain rfl (does_assign (.const (.bool false)) (.bool false) (fun _ => rfl)), ⟨trivial, trivial, rfl⟩, rfl, rfl⟩ ?_
  refine aw_cov (cov_prune (s1 := ⟨[(1, (.int .u64 p1)), (2, (.ptr 0 0 []))], [(0, some (.var (e_api_Roster p0)))], 1⟩) ⟨rfl, rfl, trivial⟩ ⟨rfl, trivial⟩ (Nat.le_refl _)) ?_
  obtain ⟨v1, h2, H⟩ := bnd H
  refine aw_region (es := [_, _, _, _, _]) ⟨Step.plain rfl (does_load 25 2 0 0 [] (.var (e_api_Roster p0)) (e_api_Roster p0) trivial rfl rfl ty25), ⟨⟨rfl, trivial⟩, ⟨rfl, trivial⟩, rfl⟩, rfl,
    Step.plain rfl (does_move (.tmp 1) (.int .u64 p1) trivial), ⟨⟨rfl, trivial⟩, trivial, rfl⟩, rfl,
    Step.plain rfl (does_call 20 0 (fun _ => .any) (.func 20) [(.tmp 5), (.tmp 6)] [(e_api_Roster p0), (.int .u64 p1)] [] true [(e_api_Roster p0), (.int .u64 p1)] (.int .i64 v1) _ _ rfl fo20 rfl ⟨trivial, trivial, trivial⟩ ⟨.data _ (d_api_Roster p0), .data _ trivial, trivial⟩ (roster_find_spec p0 p1 _ h2) trivial), ⟨⟨rfl, rfl, trivial⟩, trivial, rfl⟩, rfl,
    Step.plain rfl (does_bin .geq 3 3 (.tmp 7) (.const (.int .i64 0)) .i64 v1 0 (.bool (decide (v1 ≥ 0))) trivial (fun _ => rfl) (bin_geq _ _ _ _)), ⟨⟨rfl, trivial⟩, trivial, rfl⟩, rfl,
    Step.plain rfl (does_assign (.tmp 8) (.bool (decide (v1 ≥ 0))) trivial), ⟨⟨rfl, trivial⟩, trivial, rfl⟩, rfl, rfl⟩ ?_
  refine aw_cov (cov_prune (s1 := ⟨[(4, (.bool (decide (v1 ≥ 0))))], [], 1⟩) ⟨rfl, trivial⟩ trivial (Nat.le_refl _)) ?_
  refine aw_ret ?_
  exact fun a w hr => ⟨_, [(.bool (decide (v1 ≥ 0)))], hr, ⟨⟨_, rfl, .data (.bool (decide (v1 ≥ 0))) trivial⟩, trivial⟩, by decide, by cases H; rfl⟩

theorem roster_May_spec (p0 : api_Roster) (r : Bool) (H : roster_May p0 = some r) : FSpec Try.prog 17 [(e_api_Roster p0)] (.bool r) := by
  refine spec_of (fn := Try.f17) (args := [(e_api_Roster p0)]) Try.func17 rfl (Nat.le_of_ble_eq_true rfl) ?_
  rintro ⟨G, w0, W, S, Sp⟩ hG
  cases hG
  unfold roster_May at H
  refine aw_region (es := [_, _]) ⟨Step.plain rfl (does_box 25 (.tmp 0) 0 (e_api_Roster p0) trivial rfl), ⟨⟨rfl, trivial⟩, trivial, rfl⟩, rfl,
    Step.plain rfl (does_assign (.const (.bool false)) (.bool false) (fun _ => rfl)), ⟨trivial, trivial, rfl⟩, rfl, rfl⟩ ?_
  refine aw_cov (cov_prune (s1 := ⟨[(1, (.ptr 0 0 []))], [(0, some (.var (e_api_Roster p0)))], 1⟩) ⟨rfl, trivial⟩ ⟨rfl, trivial⟩ (Nat.le_refl _)) ?_
  refine aw_region (es := [_]) ⟨Step.plain rfl (does_assign (.const (.int .u64 0)) (.int .u64 0) (fun _ => rfl)), ⟨trivial, trivial, rfl⟩, rfl, rfl⟩ ?_
  refine aw_cov (cov_prune (s1 := ⟨[(1, (.ptr 0 0 [])), (3, (.int .u64 0))], [(0, some (.var (e_api_Roster p0)))], 1⟩) ⟨rfl, rfl, trivial⟩ ⟨rfl, trivial⟩ (Nat.le_refl _)) ?_
  refine aw_seq ?_
  refine aw_region (es := [_, _, _, _]) ⟨Step.plain rfl (does_fieldAddr 25 1 1 1 0 0 [] (.var (e_api_Roster p0)) fl25_1), ⟨⟨rfl, trivial⟩, ⟨rfl, trivial⟩, rfl⟩, rfl,
    Step.plain rfl (does_load 23 6 0 (0 + 1) [1] (.var (e_api_Roster p0)) (e_s_api_Session p0.List) ⟨rfl, Nat.le_of_ble_eq_true rfl, trivial⟩ rfl rfl ty23), ⟨⟨rfl, trivial⟩, ⟨rfl, trivial⟩, rfl⟩, rfl,
    Step.plain rfl (does_lens 23 2 p0.List.length 7 (fun j => (e_api_Session (p0.List.getD j z_api_Session))) el23), ⟨⟨rfl, trivial⟩, trivial, rfl⟩, rfl,
    Step.plain rfl (does_move (.const (.int .i64 0)) (.int .i64 0) (fun _ => rfl)), ⟨trivial, trivial, rfl⟩, rfl, rfl⟩ ?_
  refine aw_cov (cov_prune (s1 := ⟨[(1, (.ptr 0 0 [])), (3, (.int .u64 0)), (7, (e_s_api_Session p0.List)), (8, (.int .i64 (p0.List.length : Int))), (9, (.int .i64 0))], [(0, some (.var (e_api_Roster p0)))], 1⟩) ⟨rfl, rfl, rfl, rfl, rfl, trivial⟩ ⟨rfl, trivial⟩ (Nat.le_refl _)) ?_
  obtain ⟨wn2, hwn2, Hrn2⟩ := bnd H
  refine aw_meet (fun y5 : Int => (⟨[(1, (.ptr 0 0 [])), (3, (.int .u64 y5))], [(0, some (.var (e_api_Roster p0)))], 1⟩ : St)) (fun y5 => Fl.nx y5 = wn2) (fun y5 hy => ?_) (aw_block (aw_runs (fun x1 : Int × Int => (⟨[(1, (.ptr 0 0 [])), (3, (.int .u64 x1.1)), (7, (e_s_api_Session p0.List)), (8, (.int .i64 (p0.List.length : Int))), (9, (.int .i64 x1.2))], [(0, some (.var (e_api_Roster p0)))], 1⟩ : St)) hwn2 (cov_prune ⟨rfl, rfl, rfl, rfl, rfl, trivial⟩ ⟨rfl, trivial⟩ (Nat.le_of_ble_eq_true rfl)) (fun x1 st H hsn2 => ?_)))
  · have H := nx_of hy Hrn2
    refine nx_seq ?_
    refine aw_region (es := [_, _, _, _, _, _, _, _, _, _, _, _, _, _, _, _]) ⟨Step.plain rfl (does_fieldAddr 25 1 1 1 0 0 [] (.var (e_api_Roster p0)) fl25_1), ⟨⟨rfl, trivial⟩, ⟨rfl, trivial⟩, rfl⟩, rfl,
      Step.plain rfl (does_load 23 25 0 (0 + 1) [1] (.var (e_api_Roster p0)) (e_s_api_Session p0.List) ⟨rfl, Nat.le_of_ble_eq_true rfl, trivial⟩ rfl rfl ty23), ⟨⟨rfl, trivial⟩, ⟨rfl, trivial⟩, rfl⟩, rfl,
      Step.plain rfl (does_lens 23 2 p0.List.length 26 (fun j => (e_api_Session (p0.List.getD j z_api_Session))) el23), ⟨⟨rfl, trivial⟩, trivial, rfl⟩, rfl,
      Step.plain rfl (does_bin .leq 3 3 (.tmp 27) (.const (.int .i64 4)) .i64 (p0.List.length : Int) 4 (.bool (decide ((p0.List.length : Int) ≤ 4))) trivial (fun _ => rfl) (bin_leq _ _ _ _)), ⟨⟨rfl, trivial⟩, trivial, rfl⟩, rfl,
      Step.plain rfl (does_move (.tmp 28) (.bool (decide ((p0.List.length : Int) ≤ 4))) trivial), ⟨⟨rfl, trivial⟩, trivial, rfl⟩, rfl,
      Step.guarded rfl rfl rfl rfl (fun hc => does_move (.tmp 3) (.int .u64 y5) trivial), ⟨⟨rfl, rfl, trivial⟩, trivial, rfl⟩, rfl,
      Step.guarded rfl rfl rfl rfl (fun hc => does_fieldAddr 25 0 0 1 0 0 [] (.var (e_api_Roster p0)) fl25_0), ⟨⟨rfl, rfl, trivial⟩, ⟨rfl, trivial⟩, rfl⟩, rfl,
      Step.guarded rfl rfl rfl rfl (fun hc => Does.strip (n' := [(31, (.opt (decide ((p0.List.length : Int) ≤ 4)) (.ptr 0 (0 + 0) [0])))]) (n := [(31, (.ptr 0 (0 + 0) [0]))]) ⟨(.opt _ _ hc), trivial⟩ (does_load 22 31 0 (0 + 0) [0] (.var (e_api_Roster p0)) (.int .u64 p0.Last) ⟨rfl, Nat.le_of_ble_eq_true rfl, trivial⟩ rfl rfl ty22)), ⟨⟨rfl, rfl, trivial⟩, ⟨rfl, trivial⟩, rfl⟩, rfl,
      Step.guarded rfl rfl rfl rfl (fun hc => Does.strip (n' := [(30, (.opt (decide ((p0.List.length : Int) ≤ 4)) (.int .u64 y5))), (32, (.opt (decide ((p0.List.length : Int) ≤ 4)) (.int .u64 p0.Last)))]) (n := [(30, (.int .u64 y5)), (32, (.int .u64 p0.Last))]) ⟨(.opt _ _ hc), (.opt _ _ hc), trivial⟩ (does_bin .leq 22 22 (.tmp 30) (.tmp 32) .u64 y5 p0.Last (.bool (decide (y5 ≤ p0.Last))) trivial trivial (bin_leq _ _ _ _))), ⟨⟨rfl, rfl, rfl, trivial⟩, trivial, rfl⟩, rfl,
      Step.plain rfl (does_and 29 33 (decide ((p0.List.length : Int) ≤ 4)) (decide (y5 ≤ p0.Last))), ⟨⟨rfl, rfl, trivial⟩, trivial, rfl⟩, rfl,
      Step.plain rfl (does_move (.tmp 34) (.bool ((decide ((p0.List.length : Int) ≤ 4)) && (decide (y5 ≤ p0.Last)))) trivial), ⟨⟨rfl, trivial⟩, trivial, rfl⟩, rfl,
      Step.guarded rfl rfl rfl rfl (fun hc => does_fieldAddr 25 0 0 1 0 0 [] (.var (e_api_Roster p0)) fl25_0), ⟨⟨rfl, rfl, trivial⟩, ⟨rfl, trivial⟩, rfl⟩, rfl,
      Step.guarded rfl rfl rfl rfl (fun hc => Does.strip (n' := [(36, (.opt ((decide ((p0.List.length : Int) ≤ 4)) && (decide (y5 ≤ p0.Last))) (.ptr 0 (0 + 0) [0])))]) (n := [(36, (.ptr 0 (0 + 0) [0]))]) ⟨(.opt _ _ hc), trivial⟩ (does_load 22 36 0 (0 + 0) [0] (.var (e_api_Roster p0)) (.int .u64 p0.Last) ⟨rfl, Nat.le_of_ble_eq_true rfl, trivial⟩ rfl rfl ty22)), ⟨⟨rfl, rfl, trivial⟩, ⟨rfl, trivial⟩, rfl⟩, rfl,
      Step.guarded rfl rfl rfl rfl (fun hc => Does.strip (n' := [(37, (.opt ((decide ((p0.List.length : Int) ≤ 4)) && (decide (y5 ≤ p0.Last))) (.int .u64 p0.Last)))]) (n := [(37, (.int .u64 p0.Last))]) ⟨(.opt _ _ hc), trivial⟩ (does_bin .leq 22 22 (.tmp 37) (.const (.int .u64 65535)) .u64 p0.Last 65535 (.bool (decide (p0.Last ≤ 65535))) trivial (fun _ => rfl) (bin_leq _ _ _ _))), ⟨⟨rfl, rfl, trivial⟩, trivial, rfl⟩, rfl,
      Step.plain rfl (does_and 35 38 ((decide ((p0.List.length : Int) ≤ 4)) && (decide (y5 ≤ p0.Last))) (decide (p0.Last ≤ 65535))), ⟨⟨rfl, rfl, trivial⟩, trivial, rfl⟩, rfl,
      Step.plain rfl (does_assign (.tmp 39) (.bool (((decide ((p0.List.length : Int) ≤ 4)) && (decide (y5 ≤ p0.Last))) && (decide (p0.Last ≤ 65535)))) trivial), ⟨⟨rfl, trivial⟩, trivial, rfl⟩, rfl, rfl⟩ ?_
    obtain ⟨v6, hv6, H⟩ := lt_of H
    refine aw_cov (cov_prune (s1 := ⟨[(2, (.bool v6))], [], 1⟩) ⟨(by subst hv6; rfl), trivial⟩ trivial (Nat.le_refl _)) ?_
    refine aw_ret ?_
    exact fun a w hr => ⟨_, [(.bool v6)], hr, ⟨⟨_, rfl, .data (.bool v6) trivial⟩, trivial⟩, by decide, by cases H; rfl⟩
  · refine aw_region (es := [_]) ⟨Step.plain rfl (does_bin .lss 3 3 (.tmp 9) (.tmp 8) .i64 x1.2 (p0.List.length : Int) (.bool (decide (x1.2 < (p0.List.length : Int)))) trivial trivial (bin_lss _ _ _ _)), ⟨⟨rfl, rfl, trivial⟩, trivial, rfl⟩, rfl, rfl⟩ ?_
    refine aw_cov (cov_prune (s1 := ⟨[(1, (.ptr 0 0 [])), (3, (.int .u64 x1.1)), (7, (e_s_api_Session p0.List)), (8, (.int .i64 (p0.List.length : Int))), (9, (.int .i64 x1.2)), (10, (.bool (decide (x1.2 < (p0.List.length : Int)))))], [(0, some (.var (e_api_Roster p0)))], 1⟩) ⟨rfl, rfl, rfl, rfl, rfl, rfl, trivial⟩ ⟨rfl, trivial⟩ (Nat.le_refl _)) ?_
    refine aw_seq ?_
    refine aw_cond rfl (fun hc => ?_) (fun hc => ?_)
    · replace H := ite_t hc H
      refine aw_skip ?_
      refine nx_seq ?_
      refine aw_seq ?_
      refine aw_block ?_
      obtain ⟨h3, H⟩ := ib_of H
      refine aw_region (es := [_, _, _, _]) ⟨Step.plain rfl (does_indexAddrs 23 2 p0.List.length 7 (fun j => (e_api_Session (p0.List.getD j z_api_Session))) (.tmp 9) .i64 x1.2 el23 trivial h3.1 h3.2), ⟨⟨rfl, rfl, trivial⟩, trivial, rfl⟩, rfl,
        Step.plain rfl (does_loadc 41 11 (e_api_Session (p0.List.getD x1.2.toNat z_api_Session)) ty41), ⟨⟨rfl, trivial⟩, trivial, rfl⟩, rfl,
        Step.plain rfl (does_alloc 41 1 (e_api_Session z_api_Session) zr41), ⟨trivial, trivial, rfl⟩, rfl,
        Step.plain rfl (does_store 41 5 (.tmp 12) 1 0 [] (.var (e_api_Session z_api_Session)) (.var (e_api_Session (p0.List.getD x1.2.toNat z_api_Session))) (e_api_Session (p0.List.getD x1.2.toNat z_api_Session)) true trivial rfl trivial rfl rfl rfl ty41), ⟨⟨rfl, rfl, trivial⟩, ⟨rfl, trivial⟩, rfl⟩, rfl, rfl⟩ ?_
      refine aw_cov (cov_prune (s1 := ⟨[(1, (.ptr 0 0 [])), (3, (.int .u64 x1.1)), (7, (e_s_api_Session p0.List)), (8, (.int .i64 (p0.List.length : Int))), (9, (.int .i64 x1.2)), (5, (.ptr 1 0 []))], [(0, some (.var (e_api_Roster p0))), (1, some (.var (e_api_Session (p0.List.getD x1.2.toNat z_api_Session))))], 2⟩) ⟨rfl, rfl, rfl, rfl, rfl, rfl, trivial⟩ ⟨rfl, rfl, trivial⟩ (Nat.le_refl _)) ?_
      refine aw_seq ?_
      refine aw_region (es := [_, _, _, _, _, _, _, _, _]) ⟨Step.plain rfl (does_fieldAddr 41 0 0 5 1 0 [] (.var (e_api_Session (p0.List.getD x1.2.toNat z_api_Session))) fl41_0), ⟨⟨rfl, trivial⟩, ⟨rfl, trivial⟩, rfl⟩, rfl,
        Step.plain rfl (does_load 22 13 1 (0 + 0) [0] (.var (e_api_Session (p0.List.getD x1.2.toNat z_api_Session))) (.int .u64 ((p0.List.getD x1.2.toNat z_api_Session).Id)) ⟨rfl, Nat.le_of_ble_eq_true rfl, trivial⟩ rfl rfl ty22), ⟨⟨rfl, trivial⟩, ⟨rfl, trivial⟩, rfl⟩, rfl,
        Step.plain rfl (does_move (.tmp 3) (.int .u64 x1.1) trivial), ⟨⟨rfl, trivial⟩, trivial, rfl⟩, rfl,
        Step.plain rfl (does_bin .leq 22 22 (.tmp 14) (.tmp 15) .u64 ((p0.List.getD x1.2.toNat z_api_Session).Id) x1.1 (.bool (decide (((p0.List.getD x1.2.toNat z_api_Session).Id) ≤ x1.1))) trivial trivial (bin_leq _ _ _ _)), ⟨⟨rfl, rfl, trivial⟩, trivial, rfl⟩, rfl,
        Step.plain rfl (does_move (.tmp 16) (.bool (decide (((p0.List.getD x1.2.toNat z_api_Session).Id) ≤ x1.1))) trivial), ⟨⟨rfl, trivial⟩, trivial, rfl⟩, rfl,
        Step.guarded rfl rfl rfl rfl (fun hc => does_fieldAddr 41 1 1 5 1 0 [] (.var (e_api_Session (p0.List.getD x1.2.toNat z_api_Session))) fl41_1), ⟨⟨rfl, rfl, trivial⟩, ⟨rfl, trivial⟩, rfl⟩, rfl,
        Step.guarded rfl rfl rfl rfl (fun hc => Does.strip (n' := [(18, (.opt (!(decide (((p0.List.getD x1.2.toNat z_api_Session).Id) ≤ x1.1))) (.ptr 1 (0 + 1) [1])))]) (n := [(18, (.ptr 1 (0 + 1) [1]))]) ⟨(.opt _ _ hc), trivial⟩ (does_load 22 18 1 (0 + 1) [1] (.var (e_api_Session (p0.List.getD x1.2.toNat z_api_Session))) (.int .u64 ((p0.List.getD x1.2.toNat z_api_Session).Number)) ⟨rfl, Nat.le_of_ble_eq_true rfl, trivial⟩ rfl rfl ty22)), ⟨⟨rfl, rfl, trivial⟩, ⟨rfl, trivial⟩, rfl⟩, rfl,
        Step.guarded rfl rfl rfl rfl (fun hc => Does.strip (n' := [(19, (.opt (!(decide (((p0.List.getD x1.2.toNat z_api_Session).Id) ≤ x1.1))) (.int .u64 ((p0.List.getD x1.2.toNat z_api_Session).Number))))]) (n := [(19, (.int .u64 ((p0.List.getD x1.2.toNat z_api_Session).Number)))]) ⟨(.opt _ _ hc), trivial⟩ (does_bin .gtr 22 22 (.tmp 19) (.const (.int .u64 4294967295)) .u64 ((p0.List.getD x1.2.toNat z_api_Session).Number) 4294967295 (.bool (decide (((p0.List.getD x1.2.toNat z_api_Session).Number) > 4294967295))) trivial (fun _ => rfl) (bin_gtr _ _ _ _))), ⟨⟨rfl, rfl, trivial⟩, trivial, rfl⟩, rfl,
        Step.plain rfl (does_or 17 20 (decide (((p0.List.getD x1.2.toNat z_api_Session).Id) ≤ x1.1)) (decide (((p0.List.getD x1.2.toNat z_api_Session).Number) > 4294967295))), ⟨⟨rfl, rfl, trivial⟩, trivial, rfl⟩, rfl, rfl⟩ ?_
      obtain ⟨v4, hv4, H⟩ := lt_of H
      refine aw_cov (cov_prune (s1 := ⟨[(1, (.ptr 0 0 [])), (7, (e_s_api_Session p0.List)), (8, (.int .i64 (p0.List.length : Int))), (9, (.int .i64 x1.2)), (5, (.ptr 1 0 [])), (21, (.bool v4))], [(0, some (.var (e_api_Roster p0))), (1, some (.var (e_api_Session (p0.List.getD x1.2.toNat z_api_Session))))], 2⟩) ⟨rfl, rfl, rfl, rfl, rfl, (by subst hv4; rfl), trivial⟩ ⟨rfl, rfl, trivial⟩ (Nat.le_refl _)) ?_
      refine aw_cond rfl (fun hc => ?_) (fun hc => ?_)
      · replace H := ite_t hc H
        refine aw_region (es := [_]) ⟨Step.plain rfl (does_assign (.const (.bool false)) (.bool false) (fun _ => rfl)), ⟨trivial, trivial, rfl⟩, rfl, rfl⟩ ?_
        refine aw_cov (cov_prune (s1 := ⟨[(2, (.bool false))], [], 2⟩) ⟨rfl, trivial⟩ trivial (Nat.le_refl _)) ?_
        refine aw_ret ?_
        replace H := rt_of H hsn2 Hrn2
        refine rt_then ?_
        refine rt_blk ?_
        refine rt_then ?_
        refine rt_then ?_
        refine rt_blk ?_
        refine rt_then ?_
        refine rt_then ?_
        exact fun a w hr => ⟨_, [(.bool false)], hr, ⟨⟨_, rfl, .data (.bool false) trivial⟩, trivial⟩, by decide, by cases H; rfl⟩
      · replace H := ite_f hc H
        refine aw_skip ?_
        refine nx_seq ?_
        refine aw_region1 (es := [_, _, _]) ⟨Step.plain rfl (does_fieldAddr 41 0 0 5 1 0 [] (.var (e_api_Session (p0.List.getD x1.2.toNat z_api_Session))) fl41_0), ⟨⟨rfl, trivial⟩, ⟨rfl, trivial⟩, rfl⟩, rfl,
          Step.plain rfl (does_load 22 22 1 (0 + 0) [0] (.var (e_api_Session (p0.List.getD x1.2.toNat z_api_Session))) (.int .u64 ((p0.List.getD x1.2.toNat z_api_Session).Id)) ⟨rfl, Nat.le_of_ble_eq_true rfl, trivial⟩ rfl rfl ty22), ⟨⟨rfl, trivial⟩, ⟨rfl, trivial⟩, rfl⟩, rfl,
          Step.plain rfl (does_assign (.tmp 23) (.int .u64 ((p0.List.getD x1.2.toNat z_api_Session).Id)) trivial), ⟨⟨rfl, trivial⟩, trivial, rfl⟩, rfl, rfl⟩ ?_
        refine nx_blk ?_
        refine nx_seq ?_
        refine aw_cov (cov_prune (s1 := ⟨[(1, (.ptr 0 0 [])), (7, (e_s_api_Session p0.List)), (8, (.int .i64 (p0.List.length : Int))), (9, (.int .i64 x1.2)), (3, (.int .u64 ((p0.List.getD x1.2.toNat z_api_Session).Id)))], [(0, some (.var (e_api_Roster p0)))], 2⟩) ⟨rfl, rfl, rfl, rfl, rfl, trivial⟩ ⟨rfl, trivial⟩ (Nat.le_refl _)) ?_
        refine aw_region1 (es := [_, _]) ⟨Step.plain rfl (does_bin .add 3 3 (.tmp 9) (.const (.int .i64 1)) .i64 x1.2 1 (.int .i64 (IntKind.i64.wrap (x1.2 + 1))) trivial (fun _ => rfl) (bin_add _ _ _ _)), ⟨⟨rfl, trivial⟩, trivial, rfl⟩, rfl,
          Step.plain rfl (does_move (.tmp 24) (.int .i64 (IntKind.i64.wrap (x1.2 + 1))) trivial), ⟨⟨rfl, trivial⟩, trivial, rfl⟩, rfl, rfl⟩ ?_
        exact nx_loop ((p0.List.getD x1.2.toNat z_api_Session).Id, (IntKind.i64.wrap (x1.2 + 1))) H (cov_of (fun i => match i with | 0 => 0 | k => k) ⟨⟨_, rfl, ⟨rfl, Nat.le_of_ble_eq_true rfl⟩⟩, ⟨_, rfl, ⟨rfl, trivial⟩⟩, ⟨_, rfl, ⟨rfl, (d_s_api_Session _).plain⟩⟩, ⟨_, rfl, ⟨rfl, trivial⟩⟩, ⟨_, rfl, ⟨rfl, trivial⟩⟩, trivial⟩ ⟨⟨Nat.le_of_ble_eq_true rfl, _, _, rfl, rfl, .inl ⟨rfl, (d_api_Roster _).plain⟩⟩, trivial⟩ rfl)
    · replace H := ite_f hc H
      refine aw_exit ?_
      refine ex_then ?_
      refine ex_then ?_
      refine ex_here ?_
      exact nx_ljoin (x1.1) H hsn2 (cov_prune ⟨rfl, rfl, trivial⟩ ⟨rfl, trivial⟩ (Nat.le_of_ble_eq_true rfl))

theorem congresslaw17_fixed_spec (r : Bool) (H : congresslaw17_fixed = some r) : FSpec Try.prog 13 [] (.bool r) := by
  refine spec_of (fn := Try.f13) (args := []) Try.func13 rfl (Nat.le_of_ble_eq_true rfl) ?_
  rintro ⟨G, w0, W, S, Sp⟩ hG
  cases hG
  unfold congresslaw17_fixed at H
  refine aw_region (es := [_]) ⟨Step.plain rfl (does_assign (.const (.bool false)) (.bool false) (fun _ => rfl)), ⟨trivial, trivial, rfl⟩, rfl, rfl⟩ ?_
  refine aw_cov (cov_prune (s1 := ⟨[], [], 0⟩) trivial trivial (Nat.le_refl _)) ?_
  obtain ⟨v1, h2, H⟩ := bnd H
  refine aw_region (es := [_, _, _, _, _, _, _, _, _, _]) ⟨Step.plain rfl (does_buildT 25 #[] [] [] (.st [1, 1]) (c_api_Roster z_api_Roster) (c_api_Roster ({ Last := 0, List := [] } : api_Roster)) rfl bo25 trivial trivial (by funext j; match j with | 0 => rfl | 1 => rfl | _ + 2 => rfl)), ⟨trivial, trivial, rfl⟩, rfl,
    Step.plain rfl (does_call 7 0 (fun _ => .any) (.func 7) [(.tmp 18)] [(e_api_Roster ({ Last := 0, List := [] } : api_Roster))] [] false [(e_api_Roster ({ Last := 0, List := [] } : api_Roster))] (resV [(e_api_Roster v1.1), (.int .u64 v1.2.1), (.int .i64 v1.2.2)]) _ _ rfl fo7 rfl ⟨trivial, trivial⟩ ⟨.data _ (d_api_Roster ({ Last := 0, List := [] } : api_Roster)), trivial⟩ (roster_Open_spec ({ Last := 0, List := [] } : api_Roster) _ h2) (res_data3 (d_api_Roster v1.1) trivial trivial)), ⟨⟨rfl, trivial⟩, trivial, rfl⟩, rfl,
    Step.plain rfl (does_move (.tmp 19) (resV [(e_api_Roster v1.1), (.int .u64 v1.2.1), (.int .i64 v1.2.2)]) trivial), ⟨⟨rfl, trivial⟩, trivial, rfl⟩, rfl,
    Step.plain rfl (does_extract 17 0 3 (fun j => [(e_api_Roster v1.1), (.int .u64 v1.2.1), (.int .i64 v1.2.2)].getD j (.bool false)) (Nat.le_of_ble_eq_true rfl)), ⟨⟨rfl, trivial⟩, trivial, rfl⟩, rfl,
    Step.plain rfl (does_extract 17 1 3 (fun j => [(e_api_Roster v1.1), (.int .u64 v1.2.1), (.int .i64 v1.2.2)].getD j (.bool false)) (Nat.le_of_ble_eq_true rfl)), ⟨⟨rfl, trivial⟩, trivial, rfl⟩, rfl,
    Step.plain rfl (does_extract 17 2 3 (fun j => [(e_api_Roster v1.1), (.int .u64 v1.2.1), (.int .i64 v1.2.2)].getD j (.bool false)) (Nat.le_of_ble_eq_true rfl)), ⟨⟨rfl, trivial⟩, trivial, rfl⟩, rfl,
    Step.plain rfl (does_alloc 25 0 (e_api_Roster z_api_Roster) zr25), ⟨trivial, trivial, rfl⟩, rfl,
    Step.plain rfl (does_store 25 1 (.tmp 20) 0 0 [] (.var (e_api_Roster z_api_Roster)) (.var (e_api_Roster v1.1)) (e_api_Roster v1.1) true trivial rfl trivial rfl rfl rfl ty25), ⟨⟨rfl, rfl, trivial⟩, ⟨rfl, trivial⟩, rfl⟩, rfl,
    Step.plain rfl (does_assign (.tmp 21) (.int .u64 v1.2.1) trivial), ⟨⟨rfl, trivial⟩, trivial, rfl⟩, rfl,
    Step.plain rfl (does_assign (.tmp 22) (.int .i64 v1.2.2) trivial), ⟨⟨rfl, trivial⟩, trivial, rfl⟩, rfl, rfl⟩ ?_
  refine aw_cov (cov_prune (s1 := ⟨[(1, (.ptr 0 0 [])), (2, (.int .u64 v1.2.1)), (3, (.int .i64 v1.2.2))], [(0, some (.var (e_api_Roster v1.1)))], 1⟩) ⟨rfl, rfl, rfl, trivial⟩ ⟨rfl, trivial⟩ (Nat.le_refl _)) ?_
  obtain ⟨v3, h4, H⟩ := bnd H
  refine aw_region (es := [_, _, _, _, _, _, _, _, _, _]) ⟨Step.plain rfl (does_load 25 1 0 0 [] (.var (e_api_Roster v1.1)) (e_api_Roster v1.1) trivial rfl rfl ty25), ⟨⟨rfl, trivial⟩, ⟨rfl, trivial⟩, rfl⟩, rfl,
    Step.plain rfl (does_call 7 0 (fun _ => .any) (.func 7) [(.tmp 24)] [(e_api_Roster v1.1)] [] false [(e_api_Roster v1.1)] (resV [(e_api_Roster v3.1), (.int .u64 v3.2.1), (.int .i64 v3.2.2)]) _ _ rfl fo7 rfl ⟨trivial, trivial⟩ ⟨.data _ (d_api_Roster v1.1), trivial⟩ (roster_Open_spec v1.1 _ h4) (res_data3 (d_api_Roster v3.1) trivial trivial)), ⟨⟨rfl, trivial⟩, trivial, rfl⟩, rfl,
    Step.plain rfl (does_move (.tmp 25) (resV [(e_api_Roster v3.1), (.int .u64 v3.2.1), (.int .i64 v3.2.2)]) trivial), ⟨⟨rfl, trivial⟩, trivial, rfl⟩, rfl,
    Step.plain rfl (does_extract 23 0 3 (fun j => [(e_api_Roster v3.1), (.int .u64 v3.2.1), (.int .i64 v3.2.2)].getD j (.bool false)) (Nat.le_of_ble_eq_true rfl)), ⟨⟨rfl, trivial⟩, trivial, rfl⟩, rfl,
    Step.plain rfl (does_extract 23 1 3 (fun j => [(e_api_Roster v3.1), (.int .u64 v3.2.1), (.int .i64 v3.2.2)].getD j (.bool false)) (Nat.le_of_ble_eq_true rfl)), ⟨⟨rfl, trivial⟩, trivial, rfl⟩, rfl,
    Step.plain rfl (does_extract 23 2 3 (fun j => [(e_api_Roster v3.1), (.int .u64 v3.2.1), (.int .i64 v3.2.2)].getD j (.bool false)) (Nat.le_of_ble_eq_true rfl)), ⟨⟨rfl, trivial⟩, trivial, rfl⟩, rfl,
    Step.plain rfl (does_alloc 25 1 (e_api_Roster z_api_Roster) zr25), ⟨trivial, trivial, rfl⟩, rfl,
    Step.plain rfl (does_store 25 4 (.tmp 26) 1 0 [] (.var (e_api_Roster z_api_Roster)) (.var (e_api_Roster v3.1)) (e_api_Roster v3.1) true trivial rfl trivial rfl rfl rfl ty25), ⟨⟨rfl, rfl, trivial⟩, ⟨rfl, trivial⟩, rfl⟩, rfl,
    Step.plain rfl (does_assign (.tmp 27) (.int .u64 v3.2.1) trivial), ⟨⟨rfl, trivial⟩, trivial, rfl⟩, rfl,
    Step.plain rfl (does_assign (.tmp 28) (.int .i64 v3.2.2) trivial), ⟨⟨rfl, trivial⟩, trivial, rfl⟩, rfl, rfl⟩ ?_
  refine aw_cov (cov_prune (s1 := ⟨[(2, (.int .u64 v1.2.1)), (3, (.int .i64 v1.2.2)), (4, (.ptr 1 0 [])), (5, (.int .u64 v3.2.1)), (6, (.int .i64 v3.2.2))], [(1, some (.var (e_api_Roster v3.1)))], 2⟩) ⟨rfl, rfl, rfl, rfl, rfl, trivial⟩ ⟨rfl, trivial⟩ (Nat.le_refl _)) ?_
  obtain ⟨v5, h6, H⟩ := bnd H
  refine aw_region (es := [_, _, _, _, _, _, _, _]) ⟨Step.plain rfl (does_load 25 4 1 0 [] (.var (e_api_Roster v3.1)) (e_api_Roster v3.1) trivial rfl rfl ty25), ⟨⟨rfl, trivial⟩, ⟨rfl, trivial⟩, rfl⟩, rfl,
    Step.plain rfl (does_call 9 0 (fun _ => .any) (.func 9) [(.tmp 30), (.const (.int .u64 1))] [(e_api_Roster v3.1), (.int .u64 1)] [] false [(e_api_Roster v3.1), (.int .u64 1)] (resV [(e_api_Roster v5.1), (.int .i64 v5.2)]) _ _ rfl fo9 rfl ⟨trivial, (fun _ => rfl), trivial⟩ ⟨.data _ (d_api_Roster v3.1), .data _ trivial, trivial⟩ (roster_Close_spec v3.1 1 _ h6) (res_data2 (d_api_Roster v5.1) trivial)), ⟨⟨rfl, trivial⟩, trivial, rfl⟩, rfl,
    Step.plain rfl (does_move (.tmp 31) (resV [(e_api_Roster v5.1), (.int .i64 v5.2)]) trivial), ⟨⟨rfl, trivial⟩, trivial, rfl⟩, rfl,
    Step.plain rfl (does_extract 29 0 2 (fun j => [(e_api_Roster v5.1), (.int .i64 v5.2)].getD j (.bool false)) (Nat.le_of_ble_eq_true rfl)), ⟨⟨rfl, trivial⟩, trivial, rfl⟩, rfl,
    Step.plain rfl (does_extract 29 1 2 (fun j => [(e_api_Roster v5.1), (.int .i64 v5.2)].getD j (.bool false)) (Nat.le_of_ble_eq_true rfl)), ⟨⟨rfl, trivial⟩, trivial, rfl⟩, rfl,
    Step.plain rfl (does_alloc 25 2 (e_api_Roster z_api_Roster) zr25), ⟨trivial, trivial, rfl⟩, rfl,
    Step.plain rfl (does_store 25 7 (.tmp 32) 2 0 [] (.var (e_api_Roster z_api_Roster)) (.var (e_api_Roster v5.1)) (e_api_Roster v5.1) true trivial rfl trivial rfl rfl rfl ty25), ⟨⟨rfl, rfl, trivial⟩, ⟨rfl, trivial⟩, rfl⟩, rfl,
    Step.plain rfl (does_assign (.tmp 33) (.int .i64 v5.2) trivial), ⟨⟨rfl, trivial⟩, trivial, rfl⟩, rfl, rfl⟩ ?_
  refine aw_cov (cov_prune (s1 := ⟨[(2, (.int .u64 v1.2.1)), (3, (.int .i64 v1.2.2)), (5, (.int .u64 v3.2.1)), (6, (.int .i64 v3.2.2)), (7, (.ptr 2 0 [])), (8, (.int .i64 v5.2))], [(2, some (.var (e_api_Roster v5.1)))], 3⟩) ⟨rfl, rfl, rfl, rfl, rfl, rfl, trivial⟩ ⟨rfl, trivial⟩ (Nat.le_refl _)) ?_
  obtain ⟨v7, h8, H⟩ := bnd H
  refine aw_region (es := [_, _, _, _, _, _, _, _, _, _]) ⟨Step.plain rfl (does_load 25 7 2 0 [] (.var (e_api_Roster v5.1)) (e_api_Roster v5.1) trivial rfl rfl ty25), ⟨⟨rfl, trivial⟩, ⟨rfl, trivial⟩, rfl⟩, rfl,
    Step.plain rfl (does_call 7 0 (fun _ => .any) (.func 7) [(.tmp 35)] [(e_api_Roster v5.1)] [] false [(e_api_Roster v5.1)] (resV [(e_api_Roster v7.1), (.int .u64 v7.2.1), (.int .i64 v7.2.2)]) _ _ rfl fo7 rfl ⟨trivial, trivial⟩ ⟨.data _ (d_api_Roster v5.1), trivial⟩ (roster_Open_spec v5.1 _ h8) (res_data3 (d_api_Roster v7.1) trivial trivial)), ⟨⟨rfl, trivial⟩, trivial, rfl⟩, rfl,
    Step.plain rfl (does_move (.tmp 36) (resV [(e_api_Roster v7.1), (.int .u64 v7.2.1), (.int .i64 v7.2.2)]) trivial), ⟨⟨rfl, trivial⟩, trivial, rfl⟩, rfl,
    Step.plain rfl (does_extract 34 0 3 (fun j => [(e_api_Roster v7.1), (.int .u64 v7.2.1), (.int .i64 v7.2.2)].getD j (.bool false)) (Nat.le_of_ble_eq_true rfl)), ⟨⟨rfl, trivial⟩, trivial, rfl⟩, rfl,
    Step.plain rfl (does_extract 34 1 3 (fun j => [(e_api_Roster v7.1), (.int .u64 v7.2.1), (.int .i64 v7.2.2)].getD j (.bool false)) (Nat.le_of_ble_eq_true rfl)), ⟨⟨rfl, trivial⟩, trivial, rfl⟩, rfl,
    Step.plain rfl (does_extract 34 2 3 (fun j => [(e_api_Roster v7.1), (.int .u64 v7.2.1), (.int .i64 v7.2.2)].getD j (.bool false)) (Nat.le_of_ble_eq_true rfl)), ⟨⟨rfl, trivial⟩, trivial, rfl⟩, rfl,
    Step.plain rfl (does_alloc 25 3 (e_api_Roster z_api_Roster) zr25), ⟨trivial, trivial, rfl⟩, rfl,
    Step.plain rfl (does_store 25 9 (.tmp 37) 3 0 [] (.var (e_api_Roster z_api_Roster)) (.var (e_api_Roster v7.1)) (e_api_Roster v7.1) true trivial rfl trivial rfl rfl rfl ty25), ⟨⟨rfl, rfl, trivial⟩, ⟨rfl, trivial⟩, rfl⟩, rfl,
    Step.plain rfl (does_assign (.tmp 38) (.int .u64 v7.2.1) trivial), ⟨⟨rfl, trivial⟩, trivial, rfl⟩, rfl,
    Step.plain rfl (does_assign (.tmp 39) (.int .i64 v7.2.2) trivial), ⟨⟨rfl, trivial⟩, trivial, rfl⟩, rfl, rfl⟩ ?_
  refine aw_cov (cov_prune (s1 := ⟨[(2, (.int .u64 v1.2.1)), (3, (.int .i64 v1.2.2)), (5, (.int .u64 v3.2.1)), (6, (.int .i64 v3.2.2)), (8, (.int .i64 v5.2)), (9, (.ptr 3 0 [])), (10, (.int .u64 v7.2.1)), (11, (.int .i64 v7.2.2))], [(3, some (.var (e_api_Roster v7.1)))], 4⟩) ⟨rfl, rfl, rfl, rfl, rfl, rfl, rfl, rfl, trivial⟩ ⟨rfl, trivial⟩ (Nat.le_refl _)) ?_
  obtain ⟨v9, h10, H⟩ := bnd H
  refine aw_region (es := [_, _, _, _, _, _, _, _, _, _]) ⟨Step.plain rfl (does_load 25 9 3 0 [] (.var (e_api_Roster v7.1)) (e_api_Roster v7.1) trivial rfl rfl ty25), ⟨⟨rfl, trivial⟩, ⟨rfl, trivial⟩, rfl⟩, rfl,
    Step.plain rfl (does_call 11 0 (fun _ => .any) (.func 11) [(.tmp 41), (.const (.int .u64 3))] [(e_api_Roster v7.1), (.int .u64 3)] [] false [(e_api_Roster v7.1), (.int .u64 3)] (resV [(e_api_Roster v9.1), (.int .u64 v9.2.1), (.int .i64 v9.2.2)]) _ _ rfl fo11 rfl ⟨trivial, (fun _ => rfl), trivial⟩ ⟨.data _ (d_api_Roster v7.1), .data _ trivial, trivial⟩ (roster_Next_spec v7.1 3 _ h10) (res_data3 (d_api_Roster v9.1) trivial trivial)), ⟨⟨rfl, trivial⟩, trivial, rfl⟩, rfl,
    Step.plain rfl (does_move (.tmp 42) (resV [(e_api_Roster v9.1), (.int .u64 v9.2.1), (.int .i64 v9.2.2)]) trivial), ⟨⟨rfl, trivial⟩, trivial, rfl⟩, rfl,
    Step.plain rfl (does_extract 40 0 3 (fun j => [(e_api_Roster v9.1), (.int .u64 v9.2.1), (.int .i64 v9.2.2)].getD j (.bool false)) (Nat.le_of_ble_eq_true rfl)), ⟨⟨rfl, trivial⟩, trivial, rfl⟩, rfl,
    Step.plain rfl (does_extract 40 1 3 (fun j => [(e_api_Roster v9.1), (.int .u64 v9.2.1), (.int .i64 v9.2.2)].getD j (.bool false)) (Nat.le_of_ble_eq_true rfl)), ⟨⟨rfl, trivial⟩, trivial, rfl⟩, rfl,
    Step.plain rfl (does_extract 40 2 3 (fun j => [(e_api_Roster v9.1), (.int .u64 v9.2.1), (.int .i64 v9.2.2)].getD j (.bool false)) (Nat.le_of_ble_eq_true rfl)), ⟨⟨rfl, trivial⟩, trivial, rfl⟩, rfl,
    Step.plain rfl (does_alloc 25 4 (e_api_Roster z_api_Roster) zr25), ⟨trivial, trivial, rfl⟩, rfl,
    Step.plain rfl (does_store 25 12 (.tmp 43) 4 0 [] (.var (e_api_Roster z_api_Roster)) (.var (e_api_Roster v9.1)) (e_api_Roster v9.1) true trivial rfl trivial rfl rfl rfl ty25), ⟨⟨rfl, rfl, trivial⟩, ⟨rfl, trivial⟩, rfl⟩, rfl,
    Step.plain rfl (does_assign (.tmp 44) (.int .u64 v9.2.1) trivial), ⟨⟨rfl, trivial⟩, trivial, rfl⟩, rfl,
    Step.plain rfl (does_assign (.tmp 45) (.int .i64 v9.2.2) trivial), ⟨⟨rfl, trivial⟩, trivial, rfl⟩, rfl, rfl⟩ ?_
  refine aw_cov (cov_prune (s1 := ⟨[(2, (.int .u64 v1.2.1)), (3, (.int .i64 v1.2.2)), (5, (.int .u64 v3.2.1)), (6, (.int .i64 v3.2.2)), (8, (.int .i64 v5.2)), (9, (.ptr 3 0 [])), (10, (.int .u64 v7.2.1)), (11, (.int .i64 v7.2.2)), (13, (.int .u64 v9.2.1)), (14, (.int .i64 v9.2.2))], [(3, some (.var (e_api_Roster v7.1)))], 5⟩) ⟨rfl, rfl, rfl, rfl, rfl, rfl, rfl, rfl, rfl, rfl, trivial⟩ ⟨rfl, trivial⟩ (Nat.le_refl _)) ?_
  obtain ⟨v11, h12, H⟩ := bnd H
  refine aw_region (es := [_, _, _, _, _, _, _, _]) ⟨Step.plain rfl (does_load 25 9 3 0 [] (.var (e_api_Roster v7.1)) (e_api_Roster v7.1) trivial rfl rfl ty25), ⟨⟨rfl, trivial⟩, ⟨rfl, trivial⟩, rfl⟩, rfl,
    Step.plain rfl (does_call 9 0 (fun _ => .any) (.func 9) [(.tmp 47), (.const (.int .u64 1))] [(e_api_Roster v7.1), (.int .u64 1)] [] false [(e_api_Roster v7.1), (.int .u64 1)] (resV [(e_api_Roster v11.1), (.int .i64 v11.2)]) _ _ rfl fo9 rfl ⟨trivial, (fun _ => rfl), trivial⟩ ⟨.data _ (d_api_Roster v7.1), .data _ trivial, trivial⟩ (roster_Close_spec v7.1 1 _ h12) (res_data2 (d_api_Roster v11.1) trivial)), ⟨⟨rfl, trivial⟩, trivial, rfl⟩, rfl,
    Step.plain rfl (does_move (.tmp 48) (resV [(e_api_Roster v11.1), (.int .i64 v11.2)]) trivial), ⟨⟨rfl, trivial⟩, trivial, rfl⟩, rfl,
    Step.plain rfl (does_extract 46 0 2 (fun j => [(e_api_Roster v11.1), (.int .i64 v11.2)].getD j (.bool false)) (Nat.le_of_ble_eq_true rfl)), ⟨⟨rfl, trivial⟩, trivial, rfl⟩, rfl,
    Step.plain rfl (does_extract 46 1 2 (fun j => [(e_api_Roster v11.1), (.int .i64 v11.2)].getD j (.bool false)) (Nat.le_of_ble_eq_true rfl)), ⟨⟨rfl, trivial⟩, trivial, rfl⟩, rfl,
    Step.plain rfl (does_alloc 25 5 (e_api_Roster z_api_Roster) zr25), ⟨trivial, trivial, rfl⟩, rfl,
    Step.plain rfl (does_store 25 15 (.tmp 49) 5 0 [] (.var (e_api_Roster z_api_Roster)) (.var (e_api_Roster v11.1)) (e_api_Roster v11.1) true trivial rfl trivial rfl rfl rfl ty25), ⟨⟨rfl, rfl, trivial⟩, ⟨rfl, trivial⟩, rfl⟩, rfl,
    Step.plain rfl (does_assign (.tmp 50) (.int .i64 v11.2) trivial), ⟨⟨rfl, trivial⟩, trivial, rfl⟩, rfl, rfl⟩ ?_
  refine aw_cov (cov_prune (s1 := ⟨[(2, (.int .u64 v1.2.1)), (3, (.int .i64 v1.2.2)), (5, (.int .u64 v3.2.1)), (6, (.int .i64 v3.2.2)), (8, (.int .i64 v5.2)), (9, (.ptr 3 0 [])), (10, (.int .u64 v7.2.1)), (11, (.int .i64 v7.2.2)), (13, (.int .u64 v9.2.1)), (14, (.int .i64 v9.2.2)), (16, (.int .i64 v11.2))], [(3, some (.var (e_api_Roster v7.1)))], 6⟩) ⟨rfl, rfl, rfl, rfl, rfl, rfl, rfl, rfl, rfl, rfl, rfl, trivial⟩ ⟨rfl, trivial⟩ (Nat.le_refl _)) ?_
  obtain ⟨v13, h14, H⟩ := whn_of H
  obtain ⟨v15, h16, H⟩ := whn_of H
  obtain ⟨v17, h18, H⟩ := whn_of H
  refine aw_region (es := [_, _, _, _, _, _, _, _, _, _, _, _, _, _, _, _, _, _, _, _, _, _, _, _, _, _, _, _, _, _, _, _, _, _, _, _, _, _, _, _, _, _, _, _, _, _, _, _, _, _, _, _]) ⟨Step.plain rfl (does_move (.tmp 3) (.int .i64 v1.2.2) trivial), ⟨⟨rfl, trivial⟩, trivial, rfl⟩, rfl,
    Step.plain rfl (does_bin .eql 26 26 (.tmp 51) (.const (.int .i64 0)) .i64 v1.2.2 0 (.bool (v1.2.2 == 0)) trivial (fun _ => rfl) (bin_eql _ _ _ _)), ⟨⟨rfl, trivial⟩, trivial, rfl⟩, rfl,
    Step.plain rfl (does_move (.tmp 52) (.bool (v1.2.2 == 0)) trivial), ⟨⟨rfl, trivial⟩, trivial, rfl⟩, rfl,
    Step.guarded rfl rfl rfl rfl (fun hc => does_move (.tmp 2) (.int .u64 v1.2.1) trivial), ⟨⟨rfl, rfl, trivial⟩, trivial, rfl⟩, rfl,
    Step.guarded rfl rfl rfl rfl (fun hc => Does.strip (n' := [(54, (.opt (v1.2.2 == 0) (.int .u64 v1.2.1)))]) (n := [(54, (.int .u64 v1.2.1))]) ⟨(.opt _ _ hc), trivial⟩ (does_bin .eql 22 22 (.tmp 54) (.const (.int .u64 1)) .u64 v1.2.1 1 (.bool (v1.2.1 == 1)) trivial (fun _ => rfl) (bin_eql _ _ _ _))), ⟨⟨rfl, rfl, trivial⟩, trivial, rfl⟩, rfl,
    Step.plain rfl (does_and 53 55 (v1.2.2 == 0) (v1.2.1 == 1)), ⟨⟨rfl, rfl, trivial⟩, trivial, rfl⟩, rfl,
    Step.plain rfl (does_move (.tmp 56) (.bool ((v1.2.2 == 0) && (v1.2.1 == 1))) trivial), ⟨⟨rfl, trivial⟩, trivial, rfl⟩, rfl,
    Step.guarded rfl rfl rfl rfl (fun hc => does_move (.tmp 6) (.int .i64 v3.2.2) trivial), ⟨⟨rfl, rfl, trivial⟩, trivial, rfl⟩, rfl,
    Step.guarded rfl rfl rfl rfl (fun hc => Does.strip (n' := [(58, (.opt ((v1.2.2 == 0) && (v1.2.1 == 1)) (.int .i64 v3.2.2)))]) (n := [(58, (.int .i64 v3.2.2))]) ⟨(.opt _ _ hc), trivial⟩ (does_bin .eql 26 26 (.tmp 58) (.const (.int .i64 0)) .i64 v3.2.2 0 (.bool (v3.2.2 == 0)) trivial (fun _ => rfl) (bin_eql _ _ _ _))), ⟨⟨rfl, rfl, trivial⟩, trivial, rfl⟩, rfl,
    Step.plain rfl (does_and 57 59 ((v1.2.2 == 0) && (v1.2.1 == 1)) (v3.2.2 == 0)), ⟨⟨rfl, rfl, trivial⟩, trivial, rfl⟩, rfl,
    Step.plain rfl (does_move (.tmp 60) (.bool (((v1.2.2 == 0) && (v1.2.1 == 1)) && (v3.2.2 == 0))) trivial), ⟨⟨rfl, trivial⟩, trivial, rfl⟩, rfl,
    Step.guarded rfl rfl rfl rfl (fun hc => does_move (.tmp 5) (.int .u64 v3.2.1) trivial), ⟨⟨rfl, rfl, trivial⟩, trivial, rfl⟩, rfl,
    Step.guarded rfl rfl rfl rfl (fun hc => Does.strip (n' := [(62, (.opt (((v1.2.2 == 0) && (v1.2.1 == 1)) && (v3.2.2 == 0)) (.int .u64 v3.2.1)))]) (n := [(62, (.int .u64 v3.2.1))]) ⟨(.opt _ _ hc), trivial⟩ (does_bin .eql 22 22 (.tmp 62) (.const (.int .u64 2)) .u64 v3.2.1 2 (.bool (v3.2.1 == 2)) trivial (fun _ => rfl) (bin_eql _ _ _ _))), ⟨⟨rfl, rfl, trivial⟩, trivial, rfl⟩, rfl,
    Step.plain rfl (does_and 61 63 (((v1.2.2 == 0) && (v1.2.1 == 1)) && (v3.2.2 == 0)) (v3.2.1 == 2)), ⟨⟨rfl, rfl, trivial⟩, trivial, rfl⟩, rfl,
    Step.plain rfl (does_move (.tmp 64) (.bool ((((v1.2.2 == 0) && (v1.2.1 == 1)) && (v3.2.2 == 0)) && (v3.2.1 == 2))) trivial), ⟨⟨rfl, trivial⟩, trivial, rfl⟩, rfl,
    Step.guarded rfl rfl rfl rfl (fun hc => does_move (.tmp 8) (.int .i64 v5.2) trivial), ⟨⟨rfl, rfl, trivial⟩, trivial, rfl⟩, rfl,
    Step.guarded rfl rfl rfl rfl (fun hc => Does.strip (n' := [(66, (.opt ((((v1.2.2 == 0) && (v1.2.1 == 1)) && (v3.2.2 == 0)) && (v3.2.1 == 2)) (.int .i64 v5.2)))]) (n := [(66, (.int .i64 v5.2))]) ⟨(.opt _ _ hc), trivial⟩ (does_bin .eql 26 26 (.tmp 66) (.const (.int .i64 0)) .i64 v5.2 0 (.bool (v5.2 == 0)) trivial (fun _ => rfl) (bin_eql _ _ _ _))), ⟨⟨rfl, rfl, trivial⟩, trivial, rfl⟩, rfl,
    Step.plain rfl (does_and 65 67 ((((v1.2.2 == 0) && (v1.2.1 == 1)) && (v3.2.2 == 0)) && (v3.2.1 == 2)) (v5.2 == 0)), ⟨⟨rfl, rfl, trivial⟩, trivial, rfl⟩, rfl,
    Step.plain rfl (does_move (.tmp 68) (.bool (((((v1.2.2 == 0) && (v1.2.1 == 1)) && (v3.2.2 == 0)) && (v3.2.1 == 2)) && (v5.2 == 0))) trivial), ⟨⟨rfl, trivial⟩, trivial, rfl⟩, rfl,
    Step.guarded rfl rfl rfl rfl (fun hc => does_move (.tmp 11) (.int .i64 v7.2.2) trivial), ⟨⟨rfl, rfl, trivial⟩, trivial, rfl⟩, rfl,
    Step.guarded rfl rfl rfl rfl (fun hc => Does.strip (n' := [(70, (.opt (((((v1.2.2 == 0) && (v1.2.1 == 1)) && (v3.2.2 == 0)) && (v3.2.1 == 2)) && (v5.2 == 0)) (.int .i64 v7.2.2)))]) (n := [(70, (.int .i64 v7.2.2))]) ⟨(.opt _ _ hc), trivial⟩ (does_bin .eql 26 26 (.tmp 70) (.const (.int .i64 0)) .i64 v7.2.2 0 (.bool (v7.2.2 == 0)) trivial (fun _ => rfl) (bin_eql _ _ _ _))), ⟨⟨rfl, rfl, trivial⟩, trivial, rfl⟩, rfl,
    Step.plain rfl (does_and 69 71 (((((v1.2.2 == 0) && (v1.2.1 == 1)) && (v3.2.2 == 0)) && (v3.2.1 == 2)) && (v5.2 == 0)) (v7.2.2 == 0)), ⟨⟨rfl, rfl, trivial⟩, trivial, rfl⟩, rfl,
    Step.plain rfl (does_move (.tmp 72) (.bool ((((((v1.2.2 == 0) && (v1.2.1 == 1)) && (v3.2.2 == 0)) && (v3.2.1 == 2)) && (v5.2 == 0)) && (v7.2.2 == 0))) trivial), ⟨⟨rfl, trivial⟩, trivial, rfl⟩, rfl,
    Step.guarded rfl rfl rfl rfl (fun hc => does_move (.tmp 10) (.int .u64 v7.2.1) trivial), ⟨⟨rfl, rfl, trivial⟩, trivial, rfl⟩, rfl,
    Step.guarded rfl rfl rfl rfl (fun hc => Does.strip (n' := [(74, (.opt ((((((v1.2.2 == 0) && (v1.2.1 == 1)) && (v3.2.2 == 0)) && (v3.2.1 == 2)) && (v5.2 == 0)) && (v7.2.2 == 0)) (.int .u64 v7.2.1)))]) (n := [(74, (.int .u64 v7.2.1))]) ⟨(.opt _ _ hc), trivial⟩ (does_bin .eql 22 22 (.tmp 74) (.const (.int .u64 3)) .u64 v7.2.1 3 (.bool (v7.2.1 == 3)) trivial (fun _ => rfl) (bin_eql _ _ _ _))), ⟨⟨rfl, rfl, trivial⟩, trivial, rfl⟩, rfl,
    Step.plain rfl (does_and 73 75 ((((((v1.2.2 == 0) && (v1.2.1 == 1)) && (v3.2.2 == 0)) && (v3.2.1 == 2)) && (v5.2 == 0)) && (v7.2.2 == 0)) (v7.2.1 == 3)), ⟨⟨rfl, rfl, trivial⟩, trivial, rfl⟩, rfl,
    Step.plain rfl (does_move (.tmp 76) (.bool (((((((v1.2.2 == 0) && (v1.2.1 == 1)) && (v3.2.2 == 0)) && (v3.2.1 == 2)) && (v5.2 == 0)) && (v7.2.2 == 0)) && (v7.2.1 == 3))) trivial), ⟨⟨rfl, trivial⟩, trivial, rfl⟩, rfl,
    Step.guarded rfl rfl rfl rfl (fun hc => does_move (.tmp 14) (.int .i64 v9.2.2) trivial), ⟨⟨rfl, rfl, trivial⟩, trivial, rfl⟩, rfl,
    Step.guarded rfl rfl rfl rfl (fun hc => Does.strip (n' := [(78, (.opt (((((((v1.2.2 == 0) && (v1.2.1 == 1)) && (v3.2.2 == 0)) && (v3.2.1 == 2)) && (v5.2 == 0)) && (v7.2.2 == 0)) && (v7.2.1 == 3)) (.int .i64 v9.2.2)))]) (n := [(78, (.int .i64 v9.2.2))]) ⟨(.opt _ _ hc), trivial⟩ (does_bin .eql 26 26 (.tmp 78) (.const (.int .i64 0)) .i64 v9.2.2 0 (.bool (v9.2.2 == 0)) trivial (fun _ => rfl) (bin_eql _ _ _ _))), ⟨⟨rfl, rfl, trivial⟩, trivial, rfl⟩, rfl,
    Step.plain rfl (does_and 77 79 (((((((v1.2.2 == 0) && (v1.2.1 == 1)) && (v3.2.2 == 0)) && (v3.2.1 == 2)) && (v5.2 == 0)) && (v7.2.2 == 0)) && (v7.2.1 == 3)) (v9.2.2 == 0)), ⟨⟨rfl, rfl, trivial⟩, trivial, rfl⟩, rfl,
    Step.plain rfl (does_move (.tmp 80) (.bool ((((((((v1.2.2 == 0) && (v1.2.1 == 1)) && (v3.2.2 == 0)) && (v3.2.1 == 2)) && (v5.2 == 0)) && (v7.2.2 == 0)) && (v7.2.1 == 3)) && (v9.2.2 == 0))) trivial), ⟨⟨rfl, trivial⟩, trivial, rfl⟩, rfl,
    Step.guarded rfl rfl rfl rfl (fun hc => does_move (.tmp 13) (.int .u64 v9.2.1) trivial), ⟨⟨rfl, rfl, trivial⟩, trivial, rfl⟩, rfl,
    Step.guarded rfl rfl rfl rfl (fun hc => Does.strip (n' := [(82, (.opt ((((((((v1.2.2 == 0) && (v1.2.1 == 1)) && (v3.2.2 == 0)) && (v3.2.1 == 2)) && (v5.2 == 0)) && (v7.2.2 == 0)) && (v7.2.1 == 3)) && (v9.2.2 == 0)) (.int .u64 v9.2.1)))]) (n := [(82, (.int .u64 v9.2.1))]) ⟨(.opt _ _ hc), trivial⟩ (does_bin .eql 22 22 (.tmp 82) (.const (.int .u64 1)) .u64 v9.2.1 1 (.bool (v9.2.1 == 1)) trivial (fun _ => rfl) (bin_eql _ _ _ _))), ⟨⟨rfl, rfl, trivial⟩, trivial, rfl⟩, rfl,
    Step.plain rfl (does_and 81 83 ((((((((v1.2.2 == 0) && (v1.2.1 == 1)) && (v3.2.2 == 0)) && (v3.2.1 == 2)) && (v5.2 == 0)) && (v7.2.2 == 0)) && (v7.2.1 == 3)) && (v9.2.2 == 0)) (v9.2.1 == 1)), ⟨⟨rfl, rfl, trivial⟩, trivial, rfl⟩, rfl,
    Step.plain rfl (does_move (.tmp 84) (.bool (((((((((v1.2.2 == 0) && (v1.2.1 == 1)) && (v3.2.2 == 0)) && (v3.2.1 == 2)) && (v5.2 == 0)) && (v7.2.2 == 0)) && (v7.2.1 == 3)) && (v9.2.2 == 0)) && (v9.2.1 == 1))) trivial), ⟨⟨rfl, trivial⟩, trivial, rfl⟩, rfl,
    Step.guarded rfl rfl rfl rfl (fun hc => does_move (.tmp 16) (.int .i64 v11.2) trivial), ⟨⟨rfl, rfl, trivial⟩, trivial, rfl⟩, rfl,
    Step.guarded rfl rfl rfl rfl (fun hc => Does.strip (n' := [(86, (.opt (((((((((v1.2.2 == 0) && (v1.2.1 == 1)) && (v3.2.2 == 0)) && (v3.2.1 == 2)) && (v5.2 == 0)) && (v7.2.2 == 0)) && (v7.2.1 == 3)) && (v9.2.2 == 0)) && (v9.2.1 == 1)) (.int .i64 v11.2)))]) (n := [(86, (.int .i64 v11.2))]) ⟨(.opt _ _ hc), trivial⟩ (does_bin .eql 26 26 (.tmp 86) (.const (.int .i64 162)) .i64 v11.2 162 (.bool (v11.2 == 162)) trivial (fun _ => rfl) (bin_eql _ _ _ _))), ⟨⟨rfl, rfl, trivial⟩, trivial, rfl⟩, rfl,
    Step.plain rfl (does_and 85 87 (((((((((v1.2.2 == 0) && (v1.2.1 == 1)) && (v3.2.2 == 0)) && (v3.2.1 == 2)) && (v5.2 == 0)) && (v7.2.2 == 0)) && (v7.2.1 == 3)) && (v9.2.2 == 0)) && (v9.2.1 == 1)) (v11.2 == 162)), ⟨⟨rfl, rfl, trivial⟩, trivial, rfl⟩, rfl,
    Step.plain rfl (does_move (.tmp 88) (.bool ((((((((((v1.2.2 == 0) && (v1.2.1 == 1)) && (v3.2.2 == 0)) && (v3.2.1 == 2)) && (v5.2 == 0)) && (v7.2.2 == 0)) && (v7.2.1 == 3)) && (v9.2.2 == 0)) && (v9.2.1 == 1)) && (v11.2 == 162))) trivial), ⟨⟨rfl, trivial⟩, trivial, rfl⟩, rfl,
    Step.guarded rfl rfl rfl rfl (fun hc => does_load 25 9 3 0 [] (.var (e_api_Roster v7.1)) (e_api_Roster v7.1) trivial rfl rfl ty25), ⟨⟨rfl, rfl, trivial⟩, ⟨rfl, trivial⟩, rfl⟩, rfl,
    Step.guarded rfl rfl rfl rfl (fun hc => Does.strip (n' := [(90, (.opt ((((((((((v1.2.2 == 0) && (v1.2.1 == 1)) && (v3.2.2 == 0)) && (v3.2.1 == 2)) && (v5.2 == 0)) && (v7.2.2 == 0)) && (v7.2.1 == 3)) && (v9.2.2 == 0)) && (v9.2.1 == 1)) && (v11.2 == 162)) (e_api_Roster v7.1)))]) (n := [(90, (e_api_Roster v7.1))]) ⟨(.opt _ _ hc), trivial⟩ (does_call 15 0 (fun _ => .any) (.func 15) [(.tmp 90), (.const (.int .u64 3))] [(e_api_Roster v7.1), (.int .u64 3)] [] true [(e_api_Roster v7.1), (.int .u64 3)] (.bool v13) _ _ rfl fo15 rfl ⟨trivial, (fun _ => rfl), trivial⟩ ⟨.data _ (d_api_Roster v7.1), .data _ trivial, trivial⟩ (roster_Has_spec v7.1 3 _ (h14 hc)) trivial)), ⟨⟨rfl, rfl, trivial⟩, trivial, rfl⟩, rfl,
    Step.plain rfl (does_and 89 91 ((((((((((v1.2.2 == 0) && (v1.2.1 == 1)) && (v3.2.2 == 0)) && (v3.2.1 == 2)) && (v5.2 == 0)) && (v7.2.2 == 0)) && (v7.2.1 == 3)) && (v9.2.2 == 0)) && (v9.2.1 == 1)) && (v11.2 == 162)) v13), ⟨⟨rfl, rfl, trivial⟩, trivial, rfl⟩, rfl,
    Step.plain rfl (does_move (.tmp 92) (.bool (((((((((((v1.2.2 == 0) && (v1.2.1 == 1)) && (v3.2.2 == 0)) && (v3.2.1 == 2)) && (v5.2 == 0)) && (v7.2.2 == 0)) && (v7.2.1 == 3)) && (v9.2.2 == 0)) && (v9.2.1 == 1)) && (v11.2 == 162)) && v13)) trivial), ⟨⟨rfl, trivial⟩, trivial, rfl⟩, rfl,
    Step.guarded rfl rfl rfl rfl (fun hc => does_load 25 9 3 0 [] (.var (e_api_Roster v7.1)) (e_api_Roster v7.1) trivial rfl rfl ty25), ⟨⟨rfl, rfl, trivial⟩, ⟨rfl, trivial⟩, rfl⟩, rfl,
    Step.guarded rfl rfl rfl rfl (fun hc => Does.strip (n' := [(94, (.opt (((((((((((v1.2.2 == 0) && (v1.2.1 == 1)) && (v3.2.2 == 0)) && (v3.2.1 == 2)) && (v5.2 == 0)) && (v7.2.2 == 0)) && (v7.2.1 == 3)) && (v9.2.2 == 0)) && (v9.2.1 == 1)) && (v11.2 == 162)) && v13) (e_api_Roster v7.1)))]) (n := [(94, (e_api_Roster v7.1))]) ⟨(.opt _ _ hc), trivial⟩ (does_call 15 0 (fun _ => .any) (.func 15) [(.tmp 94), (.const (.int .u64 1))] [(e_api_Roster v7.1), (.int .u64 1)] [] true [(e_api_Roster v7.1), (.int .u64 1)] (.bool v15) _ _ rfl fo15 rfl ⟨trivial, (fun _ => rfl), trivial⟩ ⟨.data _ (d_api_Roster v7.1), .data _ trivial, trivial⟩ (roster_Has_spec v7.1 1 _ (h16 hc)) trivial)), ⟨⟨rfl, rfl, trivial⟩, trivial, rfl⟩, rfl,
    Step.guarded rfl rfl rfl rfl (fun hc => Does.strip (n' := [(95, (.opt (((((((((((v1.2.2 == 0) && (v1.2.1 == 1)) && (v3.2.2 == 0)) && (v3.2.1 == 2)) && (v5.2 == 0)) && (v7.2.2 == 0)) && (v7.2.1 == 3)) && (v9.2.2 == 0)) && (v9.2.1 == 1)) && (v11.2 == 162)) && v13) (.bool v15)))]) (n := [(95, (.bool v15))]) ⟨(.opt _ _ hc), trivial⟩ (does_not 4 (.tmp 95) v15 trivial)), ⟨⟨rfl, rfl, trivial⟩, trivial, rfl⟩, rfl,
    Step.plain rfl (does_and 93 96 (((((((((((v1.2.2 == 0) && (v1.2.1 == 1)) && (v3.2.2 == 0)) && (v3.2.1 == 2)) && (v5.2 == 0)) && (v7.2.2 == 0)) && (v7.2.1 == 3)) && (v9.2.2 == 0)) && (v9.2.1 == 1)) && (v11.2 == 162)) && v13) (!v15)), ⟨⟨rfl, rfl, trivial⟩, trivial, rfl⟩, rfl,
    Step.plain rfl (does_move (.tmp 97) (.bool ((((((((((((v1.2.2 == 0) && (v1.2.1 == 1)) && (v3.2.2 == 0)) && (v3.2.1 == 2)) && (v5.2 == 0)) && (v7.2.2 == 0)) && (v7.2.1 == 3)) && (v9.2.2 == 0)) && (v9.2.1 == 1)) && (v11.2 == 162)) && v13) && (!v15))) trivial), ⟨⟨rfl, trivial⟩, trivial, rfl⟩, rfl,
    Step.guarded rfl rfl rfl rfl (fun hc => does_load 25 9 3 0 [] (.var (e_api_Roster v7.1)) (e_api_Roster v7.1) trivial rfl rfl ty25), ⟨⟨rfl, rfl, trivial⟩, ⟨rfl, trivial⟩, rfl⟩, rfl,
    Step.guarded rfl rfl rfl rfl (fun hc => Does.strip (n' := [(99, (.opt ((((((((((((v1.2.2 == 0) && (v1.2.1 == 1)) && (v3.2.2 == 0)) && (v3.2.1 == 2)) && (v5.2 == 0)) && (v7.2.2 == 0)) && (v7.2.1 == 3)) && (v9.2.2 == 0)) && (v9.2.1 == 1)) && (v11.2 == 162)) && v13) && (!v15)) (e_api_Roster v7.1)))]) (n := [(99, (e_api_Roster v7.1))]) ⟨(.opt _ _ hc), trivial⟩ (does_call 17 0 (fun _ => .any) (.func 17) [(.tmp 99)] [(e_api_Roster v7.1)] [] true [(e_api_Roster v7.1)] (.bool v17) _ _ rfl fo17 rfl ⟨trivial, trivial⟩ ⟨.data _ (d_api_Roster v7.1), trivial⟩ (roster_May_spec v7.1 _ (h18 hc)) trivial)), ⟨⟨rfl, rfl, trivial⟩, trivial, rfl⟩, rfl,
    Step.plain rfl (does_and 98 100 ((((((((((((v1.2.2 == 0) && (v1.2.1 == 1)) && (v3.2.2 == 0)) && (v3.2.1 == 2)) && (v5.2 == 0)) && (v7.2.2 == 0)) && (v7.2.1 == 3)) && (v9.2.2 == 0)) && (v9.2.1 == 1)) && (v11.2 == 162)) && v13) && (!v15)) v17), ⟨⟨rfl, rfl, trivial⟩, trivial, rfl⟩, rfl,
    Step.plain rfl (does_assign (.tmp 101) (.bool (((((((((((((v1.2.2 == 0) && (v1.2.1 == 1)) && (v3.2.2 == 0)) && (v3.2.1 == 2)) && (v5.2 == 0)) && (v7.2.2 == 0)) && (v7.2.1 == 3)) && (v9.2.2 == 0)) && (v9.2.1 == 1)) && (v11.2 == 162)) && v13) && (!v15)) && v17)) trivial), ⟨⟨rfl, trivial⟩, trivial, rfl⟩, rfl, rfl⟩ ?_
  obtain ⟨v19, hv19, H⟩ := lt_of H
  refine aw_cov (cov_prune (s1 := ⟨[(0, (.bool v19))], [], 6⟩) ⟨(by subst hv19; rfl), trivial⟩ trivial (Nat.le_refl _)) ?_
  refine aw_ret ?_
  exact fun a w hr => ⟨_, [(.bool v19)], hr, ⟨⟨_, rfl, .data (.bool v19) trivial⟩, trivial⟩, by decide, by cases H; rfl⟩

theorem congressref17_Is_spec (p0 : api_Roster) (p1 : api_Roster) (r : Bool) (H : congressref17_Is p0 p1 = some r) : FSpec Try.prog 14 [(e_api_Roster p0), (e_api_Roster p1)] (.bool r) := by
  refine spec_of (fn := Try.f14) (args := [(e_api_Roster p0), (e_api_Roster p1)]) Try.func14 rfl (Nat.le_of_ble_eq_true rfl) ?_
  rintro ⟨G, w0, W, S, Sp⟩ hG
  cases hG
  unfold congressref17_Is at H
  refine aw_region (es := [_, _, _]) ⟨Step.plain rfl (does_box 25 (.tmp 0) 0 (e_api_Roster p0) trivial rfl), ⟨⟨rfl, trivial⟩, trivial, rfl⟩, rfl,
    Step.plain rfl (does_box 25 (.tmp 1) 1 (e_api_Roster p1) trivial rfl), ⟨⟨rfl, trivial⟩, trivial, rfl⟩, rfl,
    Step.plain rfl (does_assign (.const (.bool false)) (.bool false) (fun _ => rfl)), ⟨trivial, trivial, rfl⟩, rfl, rfl⟩ ?_
  refine aw_cov (cov_prune (s1 := ⟨[(2, (.ptr 0 0 [])), (3, (.ptr 1 0 []))], [(0, some (.var (e_api_Roster p0))), (1, some (.var (e_api_Roster p1)))], 2⟩) ⟨rfl, rfl, trivial⟩ ⟨rfl, rfl, trivial⟩ (Nat.le_refl _)) ?_
  refine aw_seq ?_
  refine aw_region (es := [_, _, _, _, _, _, _, _, _, _, _, _, _, _]) ⟨Step.plain rfl (does_fieldAddr 25 0 0 2 0 0 [] (.var (e_api_Roster p0)) fl25_0), ⟨⟨rfl, trivial⟩, ⟨rfl, trivial⟩, rfl⟩, rfl,
    Step.plain rfl (does_load 22 6 0 (0 + 0) [0] (.var (e_api_Roster p0)) (.int .u64 p0.Last) ⟨rfl, Nat.le_of_ble_eq_true rfl, trivial⟩ rfl rfl ty22), ⟨⟨rfl, trivial⟩, ⟨rfl, trivial⟩, rfl⟩, rfl,
    Step.plain rfl (does_fieldAddr 25 0 0 3 1 0 [] (.var (e_api_Roster p1)) fl25_0), ⟨⟨rfl, trivial⟩, ⟨rfl, trivial⟩, rfl⟩, rfl,
    Step.plain rfl (does_load 22 8 1 (0 + 0) [0] (.var (e_api_Roster p1)) (.int .u64 p1.Last) ⟨rfl, Nat.le_of_ble_eq_true rfl, trivial⟩ rfl rfl ty22), ⟨⟨rfl, trivial⟩, ⟨rfl, trivial⟩, rfl⟩, rfl,
    Step.plain rfl (does_bin .neq 22 22 (.tmp 7) (.tmp 9) .u64 p0.Last p1.Last (.bool (p0.Last != p1.Last)) trivial trivial (bin_neq _ _ _ _)), ⟨⟨rfl, rfl, trivial⟩, trivial, rfl⟩, rfl,
    Step.plain rfl (does_move (.tmp 10) (.bool (p0.Last != p1.Last)) trivial), ⟨⟨rfl, trivial⟩, trivial, rfl⟩, rfl,
    Step.guarded rfl rfl rfl rfl (fun hc => does_fieldAddr 25 1 1 2 0 0 [] (.var (e_api_Roster p0)) fl25_1), ⟨⟨rfl, rfl, trivial⟩, ⟨rfl, trivial⟩, rfl⟩, rfl,
    Step.guarded rfl rfl rfl rfl (fun hc => Does.strip (n' := [(12, (.opt (!(p0.Last != p1.Last)) (.ptr 0 (0 + 1) [1])))]) (n := [(12, (.ptr 0 (0 + 1) [1]))]) ⟨(.opt _ _ hc), trivial⟩ (does_load 23 12 0 (0 + 1) [1] (.var (e_api_Roster p0)) (e_s_api_Session p0.List) ⟨rfl, Nat.le_of_ble_eq_true rfl, trivial⟩ rfl rfl ty23)), ⟨⟨rfl, rfl, trivial⟩, ⟨rfl, trivial⟩, rfl⟩, rfl,
    Step.guarded rfl rfl rfl rfl (fun hc => Does.strip (n' := [(13, (.opt (!(p0.Last != p1.Last)) (e_s_api_Session p0.List)))]) (n := [(13, (e_s_api_Session p0.List))]) ⟨(.opt _ _ hc), trivial⟩ (does_lens 23 2 p0.List.length 13 (fun j => (e_api_Session (p0.List.getD j z_api_Session))) el23)), ⟨⟨rfl, rfl, trivial⟩, trivial, rfl⟩, rfl,
    Step.guarded rfl rfl rfl rfl (fun hc => does_fieldAddr 25 1 1 3 1 0 [] (.var (e_api_Roster p1)) fl25_1), ⟨⟨rfl, rfl, trivial⟩, ⟨rfl, trivial⟩, rfl⟩, rfl,
    Step.guarded rfl rfl rfl rfl (fun hc => Does.strip (n' := [(15, (.opt (!(p0.Last != p1.Last)) (.ptr 1 (0 + 1) [1])))]) (n := [(15, (.ptr 1 (0 + 1) [1]))]) ⟨(.opt _ _ hc), trivial⟩ (does_load 23 15 1 (0 + 1) [1] (.var (e_api_Roster p1)) (e_s_api_Session p1.List) ⟨rfl, Nat.le_of_ble_eq_true rfl, trivial⟩ rfl rfl ty23)), ⟨⟨rfl, rfl, trivial⟩, ⟨rfl, trivial⟩, rfl⟩, rfl,
    Step.guarded rfl rfl rfl rfl (fun hc => Does.strip (n' := [(16, (.opt (!(p0.Last != p1.Last)) (e_s_api_Session p1.List)))]) (n := [(16, (e_s_api_Session p1.List))]) ⟨(.opt _ _ hc), trivial⟩ (does_lens 23 2 p1.List.length 16 (fun j => (e_api_Session (p1.List.getD j z_api_Session))) el23)), ⟨⟨rfl, rfl, trivial⟩, trivial, rfl⟩, rfl,
    Step.guarded rfl rfl rfl rfl (fun hc => Does.strip (n' := [(14, (.opt (!(p0.Last != p1.Last)) (.int .i64 (p0.List.length : Int)))), (17, (.opt (!(p0.Last != p1.Last)) (.int .i64 (p1.List.length : Int))))]) (n := [(14, (.int .i64 (p0.List.length : Int))), (17, (.int .i64 (p1.List.length : Int)))]) ⟨(.opt _ _ hc), (.opt _ _ hc), trivial⟩ (does_bin .neq 3 3 (.tmp 14) (.tmp 17) .i64 (p0.List.length : Int) (p1.List.length : Int) (.bool ((p0.List.length : Int) != (p1.List.length : Int))) trivial trivial (bin_neq _ _ _ _))), ⟨⟨rfl, rfl, rfl, trivial⟩, trivial, rfl⟩, rfl,
    Step.plain rfl (does_or 11 18 (p0.Last != p1.Last) ((p0.List.length : Int) != (p1.List.length : Int))), ⟨⟨rfl, rfl, trivial⟩, trivial, rfl⟩, rfl, rfl⟩ ?_
  obtain ⟨v1, hv1, H⟩ := lt_of H
  refine aw_cov (cov_prune (s1 := ⟨[(2, (.ptr 0 0 [])), (3, (.ptr 1 0 [])), (19, (.bool v1))], [(0, some (.var (e_api_Roster p0))), (1, some (.var (e_api_Roster p1)))], 2⟩) ⟨rfl, rfl, (by subst hv1; rfl), trivial⟩ ⟨rfl, rfl, trivial⟩ (Nat.le_refl _)) ?_
  refine aw_cond rfl (fun hc => ?_) (fun hc => ?_)
  · replace H := ite_t hc H
    refine aw_region (es := [_]) ⟨Step.plain rfl (does_assign (.const (.bool false)) (.bool false) (fun _ => rfl)), ⟨trivial, trivial, rfl⟩, rfl, rfl⟩ ?_
    refine aw_cov (cov_prune (s1 := ⟨[(4, (.bool false))], [], 2⟩) ⟨rfl, trivial⟩ trivial (Nat.le_refl _)) ?_
    refine aw_ret ?_
    refine rt_then ?_
    exact fun a w hr => ⟨_, [(.bool false)], hr, ⟨⟨_, rfl, .data (.bool false) trivial⟩, trivial⟩, by decide, by cases H; rfl⟩
  · replace H := ite_f hc H
    refine aw_skip ?_
    refine nx_seq ?_
    refine aw_seq ?_
    refine aw_region (es := [_]) ⟨Step.plain rfl (does_assign (.const (.int .i64 0)) (.int .i64 0) (fun _ => rfl)), ⟨trivial, trivial, rfl⟩, rfl, rfl⟩ ?_
    refine aw_cov (cov_prune (s1 := ⟨[(2, (.ptr 0 0 [])), (3, (.ptr 1 0 [])), (5, (.int .i64 0))], [(0, some (.var (e_api_Roster p0))), (1, some (.var (e_api_Roster p1)))], 2⟩) ⟨rfl, rfl, rfl, trivial⟩ ⟨rfl, rfl, trivial⟩ (Nat.le_refl _)) ?_
    obtain ⟨wn3, hwn3, Hrn3⟩ := bnd H
    refine aw_meet (fun y7 : Unit => (⟨[], [], 2⟩ : St)) (fun y7 => Fl.nx y7 = wn3) (fun y7 hy => ?_) (aw_block (aw_runs (fun x2 : Int => (⟨[(2, (.ptr 0 0 [])), (3, (.ptr 1 0 [])), (5, (.int .i64 x2))], [(0, some (.var (e_api_Roster p0))), (1, some (.var (e_api_Roster p1)))], 2⟩ : St)) hwn3 (cov_prune ⟨rfl, rfl, rfl, trivial⟩ ⟨rfl, rfl, trivial⟩ (Nat.le_of_ble_eq_true rfl)) (fun x2 st H hsn3 => ?_)))
    · have H := nx_of hy Hrn3
      refine nx_seq ?_
      refine aw_region (es := [_]) ⟨Step.plain rfl (does_assign (.const (.bool true)) (.bool true) (fun _ => rfl)), ⟨trivial, trivial, rfl⟩, rfl, rfl⟩ ?_
      refine aw_cov (cov_prune (s1 := ⟨[(4, (.bool true))], [], 2⟩) ⟨rfl, trivial⟩ trivial (Nat.le_refl _)) ?_
      refine aw_ret ?_
      exact fun a w hr => ⟨_, [(.bool true)], hr, ⟨⟨_, rfl, .data (.bool true) trivial⟩, trivial⟩, by decide, by cases H; rfl⟩
    · refine aw_seq ?_
      refine aw_region (es := [_, _, _, _, _]) ⟨Step.plain rfl (does_move (.tmp 5) (.int .i64 x2) trivial), ⟨⟨rfl, trivial⟩, trivial, rfl⟩, rfl,
        Step.plain rfl (does_fieldAddr 25 1 1 2 0 0 [] (.var (e_api_Roster p0)) fl25_1), ⟨⟨rfl, trivial⟩, ⟨rfl, trivial⟩, rfl⟩, rfl,
        Step.plain rfl (does_load 23 21 0 (0 + 1) [1] (.var (e_api_Roster p0)) (e_s_api_Session p0.List) ⟨rfl, Nat.le_of_ble_eq_true rfl, trivial⟩ rfl rfl ty23), ⟨⟨rfl, trivial⟩, ⟨rfl, trivial⟩, rfl⟩, rfl,
        Step.plain rfl (does_lens 23 2 p0.List.length 22 (fun j => (e_api_Session (p0.List.getD j z_api_Session))) el23), ⟨⟨rfl, trivial⟩, trivial, rfl⟩, rfl,
        Step.plain rfl (does_bin .lss 3 3 (.tmp 20) (.tmp 23) .i64 x2 (p0.List.length : Int) (.bool (decide (x2 < (p0.List.length : Int)))) trivial trivial (bin_lss _ _ _ _)), ⟨⟨rfl, rfl, trivial⟩, trivial, rfl⟩, rfl, rfl⟩ ?_
      refine aw_cov (cov_prune (s1 := ⟨[(2, (.ptr 0 0 [])), (3, (.ptr 1 0 [])), (5, (.int .i64 x2)), (24, (.bool (decide (x2 < (p0.List.length : Int)))))], [(0, some (.var (e_api_Roster p0))), (1, some (.var (e_api_Roster p1)))], 2⟩) ⟨rfl, rfl, rfl, rfl, trivial⟩ ⟨rfl, rfl, trivial⟩ (Nat.le_refl _)) ?_
      refine aw_cond rfl (fun hc => ?_) (fun hc => ?_)
      · replace H := ite_t hc H
        refine aw_skip ?_
        refine nx_seq ?_
        refine aw_seq ?_
        refine aw_block ?_
        obtain ⟨h4, H⟩ := ib_of H
        obtain ⟨h5, H⟩ := ib_of H
        refine aw_draw (es := [_, _, _, _, _, _, _, _, _, _, _]) (mixed) ⟨Step.plain rfl (does_fieldAddr 25 1 1 2 0 0 [] (.var (e_api_Roster p0)) fl25_1), ⟨⟨rfl, trivial⟩, ⟨rfl, trivial⟩, rfl⟩, rfl,
          Step.plain rfl (does_load 23 27 0 (0 + 1) [1] (.var (e_api_Roster p0)) (e_s_api_Session p0.List) ⟨rfl, Nat.le_of_ble_eq_true rfl, trivial⟩ rfl rfl ty23), ⟨⟨rfl, trivial⟩, ⟨rfl, trivial⟩, rfl⟩, rfl,
          Step.plain rfl (does_move (.tmp 5) (.int .i64 x2) trivial), ⟨⟨rfl, trivial⟩, trivial, rfl⟩, rfl,
          Step.plain rfl (does_indexAddrs 23 2 p0.List.length 28 (fun j => (e_api_Session (p0.List.getD j z_api_Session))) (.tmp 29) .i64 x2 el23 trivial h4.1 h4.2), ⟨⟨rfl, rfl, trivial⟩, trivial, rfl⟩, rfl,
          Step.plain rfl (does_loadc 41 30 (e_api_Session (p0.List.getD x2.toNat z_api_Session)) ty41), ⟨⟨rfl, trivial⟩, trivial, rfl⟩, rfl,
          Step.plain rfl (does_fieldAddr 25 1 1 3 1 0 [] (.var (e_api_Roster p1)) fl25_1), ⟨⟨rfl, trivial⟩, ⟨rfl, trivial⟩, rfl⟩, rfl,
          Step.plain rfl (does_load 23 32 1 (0 + 1) [1] (.var (e_api_Roster p1)) (e_s_api_Session p1.List) ⟨rfl, Nat.le_of_ble_eq_true rfl, trivial⟩ rfl rfl ty23), ⟨⟨rfl, trivial⟩, ⟨rfl, trivial⟩, rfl⟩, rfl,
          Step.plain rfl (does_move (.tmp 5) (.int .i64 x2) trivial), ⟨⟨rfl, trivial⟩, trivial, rfl⟩, rfl,
          Step.plain rfl (does_indexAddrs 23 2 p1.List.length 33 (fun j => (e_api_Session (p1.List.getD j z_api_Session))) (.tmp 34) .i64 x2 el23 trivial h5.1 h5.2), ⟨⟨rfl, rfl, trivial⟩, trivial, rfl⟩, rfl,
          Step.plain rfl (does_loadc 41 35 (e_api_Session (p1.List.getD x2.toNat z_api_Session)) ty41), ⟨⟨rfl, trivial⟩, trivial, rfl⟩, rfl,
          Step.plain rfl (does_eqT true 41 41 (.tmp 31) (.tmp 36) (e_api_Session (p0.List.getD x2.toNat z_api_Session)) (e_api_Session (p1.List.getD x2.toNat z_api_Session)) (e_api_Session z_api_Session) (b_api_Session (p0.List.getD x2.toNat z_api_Session) (p1.List.getD x2.toNat z_api_Session)) rfl rfl trivial trivial eg41 sh41 (al_api_Session _ _) (al_api_Session _ _) (q_api_Session _ _)), ⟨⟨rfl, rfl, trivial⟩, trivial, rfl⟩, rfl, rfl⟩ rfl ?_
        obtain ⟨v6, hv6, H⟩ := lt_of H
        refine aw_cov (cov_prune (s1 := ⟨[(2, (.ptr 0 0 [])), (3, (.ptr 1 0 [])), (5, (.int .i64 x2)), (37, (.bool v6))], [(0, some (.var (e_api_Roster p0))), (1, some (.var (e_api_Roster p1)))], 2⟩) ⟨rfl, rfl, rfl, (by subst hv6; rfl), trivial⟩ ⟨rfl, rfl, trivial⟩ (Nat.le_refl _)) ?_
        refine aw_cond rfl (fun hc => ?_) (fun hc => ?_)
        · replace H := ite_t hc H
          refine aw_region (es := [_]) ⟨Step.plain rfl (does_assign (.const (.bool false)) (.bool false) (fun _ => rfl)), ⟨trivial, trivial, rfl⟩, rfl, rfl⟩ ?_
          refine aw_cov (cov_prune (s1 := ⟨[(4, (.bool false))], [], 2⟩) ⟨rfl, trivial⟩ trivial (Nat.le_refl _)) ?_
          refine aw_ret ?_
          replace H := rt_of H hsn3 Hrn3
          refine rt_blk ?_
          refine rt_then ?_
          refine rt_then ?_
          refine rt_blk ?_
          refine rt_then ?_
          refine rt_then ?_
          exact fun a w hr => ⟨_, [(.bool false)], hr, ⟨⟨_, rfl, .data (.bool false) trivial⟩, trivial⟩, by decide, by cases H; rfl⟩
        · replace H := ite_f hc H
          refine aw_skip ?_
          refine nx_blk ?_
          refine nx_seq ?_
          refine aw_region1 (es := [_, _, _]) ⟨Step.plain rfl (does_move (.tmp 5) (.int .i64 x2) trivial), ⟨⟨rfl, trivial⟩, trivial, rfl⟩, rfl,
            Step.plain rfl (does_bin .add 3 3 (.tmp 25) (.const (.int .i64 1)) .i64 x2 1 (.int .i64 (IntKind.i64.wrap (x2 + 1))) trivial (fun _ => rfl) (bin_add _ _ _ _)), ⟨⟨rfl, trivial⟩, trivial, rfl⟩, rfl,
            Step.plain rfl (does_assign (.tmp 26) (.int .i64 (IntKind.i64.wrap (x2 + 1))) trivial), ⟨⟨rfl, trivial⟩, trivial, rfl⟩, rfl, rfl⟩ ?_
          exact nx_loop ((IntKind.i64.wrap (x2 + 1))) H (cov_prune ⟨rfl, rfl, rfl, trivial⟩ ⟨rfl, rfl, trivial⟩ (Nat.le_of_ble_eq_true rfl))
      · replace H := ite_f hc H
        refine aw_exit ?_
        refine ex_then ?_
        refine ex_then ?_
        refine ex_here ?_
        exact nx_ljoin () H hsn3 (cov_prune trivial trivial (Nat.le_of_ble_eq_true rfl))

theorem congressref17_May_spec (p0 : api_Roster) (r : Bool) (H : congressref17_May p0 = some r) : FSpec Try.prog 18 [(e_api_Roster p0)] (.bool r) := by
  refine spec_of (fn := Try.f18) (args := [(e_api_Roster p0)]) Try.func18 rfl (Nat.le_of_ble_eq_true rfl) ?_
  rintro ⟨G, w0, W, S, Sp⟩ hG
  cases hG
  unfold congressref17_May at H
  refine aw_region (es := [_, _]) ⟨Step.plain rfl (does_box 25 (.tmp 0) 0 (e_api_Roster p0) trivial rfl), ⟨⟨rfl, trivial⟩, trivial, rfl⟩, rfl,
    Step.plain rfl (does_assign (.const (.bool false)) (.bool false) (fun _ => rfl)), ⟨trivial, trivial, rfl⟩, rfl, rfl⟩ ?_
  refine aw_cov (cov_prune (s1 := ⟨[(1, (.ptr 0 0 []))], [(0, some (.var (e_api_Roster p0)))], 1⟩) ⟨rfl, trivial⟩ ⟨rfl, trivial⟩ (Nat.le_refl _)) ?_
  refine aw_seq ?_
  refine aw_region (es := [_]) ⟨Step.plain rfl (does_assign (.const (.int .i64 0)) (.int .i64 0) (fun _ => rfl)), ⟨trivial, trivial, rfl⟩, rfl, rfl⟩ ?_
  refine aw_cov (cov_prune (s1 := ⟨[(1, (.ptr 0 0 [])), (3, (.int .i64 0))], [(0, some (.var (e_api_Roster p0)))], 1⟩) ⟨rfl, rfl, trivial⟩ ⟨rfl, trivial⟩ (Nat.le_refl _)) ?_
  obtain ⟨wn2, hwn2, Hrn2⟩ := bnd H
  refine aw_meet (fun y6 : Unit => (⟨[(1, (.ptr 0 0 []))], [(0, some (.var (e_api_Roster p0)))], 1⟩ : St)) (fun y6 => Fl.nx y6 = wn2) (fun y6 hy => ?_) (aw_block (aw_runs (fun x1 : Int => (⟨[(1, (.ptr 0 0 [])), (3, (.int .i64 x1))], [(0, some (.var (e_api_Roster p0)))], 1⟩ : St)) hwn2 (cov_prune ⟨rfl, rfl, trivial⟩ ⟨rfl, trivial⟩ (Nat.le_of_ble_eq_true rfl)) (fun x1 st H hsn2 => ?_)))
  · have H := nx_of hy Hrn2
    refine nx_seq ?_
    refine aw_region (es := [_, _, _, _, _, _, _, _, _, _]) ⟨Step.plain rfl (does_fieldAddr 25 1 1 1 0 0 [] (.var (e_api_Roster p0)) fl25_1), ⟨⟨rfl, trivial⟩, ⟨rfl, trivial⟩, rfl⟩, rfl,
      Step.plain rfl (does_load 23 48 0 (0 + 1) [1] (.var (e_api_Roster p0)) (e_s_api_Session p0.List) ⟨rfl, Nat.le_of_ble_eq_true rfl, trivial⟩ rfl rfl ty23), ⟨⟨rfl, trivial⟩, ⟨rfl, trivial⟩, rfl⟩, rfl,
      Step.plain rfl (does_lens 23 2 p0.List.length 49 (fun j => (e_api_Session (p0.List.getD j z_api_Session))) el23), ⟨⟨rfl, trivial⟩, trivial, rfl⟩, rfl,
      Step.plain rfl (does_bin .leq 3 3 (.tmp 50) (.const (.int .i64 4)) .i64 (p0.List.length : Int) 4 (.bool (decide ((p0.List.length : Int) ≤ 4))) trivial (fun _ => rfl) (bin_leq _ _ _ _)), ⟨⟨rfl, trivial⟩, trivial, rfl⟩, rfl,
      Step.plain rfl (does_move (.tmp 51) (.bool (decide ((p0.List.length : Int) ≤ 4))) trivial), ⟨⟨rfl, trivial⟩, trivial, rfl⟩, rfl,
      Step.guarded rfl rfl rfl rfl (fun hc => does_fieldAddr 25 0 0 1 0 0 [] (.var (e_api_Roster p0)) fl25_0), ⟨⟨rfl, rfl, trivial⟩, ⟨rfl, trivial⟩, rfl⟩, rfl,
      Step.guarded rfl rfl rfl rfl (fun hc => Does.strip (n' := [(53, (.opt (decide ((p0.List.length : Int) ≤ 4)) (.ptr 0 (0 + 0) [0])))]) (n := [(53, (.ptr 0 (0 + 0) [0]))]) ⟨(.opt _ _ hc), trivial⟩ (does_load 22 53 0 (0 + 0) [0] (.var (e_api_Roster p0)) (.int .u64 p0.Last) ⟨rfl, Nat.le_of_ble_eq_true rfl, trivial⟩ rfl rfl ty22)), ⟨⟨rfl, rfl, trivial⟩, ⟨rfl, trivial⟩, rfl⟩, rfl,
      Step.guarded rfl rfl rfl rfl (fun hc => Does.strip (n' := [(54, (.opt (decide ((p0.List.length : Int) ≤ 4)) (.int .u64 p0.Last)))]) (n := [(54, (.int .u64 p0.Last))]) ⟨(.opt _ _ hc), trivial⟩ (does_bin .leq 22 22 (.tmp 54) (.const (.int .u64 65535)) .u64 p0.Last 65535 (.bool (decide (p0.Last ≤ 65535))) trivial (fun _ => rfl) (bin_leq _ _ _ _))), ⟨⟨rfl, rfl, trivial⟩, trivial, rfl⟩, rfl,
      Step.plain rfl (does_and 52 55 (decide ((p0.List.length : Int) ≤ 4)) (decide (p0.Last ≤ 65535))), ⟨⟨rfl, rfl, trivial⟩, trivial, rfl⟩, rfl,
      Step.plain rfl (does_assign (.tmp 56) (.bool ((decide ((p0.List.length : Int) ≤ 4)) && (decide (p0.Last ≤ 65535)))) trivial), ⟨⟨rfl, trivial⟩, trivial, rfl⟩, rfl, rfl⟩ ?_
    refine aw_cov (cov_prune (s1 := ⟨[(2, (.bool ((decide ((p0.List.length : Int) ≤ 4)) && (decide (p0.Last ≤ 65535)))))], [], 1⟩) ⟨rfl, trivial⟩ trivial (Nat.le_refl _)) ?_
    refine aw_ret ?_
    exact fun a w hr => ⟨_, [(.bool ((decide ((p0.List.length : Int) ≤ 4)) && (decide (p0.Last ≤ 65535))))], hr, ⟨⟨_, rfl, .data (.bool ((decide ((p0.List.length : Int) ≤ 4)) && (decide (p0.Last ≤ 65535)))) trivial⟩, trivial⟩, by decide, by cases H; rfl⟩
  · refine aw_seq ?_
    refine aw_region (es := [_, _, _, _, _]) ⟨Step.plain rfl (does_move (.tmp 3) (.int .i64 x1) trivial), ⟨⟨rfl, trivial⟩, trivial, rfl⟩, rfl,
      Step.plain rfl (does_fieldAddr 25 1 1 1 0 0 [] (.var (e_api_Roster p0)) fl25_1), ⟨⟨rfl, trivial⟩, ⟨rfl, trivial⟩, rfl⟩, rfl,
      Step.plain rfl (does_load 23 6 0 (0 + 1) [1] (.var (e_api_Roster p0)) (e_s_api_Session p0.List) ⟨rfl, Nat.le_of_ble_eq_true rfl, trivial⟩ rfl rfl ty23), ⟨⟨rfl, trivial⟩, ⟨rfl, trivial⟩, rfl⟩, rfl,
      Step.plain rfl (does_lens 23 2 p0.List.length 7 (fun j => (e_api_Session (p0.List.getD j z_api_Session))) el23), ⟨⟨rfl, trivial⟩, trivial, rfl⟩, rfl,
      Step.plain rfl (does_bin .lss 3 3 (.tmp 5) (.tmp 8) .i64 x1 (p0.List.length : Int) (.bool (decide (x1 < (p0.List.length : Int)))) trivial trivial (bin_lss _ _ _ _)), ⟨⟨rfl, rfl, trivial⟩, trivial, rfl⟩, rfl, rfl⟩ ?_
    refine aw_cov (cov_prune (s1 := ⟨[(1, (.ptr 0 0 [])), (3, (.int .i64 x1)), (9, (.bool (decide (x1 < (p0.List.length : Int)))))], [(0, some (.var (e_api_Roster p0)))], 1⟩) ⟨rfl, rfl, rfl, trivial⟩ ⟨rfl, trivial⟩ (Nat.le_refl _)) ?_
    refine aw_cond rfl (fun hc => ?_) (fun hc => ?_)
    · replace H := ite_t hc H
      refine aw_skip ?_
      refine nx_seq ?_
      refine aw_seq ?_
      refine aw_block ?_
      obtain ⟨h3, H⟩ := ib_of H
      refine aw_region (es := [_, _, _, _, _, _, _]) ⟨Step.plain rfl (does_fieldAddr 25 1 1 1 0 0 [] (.var (e_api_Roster p0)) fl25_1), ⟨⟨rfl, trivial⟩, ⟨rfl, trivial⟩, rfl⟩, rfl,
        Step.plain rfl (does_load 23 12 0 (0 + 1) [1] (.var (e_api_Roster p0)) (e_s_api_Session p0.List) ⟨rfl, Nat.le_of_ble_eq_true rfl, trivial⟩ rfl rfl ty23), ⟨⟨rfl, trivial⟩, ⟨rfl, trivial⟩, rfl⟩, rfl,
        Step.plain rfl (does_move (.tmp 3) (.int .i64 x1) trivial), ⟨⟨rfl, trivial⟩, trivial, rfl⟩, rfl,
        Step.plain rfl (does_indexAddrs 23 2 p0.List.length 13 (fun j => (e_api_Session (p0.List.getD j z_api_Session))) (.tmp 14) .i64 x1 el23 trivial h3.1 h3.2), ⟨⟨rfl, rfl, trivial⟩, trivial, rfl⟩, rfl,
        Step.plain rfl (does_loadc 41 15 (e_api_Session (p0.List.getD x1.toNat z_api_Session)) ty41), ⟨⟨rfl, trivial⟩, trivial, rfl⟩, rfl,
        Step.plain rfl (does_alloc 41 1 (e_api_Session z_api_Session) zr41), ⟨trivial, trivial, rfl⟩, rfl,
        Step.plain rfl (does_store 41 4 (.tmp 16) 1 0 [] (.var (e_api_Session z_api_Session)) (.var (e_api_Session (p0.List.getD x1.toNat z_api_Session))) (e_api_Session (p0.List.getD x1.toNat z_api_Session)) true trivial rfl trivial rfl rfl rfl ty41), ⟨⟨rfl, rfl, trivial⟩, ⟨rfl, trivial⟩, rfl⟩, rfl, rfl⟩ ?_
      refine aw_cov (cov_prune (s1 := ⟨[(1, (.ptr 0 0 [])), (3, (.int .i64 x1)), (4, (.ptr 1 0 []))], [(0, some (.var (e_api_Roster p0))), (1, some (.var (e_api_Session (p0.List.getD x1.toNat z_api_Session))))], 2⟩) ⟨rfl, rfl, rfl, trivial⟩ ⟨rfl, rfl, trivial⟩ (Nat.le_refl _)) ?_
      obtain ⟨h4, H⟩ := ibg_of H
      refine aw_draw (es := [_, _, _, _, _, _, _, _, _, _, _, _, _, _, _, _, _, _, _, _, _, _, _, _, _, _, _, _, _, _, _]) (mixed) ⟨Step.plain rfl (does_fieldAddr 41 0 0 4 1 0 [] (.var (e_api_Session (p0.List.getD x1.toNat z_api_Session))) fl41_0), ⟨⟨rfl, trivial⟩, ⟨rfl, trivial⟩, rfl⟩, rfl,
        Step.plain rfl (does_load 22 17 1 (0 + 0) [0] (.var (e_api_Session (p0.List.getD x1.toNat z_api_Session))) (.int .u64 ((p0.List.getD x1.toNat z_api_Session).Id)) ⟨rfl, Nat.le_of_ble_eq_true rfl, trivial⟩ rfl rfl ty22), ⟨⟨rfl, trivial⟩, ⟨rfl, trivial⟩, rfl⟩, rfl,
        Step.plain rfl (does_bin .lss 22 22 (.tmp 18) (.const (.int .u64 1)) .u64 ((p0.List.getD x1.toNat z_api_Session).Id) 1 (.bool (decide (((p0.List.getD x1.toNat z_api_Session).Id) < 1))) trivial (fun _ => rfl) (bin_lss _ _ _ _)), ⟨⟨rfl, trivial⟩, trivial, rfl⟩, rfl,
        Step.plain rfl (does_move (.tmp 19) (.bool (decide (((p0.List.getD x1.toNat z_api_Session).Id) < 1))) trivial), ⟨⟨rfl, trivial⟩, trivial, rfl⟩, rfl,
        Step.guarded rfl rfl rfl rfl (fun hc => does_fieldAddr 41 0 0 4 1 0 [] (.var (e_api_Session (p0.List.getD x1.toNat z_api_Session))) fl41_0), ⟨⟨rfl, rfl, trivial⟩, ⟨rfl, trivial⟩, rfl⟩, rfl,
        Step.guarded rfl rfl rfl rfl (fun hc => Does.strip (n' := [(21, (.opt (!(decide (((p0.List.getD x1.toNat z_api_Session).Id) < 1))) (.ptr 1 (0 + 0) [0])))]) (n := [(21, (.ptr 1 (0 + 0) [0]))]) ⟨(.opt _ _ hc), trivial⟩ (does_load 22 21 1 (0 + 0) [0] (.var (e_api_Session (p0.List.getD x1.toNat z_api_Session))) (.int .u64 ((p0.List.getD x1.toNat z_api_Session).Id)) ⟨rfl, Nat.le_of_ble_eq_true rfl, trivial⟩ rfl rfl ty22)), ⟨⟨rfl, rfl, trivial⟩, ⟨rfl, trivial⟩, rfl⟩, rfl,
        Step.guarded rfl rfl rfl rfl (fun hc => does_fieldAddr 25 0 0 1 0 0 [] (.var (e_api_Roster p0)) fl25_0), ⟨⟨rfl, rfl, trivial⟩, ⟨rfl, trivial⟩, rfl⟩, rfl,
        Step.guarded rfl rfl rfl rfl (fun hc => Does.strip (n' := [(23, (.opt (!(decide (((p0.List.getD x1.toNat z_api_Session).Id) < 1))) (.ptr 0 (0 + 0) [0])))]) (n := [(23, (.ptr 0 (0 + 0) [0]))]) ⟨(.opt _ _ hc), trivial⟩ (does_load 22 23 0 (0 + 0) [0] (.var (e_api_Roster p0)) (.int .u64 p0.Last) ⟨rfl, Nat.le_of_ble_eq_true rfl, trivial⟩ rfl rfl ty22)), ⟨⟨rfl, rfl, trivial⟩, ⟨rfl, trivial⟩, rfl⟩, rfl,
        Step.guarded rfl rfl rfl rfl (fun hc => Does.strip (n' := [(22, (.opt (!(decide (((p0.List.getD x1.toNat z_api_Session).Id) < 1))) (.int .u64 ((p0.List.getD x1.toNat z_api_Session).Id)))), (24, (.opt (!(decide (((p0.List.getD x1.toNat z_api_Session).Id) < 1))) (.int .u64 p0.Last)))]) (n := [(22, (.int .u64 ((p0.List.getD x1.toNat z_api_Session).Id))), (24, (.int .u64 p0.Last))]) ⟨(.opt _ _ hc), (.opt _ _ hc), trivial⟩ (does_bin .gtr 22 22 (.tmp 22) (.tmp 24) .u64 ((p0.List.getD x1.toNat z_api_Session).Id) p0.Last (.bool (decide (((p0.List.getD x1.toNat z_api_Session).Id) > p0.Last))) trivial trivial (bin_gtr _ _ _ _))), ⟨⟨rfl, rfl, rfl, trivial⟩, trivial, rfl⟩, rfl,
        Step.plain rfl (does_or 20 25 (decide (((p0.List.getD x1.toNat z_api_Session).Id) < 1)) (decide (((p0.List.getD x1.toNat z_api_Session).Id) > p0.Last))), ⟨⟨rfl, rfl, trivial⟩, trivial, rfl⟩, rfl,
        Step.plain rfl (does_move (.tmp 26) (.bool ((decide (((p0.List.getD x1.toNat z_api_Session).Id) < 1)) || (decide (((p0.List.getD x1.toNat z_api_Session).Id) > p0.Last)))) trivial), ⟨⟨rfl, trivial⟩, trivial, rfl⟩, rfl,
        Step.guarded rfl rfl rfl rfl (fun hc => does_fieldAddr 41 1 1 4 1 0 [] (.var (e_api_Session (p0.List.getD x1.toNat z_api_Session))) fl41_1), ⟨⟨rfl, rfl, trivial⟩, ⟨rfl, trivial⟩, rfl⟩, rfl,
        Step.guarded rfl rfl rfl rfl (fun hc => Does.strip (n' := [(28, (.opt (!((decide (((p0.List.getD x1.toNat z_api_Session).Id) < 1)) || (decide (((p0.List.getD x1.toNat z_api_Session).Id) > p0.Last)))) (.ptr 1 (0 + 1) [1])))]) (n := [(28, (.ptr 1 (0 + 1) [1]))]) ⟨(.opt _ _ hc), trivial⟩ (does_load 22 28 1 (0 + 1) [1] (.var (e_api_Session (p0.List.getD x1.toNat z_api_Session))) (.int .u64 ((p0.List.getD x1.toNat z_api_Session).Number)) ⟨rfl, Nat.le_of_ble_eq_true rfl, trivial⟩ rfl rfl ty22)), ⟨⟨rfl, rfl, trivial⟩, ⟨rfl, trivial⟩, rfl⟩, rfl,
        Step.guarded rfl rfl rfl rfl (fun hc => Does.strip (n' := [(29, (.opt (!((decide (((p0.List.getD x1.toNat z_api_Session).Id) < 1)) || (decide (((p0.List.getD x1.toNat z_api_Session).Id) > p0.Last)))) (.int .u64 ((p0.List.getD x1.toNat z_api_Session).Number))))]) (n := [(29, (.int .u64 ((p0.List.getD x1.toNat z_api_Session).Number)))]) ⟨(.opt _ _ hc), trivial⟩ (does_bin .gtr 22 22 (.tmp 29) (.const (.int .u64 4294967295)) .u64 ((p0.List.getD x1.toNat z_api_Session).Number) 4294967295 (.bool (decide (((p0.List.getD x1.toNat z_api_Session).Number) > 4294967295))) trivial (fun _ => rfl) (bin_gtr _ _ _ _))), ⟨⟨rfl, rfl, trivial⟩, trivial, rfl⟩, rfl,
        Step.plain rfl (does_or 27 30 ((decide (((p0.List.getD x1.toNat z_api_Session).Id) < 1)) || (decide (((p0.List.getD x1.toNat z_api_Session).Id) > p0.Last))) (decide (((p0.List.getD x1.toNat z_api_Session).Number) > 4294967295))), ⟨⟨rfl, rfl, trivial⟩, trivial, rfl⟩, rfl,
        Step.plain rfl (does_move (.tmp 31) (.bool (((decide (((p0.List.getD x1.toNat z_api_Session).Id) < 1)) || (decide (((p0.List.getD x1.toNat z_api_Session).Id) > p0.Last))) || (decide (((p0.List.getD x1.toNat z_api_Session).Number) > 4294967295)))) trivial), ⟨⟨rfl, trivial⟩, trivial, rfl⟩, rfl,
        Step.guarded rfl rfl rfl rfl (fun hc => does_move (.tmp 3) (.int .i64 x1) trivial), ⟨⟨rfl, rfl, trivial⟩, trivial, rfl⟩, rfl,
        Step.guarded rfl rfl rfl rfl (fun hc => Does.strip (n' := [(33, (.opt (!(((decide (((p0.List.getD x1.toNat z_api_Session).Id) < 1)) || (decide (((p0.List.getD x1.toNat z_api_Session).Id) > p0.Last))) || (decide (((p0.List.getD x1.toNat z_api_Session).Number) > 4294967295)))) (.int .i64 x1)))]) (n := [(33, (.int .i64 x1))]) ⟨(.opt _ _ hc), trivial⟩ (does_bin .gtr 3 3 (.tmp 33) (.const (.int .i64 0)) .i64 x1 0 (.bool (decide (x1 > 0))) trivial (fun _ => rfl) (bin_gtr _ _ _ _))), ⟨⟨rfl, rfl, trivial⟩, trivial, rfl⟩, rfl,
        Step.guarded rfl rfl rfl rfl (fun hc => Does.strip (n' := [(34, (.opt (!(((decide (((p0.List.getD x1.toNat z_api_Session).Id) < 1)) || (decide (((p0.List.getD x1.toNat z_api_Session).Id) > p0.Last))) || (decide (((p0.List.getD x1.toNat z_api_Session).Number) > 4294967295)))) (.bool (decide (x1 > 0)))))]) (n := [(34, (.bool (decide (x1 > 0))))]) ⟨(.opt _ _ hc), trivial⟩ (does_move (.tmp 34) (.bool (decide (x1 > 0))) trivial)), ⟨⟨rfl, rfl, trivial⟩, trivial, rfl⟩, rfl,
        Step.guarded rfl rfl rfl rfl (fun hc => does_fieldAddr 25 1 1 1 0 0 [] (.var (e_api_Roster p0)) fl25_1), ⟨⟨rfl, rfl, trivial⟩, ⟨rfl, trivial⟩, rfl⟩, rfl,
        Step.guarded rfl rfl rfl rfl (fun hc => Does.strip (n' := [(36, (.opt ((!(((decide (((p0.List.getD x1.toNat z_api_Session).Id) < 1)) || (decide (((p0.List.getD x1.toNat z_api_Session).Id) > p0.Last))) || (decide (((p0.List.getD x1.toNat z_api_Session).Number) > 4294967295)))) && (decide (x1 > 0))) (.ptr 0 (0 + 1) [1])))]) (n := [(36, (.ptr 0 (0 + 1) [1]))]) ⟨(.opt _ _ hc), trivial⟩ (does_load 23 36 0 (0 + 1) [1] (.var (e_api_Roster p0)) (e_s_api_Session p0.List) ⟨rfl, Nat.le_of_ble_eq_true rfl, trivial⟩ rfl rfl ty23)), ⟨⟨rfl, rfl, trivial⟩, ⟨rfl, trivial⟩, rfl⟩, rfl,
        Step.guarded rfl rfl rfl rfl (fun hc => does_move (.tmp 3) (.int .i64 x1) trivial), ⟨⟨rfl, rfl, trivial⟩, trivial, rfl⟩, rfl,
        Step.guarded rfl rfl rfl rfl (fun hc => Does.strip (n' := [(38, (.opt ((!(((decide (((p0.List.getD x1.toNat z_api_Session).Id) < 1)) || (decide (((p0.List.getD x1.toNat z_api_Session).Id) > p0.Last))) || (decide (((p0.List.getD x1.toNat z_api_Session).Number) > 4294967295)))) && (decide (x1 > 0))) (.int .i64 x1)))]) (n := [(38, (.int .i64 x1))]) ⟨(.opt _ _ hc), trivial⟩ (does_bin .sub 3 3 (.tmp 38) (.const (.int .i64 1)) .i64 x1 1 (.int .i64 (IntKind.i64.wrap (x1 - 1))) trivial (fun _ => rfl) (bin_sub _ _ _ _))), ⟨⟨rfl, rfl, trivial⟩, trivial, rfl⟩, rfl,
        Step.guarded rfl rfl rfl rfl (fun hc => Does.strip (n' := [(37, (.opt ((!(((decide (((p0.List.getD x1.toNat z_api_Session).Id) < 1)) || (decide (((p0.List.getD x1.toNat z_api_Session).Id) > p0.Last))) || (decide (((p0.List.getD x1.toNat z_api_Session).Number) > 4294967295)))) && (decide (x1 > 0))) (e_s_api_Session p0.List))), (39, (.opt ((!(((decide (((p0.List.getD x1.toNat z_api_Session).Id) < 1)) || (decide (((p0.List.getD x1.toNat z_api_Session).Id) > p0.Last))) || (decide (((p0.List.getD x1.toNat z_api_Session).Number) > 4294967295)))) && (decide (x1 > 0))) (.int .i64 (IntKind.i64.wrap (x1 - 1)))))]) (n := [(37, (e_s_api_Session p0.List)), (39, (.int .i64 (IntKind.i64.wrap (x1 - 1))))]) ⟨(.opt _ _ hc), (.opt _ _ hc), trivial⟩ (does_indexAddrs 23 2 p0.List.length 37 (fun j => (e_api_Session (p0.List.getD j z_api_Session))) (.tmp 39) .i64 (IntKind.i64.wrap (x1 - 1)) el23 trivial (h4 hc).1 (h4 hc).2)), ⟨⟨rfl, rfl, rfl, trivial⟩, trivial, rfl⟩, rfl,
        Step.guarded rfl rfl rfl rfl (fun hc => Does.strip (n' := [(40, (.opt ((!(((decide (((p0.List.getD x1.toNat z_api_Session).Id) < 1)) || (decide (((p0.List.getD x1.toNat z_api_Session).Id) > p0.Last))) || (decide (((p0.List.getD x1.toNat z_api_Session).Number) > 4294967295)))) && (decide (x1 > 0))) (.cptr (e_api_Session (p0.List.getD ((IntKind.i64.wrap (x1 - 1)).toNat) z_api_Session)))))]) (n := [(40, (.cptr (e_api_Session (p0.List.getD ((IntKind.i64.wrap (x1 - 1)).toNat) z_api_Session))))]) ⟨(.opt _ _ hc), trivial⟩ (does_fieldAddrc 41 0 0 40 (e_api_Session (p0.List.getD ((IntKind.i64.wrap (x1 - 1)).toNat) z_api_Session)) fl41_0 rfl (Nat.le_of_ble_eq_true rfl) rfl)), ⟨⟨rfl, rfl, trivial⟩, trivial, rfl⟩, rfl,
        Step.guarded rfl rfl rfl rfl (fun hc => Does.strip (n' := [(41, (.opt ((!(((decide (((p0.List.getD x1.toNat z_api_Session).Id) < 1)) || (decide (((p0.List.getD x1.toNat z_api_Session).Id) > p0.Last))) || (decide (((p0.List.getD x1.toNat z_api_Session).Number) > 4294967295)))) && (decide (x1 > 0))) (.cptr (.int .u64 ((p0.List.getD ((IntKind.i64.wrap (x1 - 1)).toNat) z_api_Session).Id)))))]) (n := [(41, (.cptr (.int .u64 ((p0.List.getD ((IntKind.i64.wrap (x1 - 1)).toNat) z_api_Session).Id))))]) ⟨(.opt _ _ hc), trivial⟩ (does_loadc 22 41 (.int .u64 ((p0.List.getD ((IntKind.i64.wrap (x1 - 1)).toNat) z_api_Session).Id)) ty22)), ⟨⟨rfl, rfl, trivial⟩, trivial, rfl⟩, rfl,
        Step.guarded rfl rfl rfl rfl (fun hc => does_fieldAddr 41 0 0 4 1 0 [] (.var (e_api_Session (p0.List.getD x1.toNat z_api_Session))) fl41_0), ⟨⟨rfl, rfl, trivial⟩, ⟨rfl, trivial⟩, rfl⟩, rfl,
        Step.guarded rfl rfl rfl rfl (fun hc => Does.strip (n' := [(43, (.opt ((!(((decide (((p0.List.getD x1.toNat z_api_Session).Id) < 1)) || (decide (((p0.List.getD x1.toNat z_api_Session).Id) > p0.Last))) || (decide (((p0.List.getD x1.toNat z_api_Session).Number) > 4294967295)))) && (decide (x1 > 0))) (.ptr 1 (0 + 0) [0])))]) (n := [(43, (.ptr 1 (0 + 0) [0]))]) ⟨(.opt _ _ hc), trivial⟩ (does_load 22 43 1 (0 + 0) [0] (.var (e_api_Session (p0.List.getD x1.toNat z_api_Session))) (.int .u64 ((p0.List.getD x1.toNat z_api_Session).Id)) ⟨rfl, Nat.le_of_ble_eq_true rfl, trivial⟩ rfl rfl ty22)), ⟨⟨rfl, rfl, trivial⟩, ⟨rfl, trivial⟩, rfl⟩, rfl,
        Step.guarded rfl rfl rfl rfl (fun hc => Does.strip (n' := [(42, (.opt ((!(((decide (((p0.List.getD x1.toNat z_api_Session).Id) < 1)) || (decide (((p0.List.getD x1.toNat z_api_Session).Id) > p0.Last))) || (decide (((p0.List.getD x1.toNat z_api_Session).Number) > 4294967295)))) && (decide (x1 > 0))) (.int .u64 ((p0.List.getD ((IntKind.i64.wrap (x1 - 1)).toNat) z_api_Session).Id)))), (44, (.opt ((!(((decide (((p0.List.getD x1.toNat z_api_Session).Id) < 1)) || (decide (((p0.List.getD x1.toNat z_api_Session).Id) > p0.Last))) || (decide (((p0.List.getD x1.toNat z_api_Session).Number) > 4294967295)))) && (decide (x1 > 0))) (.int .u64 ((p0.List.getD x1.toNat z_api_Session).Id))))]) (n := [(42, (.int .u64 ((p0.List.getD ((IntKind.i64.wrap (x1 - 1)).toNat) z_api_Session).Id))), (44, (.int .u64 ((p0.List.getD x1.toNat z_api_Session).Id)))]) ⟨(.opt _ _ hc), (.opt _ _ hc), trivial⟩ (does_bin .geq 22 22 (.tmp 42) (.tmp 44) .u64 ((p0.List.getD ((IntKind.i64.wrap (x1 - 1)).toNat) z_api_Session).Id) ((p0.List.getD x1.toNat z_api_Session).Id) (.bool (decide (((p0.List.getD ((IntKind.i64.wrap (x1 - 1)).toNat) z_api_Session).Id) ≥ ((p0.List.getD x1.toNat z_api_Session).Id)))) trivial trivial (bin_geq _ _ _ _))), ⟨⟨rfl, rfl, rfl, trivial⟩, trivial, rfl⟩, rfl,
        Step.guarded rfl rfl rfl rfl (fun hc => Does.strip (n' := [(35, (.opt (!(((decide (((p0.List.getD x1.toNat z_api_Session).Id) < 1)) || (decide (((p0.List.getD x1.toNat z_api_Session).Id) > p0.Last))) || (decide (((p0.List.getD x1.toNat z_api_Session).Number) > 4294967295)))) (.bool (decide (x1 > 0))))), (45, (.opt ((!(((decide (((p0.List.getD x1.toNat z_api_Session).Id) < 1)) || (decide (((p0.List.getD x1.toNat z_api_Session).Id) > p0.Last))) || (decide (((p0.List.getD x1.toNat z_api_Session).Number) > 4294967295)))) && (decide (x1 > 0))) (.bool (decide (((p0.List.getD ((IntKind.i64.wrap (x1 - 1)).toNat) z_api_Session).Id) ≥ ((p0.List.getD x1.toNat z_api_Session).Id))))))]) (n := [(35, (.bool (decide (x1 > 0)))), (45, (.opt (decide (x1 > 0)) (.bool (decide (((p0.List.getD ((IntKind.i64.wrap (x1 - 1)).toNat) z_api_Session).Id) ≥ ((p0.List.getD x1.toNat z_api_Session).Id))))))]) ⟨(.opt _ _ hc), (.half _ _ hc), trivial⟩ (does_and 35 45 (decide (x1 > 0)) (decide (((p0.List.getD ((IntKind.i64.wrap (x1 - 1)).toNat) z_api_Session).Id) ≥ ((p0.List.getD x1.toNat z_api_Session).Id))))), ⟨⟨rfl, rfl, rfl, trivial⟩, trivial, rfl⟩, rfl,
        Step.plain rfl (does_or 32 46 (((decide (((p0.List.getD x1.toNat z_api_Session).Id) < 1)) || (decide (((p0.List.getD x1.toNat z_api_Session).Id) > p0.Last))) || (decide (((p0.List.getD x1.toNat z_api_Session).Number) > 4294967295))) ((decide (x1 > 0)) && (decide (((p0.List.getD ((IntKind.i64.wrap (x1 - 1)).toNat) z_api_Session).Id) ≥ ((p0.List.getD x1.toNat z_api_Session).Id))))), ⟨⟨rfl, rfl, trivial⟩, trivial, rfl⟩, rfl, rfl⟩ rfl ?_
      obtain ⟨v5, hv5, H⟩ := lt_of H
      refine aw_cov (cov_prune (s1 := ⟨[(1, (.ptr 0 0 [])), (3, (.int .i64 x1)), (47, (.bool v5))], [(0, some (.var (e_api_Roster p0)))], 2⟩) ⟨rfl, rfl, (by subst hv5; rfl), trivial⟩ ⟨rfl, trivial⟩ (Nat.le_refl _)) ?_
      refine aw_cond rfl (fun hc => ?_) (fun hc => ?_)
      · replace H := ite_t hc H
        refine aw_region (es := [_]) ⟨Step.plain rfl (does_assign (.const (.bool false)) (.bool false) (fun _ => rfl)), ⟨trivial, trivial, rfl⟩, rfl, rfl⟩ ?_
        refine aw_cov (cov_prune (s1 := ⟨[(2, (.bool false))], [], 2⟩) ⟨rfl, trivial⟩ trivial (Nat.le_refl _)) ?_
        refine aw_ret ?_
        replace H := rt_of H hsn2 Hrn2
        refine rt_blk ?_
        refine rt_then ?_
        refine rt_then ?_
        refine rt_blk ?_
        refine rt_then ?_
        refine rt_then ?_
        exact fun a w hr => ⟨_, [(.bool false)], hr, ⟨⟨_, rfl, .data (.bool false) trivial⟩, trivial⟩, by decide, by cases H; rfl⟩
      · replace H := ite_f hc H
        refine aw_skip ?_
        refine nx_blk ?_
        refine nx_seq ?_
        refine aw_region1 (es := [_, _, _]) ⟨Step.plain rfl (does_move (.tmp 3) (.int .i64 x1) trivial), ⟨⟨rfl, trivial⟩, trivial, rfl⟩, rfl,
          Step.plain rfl (does_bin .add 3 3 (.tmp 10) (.const (.int .i64 1)) .i64 x1 1 (.int .i64 (IntKind.i64.wrap (x1 + 1))) trivial (fun _ => rfl) (bin_add _ _ _ _)), ⟨⟨rfl, trivial⟩, trivial, rfl⟩, rfl,
          Step.plain rfl (does_assign (.tmp 11) (.int .i64 (IntKind.i64.wrap (x1 + 1))) trivial), ⟨⟨rfl, trivial⟩, trivial, rfl⟩, rfl, rfl⟩ ?_
        exact nx_loop ((IntKind.i64.wrap (x1 + 1))) H (cov_of (fun i => match i with | 0 => 0 | k => k) ⟨⟨_, rfl, ⟨rfl, Nat.le_of_ble_eq_true rfl⟩⟩, ⟨_, rfl, ⟨rfl, trivial⟩⟩, trivial⟩ ⟨⟨Nat.le_of_ble_eq_true rfl, _, _, rfl, rfl, .inl ⟨rfl, (d_api_Roster _).plain⟩⟩, trivial⟩ rfl)
    · replace H := ite_f hc H
      refine aw_exit ?_
      refine ex_then ?_
      refine ex_then ?_
      refine ex_here ?_
      exact nx_ljoin () H hsn2 (cov_prune ⟨rfl, trivial⟩ ⟨rfl, trivial⟩ (Nat.le_of_ble_eq_true rfl))
end Go.Proofs.Ytbcjnggdielljaa
