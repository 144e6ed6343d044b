/- Printed by gen.py. Conditions: none. -/
import Derived.Test.YtpcpfcijdliicaaSp3
import Derived.KernelRfl
set_option linter.unusedVariables false
set_option maxRecDepth 100000
namespace Go.Proofs.Ytpcpfcijdliicaa
open Go.Eng
set_option maxHeartbeats 1600000
theorem congresslaw18_GroupStays_spec (p0 : (_root_.List api_Member)) (p1 : api_Entry) (p2 : Int) (r : Bool) (H : congresslaw18_GroupStays p0 p1 p2 = some r) : FSpec Try.prog 4 [(e_s_api_Member p0), (e_api_Entry p1), (.int .i64 p2)] (.bool r) := by
  refine spec_of (fn := Try.f4) (args := [(e_s_api_Member p0), (e_api_Entry p1), (.int .i64 p2)]) Try.func4 rfl (Nat.le_of_ble_eq_true rfl) ?_
  rintro ⟨G, w0, W, S, Sp⟩ hG
  cases hG
  unfold congresslaw18_GroupStays at H
  refine aw_region (es := [_, _]) ⟨Step.plain rfl (does_box 25 (.tmp 1) 0 (e_api_Entry p1) trivial rfl), ⟨⟨rfl, trivial⟩, trivial, rfl⟩, rfl,
    Step.plain rfl (does_assign (.const (.bool false)) (.bool false) (fun _ => rfl)), ⟨trivial, trivial, rfl⟩, rfl, rfl⟩ ?_
  refine aw_cov (cov_prune (s1 := ⟨[(0, (e_s_api_Member p0)), (2, (.int .i64 p2)), (4, (.ptr 0 0 []))], [(0, some (.var (e_api_Entry p1)))], 1⟩) ⟨rfl, rfl, rfl, trivial⟩ ⟨rfl, trivial⟩ (Nat.le_refl _)) ?_
  refine aw_seq ?_
  obtain ⟨v1, h2, H⟩ := bnd H
  obtain ⟨v3, h4, H⟩ := whn_of H
  refine aw_region (es := [_, _, _, _, _, _, _]) ⟨Step.plain rfl (does_call 11 0 (fun _ => .any) (.func 11) [] [] [] true [] (.bool v1) _ _ rfl fo11 rfl trivial trivial (congresslaw18_fixed_spec _ h2) trivial), ⟨trivial, trivial, rfl⟩, rfl,
    Step.plain rfl (does_not 4 (.tmp 14) v1 trivial), ⟨⟨rfl, trivial⟩, trivial, rfl⟩, rfl,
    Step.plain rfl (does_move (.tmp 15) (.bool (!v1)) trivial), ⟨⟨rfl, trivial⟩, trivial, rfl⟩, rfl,
    Step.guarded rfl rfl rfl rfl (fun hc => does_move (.tmp 0) (e_s_api_Member p0) trivial), ⟨⟨rfl, rfl, trivial⟩, trivial, rfl⟩, rfl,
    Step.guarded rfl rfl rfl rfl (fun hc => Does.strip (n' := [(17, (.opt (!(!v1)) (e_s_api_Member p0)))]) (n := [(17, (e_s_api_Member p0))]) ⟨(.opt _ _ hc), trivial⟩ (does_call 17 0 (fun _ => .any) (.func 17) [(.tmp 17)] [(e_s_api_Member p0)] [] true [(e_s_api_Member p0)] (.bool v3) _ _ rfl fo17 rfl ⟨trivial, trivial⟩ ⟨.data _ (d_s_api_Member p0), trivial⟩ (group_May_spec p0 _ (h4 hc)) trivial)), ⟨⟨rfl, rfl, trivial⟩, trivial, rfl⟩, rfl,
    Step.guarded rfl rfl rfl rfl (fun hc => Does.strip (n' := [(18, (.opt (!(!v1)) (.bool v3)))]) (n := [(18, (.bool v3))]) ⟨(.opt _ _ hc), trivial⟩ (does_not 4 (.tmp 18) v3 trivial)), ⟨⟨rfl, rfl, trivial⟩, trivial, rfl⟩, rfl,
    Step.plain rfl (does_or 16 19 (!v1) (!v3)), ⟨⟨rfl, rfl, trivial⟩, trivial, rfl⟩, rfl, rfl⟩ ?_
  refine aw_cov (cov_prune (s1 := ⟨[(0, (e_s_api_Member p0)), (2, (.int .i64 p2)), (4, (.ptr 0 0 [])), (20, (.bool ((!v1) || (!v3))))], [(0, some (.var (e_api_Entry p1)))], 1⟩) ⟨rfl, rfl, rfl, rfl, trivial⟩ ⟨rfl, trivial⟩ (Nat.le_refl _)) ?_
  refine aw_cond rfl (fun hc => ?_) (fun hc => ?_)
  · replace H := ite_t hc H
    obtain ⟨v5, h6, H⟩ := bnd H
    refine aw_region (es := [_, _]) ⟨Step.plain rfl (does_call 11 0 (fun _ => .any) (.func 11) [] [] [] true [] (.bool v5) _ _ rfl fo11 rfl trivial trivial (congresslaw18_fixed_spec _ h6) trivial), ⟨trivial, trivial, rfl⟩, rfl,
      Step.plain rfl (does_assign (.tmp 21) (.bool v5) trivial), ⟨⟨rfl, trivial⟩, trivial, rfl⟩, rfl, rfl⟩ ?_
    refine aw_cov (cov_prune (s1 := ⟨[(6, (.bool v5))], [], 1⟩) ⟨rfl, trivial⟩ trivial (Nat.le_refl _)) ?_
    refine aw_ret ?_
    refine rt_then ?_
    exact fun a w hr => ⟨_, [(.bool v5)], hr, ⟨⟨_, rfl, .data (.bool v5) trivial⟩, trivial⟩, by decide, by cases H; rfl⟩
  · replace H := ite_f hc H
    refine aw_skip ?_
    refine nx_seq ?_
    obtain ⟨v7, h8, H⟩ := bnd H
    refine aw_region (es := [_, _, _, _, _, _, _, _, _]) ⟨Step.plain rfl (does_move (.tmp 0) (e_s_api_Member p0) trivial), ⟨⟨rfl, trivial⟩, trivial, rfl⟩, rfl,
      Step.plain rfl (does_move (.tmp 2) (.int .i64 p2) trivial), ⟨⟨rfl, trivial⟩, trivial, rfl⟩, rfl,
      Step.plain rfl (does_load 25 4 0 0 [] (.var (e_api_Entry p1)) (e_api_Entry p1) trivial rfl rfl ty25), ⟨⟨rfl, trivial⟩, ⟨rfl, trivial⟩, rfl⟩, rfl,
      Step.plain rfl (does_callO 7 0 (fun _ => .any) (.func 7) [(.tmp 23), (.tmp 24), (.tmp 25)] [(e_s_api_Member p0), (.int .i64 p2), (e_api_Entry p1)] [] [] true [(e_s_api_Member p0), (.int .i64 p2), (e_api_Entry p1)] _ (resV [(.own 1), (.bool v7.2)]) _ 1 1 _ _ rfl fo7 rfl ⟨trivial, trivial, trivial, trivial⟩ ⟨.ro _ _ (.data _ (d_s_api_Member p0)), .ro _ _ (.data _ trivial), .ro _ _ (.data _ (d_api_Entry p1)), trivial⟩ (group_Apply_spec p0 p2 p1 _ h8) rfl (by simp) rfl trivial ⟨⟨Nat.le_of_ble_eq_true rfl, _, rfl, fun _ => (f_api_Member _)⟩, trivial⟩ (.tup _ _ _ (fun j => match j with | 0 => .own 0 (Nat.le_of_ble_eq_true rfl) | 1 => .data _ (trivial) | _ + 2 => .data _ trivial))), ⟨⟨rfl, rfl, rfl, trivial⟩, trivial, rfl⟩, rfl,
      Step.plain rfl (does_move (.tmp 26) (resV [(.own 1), (.bool v7.2)]) trivial), ⟨⟨rfl, trivial⟩, trivial, rfl⟩, rfl,
      Step.plain rfl (does_extract 22 0 2 (fun j => [(.own 1), (.bool v7.2)].getD j (.bool false)) (Nat.le_of_ble_eq_true rfl)), ⟨⟨rfl, trivial⟩, trivial, rfl⟩, rfl,
      Step.plain rfl (does_extract 22 1 2 (fun j => [(.own 1), (.bool v7.2)].getD j (.bool false)) (Nat.le_of_ble_eq_true rfl)), ⟨⟨rfl, trivial⟩, trivial, rfl⟩, rfl,
      Step.plain rfl (does_assign (.tmp 27) (.own 1) trivial), ⟨⟨rfl, trivial⟩, trivial, rfl⟩, rfl,
      Step.plain rfl (does_assign (.tmp 28) (.bool v7.2) trivial), ⟨⟨rfl, trivial⟩, trivial, rfl⟩, rfl, rfl⟩ ?_
    refine aw_cov (cov_prune (s1 := ⟨[(0, (e_s_api_Member p0)), (2, (.int .i64 p2)), (4, (.ptr 0 0 [])), (7, (.own 1)), (8, (.bool v7.2))], [(0, some (.var (e_api_Entry p1))), (1, some (.arr 3 v7.1.length fun j => (e_api_Member (v7.1.getD j z_api_Member))))], 2⟩) ⟨rfl, rfl, rfl, rfl, rfl, trivial⟩ ⟨rfl, rfl, trivial⟩ (Nat.le_refl _)) ?_
    refine aw_region (es := [_, _, _, _, _, _, _, _]) ⟨Step.plain rfl (does_fieldAddr 25 2 2 4 0 0 [] (.var (e_api_Entry p1)) fl25_2), ⟨⟨rfl, trivial⟩, ⟨rfl, trivial⟩, rfl⟩, rfl,
      Step.plain rfl (does_load 3 29 0 (0 + 2) [2] (.var (e_api_Entry p1)) (.int .i64 p1.Group) ⟨rfl, Nat.le_of_ble_eq_true rfl, trivial⟩ rfl rfl ty3), ⟨⟨rfl, trivial⟩, ⟨rfl, trivial⟩, rfl⟩, rfl,
      Step.plain rfl (does_move (.tmp 2) (.int .i64 p2) trivial), ⟨⟨rfl, trivial⟩, trivial, rfl⟩, rfl,
      Step.plain rfl (does_fieldAddr 25 3 3 4 0 0 [] (.var (e_api_Entry p1)) fl25_3), ⟨⟨rfl, trivial⟩, ⟨rfl, trivial⟩, rfl⟩, rfl,
      Step.plain rfl (does_load 23 32 0 (0 + 3) [3] (.var (e_api_Entry p1)) (.int .u64 p1.Session) ⟨rfl, Nat.le_of_ble_eq_true rfl, trivial⟩ rfl rfl ty23), ⟨⟨rfl, trivial⟩, ⟨rfl, trivial⟩, rfl⟩, rfl,
      Step.plain rfl (does_buildT 35 #[(0, (.tmp 30)), (1, (.tmp 31)), (2, (.tmp 33))] [(0, (.tmp 30)), (1, (.tmp 31)), (2, (.tmp 33))] [(0, (.int .i64 p1.Group)), (1, (.int .i64 p2)), (2, (.int .u64 p1.Session))] (.st [1, 1, 1]) (c_api_Member z_api_Member) (c_api_Member ({ Group := p1.Group, Daemon := p2, Session := p1.Session } : api_Member)) rfl bo35 ⟨⟨rfl, trivial⟩, ⟨rfl, trivial⟩, ⟨rfl, trivial⟩, trivial⟩ ⟨⟨Nat.le_of_ble_eq_true rfl, rfl, rfl⟩, ⟨Nat.le_of_ble_eq_true rfl, rfl, rfl⟩, ⟨Nat.le_of_ble_eq_true rfl, rfl, rfl⟩, trivial⟩ (by funext j; match j with | 0 => rfl | 1 => rfl | 2 => rfl | _ + 3 => rfl)), ⟨⟨rfl, rfl, rfl, trivial⟩, trivial, rfl⟩, rfl,
      Step.plain rfl (does_alloc 35 2 (e_api_Member z_api_Member) zr35), ⟨trivial, trivial, rfl⟩, rfl,
      Step.plain rfl (does_store 35 9 (.tmp 34) 2 0 [] (.var (e_api_Member z_api_Member)) (.var (e_api_Member ({ Group := p1.Group, Daemon := p2, Session := p1.Session } : api_Member))) (e_api_Member ({ Group := p1.Group, Daemon := p2, Session := p1.Session } : api_Member)) true trivial rfl trivial rfl rfl rfl ty35), ⟨⟨rfl, rfl, trivial⟩, ⟨rfl, trivial⟩, rfl⟩, rfl, rfl⟩ ?_
    obtain ⟨v9, hv9, H⟩ := lt_of H
    refine aw_cov (cov_prune (s1 := ⟨[(0, (e_s_api_Member p0)), (2, (.int .i64 p2)), (4, (.ptr 0 0 [])), (7, (.own 1)), (8, (.bool v7.2)), (9, (.ptr 2 0 []))], [(0, some (.var (e_api_Entry p1))), (1, some (.arr 3 v7.1.length fun j => (e_api_Member (v7.1.getD j z_api_Member)))), (2, some (.var (e_api_Member v9)))], 3⟩) ⟨rfl, rfl, rfl, rfl, rfl, rfl, trivial⟩ ⟨rfl, rfl, (by subst hv9; rfl), trivial⟩ (Nat.le_refl _)) ?_
    refine aw_seq ?_
    obtain ⟨v10, h11, H⟩ := bnd H
    obtain ⟨v12, h13, H⟩ := whn_of H
    refine aw_region (es := [_, _, _, _, _, _, _, _, _, _, _, _, _]) ⟨Step.plain rfl (does_move (.tmp 7) (.own 1) trivial), ⟨⟨rfl, trivial⟩, trivial, rfl⟩, rfl,
      Step.plain rfl (does_call 17 0 (fun _ => .any) (.func 17) [(.tmp 35)] [(.own 1)] [(1, (.arr 3 v7.1.length fun j => (e_api_Member (v7.1.getD j z_api_Member))))] true [(e_s_api_Member v7.1)] (.bool v10) _ _ rfl fo17 rfl ⟨trivial, trivial⟩ ⟨.own 1 _ _ _ (.head _) rfl (fun _ => (d_api_Member _)), trivial⟩ (group_May_spec v7.1 _ h11) trivial), ⟨⟨rfl, trivial⟩, ⟨rfl, trivial⟩, rfl⟩, rfl,
      Step.plain rfl (does_not 4 (.tmp 36) v10 trivial), ⟨⟨rfl, trivial⟩, trivial, rfl⟩, rfl,
      Step.plain rfl (does_move (.tmp 37) (.bool (!v10)) trivial), ⟨⟨rfl, trivial⟩, trivial, rfl⟩, rfl,
      Step.guarded rfl rfl rfl rfl (fun hc => does_move (.tmp 8) (.bool v7.2) trivial), ⟨⟨rfl, rfl, trivial⟩, trivial, rfl⟩, rfl,
      Step.guarded rfl rfl rfl rfl (fun hc => Does.strip (n' := [(39, (.opt (!(!v10)) (.bool v7.2)))]) (n := [(39, (.bool v7.2))]) ⟨(.opt _ _ hc), trivial⟩ (does_not 4 (.tmp 39) v7.2 trivial)), ⟨⟨rfl, rfl, trivial⟩, trivial, rfl⟩, rfl,
      Step.guarded rfl rfl rfl rfl (fun hc => Does.strip (n' := [(40, (.opt (!(!v10)) (.bool (!v7.2))))]) (n := [(40, (.bool (!v7.2)))]) ⟨(.opt _ _ hc), trivial⟩ (does_move (.tmp 40) (.bool (!v7.2)) trivial)), ⟨⟨rfl, rfl, trivial⟩, trivial, rfl⟩, rfl,
      Step.guarded rfl rfl rfl rfl (fun hc => does_move (.tmp 7) (.own 1) trivial), ⟨⟨rfl, rfl, trivial⟩, trivial, rfl⟩, rfl,
      Step.guarded rfl rfl rfl rfl (fun hc => does_move (.tmp 0) (e_s_api_Member p0) trivial), ⟨⟨rfl, rfl, trivial⟩, trivial, rfl⟩, rfl,
      Step.guarded rfl rfl rfl rfl (fun hc => Does.strip (n' := [(42, (.opt ((!(!v10)) && (!v7.2)) (.own 1))), (43, (.opt ((!(!v10)) && (!v7.2)) (e_s_api_Member p0)))]) (n := [(42, (.own 1)), (43, (e_s_api_Member p0))]) ⟨(.opt _ _ hc), (.opt _ _ hc), trivial⟩ (does_call 12 0 (fun _ => .any) (.func 12) [(.tmp 42), (.tmp 43)] [(.own 1), (e_s_api_Member p0)] [(1, (.arr 3 v7.1.length fun j => (e_api_Member (v7.1.getD j z_api_Member))))] true [(e_s_api_Member v7.1), (e_s_api_Member p0)] (.bool v12) _ _ rfl fo12 rfl ⟨trivial, trivial, trivial⟩ ⟨.own 1 _ _ _ (.head _) rfl (fun _ => (d_api_Member _)), .data _ (d_s_api_Member p0), trivial⟩ (congressref18_Same_spec v7.1 p0 _ (h13 hc)) trivial)), ⟨⟨rfl, rfl, rfl, trivial⟩, ⟨rfl, trivial⟩, rfl⟩, rfl,
      Step.guarded rfl rfl rfl rfl (fun hc => Does.strip (n' := [(44, (.opt ((!(!v10)) && (!v7.2)) (.bool v12)))]) (n := [(44, (.bool v12))]) ⟨(.opt _ _ hc), trivial⟩ (does_not 4 (.tmp 44) v12 trivial)), ⟨⟨rfl, rfl, trivial⟩, trivial, rfl⟩, rfl,
      Step.guarded rfl rfl rfl rfl (fun hc => Does.strip (n' := [(41, (.opt (!(!v10)) (.bool (!v7.2)))), (45, (.opt ((!(!v10)) && (!v7.2)) (.bool (!v12))))]) (n := [(41, (.bool (!v7.2))), (45, (.opt (!v7.2) (.bool (!v12))))]) ⟨(.opt _ _ hc), (.half _ _ hc), trivial⟩ (does_and 41 45 (!v7.2) (!v12))), ⟨⟨rfl, rfl, rfl, trivial⟩, trivial, rfl⟩, rfl,
      Step.plain rfl (does_or 38 46 (!v10) ((!v7.2) && (!v12))), ⟨⟨rfl, rfl, trivial⟩, trivial, rfl⟩, rfl, rfl⟩ ?_
    refine aw_cov (cov_prune (s1 := ⟨[(0, (e_s_api_Member p0)), (2, (.int .i64 p2)), (4, (.ptr 0 0 [])), (7, (.own 1)), (8, (.bool v7.2)), (9, (.ptr 2 0 [])), (47, (.bool ((!v10) || ((!v7.2) && (!v12)))))], [(0, some (.var (e_api_Entry p1))), (1, some (.arr 3 v7.1.length fun j => (e_api_Member (v7.1.getD j z_api_Member)))), (2, some (.var (e_api_Member v9)))], 3⟩) ⟨rfl, rfl, rfl, rfl, rfl, rfl, rfl, trivial⟩ ⟨rfl, rfl, rfl, trivial⟩ (Nat.le_refl _)) ?_
    refine aw_cond rfl (fun hc => ?_) (fun hc => ?_)
    · replace H := ite_t hc H
      refine aw_region (es := [_]) ⟨Step.plain rfl (does_assign (.const (.bool false)) (.bool false) (fun _ => rfl)), ⟨trivial, trivial, rfl⟩, rfl, rfl⟩ ?_
      refine aw_cov (cov_prune (s1 := ⟨[(6, (.bool false))], [], 3⟩) ⟨rfl, trivial⟩ trivial (Nat.le_refl _)) ?_
      refine aw_ret ?_
      refine rt_then ?_
      exact fun a w hr => ⟨_, [(.bool false)], hr, ⟨⟨_, rfl, .data (.bool false) trivial⟩, trivial⟩, by decide, by cases H; rfl⟩
    · replace H := ite_f hc H
      refine aw_skip ?_
      refine nx_seq ?_
      refine aw_seq ?_
      obtain ⟨v14, h15, H⟩ := whn_of H
      obtain ⟨v16, h17, H⟩ := whn_of H
      refine aw_draw (es := [_, _, _, _, _, _, _, _, _, _, _, _, _, _, _, _, _, _, _, _, _, _]) (mixed) ⟨Step.plain rfl (does_move (.tmp 8) (.bool v7.2) trivial), ⟨⟨rfl, trivial⟩, trivial, rfl⟩, rfl,
        Step.plain rfl (does_move (.tmp 48) (.bool v7.2) trivial), ⟨⟨rfl, trivial⟩, trivial, rfl⟩, rfl,
        Step.guarded rfl rfl rfl rfl (fun hc => does_move (.tmp 7) (.own 1) trivial), ⟨⟨rfl, rfl, trivial⟩, trivial, rfl⟩, rfl,
        Step.guarded rfl rfl rfl rfl (fun hc => does_load 35 9 2 0 [] (.var (e_api_Member v9)) (e_api_Member v9) trivial rfl rfl ty35), ⟨⟨rfl, rfl, trivial⟩, ⟨rfl, trivial⟩, rfl⟩, rfl,
        Step.guarded rfl rfl rfl rfl (fun hc => Does.strip (n' := [(50, (.opt v7.2 (.own 1))), (51, (.opt v7.2 (e_api_Member v9)))]) (n := [(50, (.own 1)), (51, (e_api_Member v9))]) ⟨(.opt _ _ hc), (.opt _ _ hc), trivial⟩ (does_call 19 0 (fun _ => .any) (.func 19) [(.tmp 50), (.tmp 51)] [(.own 1), (e_api_Member v9)] [(1, (.arr 3 v7.1.length fun j => (e_api_Member (v7.1.getD j z_api_Member))))] true [(e_s_api_Member v7.1), (e_api_Member v9)] (.bool v14) _ _ rfl fo19 rfl ⟨trivial, trivial, trivial⟩ ⟨.own 1 _ _ _ (.head _) rfl (fun _ => (d_api_Member _)), .data _ (d_api_Member v9), trivial⟩ (congressref18_Has_spec v7.1 v9 _ (h15 hc)) trivial)), ⟨⟨rfl, rfl, rfl, trivial⟩, ⟨rfl, trivial⟩, rfl⟩, rfl,
        Step.guarded rfl rfl rfl rfl (fun hc => does_fieldAddr 25 0 0 4 0 0 [] (.var (e_api_Entry p1)) fl25_0), ⟨⟨rfl, rfl, trivial⟩, ⟨rfl, trivial⟩, rfl⟩, rfl,
        Step.guarded rfl rfl rfl rfl (fun hc => Does.strip (n' := [(53, (.opt v7.2 (.ptr 0 (0 + 0) [0])))]) (n := [(53, (.ptr 0 (0 + 0) [0]))]) ⟨(.opt _ _ hc), trivial⟩ (does_load 3 53 0 (0 + 0) [0] (.var (e_api_Entry p1)) (.int .i64 p1.Kind) ⟨rfl, Nat.le_of_ble_eq_true rfl, trivial⟩ rfl rfl ty3)), ⟨⟨rfl, rfl, trivial⟩, ⟨rfl, trivial⟩, rfl⟩, rfl,
        Step.guarded rfl rfl rfl rfl (fun hc => Does.strip (n' := [(54, (.opt v7.2 (.int .i64 p1.Kind)))]) (n := [(54, (.int .i64 p1.Kind))]) ⟨(.opt _ _ hc), trivial⟩ (does_bin .eql 3 3 (.tmp 54) (.const (.int .i64 2)) .i64 p1.Kind 2 (.bool (p1.Kind == 2)) trivial (fun _ => rfl) (bin_eql _ _ _ _))), ⟨⟨rfl, rfl, trivial⟩, trivial, rfl⟩, rfl,
        Step.guarded rfl rfl rfl rfl (fun hc => Does.strip (n' := [(52, (.opt v7.2 (.bool v14))), (55, (.opt v7.2 (.bool (p1.Kind == 2))))]) (n := [(52, (.bool v14)), (55, (.bool (p1.Kind == 2)))]) ⟨(.opt _ _ hc), (.opt _ _ hc), trivial⟩ (does_eqBool true 4 4 (.tmp 52) (.tmp 55) v14 (p1.Kind == 2) trivial trivial rfl)), ⟨⟨rfl, rfl, rfl, trivial⟩, trivial, rfl⟩, rfl,
        Step.plain rfl (does_and 49 56 v7.2 (v14 != (p1.Kind == 2))), ⟨⟨rfl, rfl, trivial⟩, trivial, rfl⟩, rfl,
        Step.plain rfl (does_move (.tmp 57) (.bool (v7.2 && (v14 != (p1.Kind == 2)))) trivial), ⟨⟨rfl, trivial⟩, trivial, rfl⟩, rfl,
        Step.guarded rfl rfl rfl rfl (fun hc => does_move (.tmp 8) (.bool v7.2) trivial), ⟨⟨rfl, rfl, trivial⟩, trivial, rfl⟩, rfl,
        Step.guarded rfl rfl rfl rfl (fun hc => Does.strip (n' := [(59, (.opt (!(v7.2 && (v14 != (p1.Kind == 2)))) (.bool v7.2)))]) (n := [(59, (.bool v7.2))]) ⟨(.opt _ _ hc), trivial⟩ (does_move (.tmp 59) (.bool v7.2) trivial)), ⟨⟨rfl, rfl, trivial⟩, trivial, rfl⟩, rfl,
        Step.guarded rfl rfl rfl rfl (fun hc => does_move (.tmp 0) (e_s_api_Member p0) trivial), ⟨⟨rfl, rfl, trivial⟩, trivial, rfl⟩, rfl,
        Step.guarded rfl rfl rfl rfl (fun hc => does_load 35 9 2 0 [] (.var (e_api_Member v9)) (e_api_Member v9) trivial rfl rfl ty35), ⟨⟨rfl, rfl, trivial⟩, ⟨rfl, trivial⟩, rfl⟩, rfl,
        Step.guarded rfl rfl rfl rfl (fun hc => Does.strip (n' := [(61, (.opt ((!(v7.2 && (v14 != (p1.Kind == 2)))) && v7.2) (e_s_api_Member p0))), (62, (.opt ((!(v7.2 && (v14 != (p1.Kind == 2)))) && v7.2) (e_api_Member v9)))]) (n := [(61, (e_s_api_Member p0)), (62, (e_api_Member v9))]) ⟨(.opt _ _ hc), (.opt _ _ hc), trivial⟩ (does_call 19 0 (fun _ => .any) (.func 19) [(.tmp 61), (.tmp 62)] [(e_s_api_Member p0), (e_api_Member v9)] [] true [(e_s_api_Member p0), (e_api_Member v9)] (.bool v16) _ _ rfl fo19 rfl ⟨trivial, trivial, trivial⟩ ⟨.data _ (d_s_api_Member p0), .data _ (d_api_Member v9), trivial⟩ (congressref18_Has_spec p0 v9 _ (h17 hc)) trivial)), ⟨⟨rfl, rfl, rfl, trivial⟩, trivial, rfl⟩, rfl,
        Step.guarded rfl rfl rfl rfl (fun hc => does_fieldAddr 25 0 0 4 0 0 [] (.var (e_api_Entry p1)) fl25_0), ⟨⟨rfl, rfl, trivial⟩, ⟨rfl, trivial⟩, rfl⟩, rfl,
        Step.guarded rfl rfl rfl rfl (fun hc => Does.strip (n' := [(64, (.opt ((!(v7.2 && (v14 != (p1.Kind == 2)))) && v7.2) (.ptr 0 (0 + 0) [0])))]) (n := [(64, (.ptr 0 (0 + 0) [0]))]) ⟨(.opt _ _ hc), trivial⟩ (does_load 3 64 0 (0 + 0) [0] (.var (e_api_Entry p1)) (.int .i64 p1.Kind) ⟨rfl, Nat.le_of_ble_eq_true rfl, trivial⟩ rfl rfl ty3)), ⟨⟨rfl, rfl, trivial⟩, ⟨rfl, trivial⟩, rfl⟩, rfl,
        Step.guarded rfl rfl rfl rfl (fun hc => Does.strip (n' := [(65, (.opt ((!(v7.2 && (v14 != (p1.Kind == 2)))) && v7.2) (.int .i64 p1.Kind)))]) (n := [(65, (.int .i64 p1.Kind))]) ⟨(.opt _ _ hc), trivial⟩ (does_bin .eql 3 3 (.tmp 65) (.const (.int .i64 2)) .i64 p1.Kind 2 (.bool (p1.Kind == 2)) trivial (fun _ => rfl) (bin_eql _ _ _ _))), ⟨⟨rfl, rfl, trivial⟩, trivial, rfl⟩, rfl,
        Step.guarded rfl rfl rfl rfl (fun hc => Does.strip (n' := [(63, (.opt ((!(v7.2 && (v14 != (p1.Kind == 2)))) && v7.2) (.bool v16))), (66, (.opt ((!(v7.2 && (v14 != (p1.Kind == 2)))) && v7.2) (.bool (p1.Kind == 2))))]) (n := [(63, (.bool v16)), (66, (.bool (p1.Kind == 2)))]) ⟨(.opt _ _ hc), (.opt _ _ hc), trivial⟩ (does_eqBool false 4 4 (.tmp 63) (.tmp 66) v16 (p1.Kind == 2) trivial trivial rfl)), ⟨⟨rfl, rfl, rfl, trivial⟩, trivial, rfl⟩, rfl,
        Step.guarded rfl rfl rfl rfl (fun hc => Does.strip (n' := [(60, (.opt (!(v7.2 && (v14 != (p1.Kind == 2)))) (.bool v7.2))), (67, (.opt ((!(v7.2 && (v14 != (p1.Kind == 2)))) && v7.2) (.bool (v16 == (p1.Kind == 2)))))]) (n := [(60, (.bool v7.2)), (67, (.opt v7.2 (.bool (v16 == (p1.Kind == 2)))))]) ⟨(.opt _ _ hc), (.half _ _ hc), trivial⟩ (does_and 60 67 v7.2 (v16 == (p1.Kind == 2)))), ⟨⟨rfl, rfl, rfl, trivial⟩, trivial, rfl⟩, rfl,
        Step.plain rfl (does_or 58 68 (v7.2 && (v14 != (p1.Kind == 2))) (v7.2 && (v16 == (p1.Kind == 2)))), ⟨⟨rfl, rfl, trivial⟩, trivial, rfl⟩, rfl, rfl⟩ rfl ?_
      obtain ⟨v18, hv18, H⟩ := lt_of H
      refine aw_cov (cov_prune (s1 := ⟨[(0, (e_s_api_Member p0)), (2, (.int .i64 p2)), (4, (.ptr 0 0 [])), (7, (.own 1)), (8, (.bool v7.2)), (9, (.ptr 2 0 [])), (69, (.bool v18))], [(0, some (.var (e_api_Entry p1))), (1, some (.arr 3 v7.1.length fun j => (e_api_Member (v7.1.getD j z_api_Member)))), (2, some (.var (e_api_Member v9)))], 3⟩) ⟨rfl, rfl, rfl, rfl, rfl, rfl, (by subst hv18; rfl), trivial⟩ ⟨rfl, rfl, rfl, trivial⟩ (Nat.le_refl _)) ?_
      refine aw_cond rfl (fun hc => ?_) (fun hc => ?_)
      · replace H := ite_t hc H
        refine aw_region (es := [_]) ⟨Step.plain rfl (does_assign (.const (.bool false)) (.bool false) (fun _ => rfl)), ⟨trivial, trivial, rfl⟩, rfl, rfl⟩ ?_
        refine aw_cov (cov_prune (s1 := ⟨[(6, (.bool false))], [], 3⟩) ⟨rfl, trivial⟩ trivial (Nat.le_refl _)) ?_
        refine aw_ret ?_
        refine rt_then ?_
        exact fun a w hr => ⟨_, [(.bool false)], hr, ⟨⟨_, rfl, .data (.bool false) trivial⟩, trivial⟩, by decide, by cases H; rfl⟩
      · replace H := ite_f hc H
        refine aw_skip ?_
        refine nx_seq ?_
        refine aw_seq ?_
        refine aw_region (es := [_]) ⟨Step.plain rfl (does_assign (.const (.int .i64 0)) (.int .i64 0) (fun _ => rfl)), ⟨trivial, trivial, rfl⟩, rfl, rfl⟩ ?_
        refine aw_cov (cov_prune (s1 := ⟨[(0, (e_s_api_Member p0)), (2, (.int .i64 p2)), (4, (.ptr 0 0 [])), (7, (.own 1)), (8, (.bool v7.2)), (9, (.ptr 2 0 [])), (10, (.int .i64 0))], [(0, some (.var (e_api_Entry p1))), (1, some (.arr 3 v7.1.length fun j => (e_api_Member (v7.1.getD j z_api_Member)))), (2, some (.var (e_api_Member v9)))], 3⟩) ⟨rfl, rfl, rfl, rfl, rfl, rfl, rfl, trivial⟩ ⟨rfl, rfl, rfl, trivial⟩ (Nat.le_refl _)) ?_
        obtain ⟨wn20, hwn20, Hrn20⟩ := bnd H
        refine aw_meet (fun y25 : Unit => (⟨[(0, (e_s_api_Member p0)), (2, (.int .i64 p2)), (4, (.ptr 0 0 [])), (7, (.own 1)), (8, (.bool v7.2))], [(0, some (.var (e_api_Entry p1))), (1, some (.arr 3 v7.1.length fun j => (e_api_Member (v7.1.getD j z_api_Member))))], 3⟩ : St)) (fun y25 => Fl.nx y25 = wn20) (fun y25 hy => ?_) (aw_block (aw_runs (fun x19 : Int => (⟨[(0, (e_s_api_Member p0)), (2, (.int .i64 p2)), (4, (.ptr 0 0 [])), (7, (.own 1)), (8, (.bool v7.2)), (9, (.ptr 2 0 [])), (10, (.int .i64 x19))], [(0, some (.var (e_api_Entry p1))), (1, some (.arr 3 v7.1.length fun j => (e_api_Member (v7.1.getD j z_api_Member)))), (2, some (.var (e_api_Member v9)))], 3⟩ : St)) hwn20 (cov_prune ⟨rfl, rfl, rfl, rfl, rfl, rfl, rfl, trivial⟩ ⟨rfl, rfl, rfl, trivial⟩ (Nat.le_of_ble_eq_true rfl)) (fun x19 st H hsn20 => ?_)))
        · have H := nx_of hy Hrn20
          refine nx_seq ?_
          obtain ⟨v26, h27, H⟩ := bnd H
          refine aw_region (es := [_, _, _, _, _, _, _, _, _]) ⟨Step.plain rfl (does_move (.tmp 7) (.own 1) trivial), ⟨⟨rfl, trivial⟩, trivial, rfl⟩, rfl,
            Step.plain rfl (does_move (.tmp 2) (.int .i64 p2) trivial), ⟨⟨rfl, trivial⟩, trivial, rfl⟩, rfl,
            Step.plain rfl (does_load 25 4 0 0 [] (.var (e_api_Entry p1)) (e_api_Entry p1) trivial rfl rfl ty25), ⟨⟨rfl, trivial⟩, ⟨rfl, trivial⟩, rfl⟩, rfl,
            Step.plain rfl (does_callO 7 0 (fun _ => .any) (.func 7) [(.tmp 92), (.tmp 93), (.tmp 94)] [(.own 1), (.int .i64 p2), (e_api_Entry p1)] [(1, (.arr 3 v7.1.length fun j => (e_api_Member (v7.1.getD j z_api_Member))))] [] true [(e_s_api_Member v7.1), (.int .i64 p2), (e_api_Entry p1)] _ (resV [(.own 3), (.bool v26.2)]) _ 3 1 _ _ rfl fo7 rfl ⟨trivial, trivial, trivial, trivial⟩ ⟨.ro _ _ (.own 1 _ _ _ (.head _) rfl (fun _ => (d_api_Member _))), .ro _ _ (.data _ trivial), .ro _ _ (.data _ (d_api_Entry p1)), trivial⟩ (group_Apply_spec v7.1 p2 p1 _ h27) rfl (by simp) rfl trivial ⟨⟨Nat.le_of_ble_eq_true rfl, _, rfl, fun _ => (f_api_Member _)⟩, trivial⟩ (.tup _ _ _ (fun j => match j with | 0 => .own 0 (Nat.le_of_ble_eq_true rfl) | 1 => .data _ (trivial) | _ + 2 => .data _ trivial))), ⟨⟨rfl, rfl, rfl, trivial⟩, ⟨rfl, trivial⟩, rfl⟩, rfl,
            Step.plain rfl (does_move (.tmp 95) (resV [(.own 3), (.bool v26.2)]) trivial), ⟨⟨rfl, trivial⟩, trivial, rfl⟩, rfl,
            Step.plain rfl (does_extract 91 0 2 (fun j => [(.own 3), (.bool v26.2)].getD j (.bool false)) (Nat.le_of_ble_eq_true rfl)), ⟨⟨rfl, trivial⟩, trivial, rfl⟩, rfl,
            Step.plain rfl (does_extract 91 1 2 (fun j => [(.own 3), (.bool v26.2)].getD j (.bool false)) (Nat.le_of_ble_eq_true rfl)), ⟨⟨rfl, trivial⟩, trivial, rfl⟩, rfl,
            Step.plain rfl (does_assign (.tmp 96) (.own 3) trivial), ⟨⟨rfl, trivial⟩, trivial, rfl⟩, rfl,
            Step.plain rfl (does_assign (.tmp 97) (.bool v26.2) trivial), ⟨⟨rfl, trivial⟩, trivial, rfl⟩, rfl, rfl⟩ ?_
          refine aw_cov (cov_prune (s1 := ⟨[(0, (e_s_api_Member p0)), (4, (.ptr 0 0 [])), (7, (.own 1)), (8, (.bool v7.2)), (11, (.own 3)), (12, (.bool v26.2))], [(0, some (.var (e_api_Entry p1))), (1, some (.arr 3 v7.1.length fun j => (e_api_Member (v7.1.getD j z_api_Member)))), (3, some (.arr 3 v26.1.length fun j => (e_api_Member (v26.1.getD j z_api_Member))))], 4⟩) ⟨rfl, rfl, rfl, rfl, rfl, rfl, trivial⟩ ⟨rfl, rfl, rfl, trivial⟩ (Nat.le_refl _)) ?_
          refine aw_region (es := [_, _, _]) ⟨Step.plain rfl (does_move (.tmp 0) (e_s_api_Member p0) trivial), ⟨⟨rfl, trivial⟩, trivial, rfl⟩, rfl,
            Step.plain rfl (does_lens 22 3 p0.length 98 (fun j => (e_api_Member (p0.getD j z_api_Member))) el22), ⟨⟨rfl, trivial⟩, trivial, rfl⟩, rfl,
            Step.plain rfl (does_assign (.tmp 99) (.int .i64 (p0.length : Int)) trivial), ⟨⟨rfl, trivial⟩, trivial, rfl⟩, rfl, rfl⟩ ?_
          refine aw_cov (cov_prune (s1 := ⟨[(4, (.ptr 0 0 [])), (7, (.own 1)), (8, (.bool v7.2)), (11, (.own 3)), (12, (.bool v26.2)), (13, (.int .i64 (p0.length : Int)))], [(0, some (.var (e_api_Entry p1))), (1, some (.arr 3 v7.1.length fun j => (e_api_Member (v7.1.getD j z_api_Member)))), (3, some (.arr 3 v26.1.length fun j => (e_api_Member (v26.1.getD j z_api_Member))))], 4⟩) ⟨rfl, rfl, rfl, rfl, rfl, rfl, trivial⟩ ⟨rfl, rfl, rfl, trivial⟩ (Nat.le_refl _)) ?_
          refine aw_seq ?_
          refine aw_region (es := [_, _, _, _, _, _]) ⟨Step.plain rfl (does_move (.tmp 8) (.bool v7.2) trivial), ⟨⟨rfl, trivial⟩, trivial, rfl⟩, rfl,
            Step.plain rfl (does_move (.tmp 100) (.bool v7.2) trivial), ⟨⟨rfl, trivial⟩, trivial, rfl⟩, rfl,
            Step.guarded rfl rfl rfl rfl (fun hc => does_fieldAddr 25 0 0 4 0 0 [] (.var (e_api_Entry p1)) fl25_0), ⟨⟨rfl, rfl, trivial⟩, ⟨rfl, trivial⟩, rfl⟩, rfl,
            Step.guarded rfl rfl rfl rfl (fun hc => Does.strip (n' := [(102, (.opt v7.2 (.ptr 0 (0 + 0) [0])))]) (n := [(102, (.ptr 0 (0 + 0) [0]))]) ⟨(.opt _ _ hc), trivial⟩ (does_load 3 102 0 (0 + 0) [0] (.var (e_api_Entry p1)) (.int .i64 p1.Kind) ⟨rfl, Nat.le_of_ble_eq_true rfl, trivial⟩ rfl rfl ty3)), ⟨⟨rfl, rfl, trivial⟩, ⟨rfl, trivial⟩, rfl⟩, rfl,
            Step.guarded rfl rfl rfl rfl (fun hc => Does.strip (n' := [(103, (.opt v7.2 (.int .i64 p1.Kind)))]) (n := [(103, (.int .i64 p1.Kind))]) ⟨(.opt _ _ hc), trivial⟩ (does_bin .eql 3 3 (.tmp 103) (.const (.int .i64 2)) .i64 p1.Kind 2 (.bool (p1.Kind == 2)) trivial (fun _ => rfl) (bin_eql _ _ _ _))), ⟨⟨rfl, rfl, trivial⟩, trivial, rfl⟩, rfl,
            Step.plain rfl (does_and 101 104 v7.2 (p1.Kind == 2)), ⟨⟨rfl, rfl, trivial⟩, trivial, rfl⟩, rfl, rfl⟩ ?_
          refine aw_cov (cov_prune (s1 := ⟨[(4, (.ptr 0 0 [])), (7, (.own 1)), (8, (.bool v7.2)), (11, (.own 3)), (12, (.bool v26.2)), (13, (.int .i64 (p0.length : Int))), (105, (.bool (v7.2 && (p1.Kind == 2))))], [(0, some (.var (e_api_Entry p1))), (1, some (.arr 3 v7.1.length fun j => (e_api_Member (v7.1.getD j z_api_Member)))), (3, some (.arr 3 v26.1.length fun j => (e_api_Member (v26.1.getD j z_api_Member))))], 4⟩) ⟨rfl, rfl, rfl, rfl, rfl, rfl, rfl, trivial⟩ ⟨rfl, rfl, rfl, trivial⟩ (Nat.le_refl _)) ?_
          refine aw_jn (fun x29 : Int => (⟨[(4, (.ptr 0 0 [])), (7, (.own 1)), (8, (.bool v7.2)), (11, (.own 3)), (12, (.bool v26.2)), (13, (.int .i64 x29))], [(0, some (.var (e_api_Entry p1))), (1, some (.arr 3 v7.1.length fun j => (e_api_Member (v7.1.getD j z_api_Member)))), (3, some (.arr 3 v26.1.length fun j => (e_api_Member (v26.1.getD j z_api_Member))))], 4⟩ : St)) H (fun x29 H => ?_) (fun j28 H => ?_)
          · refine nx_seq ?_
            refine aw_seq ?_
            refine aw_region (es := [_, _, _, _, _, _]) ⟨Step.plain rfl (does_move (.tmp 8) (.bool v7.2) trivial), ⟨⟨rfl, trivial⟩, trivial, rfl⟩, rfl,
              Step.plain rfl (does_move (.tmp 108) (.bool v7.2) trivial), ⟨⟨rfl, trivial⟩, trivial, rfl⟩, rfl,
              Step.guarded rfl rfl rfl rfl (fun hc => does_fieldAddr 25 0 0 4 0 0 [] (.var (e_api_Entry p1)) fl25_0), ⟨⟨rfl, rfl, trivial⟩, ⟨rfl, trivial⟩, rfl⟩, rfl,
              Step.guarded rfl rfl rfl rfl (fun hc => Does.strip (n' := [(110, (.opt v7.2 (.ptr 0 (0 + 0) [0])))]) (n := [(110, (.ptr 0 (0 + 0) [0]))]) ⟨(.opt _ _ hc), trivial⟩ (does_load 3 110 0 (0 + 0) [0] (.var (e_api_Entry p1)) (.int .i64 p1.Kind) ⟨rfl, Nat.le_of_ble_eq_true rfl, trivial⟩ rfl rfl ty3)), ⟨⟨rfl, rfl, trivial⟩, ⟨rfl, trivial⟩, rfl⟩, rfl,
              Step.guarded rfl rfl rfl rfl (fun hc => Does.strip (n' := [(111, (.opt v7.2 (.int .i64 p1.Kind)))]) (n := [(111, (.int .i64 p1.Kind))]) ⟨(.opt _ _ hc), trivial⟩ (does_bin .eql 3 3 (.tmp 111) (.const (.int .i64 3)) .i64 p1.Kind 3 (.bool (p1.Kind == 3)) trivial (fun _ => rfl) (bin_eql _ _ _ _))), ⟨⟨rfl, rfl, trivial⟩, trivial, rfl⟩, rfl,
              Step.plain rfl (does_and 109 112 v7.2 (p1.Kind == 3)), ⟨⟨rfl, rfl, trivial⟩, trivial, rfl⟩, rfl, rfl⟩ ?_
            refine aw_cov (cov_prune (s1 := ⟨[(7, (.own 1)), (11, (.own 3)), (12, (.bool v26.2)), (13, (.int .i64 x29)), (113, (.bool (v7.2 && (p1.Kind == 3))))], [(1, some (.arr 3 v7.1.length fun j => (e_api_Member (v7.1.getD j z_api_Member)))), (3, some (.arr 3 v26.1.length fun j => (e_api_Member (v26.1.getD j z_api_Member))))], 4⟩) ⟨rfl, rfl, rfl, rfl, rfl, trivial⟩ ⟨rfl, rfl, trivial⟩ (Nat.le_refl _)) ?_
            refine aw_jn (fun x31 : Int => (⟨[(7, (.own 1)), (11, (.own 3)), (12, (.bool v26.2)), (13, (.int .i64 x31))], [(1, some (.arr 3 v7.1.length fun j => (e_api_Member (v7.1.getD j z_api_Member)))), (3, some (.arr 3 v26.1.length fun j => (e_api_Member (v26.1.getD j z_api_Member))))], 4⟩ : St)) H (fun x31 H => ?_) (fun j30 H => ?_)
            · refine nx_seq ?_
              refine aw_cov (cov_to (s1 := ⟨[(7, (e_s_api_Member v7.1)), (11, (.own 3)), (12, (.bool v26.2)), (13, (.int .i64 x31))], [(3, some (.arr 3 v26.1.length fun j => (e_api_Member (v26.1.getD j z_api_Member))))], 4⟩) (fun i => i) [1] ⟨⟨_, rfl, .frz 1 _ _ _ rfl (fun _ => (d_api_Member _)) (by decide)⟩, ⟨_, rfl, .own 3 _ _ (Nat.le_of_ble_eq_true rfl) rfl rfl (Box.like_refl _)⟩, ⟨_, rfl, .plain _ (trivial)⟩, ⟨_, rfl, .plain _ (trivial)⟩, trivial⟩ ⟨⟨Nat.le_of_ble_eq_true rfl, _, _, rfl, rfl, boxTo_arr (fun _ => (d_api_Member _))⟩, trivial⟩ rfl rfl) ?_
              obtain ⟨v32, h33, H⟩ := whn_of H
              obtain ⟨v34, h35, H⟩ := whn_of H
              obtain ⟨v36, h37, H⟩ := whn_of H
              refine aw_region (es := [_, _, _, _, _, _, _, _, _, _, _, _, _, _, _, _, _, _, _, _]) ⟨Step.plain rfl (does_move (.tmp 12) (.bool v26.2) trivial), ⟨⟨rfl, trivial⟩, trivial, rfl⟩, rfl,
                Step.plain rfl (does_not 4 (.tmp 116) v26.2 trivial), ⟨⟨rfl, trivial⟩, trivial, rfl⟩, rfl,
                Step.plain rfl (does_move (.tmp 117) (.bool (!v26.2)) trivial), ⟨⟨rfl, trivial⟩, trivial, rfl⟩, rfl,
                Step.guarded rfl rfl rfl rfl (fun hc => does_move (.tmp 7) (e_s_api_Member v7.1) trivial), ⟨⟨rfl, rfl, trivial⟩, trivial, rfl⟩, rfl,
                Step.guarded rfl rfl rfl rfl (fun hc => does_move (.tmp 11) (.own 3) trivial), ⟨⟨rfl, rfl, trivial⟩, trivial, rfl⟩, rfl,
                Step.guarded rfl rfl rfl rfl (fun hc => Does.strip (n' := [(119, (.opt (!v26.2) (e_s_api_Member v7.1))), (120, (.opt (!v26.2) (.own 3)))]) (n := [(119, (e_s_api_Member v7.1)), (120, (.own 3))]) ⟨(.opt _ _ hc), (.opt _ _ hc), trivial⟩ (does_call 12 0 (fun _ => .any) (.func 12) [(.tmp 119), (.tmp 120)] [(e_s_api_Member v7.1), (.own 3)] [(3, (.arr 3 v26.1.length fun j => (e_api_Member (v26.1.getD j z_api_Member))))] true [(e_s_api_Member v7.1), (e_s_api_Member v26.1)] (.bool v32) _ _ rfl fo12 rfl ⟨trivial, trivial, trivial⟩ ⟨.data _ (d_s_api_Member v7.1), .own 3 _ _ _ (.head _) rfl (fun _ => (d_api_Member _)), trivial⟩ (congressref18_Same_spec v7.1 v26.1 _ (h33 hc)) trivial)), ⟨⟨rfl, rfl, rfl, trivial⟩, ⟨rfl, trivial⟩, rfl⟩, rfl,
                Step.plain rfl (does_and 118 121 (!v26.2) v32), ⟨⟨rfl, rfl, trivial⟩, trivial, rfl⟩, rfl,
                Step.plain rfl (does_move (.tmp 122) (.bool ((!v26.2) && v32)) trivial), ⟨⟨rfl, trivial⟩, trivial, rfl⟩, rfl,
                Step.guarded rfl rfl rfl rfl (fun hc => does_move (.tmp 7) (e_s_api_Member v7.1) trivial), ⟨⟨rfl, rfl, trivial⟩, trivial, rfl⟩, rfl,
                Step.guarded rfl rfl rfl rfl (fun hc => Does.strip (n' := [(124, (.opt ((!v26.2) && v32) (e_s_api_Member v7.1)))]) (n := [(124, (e_s_api_Member v7.1))]) ⟨(.opt _ _ hc), trivial⟩ (does_lens 22 3 v7.1.length 124 (fun j => (e_api_Member (v7.1.getD j z_api_Member))) el22)), ⟨⟨rfl, rfl, trivial⟩, trivial, rfl⟩, rfl,
                Step.guarded rfl rfl rfl rfl (fun hc => does_move (.tmp 13) (.int .i64 x31) trivial), ⟨⟨rfl, rfl, trivial⟩, trivial, rfl⟩, rfl,
                Step.guarded rfl rfl rfl rfl (fun hc => Does.strip (n' := [(125, (.opt ((!v26.2) && v32) (.int .i64 (v7.1.length : Int)))), (126, (.opt ((!v26.2) && v32) (.int .i64 x31)))]) (n := [(125, (.int .i64 (v7.1.length : Int))), (126, (.int .i64 x31))]) ⟨(.opt _ _ hc), (.opt _ _ hc), trivial⟩ (does_bin .eql 3 3 (.tmp 125) (.tmp 126) .i64 (v7.1.length : Int) x31 (.bool ((v7.1.length : Int) == x31)) trivial trivial (bin_eql _ _ _ _))), ⟨⟨rfl, rfl, rfl, trivial⟩, trivial, rfl⟩, rfl,
                Step.plain rfl (does_and 123 127 ((!v26.2) && v32) ((v7.1.length : Int) == x31)), ⟨⟨rfl, rfl, trivial⟩, trivial, rfl⟩, rfl,
                Step.plain rfl (does_move (.tmp 128) (.bool (((!v26.2) && v32) && ((v7.1.length : Int) == x31))) trivial), ⟨⟨rfl, trivial⟩, trivial, rfl⟩, rfl,
                Step.guarded rfl rfl rfl rfl (fun hc => does_move (.tmp 7) (e_s_api_Member v7.1) trivial), ⟨⟨rfl, rfl, trivial⟩, trivial, rfl⟩, rfl,
                Step.guarded rfl rfl rfl rfl (fun hc => does_buildT 28 #[(0, (.const (.int .u32 1))), (1, (.const (.int .u32 0))), (2, (.const (.int .u32 1)))] [(0, (.const (.int .u32 1))), (1, (.const (.int .u32 0))), (2, (.const (.int .u32 1)))] [(0, (.int .u32 1)), (1, (.int .u32 0)), (2, (.int .u32 1))] (.ar 8 1) (fun j => (.int .u32 ((fun _ => 0) j))) (fun j => (.int .u32 ((aset (fun _ => 0) [(0, 1), (1, 0), (2, 1)]) j))) rfl bo28 ⟨⟨rfl, (fun _ => rfl)⟩, ⟨rfl, (fun _ => rfl)⟩, ⟨rfl, (fun _ => rfl)⟩, trivial⟩ ⟨⟨Nat.le_of_ble_eq_true rfl, rfl, rfl⟩, ⟨Nat.le_of_ble_eq_true rfl, rfl, rfl⟩, ⟨Nat.le_of_ble_eq_true rfl, rfl, rfl⟩, trivial⟩ (setAll_map (fun z => V.int .u32 z) [(0, 1), (1, 0), (2, 1)] _)), ⟨⟨rfl, trivial⟩, trivial, rfl⟩, rfl,
                Step.guarded rfl rfl rfl rfl (fun hc => Does.strip (n' := [(130, (.opt (((!v26.2) && v32) && ((v7.1.length : Int) == x31)) (e_s_api_Member v7.1))), (131, (.opt (((!v26.2) && v32) && ((v7.1.length : Int) == x31)) (e_a8_u32 (aset (fun _ => 0) [(0, 1), (1, 0), (2, 1)]))))]) (n := [(130, (e_s_api_Member v7.1)), (131, (e_a8_u32 (aset (fun _ => 0) [(0, 1), (1, 0), (2, 1)])))]) ⟨(.opt _ _ hc), (.opt _ _ hc), trivial⟩ (does_call 15 0 (fun _ => .any) (.func 15) [(.tmp 130), (.tmp 131)] [(e_s_api_Member v7.1), (e_a8_u32 (aset (fun _ => 0) [(0, 1), (1, 0), (2, 1)]))] [] false [(e_s_api_Member v7.1), (e_a8_u32 (aset (fun _ => 0) [(0, 1), (1, 0), (2, 1)]))] (e_s_api_Member v34) _ _ rfl fo15 rfl ⟨trivial, trivial, trivial⟩ ⟨.data _ (d_s_api_Member v7.1), .data _ (d_a8_u32 (aset (fun _ => 0) [(0, 1), (1, 0), (2, 1)])), trivial⟩ (group_Keep_data v7.1 (aset (fun _ => 0) [(0, 1), (1, 0), (2, 1)]) _ (h35 hc)) (d_s_api_Member v34))), ⟨⟨rfl, rfl, rfl, trivial⟩, trivial, rfl⟩, rfl,
                Step.guarded rfl rfl rfl rfl (fun hc => Does.strip (n' := [(132, (.opt (((!v26.2) && v32) && ((v7.1.length : Int) == x31)) (e_s_api_Member v34)))]) (n := [(132, (e_s_api_Member v34))]) ⟨(.opt _ _ hc), trivial⟩ (does_call 17 0 (fun _ => .any) (.func 17) [(.tmp 132)] [(e_s_api_Member v34)] [] true [(e_s_api_Member v34)] (.bool v36) _ _ rfl fo17 rfl ⟨trivial, trivial⟩ ⟨.data _ (d_s_api_Member v34), trivial⟩ (group_May_spec v34 _ (h37 hc)) trivial)), ⟨⟨rfl, rfl, trivial⟩, trivial, rfl⟩, rfl,
                Step.plain rfl (does_and 129 133 (((!v26.2) && v32) && ((v7.1.length : Int) == x31)) v36), ⟨⟨rfl, rfl, trivial⟩, trivial, rfl⟩, rfl,
                Step.plain rfl (does_assign (.tmp 134) (.bool ((((!v26.2) && v32) && ((v7.1.length : Int) == x31)) && v36)) trivial), ⟨⟨rfl, trivial⟩, trivial, rfl⟩, rfl, rfl⟩ ?_
              refine aw_cov (cov_prune (s1 := ⟨[(6, (.bool ((((!v26.2) && v32) && ((v7.1.length : Int) == x31)) && v36)))], [], 4⟩) ⟨rfl, trivial⟩ trivial (Nat.le_refl _)) ?_
              refine aw_ret ?_
              exact fun a w hr => ⟨_, [(.bool ((((!v26.2) && v32) && ((v7.1.length : Int) == x31)) && v36))], hr, ⟨⟨_, rfl, .data (.bool ((((!v26.2) && v32) && ((v7.1.length : Int) == x31)) && v36)) trivial⟩, trivial⟩, by decide, by cases H; rfl⟩
            · refine aw_cond rfl (fun hc => ?_) (fun hc => ?_)
              · replace H := ite_t hc H
                refine aw_region1 (es := [_, _, _]) ⟨Step.plain rfl (does_move (.tmp 13) (.int .i64 x29) trivial), ⟨⟨rfl, trivial⟩, trivial, rfl⟩, rfl,
                  Step.plain rfl (does_bin .sub 3 3 (.tmp 114) (.const (.int .i64 1)) .i64 x29 1 (.int .i64 (IntKind.i64.wrap (x29 - 1))) trivial (fun _ => rfl) (bin_sub _ _ _ _)), ⟨⟨rfl, trivial⟩, trivial, rfl⟩, rfl,
                  Step.plain rfl (does_assign (.tmp 115) (.int .i64 (IntKind.i64.wrap (x29 - 1))) trivial), ⟨⟨rfl, trivial⟩, trivial, rfl⟩, rfl, rfl⟩ ?_
                exact nx_join ((IntKind.i64.wrap (x29 - 1))) H (cov_prune ⟨rfl, rfl, rfl, rfl, trivial⟩ ⟨rfl, rfl, trivial⟩ (Nat.le_of_ble_eq_true rfl))
              · replace H := ite_f hc H
                refine aw_skip ?_
                exact nx_join (x29) H (cov_prune ⟨rfl, rfl, rfl, rfl, trivial⟩ ⟨rfl, rfl, trivial⟩ (Nat.le_of_ble_eq_true rfl))
          · refine aw_cond rfl (fun hc => ?_) (fun hc => ?_)
            · replace H := ite_t hc H
              refine aw_region1 (es := [_, _, _]) ⟨Step.plain rfl (does_move (.tmp 13) (.int .i64 (p0.length : Int)) trivial), ⟨⟨rfl, trivial⟩, trivial, rfl⟩, rfl,
                Step.plain rfl (does_bin .add 3 3 (.tmp 106) (.const (.int .i64 1)) .i64 (p0.length : Int) 1 (.int .i64 (IntKind.i64.wrap ((p0.length : Int) + 1))) trivial (fun _ => rfl) (bin_add _ _ _ _)), ⟨⟨rfl, trivial⟩, trivial, rfl⟩, rfl,
                Step.plain rfl (does_assign (.tmp 107) (.int .i64 (IntKind.i64.wrap ((p0.length : Int) + 1))) trivial), ⟨⟨rfl, trivial⟩, trivial, rfl⟩, rfl, rfl⟩ ?_
              exact nx_join ((IntKind.i64.wrap ((p0.length : Int) + 1))) H (cov_prune ⟨rfl, rfl, rfl, rfl, rfl, rfl, trivial⟩ ⟨rfl, rfl, rfl, trivial⟩ (Nat.le_of_ble_eq_true rfl))
            · replace H := ite_f hc H
              refine aw_skip ?_
              exact nx_join ((p0.length : Int)) H (cov_prune ⟨rfl, rfl, rfl, rfl, rfl, rfl, trivial⟩ ⟨rfl, rfl, rfl, trivial⟩ (Nat.le_of_ble_eq_true rfl))
        · refine aw_seq ?_
          refine aw_region (es := [_, _, _, _]) ⟨Step.plain rfl (does_move (.tmp 10) (.int .i64 x19) trivial), ⟨⟨rfl, trivial⟩, trivial, rfl⟩, rfl,
            Step.plain rfl (does_move (.tmp 0) (e_s_api_Member p0) trivial), ⟨⟨rfl, trivial⟩, trivial, rfl⟩, rfl,
            Step.plain rfl (does_lens 22 3 p0.length 71 (fun j => (e_api_Member (p0.getD j z_api_Member))) el22), ⟨⟨rfl, trivial⟩, trivial, rfl⟩, rfl,
            Step.plain rfl (does_bin .lss 3 3 (.tmp 70) (.tmp 72) .i64 x19 (p0.length : Int) (.bool (decide (x19 < (p0.length : Int)))) trivial trivial (bin_lss _ _ _ _)), ⟨⟨rfl, rfl, trivial⟩, trivial, rfl⟩, rfl, rfl⟩ ?_
          refine aw_cov (cov_prune (s1 := ⟨[(0, (e_s_api_Member p0)), (2, (.int .i64 p2)), (4, (.ptr 0 0 [])), (7, (.own 1)), (8, (.bool v7.2)), (9, (.ptr 2 0 [])), (10, (.int .i64 x19)), (73, (.bool (decide (x19 < (p0.length : Int)))))], [(0, some (.var (e_api_Entry p1))), (1, some (.arr 3 v7.1.length fun j => (e_api_Member (v7.1.getD j z_api_Member)))), (2, some (.var (e_api_Member v9)))], 3⟩) ⟨rfl, rfl, rfl, rfl, rfl, rfl, rfl, rfl, trivial⟩ ⟨rfl, rfl, rfl, trivial⟩ (Nat.le_refl _)) ?_
          refine aw_cond rfl (fun hc => ?_) (fun hc => ?_)
          · replace H := ite_t hc H
            refine aw_skip ?_
            refine nx_seq ?_
            refine aw_seq ?_
            refine aw_block ?_
            obtain ⟨h21, H⟩ := ib_of H
            obtain ⟨h22, H⟩ := ibg_of H
            obtain ⟨v23, h24, H⟩ := whn_of H
            refine aw_draw (es := [_, _, _, _, _, _, _, _, _, _, _, _, _, _, _]) (mixed) ⟨Step.plain rfl (does_move (.tmp 0) (e_s_api_Member p0) trivial), ⟨⟨rfl, trivial⟩, trivial, rfl⟩, rfl,
              Step.plain rfl (does_move (.tmp 10) (.int .i64 x19) trivial), ⟨⟨rfl, trivial⟩, trivial, rfl⟩, rfl,
              Step.plain rfl (does_indexAddrs 22 3 p0.length 76 (fun j => (e_api_Member (p0.getD j z_api_Member))) (.tmp 77) .i64 x19 el22 trivial h21.1 h21.2), ⟨⟨rfl, rfl, trivial⟩, trivial, rfl⟩, rfl,
              Step.plain rfl (does_loadc 35 78 (e_api_Member (p0.getD x19.toNat z_api_Member)) ty35), ⟨⟨rfl, trivial⟩, trivial, rfl⟩, rfl,
              Step.plain rfl (does_load 35 9 2 0 [] (.var (e_api_Member v9)) (e_api_Member v9) trivial rfl rfl ty35), ⟨⟨rfl, trivial⟩, ⟨rfl, trivial⟩, rfl⟩, rfl,
              Step.plain rfl (does_eqT true 35 35 (.tmp 79) (.tmp 80) (e_api_Member (p0.getD x19.toNat z_api_Member)) (e_api_Member v9) (e_api_Member z_api_Member) (b_api_Member (p0.getD x19.toNat z_api_Member) v9) rfl rfl trivial trivial eg35 sh35 (al_api_Member _ _) (al_api_Member _ _) (q_api_Member _ _)), ⟨⟨rfl, rfl, trivial⟩, trivial, rfl⟩, rfl,
              Step.plain rfl (does_move (.tmp 81) (.bool (!(b_api_Member (p0.getD x19.toNat z_api_Member) v9))) trivial), ⟨⟨rfl, trivial⟩, trivial, rfl⟩, rfl,
              Step.guarded rfl rfl rfl rfl (fun hc => does_move (.tmp 7) (.own 1) trivial), ⟨⟨rfl, rfl, trivial⟩, trivial, rfl⟩, rfl,
              Step.guarded rfl rfl rfl rfl (fun hc => does_move (.tmp 0) (e_s_api_Member p0) trivial), ⟨⟨rfl, rfl, trivial⟩, trivial, rfl⟩, rfl,
              Step.guarded rfl rfl rfl rfl (fun hc => does_move (.tmp 10) (.int .i64 x19) trivial), ⟨⟨rfl, rfl, trivial⟩, trivial, rfl⟩, rfl,
              Step.guarded rfl rfl rfl rfl (fun hc => Does.strip (n' := [(84, (.opt (!(b_api_Member (p0.getD x19.toNat z_api_Member) v9)) (e_s_api_Member p0))), (85, (.opt (!(b_api_Member (p0.getD x19.toNat z_api_Member) v9)) (.int .i64 x19)))]) (n := [(84, (e_s_api_Member p0)), (85, (.int .i64 x19))]) ⟨(.opt _ _ hc), (.opt _ _ hc), trivial⟩ (does_indexAddrs 22 3 p0.length 84 (fun j => (e_api_Member (p0.getD j z_api_Member))) (.tmp 85) .i64 x19 el22 trivial (h22 hc).1 (h22 hc).2)), ⟨⟨rfl, rfl, rfl, trivial⟩, trivial, rfl⟩, rfl,
              Step.guarded rfl rfl rfl rfl (fun hc => Does.strip (n' := [(86, (.opt (!(b_api_Member (p0.getD x19.toNat z_api_Member) v9)) (.cptr (e_api_Member (p0.getD x19.toNat z_api_Member)))))]) (n := [(86, (.cptr (e_api_Member (p0.getD x19.toNat z_api_Member))))]) ⟨(.opt _ _ hc), trivial⟩ (does_loadc 35 86 (e_api_Member (p0.getD x19.toNat z_api_Member)) ty35)), ⟨⟨rfl, rfl, trivial⟩, trivial, rfl⟩, rfl,
              Step.guarded rfl rfl rfl rfl (fun hc => Does.strip (n' := [(83, (.opt (!(b_api_Member (p0.getD x19.toNat z_api_Member) v9)) (.own 1))), (87, (.opt (!(b_api_Member (p0.getD x19.toNat z_api_Member) v9)) (e_api_Member (p0.getD x19.toNat z_api_Member))))]) (n := [(83, (.own 1)), (87, (e_api_Member (p0.getD x19.toNat z_api_Member)))]) ⟨(.opt _ _ hc), (.opt _ _ hc), trivial⟩ (does_call 19 0 (fun _ => .any) (.func 19) [(.tmp 83), (.tmp 87)] [(.own 1), (e_api_Member (p0.getD x19.toNat z_api_Member))] [(1, (.arr 3 v7.1.length fun j => (e_api_Member (v7.1.getD j z_api_Member))))] true [(e_s_api_Member v7.1), (e_api_Member (p0.getD x19.toNat z_api_Member))] (.bool v23) _ _ rfl fo19 rfl ⟨trivial, trivial, trivial⟩ ⟨.own 1 _ _ _ (.head _) rfl (fun _ => (d_api_Member _)), .data _ (d_api_Member (p0.getD x19.toNat z_api_Member)), trivial⟩ (congressref18_Has_spec v7.1 (p0.getD x19.toNat z_api_Member) _ (h24 hc)) trivial)), ⟨⟨rfl, rfl, rfl, trivial⟩, ⟨rfl, trivial⟩, rfl⟩, rfl,
              Step.guarded rfl rfl rfl rfl (fun hc => Does.strip (n' := [(88, (.opt (!(b_api_Member (p0.getD x19.toNat z_api_Member) v9)) (.bool v23)))]) (n := [(88, (.bool v23))]) ⟨(.opt _ _ hc), trivial⟩ (does_not 4 (.tmp 88) v23 trivial)), ⟨⟨rfl, rfl, trivial⟩, trivial, rfl⟩, rfl,
              Step.plain rfl (does_and 82 89 (!(b_api_Member (p0.getD x19.toNat z_api_Member) v9)) (!v23)), ⟨⟨rfl, rfl, trivial⟩, trivial, rfl⟩, rfl, rfl⟩ rfl ?_
            refine aw_cov (cov_prune (s1 := ⟨[(0, (e_s_api_Member p0)), (2, (.int .i64 p2)), (4, (.ptr 0 0 [])), (7, (.own 1)), (8, (.bool v7.2)), (9, (.ptr 2 0 [])), (10, (.int .i64 x19)), (90, (.bool ((!(b_api_Member (p0.getD x19.toNat z_api_Member) v9)) && (!v23))))], [(0, some (.var (e_api_Entry p1))), (1, some (.arr 3 v7.1.length fun j => (e_api_Member (v7.1.getD j z_api_Member)))), (2, some (.var (e_api_Member v9)))], 3⟩) ⟨rfl, rfl, rfl, rfl, rfl, rfl, rfl, rfl, trivial⟩ ⟨rfl, rfl, rfl, trivial⟩ (Nat.le_refl _)) ?_
            refine aw_cond rfl (fun hc => ?_) (fun hc => ?_)
            · replace H := ite_t hc H
              refine aw_region (es := [_]) ⟨Step.plain rfl (does_assign (.const (.bool false)) (.bool false) (fun _ => rfl)), ⟨trivial, trivial, rfl⟩, rfl, rfl⟩ ?_
              refine aw_cov (cov_prune (s1 := ⟨[(6, (.bool false))], [], 3⟩) ⟨rfl, trivial⟩ trivial (Nat.le_refl _)) ?_
              refine aw_ret ?_
              replace H := rt_of H hsn20 Hrn20
              refine rt_blk ?_
              refine rt_then ?_
              refine rt_then ?_
              refine rt_blk ?_
              refine rt_then ?_
              refine rt_then ?_
              exact fun a w hr => ⟨_, [(.bool false)], hr, ⟨⟨_, rfl, .data (.bool false) trivial⟩, trivial⟩, by decide, by cases H; rfl⟩
            · replace H := ite_f hc H
              refine aw_skip ?_
              refine nx_blk ?_
              refine nx_seq ?_
              refine aw_region1 (es := [_, _, _]) ⟨Step.plain rfl (does_move (.tmp 10) (.int .i64 x19) trivial), ⟨⟨rfl, trivial⟩, trivial, rfl⟩, rfl,
                Step.plain rfl (does_bin .add 3 3 (.tmp 74) (.const (.int .i64 1)) .i64 x19 1 (.int .i64 (IntKind.i64.wrap (x19 + 1))) trivial (fun _ => rfl) (bin_add _ _ _ _)), ⟨⟨rfl, trivial⟩, trivial, rfl⟩, rfl,
                Step.plain rfl (does_assign (.tmp 75) (.int .i64 (IntKind.i64.wrap (x19 + 1))) trivial), ⟨⟨rfl, trivial⟩, trivial, rfl⟩, rfl, rfl⟩ ?_
              exact nx_loop ((IntKind.i64.wrap (x19 + 1))) H (cov_prune ⟨rfl, rfl, rfl, rfl, rfl, rfl, rfl, trivial⟩ ⟨rfl, rfl, rfl, trivial⟩ (Nat.le_of_ble_eq_true rfl))
          · replace H := ite_f hc H
            refine aw_exit ?_
            refine ex_then ?_
            refine ex_then ?_
            refine ex_here ?_
            exact nx_ljoin () H hsn20 (cov_prune ⟨rfl, rfl, rfl, rfl, rfl, trivial⟩ ⟨rfl, rfl, trivial⟩ (Nat.le_of_ble_eq_true rfl))

theorem congresslaw18_GroupTurned_spec (p0 : (_root_.List api_Member)) (p1 : congresslaw18_Did) (p2 : congresslaw18_Did) (r : Bool) (H : congresslaw18_GroupTurned p0 p1 p2 = some r) : FSpec Try.prog 5 [(e_s_api_Member p0), (e_congresslaw18_Did p1), (e_congresslaw18_Did p2)] (.bool r) := by
  refine spec_of (fn := Try.f5) (args := [(e_s_api_Member p0), (e_congresslaw18_Did p1), (e_congresslaw18_Did p2)]) Try.func5 rfl (Nat.le_of_ble_eq_true rfl) ?_
  rintro ⟨G, w0, W, S, Sp⟩ hG
  cases hG
  unfold congresslaw18_GroupTurned at H
  refine aw_region (es := [_, _, _]) ⟨Step.plain rfl (does_box 45 (.tmp 1) 0 (e_congresslaw18_Did p1) trivial rfl), ⟨⟨rfl, trivial⟩, trivial, rfl⟩, rfl,
    Step.plain rfl (does_box 45 (.tmp 2) 1 (e_congresslaw18_Did p2) trivial rfl), ⟨⟨rfl, trivial⟩, trivial, rfl⟩, rfl,
    Step.plain rfl (does_assign (.const (.bool false)) (.bool false) (fun _ => rfl)), ⟨trivial, trivial, rfl⟩, rfl, rfl⟩ ?_
  refine aw_cov (cov_prune (s1 := ⟨[(0, (e_s_api_Member p0)), (4, (.ptr 0 0 [])), (5, (.ptr 1 0 []))], [(0, some (.var (e_congresslaw18_Did p1))), (1, some (.var (e_congresslaw18_Did p2)))], 2⟩) ⟨rfl, rfl, rfl, trivial⟩ ⟨rfl, rfl, trivial⟩ (Nat.le_refl _)) ?_
  refine aw_seq ?_
  obtain ⟨v1, h2, H⟩ := bnd H
  obtain ⟨v3, h4, H⟩ := whn_of H
  refine aw_region (es := [_, _, _, _, _, _, _]) ⟨Step.plain rfl (does_call 11 0 (fun _ => .any) (.func 11) [] [] [] true [] (.bool v1) _ _ rfl fo11 rfl trivial trivial (congresslaw18_fixed_spec _ h2) trivial), ⟨trivial, trivial, rfl⟩, rfl,
    Step.plain rfl (does_not 4 (.tmp 18) v1 trivial), ⟨⟨rfl, trivial⟩, trivial, rfl⟩, rfl,
    Step.plain rfl (does_move (.tmp 19) (.bool (!v1)) trivial), ⟨⟨rfl, trivial⟩, trivial, rfl⟩, rfl,
    Step.guarded rfl rfl rfl rfl (fun hc => does_move (.tmp 0) (e_s_api_Member p0) trivial), ⟨⟨rfl, rfl, trivial⟩, trivial, rfl⟩, rfl,
    Step.guarded rfl rfl rfl rfl (fun hc => Does.strip (n' := [(21, (.opt (!(!v1)) (e_s_api_Member p0)))]) (n := [(21, (e_s_api_Member p0))]) ⟨(.opt _ _ hc), trivial⟩ (does_call 17 0 (fun _ => .any) (.func 17) [(.tmp 21)] [(e_s_api_Member p0)] [] true [(e_s_api_Member p0)] (.bool v3) _ _ rfl fo17 rfl ⟨trivial, trivial⟩ ⟨.data _ (d_s_api_Member p0), trivial⟩ (group_May_spec p0 _ (h4 hc)) trivial)), ⟨⟨rfl, rfl, trivial⟩, trivial, rfl⟩, rfl,
    Step.guarded rfl rfl rfl rfl (fun hc => Does.strip (n' := [(22, (.opt (!(!v1)) (.bool v3)))]) (n := [(22, (.bool v3))]) ⟨(.opt _ _ hc), trivial⟩ (does_not 4 (.tmp 22) v3 trivial)), ⟨⟨rfl, rfl, trivial⟩, trivial, rfl⟩, rfl,
    Step.plain rfl (does_or 20 23 (!v1) (!v3)), ⟨⟨rfl, rfl, trivial⟩, trivial, rfl⟩, rfl, rfl⟩ ?_
  refine aw_cov (cov_prune (s1 := ⟨[(0, (e_s_api_Member p0)), (4, (.ptr 0 0 [])), (5, (.ptr 1 0 [])), (24, (.bool ((!v1) || (!v3))))], [(0, some (.var (e_congresslaw18_Did p1))), (1, some (.var (e_congresslaw18_Did p2)))], 2⟩) ⟨rfl, rfl, rfl, rfl, trivial⟩ ⟨rfl, rfl, trivial⟩ (Nat.le_refl _)) ?_
  refine aw_cond rfl (fun hc => ?_) (fun hc => ?_)
  · replace H := ite_t hc H
    obtain ⟨v5, h6, H⟩ := bnd H
    refine aw_region (es := [_, _]) ⟨Step.plain rfl (does_call 11 0 (fun _ => .any) (.func 11) [] [] [] true [] (.bool v5) _ _ rfl fo11 rfl trivial trivial (congresslaw18_fixed_spec _ h6) trivial), ⟨trivial, trivial, rfl⟩, rfl,
      Step.plain rfl (does_assign (.tmp 25) (.bool v5) trivial), ⟨⟨rfl, trivial⟩, trivial, rfl⟩, rfl, rfl⟩ ?_
    refine aw_cov (cov_prune (s1 := ⟨[(6, (.bool v5))], [], 2⟩) ⟨rfl, trivial⟩ trivial (Nat.le_refl _)) ?_
    refine aw_ret ?_
    refine rt_then ?_
    exact fun a w hr => ⟨_, [(.bool v5)], hr, ⟨⟨_, rfl, .data (.bool v5) trivial⟩, trivial⟩, by decide, by cases H; rfl⟩
  · replace H := ite_f hc H
    refine aw_skip ?_
    refine nx_seq ?_
    refine aw_region (es := [_, _, _, _, _, _, _, _, _, _, _]) ⟨Step.plain rfl (does_fieldAddr 45 1 1 4 0 0 [] (.var (e_congresslaw18_Did p1)) fl45_1), ⟨⟨rfl, trivial⟩, ⟨rfl, trivial⟩, rfl⟩, rfl,
      Step.plain rfl (does_fieldAddr 25 2 2 26 0 (0 + 1) [1] (.var (e_congresslaw18_Did p1)) fl25_2), ⟨⟨rfl, trivial⟩, ⟨rfl, trivial⟩, rfl⟩, rfl,
      Step.plain rfl (does_load 3 27 0 ((0 + 1) + 2) [1, 2] (.var (e_congresslaw18_Did p1)) (.int .i64 p1.E.Group) ⟨rfl, Nat.le_of_ble_eq_true rfl, ⟨rfl, Nat.le_of_ble_eq_true rfl, trivial⟩⟩ rfl rfl ty3), ⟨⟨rfl, trivial⟩, ⟨rfl, trivial⟩, rfl⟩, rfl,
      Step.plain rfl (does_fieldAddr 45 0 0 4 0 0 [] (.var (e_congresslaw18_Did p1)) fl45_0), ⟨⟨rfl, trivial⟩, ⟨rfl, trivial⟩, rfl⟩, rfl,
      Step.plain rfl (does_load 3 29 0 (0 + 0) [0] (.var (e_congresslaw18_Did p1)) (.int .i64 p1.Daemon) ⟨rfl, Nat.le_of_ble_eq_true rfl, trivial⟩ rfl rfl ty3), ⟨⟨rfl, trivial⟩, ⟨rfl, trivial⟩, rfl⟩, rfl,
      Step.plain rfl (does_fieldAddr 45 1 1 4 0 0 [] (.var (e_congresslaw18_Did p1)) fl45_1), ⟨⟨rfl, trivial⟩, ⟨rfl, trivial⟩, rfl⟩, rfl,
      Step.plain rfl (does_fieldAddr 25 3 3 31 0 (0 + 1) [1] (.var (e_congresslaw18_Did p1)) fl25_3), ⟨⟨rfl, trivial⟩, ⟨rfl, trivial⟩, rfl⟩, rfl,
      Step.plain rfl (does_load 23 32 0 ((0 + 1) + 3) [1, 3] (.var (e_congresslaw18_Did p1)) (.int .u64 p1.E.Session) ⟨rfl, Nat.le_of_ble_eq_true rfl, ⟨rfl, Nat.le_of_ble_eq_true rfl, trivial⟩⟩ rfl rfl ty23), ⟨⟨rfl, trivial⟩, ⟨rfl, trivial⟩, rfl⟩, rfl,
      Step.plain rfl (does_buildT 35 #[(0, (.tmp 28)), (1, (.tmp 30)), (2, (.tmp 33))] [(0, (.tmp 28)), (1, (.tmp 30)), (2, (.tmp 33))] [(0, (.int .i64 p1.E.Group)), (1, (.int .i64 p1.Daemon)), (2, (.int .u64 p1.E.Session))] (.st [1, 1, 1]) (c_api_Member z_api_Member) (c_api_Member ({ Group := p1.E.Group, Daemon := p1.Daemon, Session := p1.E.Session } : api_Member)) rfl bo35 ⟨⟨rfl, trivial⟩, ⟨rfl, trivial⟩, ⟨rfl, trivial⟩, trivial⟩ ⟨⟨Nat.le_of_ble_eq_true rfl, rfl, rfl⟩, ⟨Nat.le_of_ble_eq_true rfl, rfl, rfl⟩, ⟨Nat.le_of_ble_eq_true rfl, rfl, rfl⟩, trivial⟩ (by funext j; match j with | 0 => rfl | 1 => rfl | 2 => rfl | _ + 3 => rfl)), ⟨⟨rfl, rfl, rfl, trivial⟩, trivial, rfl⟩, rfl,
      Step.plain rfl (does_alloc 35 2 (e_api_Member z_api_Member) zr35), ⟨trivial, trivial, rfl⟩, rfl,
      Step.plain rfl (does_store 35 7 (.tmp 34) 2 0 [] (.var (e_api_Member z_api_Member)) (.var (e_api_Member ({ Group := p1.E.Group, Daemon := p1.Daemon, Session := p1.E.Session } : api_Member))) (e_api_Member ({ Group := p1.E.Group, Daemon := p1.Daemon, Session := p1.E.Session } : api_Member)) true trivial rfl trivial rfl rfl rfl ty35), ⟨⟨rfl, rfl, trivial⟩, ⟨rfl, trivial⟩, rfl⟩, rfl, rfl⟩ ?_
    obtain ⟨v7, hv7, H⟩ := lt_of H
    refine aw_cov (cov_prune (s1 := ⟨[(0, (e_s_api_Member p0)), (4, (.ptr 0 0 [])), (5, (.ptr 1 0 [])), (7, (.ptr 2 0 []))], [(0, some (.var (e_congresslaw18_Did p1))), (1, some (.var (e_congresslaw18_Did p2))), (2, some (.var (e_api_Member v7)))], 3⟩) ⟨rfl, rfl, rfl, rfl, trivial⟩ ⟨rfl, rfl, (by subst hv7; rfl), trivial⟩ (Nat.le_refl _)) ?_
    refine aw_region (es := [_, _, _, _, _, _, _, _, _, _, _]) ⟨Step.plain rfl (does_fieldAddr 45 1 1 5 1 0 [] (.var (e_congresslaw18_Did p2)) fl45_1), ⟨⟨rfl, trivial⟩, ⟨rfl, trivial⟩, rfl⟩, rfl,
      Step.plain rfl (does_fieldAddr 25 2 2 35 1 (0 + 1) [1] (.var (e_congresslaw18_Did p2)) fl25_2), ⟨⟨rfl, trivial⟩, ⟨rfl, trivial⟩, rfl⟩, rfl,
      Step.plain rfl (does_load 3 36 1 ((0 + 1) + 2) [1, 2] (.var (e_congresslaw18_Did p2)) (.int .i64 p2.E.Group) ⟨rfl, Nat.le_of_ble_eq_true rfl, ⟨rfl, Nat.le_of_ble_eq_true rfl, trivial⟩⟩ rfl rfl ty3), ⟨⟨rfl, trivial⟩, ⟨rfl, trivial⟩, rfl⟩, rfl,
      Step.plain rfl (does_fieldAddr 45 0 0 5 1 0 [] (.var (e_congresslaw18_Did p2)) fl45_0), ⟨⟨rfl, trivial⟩, ⟨rfl, trivial⟩, rfl⟩, rfl,
      Step.plain rfl (does_load 3 38 1 (0 + 0) [0] (.var (e_congresslaw18_Did p2)) (.int .i64 p2.Daemon) ⟨rfl, Nat.le_of_ble_eq_true rfl, trivial⟩ rfl rfl ty3), ⟨⟨rfl, trivial⟩, ⟨rfl, trivial⟩, rfl⟩, rfl,
      Step.plain rfl (does_fieldAddr 45 1 1 5 1 0 [] (.var (e_congresslaw18_Did p2)) fl45_1), ⟨⟨rfl, trivial⟩, ⟨rfl, trivial⟩, rfl⟩, rfl,
      Step.plain rfl (does_fieldAddr 25 3 3 40 1 (0 + 1) [1] (.var (e_congresslaw18_Did p2)) fl25_3), ⟨⟨rfl, trivial⟩, ⟨rfl, trivial⟩, rfl⟩, rfl,
      Step.plain rfl (does_load 23 41 1 ((0 + 1) + 3) [1, 3] (.var (e_congresslaw18_Did p2)) (.int .u64 p2.E.Session) ⟨rfl, Nat.le_of_ble_eq_true rfl, ⟨rfl, Nat.le_of_ble_eq_true rfl, trivial⟩⟩ rfl rfl ty23), ⟨⟨rfl, trivial⟩, ⟨rfl, trivial⟩, rfl⟩, rfl,
      Step.plain rfl (does_buildT 35 #[(0, (.tmp 37)), (1, (.tmp 39)), (2, (.tmp 42))] [(0, (.tmp 37)), (1, (.tmp 39)), (2, (.tmp 42))] [(0, (.int .i64 p2.E.Group)), (1, (.int .i64 p2.Daemon)), (2, (.int .u64 p2.E.Session))] (.st [1, 1, 1]) (c_api_Member z_api_Member) (c_api_Member ({ Group := p2.E.Group, Daemon := p2.Daemon, Session := p2.E.Session } : api_Member)) rfl bo35 ⟨⟨rfl, trivial⟩, ⟨rfl, trivial⟩, ⟨rfl, trivial⟩, trivial⟩ ⟨⟨Nat.le_of_ble_eq_true rfl, rfl, rfl⟩, ⟨Nat.le_of_ble_eq_true rfl, rfl, rfl⟩, ⟨Nat.le_of_ble_eq_true rfl, rfl, rfl⟩, trivial⟩ (by funext j; match j with | 0 => rfl | 1 => rfl | 2 => rfl | _ + 3 => rfl)), ⟨⟨rfl, rfl, rfl, trivial⟩, trivial, rfl⟩, rfl,
      Step.plain rfl (does_alloc 35 3 (e_api_Member z_api_Member) zr35), ⟨trivial, trivial, rfl⟩, rfl,
      Step.plain rfl (does_store 35 8 (.tmp 43) 3 0 [] (.var (e_api_Member z_api_Member)) (.var (e_api_Member ({ Group := p2.E.Group, Daemon := p2.Daemon, Session := p2.E.Session } : api_Member))) (e_api_Member ({ Group := p2.E.Group, Daemon := p2.Daemon, Session := p2.E.Session } : api_Member)) true trivial rfl trivial rfl rfl rfl ty35), ⟨⟨rfl, rfl, trivial⟩, ⟨rfl, trivial⟩, rfl⟩, rfl, rfl⟩ ?_
    obtain ⟨v8, hv8, H⟩ := lt_of H
    refine aw_cov (cov_prune (s1 := ⟨[(0, (e_s_api_Member p0)), (4, (.ptr 0 0 [])), (5, (.ptr 1 0 [])), (7, (.ptr 2 0 [])), (8, (.ptr 3 0 []))], [(0, some (.var (e_congresslaw18_Did p1))), (1, some (.var (e_congresslaw18_Did p2))), (2, some (.var (e_api_Member v7))), (3, some (.var (e_api_Member v8)))], 4⟩) ⟨rfl, rfl, rfl, rfl, rfl, trivial⟩ ⟨rfl, rfl, rfl, (by subst hv8; rfl), trivial⟩ (Nat.le_refl _)) ?_
    obtain ⟨v9, h10, H⟩ := bnd H
    refine aw_region (es := [_, _, _, _, _, _, _, _, _, _, _]) ⟨Step.plain rfl (does_move (.tmp 0) (e_s_api_Member p0) trivial), ⟨⟨rfl, trivial⟩, trivial, rfl⟩, rfl,
      Step.plain rfl (does_fieldAddr 45 0 0 4 0 0 [] (.var (e_congresslaw18_Did p1)) fl45_0), ⟨⟨rfl, trivial⟩, ⟨rfl, trivial⟩, rfl⟩, rfl,
      Step.plain rfl (does_load 3 46 0 (0 + 0) [0] (.var (e_congresslaw18_Did p1)) (.int .i64 p1.Daemon) ⟨rfl, Nat.le_of_ble_eq_true rfl, trivial⟩ rfl rfl ty3), ⟨⟨rfl, trivial⟩, ⟨rfl, trivial⟩, rfl⟩, rfl,
      Step.plain rfl (does_fieldAddr 45 1 1 4 0 0 [] (.var (e_congresslaw18_Did p1)) fl45_1), ⟨⟨rfl, trivial⟩, ⟨rfl, trivial⟩, rfl⟩, rfl,
      Step.plain rfl (does_load 25 48 0 (0 + 1) [1] (.var (e_congresslaw18_Did p1)) (e_api_Entry p1.E) ⟨rfl, Nat.le_of_ble_eq_true rfl, trivial⟩ rfl rfl ty25), ⟨⟨rfl, trivial⟩, ⟨rfl, trivial⟩, rfl⟩, rfl,
      Step.plain rfl (does_callO 7 0 (fun _ => .any) (.func 7) [(.tmp 45), (.tmp 47), (.tmp 49)] [(e_s_api_Member p0), (.int .i64 p1.Daemon), (e_api_Entry p1.E)] [] [] true [(e_s_api_Member p0), (.int .i64 p1.Daemon), (e_api_Entry p1.E)] _ (resV [(.own 4), (.bool v9.2)]) _ 4 1 _ _ rfl fo7 rfl ⟨trivial, trivial, trivial, trivial⟩ ⟨.ro _ _ (.data _ (d_s_api_Member p0)), .ro _ _ (.data _ trivial), .ro _ _ (.data _ (d_api_Entry p1.E)), trivial⟩ (group_Apply_spec p0 p1.Daemon p1.E _ h10) rfl (by simp) rfl trivial ⟨⟨Nat.le_of_ble_eq_true rfl, _, rfl, fun _ => (f_api_Member _)⟩, trivial⟩ (.tup _ _ _ (fun j => match j with | 0 => .own 0 (Nat.le_of_ble_eq_true rfl) | 1 => .data _ (trivial) | _ + 2 => .data _ trivial))), ⟨⟨rfl, rfl, rfl, trivial⟩, trivial, rfl⟩, rfl,
      Step.plain rfl (does_move (.tmp 50) (resV [(.own 4), (.bool v9.2)]) trivial), ⟨⟨rfl, trivial⟩, trivial, rfl⟩, rfl,
      Step.plain rfl (does_extract 44 0 2 (fun j => [(.own 4), (.bool v9.2)].getD j (.bool false)) (Nat.le_of_ble_eq_true rfl)), ⟨⟨rfl, trivial⟩, trivial, rfl⟩, rfl,
      Step.plain rfl (does_extract 44 1 2 (fun j => [(.own 4), (.bool v9.2)].getD j (.bool false)) (Nat.le_of_ble_eq_true rfl)), ⟨⟨rfl, trivial⟩, trivial, rfl⟩, rfl,
      Step.plain rfl (does_assign (.tmp 51) (.own 4) trivial), ⟨⟨rfl, trivial⟩, trivial, rfl⟩, rfl,
      Step.plain rfl (does_assign (.tmp 52) (.bool v9.2) trivial), ⟨⟨rfl, trivial⟩, trivial, rfl⟩, rfl, rfl⟩ ?_
    refine aw_cov (cov_prune (s1 := ⟨[(0, (e_s_api_Member p0)), (4, (.ptr 0 0 [])), (5, (.ptr 1 0 [])), (7, (.ptr 2 0 [])), (8, (.ptr 3 0 [])), (9, (.own 4))], [(0, some (.var (e_congresslaw18_Did p1))), (1, some (.var (e_congresslaw18_Did p2))), (2, some (.var (e_api_Member v7))), (3, some (.var (e_api_Member v8))), (4, some (.arr 3 v9.1.length fun j => (e_api_Member (v9.1.getD j z_api_Member))))], 5⟩) ⟨rfl, rfl, rfl, rfl, rfl, rfl, trivial⟩ ⟨rfl, rfl, rfl, rfl, rfl, trivial⟩ (Nat.le_refl _)) ?_
    refine aw_seq ?_
    refine aw_region (es := [_]) ⟨Step.plain rfl (does_assign (.const (.int .i64 (-1))) (.int .i64 (-1)) (fun _ => rfl)), ⟨trivial, trivial, rfl⟩, rfl, rfl⟩ ?_
    refine aw_cov (cov_prune (s1 := ⟨[(0, (e_s_api_Member p0)), (4, (.ptr 0 0 [])), (5, (.ptr 1 0 [])), (7, (.ptr 2 0 [])), (8, (.ptr 3 0 [])), (9, (.own 4)), (11, (.int .i64 (-1)))], [(0, some (.var (e_congresslaw18_Did p1))), (1, some (.var (e_congresslaw18_Did p2))), (2, some (.var (e_api_Member v7))), (3, some (.var (e_api_Member v8))), (4, some (.arr 3 v9.1.length fun j => (e_api_Member (v9.1.getD j z_api_Member))))], 5⟩) ⟨rfl, rfl, rfl, rfl, rfl, rfl, rfl, trivial⟩ ⟨rfl, rfl, rfl, rfl, rfl, trivial⟩ (Nat.le_refl _)) ?_
    refine aw_cov (cov_to (s1 := ⟨[(0, (e_s_api_Member p0)), (4, (.ptr 0 0 [])), (5, (.ptr 1 0 [])), (7, (.ptr 2 0 [])), (8, (.ptr 3 0 [])), (9, (e_s_api_Member v9.1)), (11, (.int .i64 (-1)))], [(0, some (.var (e_congresslaw18_Did p1))), (1, some (.var (e_congresslaw18_Did p2))), (2, some (.var (e_api_Member v7))), (3, some (.var (e_api_Member v8)))], 5⟩) (fun i => i) [4] ⟨⟨_, rfl, .plain _ ((d_s_api_Member _).plain)⟩, ⟨_, rfl, .ptr 0 _ _ _ _ (Nat.le_of_ble_eq_true rfl) rfl rfl⟩, ⟨_, rfl, .ptr 1 _ _ _ _ (Nat.le_of_ble_eq_true rfl) rfl rfl⟩, ⟨_, rfl, .ptr 2 _ _ _ _ (Nat.le_of_ble_eq_true rfl) rfl rfl⟩, ⟨_, rfl, .ptr 3 _ _ _ _ (Nat.le_of_ble_eq_true rfl) rfl rfl⟩, ⟨_, rfl, .frz 4 _ _ _ rfl (fun _ => (d_api_Member _)) (by decide)⟩, ⟨_, rfl, .plain _ (trivial)⟩, trivial⟩ ⟨⟨Nat.le_of_ble_eq_true rfl, _, _, rfl, rfl, boxTo_var ((d_congresslaw18_Did _).plain)⟩, ⟨Nat.le_of_ble_eq_true rfl, _, _, rfl, rfl, boxTo_var ((d_congresslaw18_Did _).plain)⟩, ⟨Nat.le_of_ble_eq_true rfl, _, _, rfl, rfl, boxTo_var ((d_api_Member _).plain)⟩, ⟨Nat.le_of_ble_eq_true rfl, _, _, rfl, rfl, boxTo_var ((d_api_Member _).plain)⟩, trivial⟩ rfl rfl) ?_
    obtain ⟨wn12, hwn12, Hrn12⟩ := bnd H
    refine aw_meet (fun y19 : Unit => (⟨[(0, (e_s_api_Member p0)), (4, (.ptr 0 0 [])), (5, (.ptr 1 0 [])), (7, (.ptr 2 0 [])), (8, (.ptr 3 0 [])), (9, (e_s_api_Member v9.1))], [(0, some (.var (e_congresslaw18_Did p1))), (1, some (.var (e_congresslaw18_Did p2))), (2, some (.var (e_api_Member v7))), (3, some (.var (e_api_Member v8)))], 5⟩ : St)) (fun y19 => Fl.nx y19 = wn12) (fun y19 hy => ?_) (aw_block (aw_runs (fun x11 : Int => (⟨[(0, (e_s_api_Member p0)), (4, (.ptr 0 0 [])), (5, (.ptr 1 0 [])), (7, (.ptr 2 0 [])), (8, (.ptr 3 0 [])), (9, (e_s_api_Member v9.1)), (11, (.int .i64 x11))], [(0, some (.var (e_congresslaw18_Did p1))), (1, some (.var (e_congresslaw18_Did p2))), (2, some (.var (e_api_Member v7))), (3, some (.var (e_api_Member v8)))], 5⟩ : St)) hwn12 (cov_prune ⟨rfl, rfl, rfl, rfl, rfl, rfl, rfl, trivial⟩ ⟨rfl, rfl, rfl, rfl, trivial⟩ (Nat.le_of_ble_eq_true rfl)) (fun x11 st H hsn12 => ?_)))
    · have H := nx_of hy Hrn12
      refine nx_seq ?_
      obtain ⟨v20, h21, H⟩ := bnd H
      refine aw_region (es := [_, _, _, _, _, _, _, _, _, _, _]) ⟨Step.plain rfl (does_move (.tmp 9) (e_s_api_Member v9.1) trivial), ⟨⟨rfl, trivial⟩, trivial, rfl⟩, rfl,
        Step.plain rfl (does_fieldAddr 45 0 0 5 1 0 [] (.var (e_congresslaw18_Did p2)) fl45_0), ⟨⟨rfl, trivial⟩, ⟨rfl, trivial⟩, rfl⟩, rfl,
        Step.plain rfl (does_load 3 74 1 (0 + 0) [0] (.var (e_congresslaw18_Did p2)) (.int .i64 p2.Daemon) ⟨rfl, Nat.le_of_ble_eq_true rfl, trivial⟩ rfl rfl ty3), ⟨⟨rfl, trivial⟩, ⟨rfl, trivial⟩, rfl⟩, rfl,
        Step.plain rfl (does_fieldAddr 45 1 1 5 1 0 [] (.var (e_congresslaw18_Did p2)) fl45_1), ⟨⟨rfl, trivial⟩, ⟨rfl, trivial⟩, rfl⟩, rfl,
        Step.plain rfl (does_load 25 76 1 (0 + 1) [1] (.var (e_congresslaw18_Did p2)) (e_api_Entry p2.E) ⟨rfl, Nat.le_of_ble_eq_true rfl, trivial⟩ rfl rfl ty25), ⟨⟨rfl, trivial⟩, ⟨rfl, trivial⟩, rfl⟩, rfl,
        Step.plain rfl (does_callO 7 0 (fun _ => .any) (.func 7) [(.tmp 73), (.tmp 75), (.tmp 77)] [(e_s_api_Member v9.1), (.int .i64 p2.Daemon), (e_api_Entry p2.E)] [] [] true [(e_s_api_Member v9.1), (.int .i64 p2.Daemon), (e_api_Entry p2.E)] _ (resV [(.own 5), (.bool v20.2)]) _ 5 1 _ _ rfl fo7 rfl ⟨trivial, trivial, trivial, trivial⟩ ⟨.ro _ _ (.data _ (d_s_api_Member v9.1)), .ro _ _ (.data _ trivial), .ro _ _ (.data _ (d_api_Entry p2.E)), trivial⟩ (group_Apply_spec v9.1 p2.Daemon p2.E _ h21) rfl (by simp) rfl trivial ⟨⟨Nat.le_of_ble_eq_true rfl, _, rfl, fun _ => (f_api_Member _)⟩, trivial⟩ (.tup _ _ _ (fun j => match j with | 0 => .own 0 (Nat.le_of_ble_eq_true rfl) | 1 => .data _ (trivial) | _ + 2 => .data _ trivial))), ⟨⟨rfl, rfl, rfl, trivial⟩, trivial, rfl⟩, rfl,
        Step.plain rfl (does_move (.tmp 78) (resV [(.own 5), (.bool v20.2)]) trivial), ⟨⟨rfl, trivial⟩, trivial, rfl⟩, rfl,
        Step.plain rfl (does_extract 72 0 2 (fun j => [(.own 5), (.bool v20.2)].getD j (.bool false)) (Nat.le_of_ble_eq_true rfl)), ⟨⟨rfl, trivial⟩, trivial, rfl⟩, rfl,
        Step.plain rfl (does_extract 72 1 2 (fun j => [(.own 5), (.bool v20.2)].getD j (.bool false)) (Nat.le_of_ble_eq_true rfl)), ⟨⟨rfl, trivial⟩, trivial, rfl⟩, rfl,
        Step.plain rfl (does_assign (.tmp 79) (.own 5) trivial), ⟨⟨rfl, trivial⟩, trivial, rfl⟩, rfl,
        Step.plain rfl (does_assign (.tmp 80) (.bool v20.2) trivial), ⟨⟨rfl, trivial⟩, trivial, rfl⟩, rfl, rfl⟩ ?_
      refine aw_cov (cov_prune (s1 := ⟨[(0, (e_s_api_Member p0)), (4, (.ptr 0 0 [])), (5, (.ptr 1 0 [])), (7, (.ptr 2 0 [])), (8, (.ptr 3 0 [])), (12, (.own 5))], [(0, some (.var (e_congresslaw18_Did p1))), (1, some (.var (e_congresslaw18_Did p2))), (2, some (.var (e_api_Member v7))), (3, some (.var (e_api_Member v8))), (5, some (.arr 3 v20.1.length fun j => (e_api_Member (v20.1.getD j z_api_Member))))], 6⟩) ⟨rfl, rfl, rfl, rfl, rfl, rfl, trivial⟩ ⟨rfl, rfl, rfl, rfl, rfl, trivial⟩ (Nat.le_refl _)) ?_
      obtain ⟨v22, h23, H⟩ := bnd H
      refine aw_region (es := [_, _, _, _, _, _, _, _, _, _, _]) ⟨Step.plain rfl (does_move (.tmp 0) (e_s_api_Member p0) trivial), ⟨⟨rfl, trivial⟩, trivial, rfl⟩, rfl,
        Step.plain rfl (does_fieldAddr 45 0 0 5 1 0 [] (.var (e_congresslaw18_Did p2)) fl45_0), ⟨⟨rfl, trivial⟩, ⟨rfl, trivial⟩, rfl⟩, rfl,
        Step.plain rfl (does_load 3 83 1 (0 + 0) [0] (.var (e_congresslaw18_Did p2)) (.int .i64 p2.Daemon) ⟨rfl, Nat.le_of_ble_eq_true rfl, trivial⟩ rfl rfl ty3), ⟨⟨rfl, trivial⟩, ⟨rfl, trivial⟩, rfl⟩, rfl,
        Step.plain rfl (does_fieldAddr 45 1 1 5 1 0 [] (.var (e_congresslaw18_Did p2)) fl45_1), ⟨⟨rfl, trivial⟩, ⟨rfl, trivial⟩, rfl⟩, rfl,
        Step.plain rfl (does_load 25 85 1 (0 + 1) [1] (.var (e_congresslaw18_Did p2)) (e_api_Entry p2.E) ⟨rfl, Nat.le_of_ble_eq_true rfl, trivial⟩ rfl rfl ty25), ⟨⟨rfl, trivial⟩, ⟨rfl, trivial⟩, rfl⟩, rfl,
        Step.plain rfl (does_callO 7 0 (fun _ => .any) (.func 7) [(.tmp 82), (.tmp 84), (.tmp 86)] [(e_s_api_Member p0), (.int .i64 p2.Daemon), (e_api_Entry p2.E)] [] [] true [(e_s_api_Member p0), (.int .i64 p2.Daemon), (e_api_Entry p2.E)] _ (resV [(.own 6), (.bool v22.2)]) _ 6 1 _ _ rfl fo7 rfl ⟨trivial, trivial, trivial, trivial⟩ ⟨.ro _ _ (.data _ (d_s_api_Member p0)), .ro _ _ (.data _ trivial), .ro _ _ (.data _ (d_api_Entry p2.E)), trivial⟩ (group_Apply_spec p0 p2.Daemon p2.E _ h23) rfl (by simp) rfl trivial ⟨⟨Nat.le_of_ble_eq_true rfl, _, rfl, fun _ => (f_api_Member _)⟩, trivial⟩ (.tup _ _ _ (fun j => match j with | 0 => .own 0 (Nat.le_of_ble_eq_true rfl) | 1 => .data _ (trivial) | _ + 2 => .data _ trivial))), ⟨⟨rfl, rfl, rfl, trivial⟩, trivial, rfl⟩, rfl,
        Step.plain rfl (does_move (.tmp 87) (resV [(.own 6), (.bool v22.2)]) trivial), ⟨⟨rfl, trivial⟩, trivial, rfl⟩, rfl,
        Step.plain rfl (does_extract 81 0 2 (fun j => [(.own 6), (.bool v22.2)].getD j (.bool false)) (Nat.le_of_ble_eq_true rfl)), ⟨⟨rfl, trivial⟩, trivial, rfl⟩, rfl,
        Step.plain rfl (does_extract 81 1 2 (fun j => [(.own 6), (.bool v22.2)].getD j (.bool false)) (Nat.le_of_ble_eq_true rfl)), ⟨⟨rfl, trivial⟩, trivial, rfl⟩, rfl,
        Step.plain rfl (does_assign (.tmp 88) (.own 6) trivial), ⟨⟨rfl, trivial⟩, trivial, rfl⟩, rfl,
        Step.plain rfl (does_assign (.tmp 89) (.bool v22.2) trivial), ⟨⟨rfl, trivial⟩, trivial, rfl⟩, rfl, rfl⟩ ?_
      refine aw_cov (cov_prune (s1 := ⟨[(4, (.ptr 0 0 [])), (7, (.ptr 2 0 [])), (8, (.ptr 3 0 [])), (12, (.own 5)), (14, (.own 6))], [(0, some (.var (e_congresslaw18_Did p1))), (2, some (.var (e_api_Member v7))), (3, some (.var (e_api_Member v8))), (5, some (.arr 3 v20.1.length fun j => (e_api_Member (v20.1.getD j z_api_Member)))), (6, some (.arr 3 v22.1.length fun j => (e_api_Member (v22.1.getD j z_api_Member))))], 7⟩) ⟨rfl, rfl, rfl, rfl, rfl, trivial⟩ ⟨rfl, rfl, rfl, rfl, rfl, trivial⟩ (Nat.le_refl _)) ?_
      obtain ⟨v24, h25, H⟩ := bnd H
      refine aw_region (es := [_, _, _, _, _, _, _, _, _, _, _]) ⟨Step.plain rfl (does_move (.tmp 14) (.own 6) trivial), ⟨⟨rfl, trivial⟩, trivial, rfl⟩, rfl,
        Step.plain rfl (does_fieldAddr 45 0 0 4 0 0 [] (.var (e_congresslaw18_Did p1)) fl45_0), ⟨⟨rfl, trivial⟩, ⟨rfl, trivial⟩, rfl⟩, rfl,
        Step.plain rfl (does_load 3 92 0 (0 + 0) [0] (.var (e_congresslaw18_Did p1)) (.int .i64 p1.Daemon) ⟨rfl, Nat.le_of_ble_eq_true rfl, trivial⟩ rfl rfl ty3), ⟨⟨rfl, trivial⟩, ⟨rfl, trivial⟩, rfl⟩, rfl,
        Step.plain rfl (does_fieldAddr 45 1 1 4 0 0 [] (.var (e_congresslaw18_Did p1)) fl45_1), ⟨⟨rfl, trivial⟩, ⟨rfl, trivial⟩, rfl⟩, rfl,
        Step.plain rfl (does_load 25 94 0 (0 + 1) [1] (.var (e_congresslaw18_Did p1)) (e_api_Entry p1.E) ⟨rfl, Nat.le_of_ble_eq_true rfl, trivial⟩ rfl rfl ty25), ⟨⟨rfl, trivial⟩, ⟨rfl, trivial⟩, rfl⟩, rfl,
        Step.plain rfl (does_callO 7 0 (fun _ => .any) (.func 7) [(.tmp 91), (.tmp 93), (.tmp 95)] [(.own 6), (.int .i64 p1.Daemon), (e_api_Entry p1.E)] [(6, (.arr 3 v22.1.length fun j => (e_api_Member (v22.1.getD j z_api_Member))))] [] true [(e_s_api_Member v22.1), (.int .i64 p1.Daemon), (e_api_Entry p1.E)] _ (resV [(.own 7), (.bool v24.2)]) _ 7 1 _ _ rfl fo7 rfl ⟨trivial, trivial, trivial, trivial⟩ ⟨.ro _ _ (.own 6 _ _ _ (.head _) rfl (fun _ => (d_api_Member _))), .ro _ _ (.data _ trivial), .ro _ _ (.data _ (d_api_Entry p1.E)), trivial⟩ (group_Apply_spec v22.1 p1.Daemon p1.E _ h25) rfl (by simp) rfl trivial ⟨⟨Nat.le_of_ble_eq_true rfl, _, rfl, fun _ => (f_api_Member _)⟩, trivial⟩ (.tup _ _ _ (fun j => match j with | 0 => .own 0 (Nat.le_of_ble_eq_true rfl) | 1 => .data _ (trivial) | _ + 2 => .data _ trivial))), ⟨⟨rfl, rfl, rfl, trivial⟩, ⟨rfl, trivial⟩, rfl⟩, rfl,
        Step.plain rfl (does_move (.tmp 96) (resV [(.own 7), (.bool v24.2)]) trivial), ⟨⟨rfl, trivial⟩, trivial, rfl⟩, rfl,
        Step.plain rfl (does_extract 90 0 2 (fun j => [(.own 7), (.bool v24.2)].getD j (.bool false)) (Nat.le_of_ble_eq_true rfl)), ⟨⟨rfl, trivial⟩, trivial, rfl⟩, rfl,
        Step.plain rfl (does_extract 90 1 2 (fun j => [(.own 7), (.bool v24.2)].getD j (.bool false)) (Nat.le_of_ble_eq_true rfl)), ⟨⟨rfl, trivial⟩, trivial, rfl⟩, rfl,
        Step.plain rfl (does_assign (.tmp 97) (.own 7) trivial), ⟨⟨rfl, trivial⟩, trivial, rfl⟩, rfl,
        Step.plain rfl (does_assign (.tmp 98) (.bool v24.2) trivial), ⟨⟨rfl, trivial⟩, trivial, rfl⟩, rfl, rfl⟩ ?_
      refine aw_cov (cov_prune (s1 := ⟨[(7, (.ptr 2 0 [])), (8, (.ptr 3 0 [])), (12, (.own 5)), (16, (.own 7))], [(2, some (.var (e_api_Member v7))), (3, some (.var (e_api_Member v8))), (5, some (.arr 3 v20.1.length fun j => (e_api_Member (v20.1.getD j z_api_Member)))), (7, some (.arr 3 v24.1.length fun j => (e_api_Member (v24.1.getD j z_api_Member))))], 8⟩) ⟨rfl, rfl, rfl, rfl, trivial⟩ ⟨rfl, rfl, rfl, rfl, trivial⟩ (Nat.le_refl _)) ?_
      obtain ⟨v26, h27, H⟩ := whn_of H
      refine aw_region (es := [_, _, _, _, _, _, _, _, _]) ⟨Step.plain rfl (does_load 35 7 2 0 [] (.var (e_api_Member v7)) (e_api_Member v7) trivial rfl rfl ty35), ⟨⟨rfl, trivial⟩, ⟨rfl, trivial⟩, rfl⟩, rfl,
        Step.plain rfl (does_load 35 8 3 0 [] (.var (e_api_Member v8)) (e_api_Member v8) trivial rfl rfl ty35), ⟨⟨rfl, trivial⟩, ⟨rfl, trivial⟩, rfl⟩, rfl,
        Step.plain rfl (does_eqT false 35 35 (.tmp 99) (.tmp 100) (e_api_Member v7) (e_api_Member v8) (e_api_Member z_api_Member) (b_api_Member v7 v8) rfl rfl trivial trivial eg35 sh35 (al_api_Member _ _) (al_api_Member _ _) (q_api_Member _ _)), ⟨⟨rfl, rfl, trivial⟩, trivial, rfl⟩, rfl,
        Step.plain rfl (does_move (.tmp 101) (.bool (b_api_Member v7 v8)) trivial), ⟨⟨rfl, trivial⟩, trivial, rfl⟩, rfl,
        Step.guarded rfl rfl rfl rfl (fun hc => does_move (.tmp 12) (.own 5) trivial), ⟨⟨rfl, rfl, trivial⟩, trivial, rfl⟩, rfl,
        Step.guarded rfl rfl rfl rfl (fun hc => does_move (.tmp 16) (.own 7) trivial), ⟨⟨rfl, rfl, trivial⟩, trivial, rfl⟩, rfl,
        Step.guarded rfl rfl rfl rfl (fun hc => Does.strip (n' := [(103, (.opt (!(b_api_Member v7 v8)) (.own 5))), (104, (.opt (!(b_api_Member v7 v8)) (.own 7)))]) (n := [(103, (.own 5)), (104, (.own 7))]) ⟨(.opt _ _ hc), (.opt _ _ hc), trivial⟩ (does_call 12 0 (fun _ => .any) (.func 12) [(.tmp 103), (.tmp 104)] [(.own 5), (.own 7)] [(5, (.arr 3 v20.1.length fun j => (e_api_Member (v20.1.getD j z_api_Member)))), (7, (.arr 3 v24.1.length fun j => (e_api_Member (v24.1.getD j z_api_Member))))] true [(e_s_api_Member v20.1), (e_s_api_Member v24.1)] (.bool v26) _ _ rfl fo12 rfl ⟨trivial, trivial, trivial⟩ ⟨.own 5 _ _ _ (.head _) rfl (fun _ => (d_api_Member _)), .own 7 _ _ _ (.tail _ (.head _)) rfl (fun _ => (d_api_Member _)), trivial⟩ (congressref18_Same_spec v20.1 v24.1 _ (h27 hc)) trivial)), ⟨⟨rfl, rfl, rfl, trivial⟩, ⟨rfl, rfl, trivial⟩, rfl⟩, rfl,
        Step.plain rfl (does_or 102 105 (b_api_Member v7 v8) v26), ⟨⟨rfl, rfl, trivial⟩, trivial, rfl⟩, rfl,
        Step.plain rfl (does_assign (.tmp 106) (.bool ((b_api_Member v7 v8) || v26)) trivial), ⟨⟨rfl, trivial⟩, trivial, rfl⟩, rfl, rfl⟩ ?_
      refine aw_cov (cov_prune (s1 := ⟨[(6, (.bool ((b_api_Member v7 v8) || v26)))], [], 8⟩) ⟨rfl, trivial⟩ trivial (Nat.le_refl _)) ?_
      refine aw_ret ?_
      exact fun a w hr => ⟨_, [(.bool ((b_api_Member v7 v8) || v26))], hr, ⟨⟨_, rfl, .data (.bool ((b_api_Member v7 v8) || v26)) trivial⟩, trivial⟩, by decide, by cases H; rfl⟩
    · refine aw_seq ?_
      refine aw_region (es := [_, _]) ⟨Step.plain rfl (does_move (.tmp 11) (.int .i64 x11) trivial), ⟨⟨rfl, trivial⟩, trivial, rfl⟩, rfl,
        Step.plain rfl (does_bin .lss 3 3 (.tmp 53) (.const (.int .i64 9)) .i64 x11 9 (.bool (decide (x11 < 9))) trivial (fun _ => rfl) (bin_lss _ _ _ _)), ⟨⟨rfl, trivial⟩, trivial, rfl⟩, rfl, rfl⟩ ?_
      refine aw_cov (cov_prune (s1 := ⟨[(0, (e_s_api_Member p0)), (4, (.ptr 0 0 [])), (5, (.ptr 1 0 [])), (7, (.ptr 2 0 [])), (8, (.ptr 3 0 [])), (9, (e_s_api_Member v9.1)), (11, (.int .i64 x11)), (54, (.bool (decide (x11 < 9))))], [(0, some (.var (e_congresslaw18_Did p1))), (1, some (.var (e_congresslaw18_Did p2))), (2, some (.var (e_api_Member v7))), (3, some (.var (e_api_Member v8)))], 5⟩) ⟨rfl, rfl, rfl, rfl, rfl, rfl, rfl, rfl, trivial⟩ ⟨rfl, rfl, rfl, rfl, trivial⟩ (Nat.le_refl _)) ?_
      refine aw_cond rfl (fun hc => ?_) (fun hc => ?_)
      · replace H := ite_t hc H
        refine aw_skip ?_
        refine nx_seq ?_
        refine aw_seq ?_
        refine aw_block ?_
        obtain ⟨v13, h14, H⟩ := whn_of H
        obtain ⟨v15, h16, H⟩ := whn_of H
        obtain ⟨v17, h18, H⟩ := whn_of H
        refine aw_region (es := [_, _, _, _, _, _, _, _, _, _, _, _, _, _, _]) ⟨Step.plain rfl (does_move (.tmp 11) (.int .i64 x11) trivial), ⟨⟨rfl, trivial⟩, trivial, rfl⟩, rfl,
          Step.plain rfl (does_fieldAddr 45 1 1 4 0 0 [] (.var (e_congresslaw18_Did p1)) fl45_1), ⟨⟨rfl, trivial⟩, ⟨rfl, trivial⟩, rfl⟩, rfl,
          Step.plain rfl (does_fieldAddr 25 2 2 58 0 (0 + 1) [1] (.var (e_congresslaw18_Did p1)) fl25_2), ⟨⟨rfl, trivial⟩, ⟨rfl, trivial⟩, rfl⟩, rfl,
          Step.plain rfl (does_load 3 59 0 ((0 + 1) + 2) [1, 2] (.var (e_congresslaw18_Did p1)) (.int .i64 p1.E.Group) ⟨rfl, Nat.le_of_ble_eq_true rfl, ⟨rfl, Nat.le_of_ble_eq_true rfl, trivial⟩⟩ rfl rfl ty3), ⟨⟨rfl, trivial⟩, ⟨rfl, trivial⟩, rfl⟩, rfl,
          Step.plain rfl (does_bin .neq 3 3 (.tmp 57) (.tmp 60) .i64 x11 p1.E.Group (.bool (x11 != p1.E.Group)) trivial trivial (bin_neq _ _ _ _)), ⟨⟨rfl, rfl, trivial⟩, trivial, rfl⟩, rfl,
          Step.plain rfl (does_move (.tmp 61) (.bool (x11 != p1.E.Group)) trivial), ⟨⟨rfl, trivial⟩, trivial, rfl⟩, rfl,
          Step.guarded rfl rfl rfl rfl (fun hc => does_move (.tmp 9) (e_s_api_Member v9.1) trivial), ⟨⟨rfl, rfl, trivial⟩, trivial, rfl⟩, rfl,
          Step.guarded rfl rfl rfl rfl (fun hc => does_move (.tmp 11) (.int .i64 x11) trivial), ⟨⟨rfl, rfl, trivial⟩, trivial, rfl⟩, rfl,
          Step.guarded rfl rfl rfl rfl (fun hc => Does.strip (n' := [(63, (.opt (x11 != p1.E.Group) (e_s_api_Member v9.1))), (64, (.opt (x11 != p1.E.Group) (.int .i64 x11)))]) (n := [(63, (e_s_api_Member v9.1)), (64, (.int .i64 x11))]) ⟨(.opt _ _ hc), (.opt _ _ hc), trivial⟩ (does_call 13 0 (fun _ => .any) (.func 13) [(.tmp 63), (.tmp 64)] [(e_s_api_Member v9.1), (.int .i64 x11)] [] false [(e_s_api_Member v9.1), (.int .i64 x11)] (e_s_api_Member v13) _ _ rfl fo13 rfl ⟨trivial, trivial, trivial⟩ ⟨.data _ (d_s_api_Member v9.1), .data _ trivial, trivial⟩ (group_View_data v9.1 x11 _ (h14 hc)) (d_s_api_Member v13))), ⟨⟨rfl, rfl, rfl, trivial⟩, trivial, rfl⟩, rfl,
          Step.guarded rfl rfl rfl rfl (fun hc => does_move (.tmp 0) (e_s_api_Member p0) trivial), ⟨⟨rfl, rfl, trivial⟩, trivial, rfl⟩, rfl,
          Step.guarded rfl rfl rfl rfl (fun hc => does_move (.tmp 11) (.int .i64 x11) trivial), ⟨⟨rfl, rfl, trivial⟩, trivial, rfl⟩, rfl,
          Step.guarded rfl rfl rfl rfl (fun hc => Does.strip (n' := [(66, (.opt (x11 != p1.E.Group) (e_s_api_Member p0))), (67, (.opt (x11 != p1.E.Group) (.int .i64 x11)))]) (n := [(66, (e_s_api_Member p0)), (67, (.int .i64 x11))]) ⟨(.opt _ _ hc), (.opt _ _ hc), trivial⟩ (does_call 13 0 (fun _ => .any) (.func 13) [(.tmp 66), (.tmp 67)] [(e_s_api_Member p0), (.int .i64 x11)] [] false [(e_s_api_Member p0), (.int .i64 x11)] (e_s_api_Member v15) _ _ rfl fo13 rfl ⟨trivial, trivial, trivial⟩ ⟨.data _ (d_s_api_Member p0), .data _ trivial, trivial⟩ (group_View_data p0 x11 _ (h16 hc)) (d_s_api_Member v15))), ⟨⟨rfl, rfl, rfl, trivial⟩, trivial, rfl⟩, rfl,
          Step.guarded rfl rfl rfl rfl (fun hc => Does.strip (n' := [(65, (.opt (x11 != p1.E.Group) (e_s_api_Member v13))), (68, (.opt (x11 != p1.E.Group) (e_s_api_Member v15)))]) (n := [(65, (e_s_api_Member v13)), (68, (e_s_api_Member v15))]) ⟨(.opt _ _ hc), (.opt _ _ hc), trivial⟩ (does_call 12 0 (fun _ => .any) (.func 12) [(.tmp 65), (.tmp 68)] [(e_s_api_Member v13), (e_s_api_Member v15)] [] true [(e_s_api_Member v13), (e_s_api_Member v15)] (.bool v17) _ _ rfl fo12 rfl ⟨trivial, trivial, trivial⟩ ⟨.data _ (d_s_api_Member v13), .data _ (d_s_api_Member v15), trivial⟩ (congressref18_Same_spec v13 v15 _ (h18 hc)) trivial)), ⟨⟨rfl, rfl, rfl, trivial⟩, trivial, rfl⟩, rfl,
          Step.guarded rfl rfl rfl rfl (fun hc => Does.strip (n' := [(69, (.opt (x11 != p1.E.Group) (.bool v17)))]) (n := [(69, (.bool v17))]) ⟨(.opt _ _ hc), trivial⟩ (does_not 4 (.tmp 69) v17 trivial)), ⟨⟨rfl, rfl, trivial⟩, trivial, rfl⟩, rfl,
          Step.plain rfl (does_and 62 70 (x11 != p1.E.Group) (!v17)), ⟨⟨rfl, rfl, trivial⟩, trivial, rfl⟩, rfl, rfl⟩ ?_
        refine aw_cov (cov_prune (s1 := ⟨[(0, (e_s_api_Member p0)), (4, (.ptr 0 0 [])), (5, (.ptr 1 0 [])), (7, (.ptr 2 0 [])), (8, (.ptr 3 0 [])), (9, (e_s_api_Member v9.1)), (11, (.int .i64 x11)), (71, (.bool ((x11 != p1.E.Group) && (!v17))))], [(0, some (.var (e_congresslaw18_Did p1))), (1, some (.var (e_congresslaw18_Did p2))), (2, some (.var (e_api_Member v7))), (3, some (.var (e_api_Member v8)))], 5⟩) ⟨rfl, rfl, rfl, rfl, rfl, rfl, rfl, rfl, trivial⟩ ⟨rfl, rfl, rfl, rfl, trivial⟩ (Nat.le_refl _)) ?_
        refine aw_cond rfl (fun hc => ?_) (fun hc => ?_)
        · replace H := ite_t hc H
          refine aw_region (es := [_]) ⟨Step.plain rfl (does_assign (.const (.bool false)) (.bool false) (fun _ => rfl)), ⟨trivial, trivial, rfl⟩, rfl, rfl⟩ ?_
          refine aw_cov (cov_prune (s1 := ⟨[(6, (.bool false))], [], 5⟩) ⟨rfl, trivial⟩ trivial (Nat.le_refl _)) ?_
          refine aw_ret ?_
          replace H := rt_of H hsn12 Hrn12
          refine rt_blk ?_
          refine rt_then ?_
          refine rt_then ?_
          refine rt_blk ?_
          refine rt_then ?_
          refine rt_then ?_
          exact fun a w hr => ⟨_, [(.bool false)], hr, ⟨⟨_, rfl, .data (.bool false) trivial⟩, trivial⟩, by decide, by cases H; rfl⟩
        · replace H := ite_f hc H
          refine aw_skip ?_
          refine nx_blk ?_
          refine nx_seq ?_
          refine aw_region1 (es := [_, _, _]) ⟨Step.plain rfl (does_move (.tmp 11) (.int .i64 x11) trivial), ⟨⟨rfl, trivial⟩, trivial, rfl⟩, rfl,
            Step.plain rfl (does_bin .add 3 3 (.tmp 55) (.const (.int .i64 1)) .i64 x11 1 (.int .i64 (IntKind.i64.wrap (x11 + 1))) trivial (fun _ => rfl) (bin_add _ _ _ _)), ⟨⟨rfl, trivial⟩, trivial, rfl⟩, rfl,
            Step.plain rfl (does_assign (.tmp 56) (.int .i64 (IntKind.i64.wrap (x11 + 1))) trivial), ⟨⟨rfl, trivial⟩, trivial, rfl⟩, rfl, rfl⟩ ?_
          exact nx_loop ((IntKind.i64.wrap (x11 + 1))) H (cov_prune ⟨rfl, rfl, rfl, rfl, rfl, rfl, rfl, trivial⟩ ⟨rfl, rfl, rfl, rfl, trivial⟩ (Nat.le_of_ble_eq_true rfl))
      · replace H := ite_f hc H
        refine aw_exit ?_
        refine ex_then ?_
        refine ex_then ?_
        refine ex_here ?_
        exact nx_ljoin () H hsn12 (cov_prune ⟨rfl, rfl, rfl, rfl, rfl, rfl, trivial⟩ ⟨rfl, rfl, rfl, rfl, trivial⟩ (Nat.le_of_ble_eq_true rfl))

theorem congresslaw18_GroupKeeps_spec (p0 : (_root_.List api_Member)) (p1 : (Nat → Int)) (p2 : (Nat → Int)) (r : Bool) (H : congresslaw18_GroupKeeps p0 p1 p2 = some r) : FSpec Try.prog 6 [(e_s_api_Member p0), (e_a8_u32 p1), (e_a8_u32 p2)] (.bool r) := by
  refine spec_of (fn := Try.f6) (args := [(e_s_api_Member p0), (e_a8_u32 p1), (e_a8_u32 p2)]) Try.func6 rfl (Nat.le_of_ble_eq_true rfl) ?_
  rintro ⟨G, w0, W, S, Sp⟩ hG
  cases hG
  unfold congresslaw18_GroupKeeps at H
  refine aw_region (es := [_, _, _]) ⟨Step.plain rfl (does_box 28 (.tmp 1) 0 (e_a8_u32 p1) trivial rfl), ⟨⟨rfl, trivial⟩, trivial, rfl⟩, rfl,
    Step.plain rfl (does_box 28 (.tmp 2) 1 (e_a8_u32 p2) trivial rfl), ⟨⟨rfl, trivial⟩, trivial, rfl⟩, rfl,
    Step.plain rfl (does_assign (.const (.bool false)) (.bool false) (fun _ => rfl)), ⟨trivial, trivial, rfl⟩, rfl, rfl⟩ ?_
  refine aw_cov (cov_prune (s1 := ⟨[(0, (e_s_api_Member p0)), (4, (.ptr 0 0 [])), (5, (.ptr 1 0 []))], [(0, some (.var (e_a8_u32 p1))), (1, some (.var (e_a8_u32 p2)))], 2⟩) ⟨rfl, rfl, rfl, trivial⟩ ⟨rfl, rfl, trivial⟩ (Nat.le_refl _)) ?_
  refine aw_region (es := [_, _, _]) ⟨Step.plain rfl (does_buildT 28 #[] [] [] (.ar 8 1) (fun j => (.int .u32 ((fun _ => 0) j))) (fun j => (.int .u32 ((aset (fun _ => 0) []) j))) rfl bo28 trivial trivial (setAll_map (fun z => V.int .u32 z) [] _)), ⟨trivial, trivial, rfl⟩, rfl,
    Step.plain rfl (does_alloc 28 2 (e_a8_u32 (fun _ => 0)) zr28), ⟨trivial, trivial, rfl⟩, rfl,
    Step.plain rfl (does_store 28 7 (.tmp 10) 2 0 [] (.var (e_a8_u32 (fun _ => 0))) (.var (e_a8_u32 (aset (fun _ => 0) []))) (e_a8_u32 (aset (fun _ => 0) [])) true trivial rfl trivial rfl rfl rfl ty28), ⟨⟨rfl, rfl, trivial⟩, ⟨rfl, trivial⟩, rfl⟩, rfl, rfl⟩ ?_
  refine aw_cov (cov_prune (s1 := ⟨[(0, (e_s_api_Member p0)), (4, (.ptr 0 0 [])), (5, (.ptr 1 0 [])), (7, (.ptr 2 0 []))], [(0, some (.var (e_a8_u32 p1))), (1, some (.var (e_a8_u32 p2))), (2, some (.var (e_a8_u32 (aset (fun _ => 0) []))))], 3⟩) ⟨rfl, rfl, rfl, rfl, trivial⟩ ⟨rfl, rfl, rfl, trivial⟩ (Nat.le_refl _)) ?_
  refine aw_seq ?_
  refine aw_region (es := [_]) ⟨Step.plain rfl (does_assign (.const (.int .i64 0)) (.int .i64 0) (fun _ => rfl)), ⟨trivial, trivial, rfl⟩, rfl, rfl⟩ ?_
  refine aw_cov (cov_prune (s1 := ⟨[(0, (e_s_api_Member p0)), (4, (.ptr 0 0 [])), (5, (.ptr 1 0 [])), (7, (.ptr 2 0 [])), (8, (.int .i64 0))], [(0, some (.var (e_a8_u32 p1))), (1, some (.var (e_a8_u32 p2))), (2, some (.var (e_a8_u32 (aset (fun _ => 0) []))))], 3⟩) ⟨rfl, rfl, rfl, rfl, rfl, trivial⟩ ⟨rfl, rfl, rfl, trivial⟩ (Nat.le_refl _)) ?_
  obtain ⟨wn2, hwn2, Hrn2⟩ := bnd H
  refine aw_meet (fun y8 : (Nat → Int) => (⟨[(0, (e_s_api_Member p0)), (4, (.ptr 0 0 [])), (5, (.ptr 1 0 [])), (7, (.ptr 2 0 []))], [(0, some (.var (e_a8_u32 p1))), (1, some (.var (e_a8_u32 p2))), (2, some (.var (e_a8_u32 y8)))], 3⟩ : St)) (fun y8 => Fl.nx y8 = wn2) (fun y8 hy => ?_) (aw_block (aw_runs (fun x1 : Int × (Nat → Int) => (⟨[(0, (e_s_api_Member p0)), (4, (.ptr 0 0 [])), (5, (.ptr 1 0 [])), (7, (.ptr 2 0 [])), (8, (.int .i64 x1.1))], [(0, some (.var (e_a8_u32 p1))), (1, some (.var (e_a8_u32 p2))), (2, some (.var (e_a8_u32 x1.2)))], 3⟩ : St)) hwn2 (cov_prune ⟨rfl, rfl, rfl, rfl, rfl, trivial⟩ ⟨rfl, rfl, rfl, trivial⟩ (Nat.le_of_ble_eq_true rfl)) (fun x1 st H hsn2 => ?_)))
  · have H := nx_of hy Hrn2
    refine nx_seq ?_
    refine aw_seq ?_
    obtain ⟨v9, h10, H⟩ := bnd H
    obtain ⟨v11, h12, H⟩ := whn_of H
    obtain ⟨v13, h14, H⟩ := whn_of H
    obtain ⟨v15, h16, H⟩ := whn_of H
    obtain ⟨v17, h18, H⟩ := whn_of H
    refine aw_draw (es := [_, _, _, _, _, _, _, _, _, _, _, _, _, _]) (mixed) ⟨Step.plain rfl (does_call 11 0 (fun _ => .any) (.func 11) [] [] [] true [] (.bool v9) _ _ rfl fo11 rfl trivial trivial (congresslaw18_fixed_spec _ h10) trivial), ⟨trivial, trivial, rfl⟩, rfl,
      Step.plain rfl (does_not 4 (.tmp 24) v9 trivial), ⟨⟨rfl, trivial⟩, trivial, rfl⟩, rfl,
      Step.plain rfl (does_move (.tmp 25) (.bool (!v9)) trivial), ⟨⟨rfl, trivial⟩, trivial, rfl⟩, rfl,
      Step.guarded rfl rfl rfl rfl (fun hc => does_move (.tmp 0) (e_s_api_Member p0) trivial), ⟨⟨rfl, rfl, trivial⟩, trivial, rfl⟩, rfl,
      Step.guarded rfl rfl rfl rfl (fun hc => does_load 28 4 0 0 [] (.var (e_a8_u32 p1)) (e_a8_u32 p1) trivial rfl rfl ty28), ⟨⟨rfl, rfl, trivial⟩, ⟨rfl, trivial⟩, rfl⟩, rfl,
      Step.guarded rfl rfl rfl rfl (fun hc => Does.strip (n' := [(27, (.opt (!(!v9)) (e_s_api_Member p0))), (28, (.opt (!(!v9)) (e_a8_u32 p1)))]) (n := [(27, (e_s_api_Member p0)), (28, (e_a8_u32 p1))]) ⟨(.opt _ _ hc), (.opt _ _ hc), trivial⟩ (does_call 15 0 (fun _ => .any) (.func 15) [(.tmp 27), (.tmp 28)] [(e_s_api_Member p0), (e_a8_u32 p1)] [] false [(e_s_api_Member p0), (e_a8_u32 p1)] (e_s_api_Member v11) _ _ rfl fo15 rfl ⟨trivial, trivial, trivial⟩ ⟨.data _ (d_s_api_Member p0), .data _ (d_a8_u32 p1), trivial⟩ (group_Keep_data p0 p1 _ (h12 hc)) (d_s_api_Member v11))), ⟨⟨rfl, rfl, rfl, trivial⟩, trivial, rfl⟩, rfl,
      Step.guarded rfl rfl rfl rfl (fun hc => does_load 28 5 1 0 [] (.var (e_a8_u32 p2)) (e_a8_u32 p2) trivial rfl rfl ty28), ⟨⟨rfl, rfl, trivial⟩, ⟨rfl, trivial⟩, rfl⟩, rfl,
      Step.guarded rfl rfl rfl rfl (fun hc => Does.strip (n' := [(29, (.opt (!(!v9)) (e_s_api_Member v11))), (30, (.opt (!(!v9)) (e_a8_u32 p2)))]) (n := [(29, (e_s_api_Member v11)), (30, (e_a8_u32 p2))]) ⟨(.opt _ _ hc), (.opt _ _ hc), trivial⟩ (does_call 15 0 (fun _ => .any) (.func 15) [(.tmp 29), (.tmp 30)] [(e_s_api_Member v11), (e_a8_u32 p2)] [] false [(e_s_api_Member v11), (e_a8_u32 p2)] (e_s_api_Member v13) _ _ rfl fo15 rfl ⟨trivial, trivial, trivial⟩ ⟨.data _ (d_s_api_Member v11), .data _ (d_a8_u32 p2), trivial⟩ (group_Keep_data v11 p2 _ (h14 hc)) (d_s_api_Member v13))), ⟨⟨rfl, rfl, rfl, trivial⟩, trivial, rfl⟩, rfl,
      Step.guarded rfl rfl rfl rfl (fun hc => does_move (.tmp 0) (e_s_api_Member p0) trivial), ⟨⟨rfl, rfl, trivial⟩, trivial, rfl⟩, rfl,
      Step.guarded rfl rfl rfl rfl (fun hc => does_load 28 7 2 0 [] (.var (e_a8_u32 y8)) (e_a8_u32 y8) trivial rfl rfl ty28), ⟨⟨rfl, rfl, trivial⟩, ⟨rfl, trivial⟩, rfl⟩, rfl,
      Step.guarded rfl rfl rfl rfl (fun hc => Does.strip (n' := [(32, (.opt (!(!v9)) (e_s_api_Member p0))), (33, (.opt (!(!v9)) (e_a8_u32 y8)))]) (n := [(32, (e_s_api_Member p0)), (33, (e_a8_u32 y8))]) ⟨(.opt _ _ hc), (.opt _ _ hc), trivial⟩ (does_call 15 0 (fun _ => .any) (.func 15) [(.tmp 32), (.tmp 33)] [(e_s_api_Member p0), (e_a8_u32 y8)] [] false [(e_s_api_Member p0), (e_a8_u32 y8)] (e_s_api_Member v15) _ _ rfl fo15 rfl ⟨trivial, trivial, trivial⟩ ⟨.data _ (d_s_api_Member p0), .data _ (d_a8_u32 y8), trivial⟩ (group_Keep_data p0 y8 _ (h16 hc)) (d_s_api_Member v15))), ⟨⟨rfl, rfl, rfl, trivial⟩, trivial, rfl⟩, rfl,
      Step.guarded rfl rfl rfl rfl (fun hc => Does.strip (n' := [(31, (.opt (!(!v9)) (e_s_api_Member v13))), (34, (.opt (!(!v9)) (e_s_api_Member v15)))]) (n := [(31, (e_s_api_Member v13)), (34, (e_s_api_Member v15))]) ⟨(.opt _ _ hc), (.opt _ _ hc), trivial⟩ (does_call 12 0 (fun _ => .any) (.func 12) [(.tmp 31), (.tmp 34)] [(e_s_api_Member v13), (e_s_api_Member v15)] [] true [(e_s_api_Member v13), (e_s_api_Member v15)] (.bool v17) _ _ rfl fo12 rfl ⟨trivial, trivial, trivial⟩ ⟨.data _ (d_s_api_Member v13), .data _ (d_s_api_Member v15), trivial⟩ (congressref18_Same_spec v13 v15 _ (h18 hc)) trivial)), ⟨⟨rfl, rfl, rfl, trivial⟩, trivial, rfl⟩, rfl,
      Step.guarded rfl rfl rfl rfl (fun hc => Does.strip (n' := [(35, (.opt (!(!v9)) (.bool v17)))]) (n := [(35, (.bool v17))]) ⟨(.opt _ _ hc), trivial⟩ (does_not 4 (.tmp 35) v17 trivial)), ⟨⟨rfl, rfl, trivial⟩, trivial, rfl⟩, rfl,
      Step.plain rfl (does_or 26 36 (!v9) (!v17)), ⟨⟨rfl, rfl, trivial⟩, trivial, rfl⟩, rfl, rfl⟩ rfl ?_
    refine aw_cov (cov_prune (s1 := ⟨[(0, (e_s_api_Member p0)), (4, (.ptr 0 0 [])), (37, (.bool ((!v9) || (!v17))))], [(0, some (.var (e_a8_u32 p1)))], 3⟩) ⟨rfl, rfl, rfl, trivial⟩ ⟨rfl, trivial⟩ (Nat.le_refl _)) ?_
    refine aw_cond rfl (fun hc => ?_) (fun hc => ?_)
    · replace H := ite_t hc H
      refine aw_region (es := [_]) ⟨Step.plain rfl (does_assign (.const (.bool false)) (.bool false) (fun _ => rfl)), ⟨trivial, trivial, rfl⟩, rfl, rfl⟩ ?_
      refine aw_cov (cov_prune (s1 := ⟨[(6, (.bool false))], [], 3⟩) ⟨rfl, trivial⟩ trivial (Nat.le_refl _)) ?_
      refine aw_ret ?_
      refine rt_then ?_
      exact fun a w hr => ⟨_, [(.bool false)], hr, ⟨⟨_, rfl, .data (.bool false) trivial⟩, trivial⟩, by decide, by cases H; rfl⟩
    · replace H := ite_f hc H
      refine aw_skip ?_
      refine nx_seq ?_
      refine aw_seq ?_
      refine aw_region (es := [_]) ⟨Step.plain rfl (does_assign (.const (.int .i64 0)) (.int .i64 0) (fun _ => rfl)), ⟨trivial, trivial, rfl⟩, rfl, rfl⟩ ?_
      refine aw_cov (cov_prune (s1 := ⟨[(0, (e_s_api_Member p0)), (4, (.ptr 0 0 [])), (9, (.int .i64 0))], [(0, some (.var (e_a8_u32 p1)))], 3⟩) ⟨rfl, rfl, rfl, trivial⟩ ⟨rfl, trivial⟩ (Nat.le_refl _)) ?_
      obtain ⟨wn20, hwn20, Hrn20⟩ := bnd H
      refine aw_meet (fun y31 : Unit => (⟨[], [], 3⟩ : St)) (fun y31 => Fl.nx y31 = wn20) (fun y31 hy => ?_) (aw_block (aw_runs (fun x19 : Int => (⟨[(0, (e_s_api_Member p0)), (4, (.ptr 0 0 [])), (9, (.int .i64 x19))], [(0, some (.var (e_a8_u32 p1)))], 3⟩ : St)) hwn20 (cov_prune ⟨rfl, rfl, rfl, trivial⟩ ⟨rfl, trivial⟩ (Nat.le_of_ble_eq_true rfl)) (fun x19 st H hsn20 => ?_)))
      · have H := nx_of hy Hrn20
        refine nx_seq ?_
        refine aw_region (es := [_]) ⟨Step.plain rfl (does_assign (.const (.bool true)) (.bool true) (fun _ => rfl)), ⟨trivial, trivial, rfl⟩, rfl, rfl⟩ ?_
        refine aw_cov (cov_prune (s1 := ⟨[(6, (.bool true))], [], 3⟩) ⟨rfl, trivial⟩ trivial (Nat.le_refl _)) ?_
        refine aw_ret ?_
        exact fun a w hr => ⟨_, [(.bool true)], hr, ⟨⟨_, rfl, .data (.bool true) trivial⟩, trivial⟩, by decide, by cases H; rfl⟩
      · refine aw_seq ?_
        refine aw_region (es := [_, _]) ⟨Step.plain rfl (does_move (.tmp 9) (.int .i64 x19) trivial), ⟨⟨rfl, trivial⟩, trivial, rfl⟩, rfl,
          Step.plain rfl (does_bin .lss 3 3 (.tmp 38) (.const (.int .i64 8)) .i64 x19 8 (.bool (decide (x19 < 8))) trivial (fun _ => rfl) (bin_lss _ _ _ _)), ⟨⟨rfl, trivial⟩, trivial, rfl⟩, rfl, rfl⟩ ?_
        refine aw_cov (cov_prune (s1 := ⟨[(0, (e_s_api_Member p0)), (4, (.ptr 0 0 [])), (9, (.int .i64 x19)), (39, (.bool (decide (x19 < 8))))], [(0, some (.var (e_a8_u32 p1)))], 3⟩) ⟨rfl, rfl, rfl, rfl, trivial⟩ ⟨rfl, trivial⟩ (Nat.le_refl _)) ?_
        refine aw_cond rfl (fun hc => ?_) (fun hc => ?_)
        · replace H := ite_t hc H
          refine aw_skip ?_
          refine nx_seq ?_
          refine aw_seq ?_
          refine aw_block ?_
          obtain ⟨v21, h22, H⟩ := bnd H
          obtain ⟨v23, h24, H⟩ := bnd H
          obtain ⟨v25, h26, H⟩ := bnd H
          obtain ⟨v27, h28, H⟩ := bnd H
          obtain ⟨v29, h30, H⟩ := bnd H
          refine aw_draw (es := [_, _, _, _, _, _, _, _, _, _, _, _]) (mixed) ⟨Step.plain rfl (does_move (.tmp 0) (e_s_api_Member p0) trivial), ⟨⟨rfl, trivial⟩, trivial, rfl⟩, rfl,
            Step.plain rfl (does_load 28 4 0 0 [] (.var (e_a8_u32 p1)) (e_a8_u32 p1) trivial rfl rfl ty28), ⟨⟨rfl, trivial⟩, ⟨rfl, trivial⟩, rfl⟩, rfl,
            Step.plain rfl (does_callO 15 0 (fun _ => .any) (.func 15) [(.tmp 42), (.tmp 43)] [(e_s_api_Member p0), (e_a8_u32 p1)] [] [] true [(e_s_api_Member p0), (e_a8_u32 p1)] _ (.own 3) _ 3 1 _ _ rfl fo15 rfl ⟨trivial, trivial, trivial⟩ ⟨.ro _ _ (.data _ (d_s_api_Member p0)), .ro _ _ (.data _ (d_a8_u32 p1)), trivial⟩ (group_Keep_spec p0 p1 _ h22) rfl (by simp) rfl trivial ⟨⟨Nat.le_of_ble_eq_true rfl, _, rfl, fun _ => (f_api_Member _)⟩, trivial⟩ (.own 0 (Nat.le_of_ble_eq_true rfl))), ⟨⟨rfl, rfl, trivial⟩, trivial, rfl⟩, rfl,
            Step.plain rfl (does_move (.tmp 9) (.int .i64 x19) trivial), ⟨⟨rfl, trivial⟩, trivial, rfl⟩, rfl,
            Step.plain rfl (does_callO 13 0 (fun _ => .any) (.func 13) [(.tmp 44), (.tmp 45)] [(.own 3), (.int .i64 x19)] [(3, (.arr 3 v21.length fun j => (e_api_Member (v21.getD j z_api_Member))))] [] true [(e_s_api_Member v21), (.int .i64 x19)] _ (.own 4) _ 4 1 _ _ rfl fo13 rfl ⟨trivial, trivial, trivial⟩ ⟨.ro _ _ (.own 3 _ _ _ (.head _) rfl (fun _ => (d_api_Member _))), .ro _ _ (.data _ trivial), trivial⟩ (group_View_spec v21 x19 _ h24) rfl (by simp) rfl trivial ⟨⟨Nat.le_of_ble_eq_true rfl, _, rfl, fun _ => (f_api_Member _)⟩, trivial⟩ (.own 0 (Nat.le_of_ble_eq_true rfl))), ⟨⟨rfl, rfl, trivial⟩, ⟨rfl, trivial⟩, rfl⟩, rfl,
            Step.plain rfl (does_move (.tmp 0) (e_s_api_Member p0) trivial), ⟨⟨rfl, trivial⟩, trivial, rfl⟩, rfl,
            Step.plain rfl (does_move (.tmp 9) (.int .i64 x19) trivial), ⟨⟨rfl, trivial⟩, trivial, rfl⟩, rfl,
            Step.plain rfl (does_callO 13 0 (fun _ => .any) (.func 13) [(.tmp 47), (.tmp 48)] [(e_s_api_Member p0), (.int .i64 x19)] [] [] true [(e_s_api_Member p0), (.int .i64 x19)] _ (.own 5) _ 5 1 _ _ rfl fo13 rfl ⟨trivial, trivial, trivial⟩ ⟨.ro _ _ (.data _ (d_s_api_Member p0)), .ro _ _ (.data _ trivial), trivial⟩ (group_View_spec p0 x19 _ h26) rfl (by simp) rfl trivial ⟨⟨Nat.le_of_ble_eq_true rfl, _, rfl, fun _ => (f_api_Member _)⟩, trivial⟩ (.own 0 (Nat.le_of_ble_eq_true rfl))), ⟨⟨rfl, rfl, trivial⟩, trivial, rfl⟩, rfl,
            Step.plain rfl (does_load 28 4 0 0 [] (.var (e_a8_u32 p1)) (e_a8_u32 p1) trivial rfl rfl ty28), ⟨⟨rfl, trivial⟩, ⟨rfl, trivial⟩, rfl⟩, rfl,
            Step.plain rfl (does_callO 15 0 (fun _ => .any) (.func 15) [(.tmp 49), (.tmp 50)] [(.own 5), (e_a8_u32 p1)] [(5, (.arr 3 v25.length fun j => (e_api_Member (v25.getD j z_api_Member))))] [] true [(e_s_api_Member v25), (e_a8_u32 p1)] _ (.own 6) _ 6 1 _ _ rfl fo15 rfl ⟨trivial, trivial, trivial⟩ ⟨.ro _ _ (.own 5 _ _ _ (.head _) rfl (fun _ => (d_api_Member _))), .ro _ _ (.data _ (d_a8_u32 p1)), trivial⟩ (group_Keep_spec v25 p1 _ h28) rfl (by simp) rfl trivial ⟨⟨Nat.le_of_ble_eq_true rfl, _, rfl, fun _ => (f_api_Member _)⟩, trivial⟩ (.own 0 (Nat.le_of_ble_eq_true rfl))), ⟨⟨rfl, rfl, trivial⟩, ⟨rfl, trivial⟩, rfl⟩, rfl,
            Step.plain rfl (does_call 12 0 (fun _ => .any) (.func 12) [(.tmp 46), (.tmp 51)] [(.own 4), (.own 6)] [(4, (.arr 3 v23.length fun j => (e_api_Member (v23.getD j z_api_Member)))), (6, (.arr 3 v27.length fun j => (e_api_Member (v27.getD j z_api_Member))))] true [(e_s_api_Member v23), (e_s_api_Member v27)] (.bool v29) _ _ rfl fo12 rfl ⟨trivial, trivial, trivial⟩ ⟨.own 4 _ _ _ (.head _) rfl (fun _ => (d_api_Member _)), .own 6 _ _ _ (.tail _ (.head _)) rfl (fun _ => (d_api_Member _)), trivial⟩ (congressref18_Same_spec v23 v27 _ h30) trivial), ⟨⟨rfl, rfl, trivial⟩, ⟨rfl, rfl, trivial⟩, rfl⟩, rfl,
            Step.plain rfl (does_not 4 (.tmp 52) v29 trivial), ⟨⟨rfl, trivial⟩, trivial, rfl⟩, rfl, rfl⟩ rfl ?_
          refine aw_cov (cov_prune (s1 := ⟨[(0, (e_s_api_Member p0)), (4, (.ptr 0 0 [])), (9, (.int .i64 x19)), (53, (.bool (!v29)))], [(0, some (.var (e_a8_u32 p1)))], 7⟩) ⟨rfl, rfl, rfl, rfl, trivial⟩ ⟨rfl, trivial⟩ (Nat.le_refl _)) ?_
          refine aw_cond rfl (fun hc => ?_) (fun hc => ?_)
          · replace H := ite_t hc H
            refine aw_region (es := [_]) ⟨Step.plain rfl (does_assign (.const (.bool false)) (.bool false) (fun _ => rfl)), ⟨trivial, trivial, rfl⟩, rfl, rfl⟩ ?_
            refine aw_cov (cov_prune (s1 := ⟨[(6, (.bool false))], [], 7⟩) ⟨rfl, trivial⟩ trivial (Nat.le_refl _)) ?_
            refine aw_ret ?_
            replace H := rt_of H hsn20 Hrn20
            refine rt_blk ?_
            refine rt_then ?_
            refine rt_then ?_
            refine rt_blk ?_
            refine rt_then ?_
            refine rt_then ?_
            exact fun a w hr => ⟨_, [(.bool false)], hr, ⟨⟨_, rfl, .data (.bool false) trivial⟩, trivial⟩, by decide, by cases H; rfl⟩
          · replace H := ite_f hc H
            refine aw_skip ?_
            refine nx_blk ?_
            refine nx_seq ?_
            refine aw_region1 (es := [_, _, _]) ⟨Step.plain rfl (does_move (.tmp 9) (.int .i64 x19) trivial), ⟨⟨rfl, trivial⟩, trivial, rfl⟩, rfl,
              Step.plain rfl (does_bin .add 3 3 (.tmp 40) (.const (.int .i64 1)) .i64 x19 1 (.int .i64 (IntKind.i64.wrap (x19 + 1))) trivial (fun _ => rfl) (bin_add _ _ _ _)), ⟨⟨rfl, trivial⟩, trivial, rfl⟩, rfl,
              Step.plain rfl (does_assign (.tmp 41) (.int .i64 (IntKind.i64.wrap (x19 + 1))) trivial), ⟨⟨rfl, trivial⟩, trivial, rfl⟩, rfl, rfl⟩ ?_
            exact nx_loop ((IntKind.i64.wrap (x19 + 1))) H (cov_of (fun i => match i with | 0 => 0 | k => k) ⟨⟨_, rfl, ⟨rfl, (d_s_api_Member _).plain⟩⟩, ⟨_, rfl, ⟨rfl, Nat.le_of_ble_eq_true rfl⟩⟩, ⟨_, rfl, ⟨rfl, trivial⟩⟩, trivial⟩ ⟨⟨Nat.le_of_ble_eq_true rfl, _, _, rfl, rfl, .inl ⟨rfl, (d_a8_u32 _).plain⟩⟩, trivial⟩ rfl)
        · replace H := ite_f hc H
          refine aw_exit ?_
          refine ex_then ?_
          refine ex_then ?_
          refine ex_here ?_
          exact nx_ljoin () H hsn20 (cov_prune trivial trivial (Nat.le_of_ble_eq_true rfl))
  · refine aw_seq ?_
    refine aw_region (es := [_, _]) ⟨Step.plain rfl (does_move (.tmp 8) (.int .i64 x1.1) trivial), ⟨⟨rfl, trivial⟩, trivial, rfl⟩, rfl,
      Step.plain rfl (does_bin .lss 3 3 (.tmp 11) (.const (.int .i64 8)) .i64 x1.1 8 (.bool (decide (x1.1 < 8))) trivial (fun _ => rfl) (bin_lss _ _ _ _)), ⟨⟨rfl, trivial⟩, trivial, rfl⟩, rfl, rfl⟩ ?_
    refine aw_cov (cov_prune (s1 := ⟨[(0, (e_s_api_Member p0)), (4, (.ptr 0 0 [])), (5, (.ptr 1 0 [])), (7, (.ptr 2 0 [])), (8, (.int .i64 x1.1)), (12, (.bool (decide (x1.1 < 8))))], [(0, some (.var (e_a8_u32 p1))), (1, some (.var (e_a8_u32 p2))), (2, some (.var (e_a8_u32 x1.2)))], 3⟩) ⟨rfl, rfl, rfl, rfl, rfl, rfl, trivial⟩ ⟨rfl, rfl, rfl, trivial⟩ (Nat.le_refl _)) ?_
    refine aw_cond rfl (fun hc => ?_) (fun hc => ?_)
    · replace H := ite_t hc H
      refine aw_skip ?_
      refine nx_seq ?_
      refine aw_seq ?_
      refine aw_jn (fun x7 : (Nat → Int) => (⟨[(0, (e_s_api_Member p0)), (4, (.ptr 0 0 [])), (5, (.ptr 1 0 [])), (7, (.ptr 2 0 [])), (8, (.int .i64 x1.1))], [(0, some (.var (e_a8_u32 p1))), (1, some (.var (e_a8_u32 p2))), (2, some (.var (e_a8_u32 x7)))], 3⟩ : St)) H (fun x7 H => ?_) (fun j3 H => ?_)
      · refine nx_seq ?_
        refine aw_region1 (es := [_, _, _]) ⟨Step.plain rfl (does_move (.tmp 8) (.int .i64 x1.1) trivial), ⟨⟨rfl, trivial⟩, trivial, rfl⟩, rfl,
          Step.plain rfl (does_bin .add 3 3 (.tmp 13) (.const (.int .i64 1)) .i64 x1.1 1 (.int .i64 (IntKind.i64.wrap (x1.1 + 1))) trivial (fun _ => rfl) (bin_add _ _ _ _)), ⟨⟨rfl, trivial⟩, trivial, rfl⟩, rfl,
          Step.plain rfl (does_assign (.tmp 14) (.int .i64 (IntKind.i64.wrap (x1.1 + 1))) trivial), ⟨⟨rfl, trivial⟩, trivial, rfl⟩, rfl, rfl⟩ ?_
        exact nx_loop ((IntKind.i64.wrap (x1.1 + 1)), x7) H (cov_prune ⟨rfl, rfl, rfl, rfl, rfl, trivial⟩ ⟨rfl, rfl, rfl, trivial⟩ (Nat.le_of_ble_eq_true rfl))
      · refine aw_block ?_
        obtain ⟨h4, H⟩ := ib_of H
        refine aw_region (es := [_, _, _, _]) ⟨Step.plain rfl (does_move (.tmp 8) (.int .i64 x1.1) trivial), ⟨⟨rfl, trivial⟩, trivial, rfl⟩, rfl,
          Step.plain rfl (does_indexAddr 28 8 1 5 1 0 [] (.var (e_a8_u32 p2)) (.tmp 15) .i64 x1.1 el28 trivial h4.1 h4.2), ⟨⟨rfl, rfl, trivial⟩, ⟨rfl, trivial⟩, rfl⟩, rfl,
          Step.plain rfl (does_load 26 16 1 (0 + x1.1.toNat * 1) [x1.1.toNat] (.var (e_a8_u32 p2)) (.int .u32 (p2 x1.1.toNat)) ⟨rfl, (ixl h4), trivial⟩ rfl rfl ty26), ⟨⟨rfl, trivial⟩, ⟨rfl, trivial⟩, rfl⟩, rfl,
          Step.plain rfl (does_bin .neq 26 26 (.tmp 17) (.const (.int .u32 0)) .u32 (p2 x1.1.toNat) 0 (.bool ((p2 x1.1.toNat) != 0)) trivial (fun _ => rfl) (bin_neq _ _ _ _)), ⟨⟨rfl, trivial⟩, trivial, rfl⟩, rfl, rfl⟩ ?_
        refine aw_cov (cov_prune (s1 := ⟨[(0, (e_s_api_Member p0)), (4, (.ptr 0 0 [])), (5, (.ptr 1 0 [])), (7, (.ptr 2 0 [])), (8, (.int .i64 x1.1)), (18, (.bool ((p2 x1.1.toNat) != 0)))], [(0, some (.var (e_a8_u32 p1))), (1, some (.var (e_a8_u32 p2))), (2, some (.var (e_a8_u32 x1.2)))], 3⟩) ⟨rfl, rfl, rfl, rfl, rfl, rfl, trivial⟩ ⟨rfl, rfl, rfl, trivial⟩ (Nat.le_refl _)) ?_
        refine aw_cond rfl (fun hc => ?_) (fun hc => ?_)
        · replace H := ite_t hc H
          obtain ⟨h5, H⟩ := ib_of H
          obtain ⟨h6, H⟩ := ib_of H
          refine aw_region1 (es := [_, _, _, _, _, _]) ⟨Step.plain rfl (does_move (.tmp 8) (.int .i64 x1.1) trivial), ⟨⟨rfl, trivial⟩, trivial, rfl⟩, rfl,
            Step.plain rfl (does_move (.tmp 8) (.int .i64 x1.1) trivial), ⟨⟨rfl, trivial⟩, trivial, rfl⟩, rfl,
            Step.plain rfl (does_indexAddr 28 8 1 4 0 0 [] (.var (e_a8_u32 p1)) (.tmp 20) .i64 x1.1 el28 trivial h5.1 h5.2), ⟨⟨rfl, rfl, trivial⟩, ⟨rfl, trivial⟩, rfl⟩, rfl,
            Step.plain rfl (does_load 26 21 0 (0 + x1.1.toNat * 1) [x1.1.toNat] (.var (e_a8_u32 p1)) (.int .u32 (p1 x1.1.toNat)) ⟨rfl, (ixl h5), trivial⟩ rfl rfl ty26), ⟨⟨rfl, trivial⟩, ⟨rfl, trivial⟩, rfl⟩, rfl,
            Step.plain rfl (does_indexAddr 28 8 1 7 2 0 [] (.var (e_a8_u32 x1.2)) (.tmp 19) .i64 x1.1 el28 trivial h6.1 h6.2), ⟨⟨rfl, rfl, trivial⟩, ⟨rfl, trivial⟩, rfl⟩, rfl,
            Step.plain rfl (does_store 26 23 (.tmp 22) 2 (0 + x1.1.toNat * 1) [x1.1.toNat] (.var (e_a8_u32 x1.2)) (.var (e_a8_u32 (aupd x1.2 x1.1.toNat (p1 x1.1.toNat)))) (.int .u32 (p1 x1.1.toNat)) false trivial rfl ⟨rfl, (ixl h6), trivial⟩ rfl rfl (congrArg Box.var (set_cons rfl (vupd_map (fun z => V.int .u32 z) _ _ _))) ty26), ⟨⟨rfl, rfl, trivial⟩, ⟨rfl, trivial⟩, rfl⟩, rfl, rfl⟩ ?_
          refine nx_blk ?_
          exact nx_join (aupd x1.2 x1.1.toNat (p1 x1.1.toNat)) H (cov_prune ⟨rfl, rfl, rfl, rfl, rfl, trivial⟩ ⟨rfl, rfl, rfl, trivial⟩ (Nat.le_of_ble_eq_true rfl))
        · replace H := ite_f hc H
          refine aw_skip ?_
          refine nx_blk ?_
          exact nx_join (x1.2) H (cov_prune ⟨rfl, rfl, rfl, rfl, rfl, trivial⟩ ⟨rfl, rfl, rfl, trivial⟩ (Nat.le_of_ble_eq_true rfl))
    · replace H := ite_f hc H
      refine aw_exit ?_
      refine ex_then ?_
      refine ex_then ?_
      refine ex_here ?_
      exact nx_ljoin (x1.2) H hsn2 (cov_prune ⟨rfl, rfl, rfl, rfl, trivial⟩ ⟨rfl, rfl, rfl, trivial⟩ (Nat.le_of_ble_eq_true rfl))
end Go.Proofs.Ytpcpfcijdliicaa
