/- Printed by gen.py. Conditions: none. -/
import Derived.Test.YtpcpfcijdliicaaSp2
import Derived.KernelRfl
set_option linter.unusedVariables false
set_option maxRecDepth 100000
namespace Go.Proofs.Ytpcpfcijdliicaa
open Go.Eng
set_option maxHeartbeats 1600000
theorem congresslaw18_fixed_spec (r : Bool) (H : congresslaw18_fixed = some r) : FSpec Try.prog 11 [] (.bool r) := by
  refine spec_of (fn := Try.f11) (args := []) Try.func11 rfl (Nat.le_of_ble_eq_true rfl) ?_
  rintro ⟨G, w0, W, S, Sp⟩ hG
  cases hG
  unfold congresslaw18_fixed at H
  refine aw_region (es := [_]) ⟨Step.plain rfl (does_assign (.const (.bool false)) (.bool false) (fun _ => rfl)), ⟨trivial, trivial, rfl⟩, rfl, rfl⟩ ?_
  refine aw_cov (cov_prune (s1 := ⟨[], [], 0⟩) trivial trivial (Nat.le_refl _)) ?_
  obtain ⟨v1, h2, H⟩ := bnd H
  obtain ⟨v3, h4, H⟩ := bnd H
  refine aw_region (es := [_, _, _, _, _, _, _]) ⟨Step.plain rfl (does_call 30 0 (fun _ => .any) (.func 30) [(.const (.int .u64 5))] [(.int .u64 5)] [] true [(.int .u64 5)] (e_api_Entry v1) _ _ rfl fo30 rfl ⟨(fun _ => rfl), trivial⟩ ⟨.data _ trivial, trivial⟩ (congresslaw18_join_spec 5 _ h2) (f_api_Entry v1)), ⟨trivial, trivial, rfl⟩, rfl,
    Step.plain rfl (does_callO 7 0 (fun _ => .any) (.func 7) [(.const (.slice none 0 0)), (.const (.int .i64 2)), (.tmp 10)] [(e_s_api_Member []), (.int .i64 2), (e_api_Entry v1)] [] [] true [(e_s_api_Member []), (.int .i64 2), (e_api_Entry v1)] _ (resV [(.own 0), (.bool v3.2)]) _ 0 1 _ _ rfl fo7 rfl ⟨(fun _ => ⟨none, 0, rfl, Nat.le_refl _, .inl rfl⟩), (fun _ => rfl), trivial, trivial⟩ ⟨.ro _ _ (.data _ (d_s_api_Member [])), .ro _ _ (.data _ trivial), .ro _ _ (.data _ (d_api_Entry v1)), trivial⟩ (group_Apply_spec [] 2 v1 _ h4) rfl (by simp) rfl trivial ⟨⟨Nat.le_of_ble_eq_true rfl, _, rfl, fun _ => (f_api_Member _)⟩, trivial⟩ (.tup _ _ _ (fun j => match j with | 0 => .own 0 (Nat.le_of_ble_eq_true rfl) | 1 => .data _ (trivial) | _ + 2 => .data _ trivial))), ⟨⟨rfl, trivial⟩, trivial, rfl⟩, rfl,
    Step.plain rfl (does_move (.tmp 11) (resV [(.own 0), (.bool v3.2)]) trivial), ⟨⟨rfl, trivial⟩, trivial, rfl⟩, rfl,
    Step.plain rfl (does_extract 9 0 2 (fun j => [(.own 0), (.bool v3.2)].getD j (.bool false)) (Nat.le_of_ble_eq_true rfl)), ⟨⟨rfl, trivial⟩, trivial, rfl⟩, rfl,
    Step.plain rfl (does_extract 9 1 2 (fun j => [(.own 0), (.bool v3.2)].getD j (.bool false)) (Nat.le_of_ble_eq_true rfl)), ⟨⟨rfl, trivial⟩, trivial, rfl⟩, rfl,
    Step.plain rfl (does_assign (.tmp 12) (.own 0) trivial), ⟨⟨rfl, trivial⟩, trivial, rfl⟩, rfl,
    Step.plain rfl (does_assign (.tmp 13) (.bool v3.2) trivial), ⟨⟨rfl, trivial⟩, trivial, rfl⟩, rfl, rfl⟩ ?_
  refine aw_cov (cov_prune (s1 := ⟨[(1, (.own 0)), (2, (.bool v3.2))], [(0, some (.arr 3 v3.1.length fun j => (e_api_Member (v3.1.getD j z_api_Member))))], 1⟩) ⟨rfl, rfl, trivial⟩ ⟨rfl, trivial⟩ (Nat.le_refl _)) ?_
  obtain ⟨v5, h6, H⟩ := bnd H
  obtain ⟨v7, h8, H⟩ := bnd H
  refine aw_region (es := [_, _, _, _, _, _, _, _]) ⟨Step.plain rfl (does_move (.tmp 1) (.own 0) trivial), ⟨⟨rfl, trivial⟩, trivial, rfl⟩, rfl,
    Step.plain rfl (does_call 30 0 (fun _ => .any) (.func 30) [(.const (.int .u64 9))] [(.int .u64 9)] [] true [(.int .u64 9)] (e_api_Entry v5) _ _ rfl fo30 rfl ⟨(fun _ => rfl), trivial⟩ ⟨.data _ trivial, trivial⟩ (congresslaw18_join_spec 9 _ h6) (f_api_Entry v5)), ⟨trivial, trivial, rfl⟩, rfl,
    Step.plain rfl (does_callO 7 0 (fun _ => .any) (.func 7) [(.tmp 15), (.const (.int .i64 0)), (.tmp 16)] [(.own 0), (.int .i64 0), (e_api_Entry v5)] [(0, (.arr 3 v3.1.length fun j => (e_api_Member (v3.1.getD j z_api_Member))))] [] true [(e_s_api_Member v3.1), (.int .i64 0), (e_api_Entry v5)] _ (resV [(.own 1), (.bool v7.2)]) _ 1 1 _ _ rfl fo7 rfl ⟨trivial, (fun _ => rfl), trivial, trivial⟩ ⟨.ro _ _ (.own 0 _ _ _ (.head _) rfl (fun _ => (d_api_Member _))), .ro _ _ (.data _ trivial), .ro _ _ (.data _ (d_api_Entry v5)), trivial⟩ (group_Apply_spec v3.1 0 v5 _ h8) rfl (by simp) rfl trivial ⟨⟨Nat.le_of_ble_eq_true rfl, _, rfl, fun _ => (f_api_Member _)⟩, trivial⟩ (.tup _ _ _ (fun j => match j with | 0 => .own 0 (Nat.le_of_ble_eq_true rfl) | 1 => .data _ (trivial) | _ + 2 => .data _ trivial))), ⟨⟨rfl, rfl, trivial⟩, ⟨rfl, trivial⟩, rfl⟩, rfl,
    Step.plain rfl (does_move (.tmp 17) (resV [(.own 1), (.bool v7.2)]) trivial), ⟨⟨rfl, trivial⟩, trivial, rfl⟩, rfl,
    Step.plain rfl (does_extract 14 0 2 (fun j => [(.own 1), (.bool v7.2)].getD j (.bool false)) (Nat.le_of_ble_eq_true rfl)), ⟨⟨rfl, trivial⟩, trivial, rfl⟩, rfl,
    Step.plain rfl (does_extract 14 1 2 (fun j => [(.own 1), (.bool v7.2)].getD j (.bool false)) (Nat.le_of_ble_eq_true rfl)), ⟨⟨rfl, trivial⟩, trivial, rfl⟩, rfl,
    Step.plain rfl (does_assign (.tmp 18) (.own 1) trivial), ⟨⟨rfl, trivial⟩, trivial, rfl⟩, rfl,
    Step.plain rfl (does_assign (.tmp 19) (.bool v7.2) trivial), ⟨⟨rfl, trivial⟩, trivial, rfl⟩, rfl, rfl⟩ ?_
  refine aw_cov (cov_prune (s1 := ⟨[(2, (.bool v3.2)), (3, (.own 1)), (4, (.bool v7.2))], [(1, some (.arr 3 v7.1.length fun j => (e_api_Member (v7.1.getD j z_api_Member))))], 2⟩) ⟨rfl, rfl, rfl, trivial⟩ ⟨rfl, trivial⟩ (Nat.le_refl _)) ?_
  obtain ⟨v9, h10, H⟩ := bnd H
  obtain ⟨v11, h12, H⟩ := bnd H
  refine aw_region (es := [_, _, _, _, _, _, _, _]) ⟨Step.plain rfl (does_move (.tmp 3) (.own 1) trivial), ⟨⟨rfl, trivial⟩, trivial, rfl⟩, rfl,
    Step.plain rfl (does_call 30 0 (fun _ => .any) (.func 30) [(.const (.int .u64 9))] [(.int .u64 9)] [] true [(.int .u64 9)] (e_api_Entry v9) _ _ rfl fo30 rfl ⟨(fun _ => rfl), trivial⟩ ⟨.data _ trivial, trivial⟩ (congresslaw18_join_spec 9 _ h10) (f_api_Entry v9)), ⟨trivial, trivial, rfl⟩, rfl,
    Step.plain rfl (does_callO 7 0 (fun _ => .any) (.func 7) [(.tmp 21), (.const (.int .i64 0)), (.tmp 22)] [(.own 1), (.int .i64 0), (e_api_Entry v9)] [(1, (.arr 3 v7.1.length fun j => (e_api_Member (v7.1.getD j z_api_Member))))] [] true [(e_s_api_Member v7.1), (.int .i64 0), (e_api_Entry v9)] _ (resV [(.own 2), (.bool v11.2)]) _ 2 1 _ _ rfl fo7 rfl ⟨trivial, (fun _ => rfl), trivial, trivial⟩ ⟨.ro _ _ (.own 1 _ _ _ (.head _) rfl (fun _ => (d_api_Member _))), .ro _ _ (.data _ trivial), .ro _ _ (.data _ (d_api_Entry v9)), trivial⟩ (group_Apply_spec v7.1 0 v9 _ h12) rfl (by simp) rfl trivial ⟨⟨Nat.le_of_ble_eq_true rfl, _, rfl, fun _ => (f_api_Member _)⟩, trivial⟩ (.tup _ _ _ (fun j => match j with | 0 => .own 0 (Nat.le_of_ble_eq_true rfl) | 1 => .data _ (trivial) | _ + 2 => .data _ trivial))), ⟨⟨rfl, rfl, trivial⟩, ⟨rfl, trivial⟩, rfl⟩, rfl,
    Step.plain rfl (does_move (.tmp 23) (resV [(.own 2), (.bool v11.2)]) trivial), ⟨⟨rfl, trivial⟩, trivial, rfl⟩, rfl,
    Step.plain rfl (does_extract 20 0 2 (fun j => [(.own 2), (.bool v11.2)].getD j (.bool false)) (Nat.le_of_ble_eq_true rfl)), ⟨⟨rfl, trivial⟩, trivial, rfl⟩, rfl,
    Step.plain rfl (does_extract 20 1 2 (fun j => [(.own 2), (.bool v11.2)].getD j (.bool false)) (Nat.le_of_ble_eq_true rfl)), ⟨⟨rfl, trivial⟩, trivial, rfl⟩, rfl,
    Step.plain rfl (does_assign (.tmp 24) (.own 2) trivial), ⟨⟨rfl, trivial⟩, trivial, rfl⟩, rfl,
    Step.plain rfl (does_assign (.tmp 25) (.bool v11.2) trivial), ⟨⟨rfl, trivial⟩, trivial, rfl⟩, rfl, rfl⟩ ?_
  refine aw_cov (cov_prune (s1 := ⟨[(2, (.bool v3.2)), (3, (.own 1)), (4, (.bool v7.2)), (6, (.bool v11.2))], [(1, some (.arr 3 v7.1.length fun j => (e_api_Member (v7.1.getD j z_api_Member))))], 3⟩) ⟨rfl, rfl, rfl, rfl, trivial⟩ ⟨rfl, trivial⟩ (Nat.le_refl _)) ?_
  obtain ⟨v13, h14, H⟩ := bnd H
  refine aw_region (es := [_, _, _]) ⟨Step.plain rfl (does_move (.tmp 3) (.own 1) trivial), ⟨⟨rfl, trivial⟩, trivial, rfl⟩, rfl,
    Step.plain rfl (does_callO 13 0 (fun _ => .any) (.func 13) [(.tmp 26), (.const (.int .i64 1))] [(.own 1), (.int .i64 1)] [(1, (.arr 3 v7.1.length fun j => (e_api_Member (v7.1.getD j z_api_Member))))] [] true [(e_s_api_Member v7.1), (.int .i64 1)] _ (.own 3) _ 3 1 _ _ rfl fo13 rfl ⟨trivial, (fun _ => rfl), trivial⟩ ⟨.ro _ _ (.own 1 _ _ _ (.head _) rfl (fun _ => (d_api_Member _))), .ro _ _ (.data _ trivial), trivial⟩ (group_View_spec v7.1 1 _ h14) rfl (by simp) rfl trivial ⟨⟨Nat.le_of_ble_eq_true rfl, _, rfl, fun _ => (f_api_Member _)⟩, trivial⟩ (.own 0 (Nat.le_of_ble_eq_true rfl))), ⟨⟨rfl, trivial⟩, ⟨rfl, trivial⟩, rfl⟩, rfl,
    Step.plain rfl (does_assign (.tmp 27) (.own 3) trivial), ⟨⟨rfl, trivial⟩, trivial, rfl⟩, rfl, rfl⟩ ?_
  refine aw_cov (cov_prune (s1 := ⟨[(2, (.bool v3.2)), (3, (.own 1)), (4, (.bool v7.2)), (6, (.bool v11.2)), (7, (.own 3))], [(1, some (.arr 3 v7.1.length fun j => (e_api_Member (v7.1.getD j z_api_Member)))), (3, some (.arr 3 v13.length fun j => (e_api_Member (v13.getD j z_api_Member))))], 4⟩) ⟨rfl, rfl, rfl, rfl, rfl, trivial⟩ ⟨rfl, rfl, trivial⟩ (Nat.le_refl _)) ?_
  obtain ⟨v15, h16, H⟩ := bnd H
  refine aw_region (es := [_, _, _, _]) ⟨Step.plain rfl (does_move (.tmp 3) (.own 1) trivial), ⟨⟨rfl, trivial⟩, trivial, rfl⟩, rfl,
    Step.plain rfl (does_buildT 28 #[(0, (.const (.int .u32 1)))] [(0, (.const (.int .u32 1)))] [(0, (.int .u32 1))] (.ar 8 1) (fun j => (.int .u32 ((fun _ => 0) j))) (fun j => (.int .u32 ((aset (fun _ => 0) [(0, 1)]) j))) rfl bo28 ⟨⟨rfl, (fun _ => rfl)⟩, trivial⟩ ⟨⟨Nat.le_of_ble_eq_true rfl, rfl, rfl⟩, trivial⟩ (setAll_map (fun z => V.int .u32 z) [(0, 1)] _)), ⟨trivial, trivial, rfl⟩, rfl,
    Step.plain rfl (does_callO 15 0 (fun _ => .any) (.func 15) [(.tmp 28), (.tmp 29)] [(.own 1), (e_a8_u32 (aset (fun _ => 0) [(0, 1)]))] [(1, (.arr 3 v7.1.length fun j => (e_api_Member (v7.1.getD j z_api_Member))))] [] true [(e_s_api_Member v7.1), (e_a8_u32 (aset (fun _ => 0) [(0, 1)]))] _ (.own 4) _ 4 1 _ _ rfl fo15 rfl ⟨trivial, trivial, trivial⟩ ⟨.ro _ _ (.own 1 _ _ _ (.head _) rfl (fun _ => (d_api_Member _))), .ro _ _ (.data _ (d_a8_u32 (aset (fun _ => 0) [(0, 1)]))), trivial⟩ (group_Keep_spec v7.1 (aset (fun _ => 0) [(0, 1)]) _ h16) rfl (by simp) rfl trivial ⟨⟨Nat.le_of_ble_eq_true rfl, _, rfl, fun _ => (f_api_Member _)⟩, trivial⟩ (.own 0 (Nat.le_of_ble_eq_true rfl))), ⟨⟨rfl, rfl, trivial⟩, ⟨rfl, trivial⟩, rfl⟩, rfl,
    Step.plain rfl (does_assign (.tmp 30) (.own 4) trivial), ⟨⟨rfl, trivial⟩, trivial, rfl⟩, rfl, rfl⟩ ?_
  refine aw_cov (cov_prune (s1 := ⟨[(2, (.bool v3.2)), (3, (.own 1)), (4, (.bool v7.2)), (6, (.bool v11.2)), (7, (.own 3)), (8, (.own 4))], [(1, some (.arr 3 v7.1.length fun j => (e_api_Member (v7.1.getD j z_api_Member)))), (3, some (.arr 3 v13.length fun j => (e_api_Member (v13.getD j z_api_Member)))), (4, some (.arr 3 v15.length fun j => (e_api_Member (v15.getD j z_api_Member))))], 5⟩) ⟨rfl, rfl, rfl, rfl, rfl, rfl, trivial⟩ ⟨rfl, rfl, rfl, trivial⟩ (Nat.le_refl _)) ?_
  refine aw_cov (cov_to (s1 := ⟨[(2, (.bool v3.2)), (3, (e_s_api_Member v7.1)), (4, (.bool v7.2)), (6, (.bool v11.2)), (7, (.own 3)), (8, (.own 4))], [(3, some (.arr 3 v13.length fun j => (e_api_Member (v13.getD j z_api_Member)))), (4, some (.arr 3 v15.length fun j => (e_api_Member (v15.getD j z_api_Member))))], 5⟩) (fun i => i) [1] ⟨⟨_, rfl, .plain _ (trivial)⟩, ⟨_, rfl, .frz 1 _ _ _ rfl (fun _ => (d_api_Member _)) (by decide)⟩, ⟨_, rfl, .plain _ (trivial)⟩, ⟨_, rfl, .plain _ (trivial)⟩, ⟨_, rfl, .own 3 _ _ (Nat.le_of_ble_eq_true rfl) rfl rfl (Box.like_refl _)⟩, ⟨_, rfl, .own 4 _ _ (Nat.le_of_ble_eq_true rfl) rfl rfl (Box.like_refl _)⟩, trivial⟩ ⟨⟨Nat.le_of_ble_eq_true rfl, _, _, rfl, rfl, boxTo_arr (fun _ => (d_api_Member _))⟩, ⟨Nat.le_of_ble_eq_true rfl, _, _, rfl, rfl, boxTo_arr (fun _ => (d_api_Member _))⟩, trivial⟩ rfl rfl) ?_
  obtain ⟨h17, H⟩ := ibg_of H
  obtain ⟨v18, h19, H⟩ := whn_of H
  obtain ⟨v20, h21, H⟩ := whn_of H
  refine aw_region (es := [_, _, _, _, _, _, _, _, _, _, _, _, _, _, _, _, _, _, _, _, _, _, _, _, _, _, _, _, _, _, _, _, _, _, _, _]) ⟨Step.plain rfl (does_move (.tmp 2) (.bool v3.2) trivial), ⟨⟨rfl, trivial⟩, trivial, rfl⟩, rfl,
    Step.plain rfl (does_move (.tmp 31) (.bool v3.2) trivial), ⟨⟨rfl, trivial⟩, trivial, rfl⟩, rfl,
    Step.guarded rfl rfl rfl rfl (fun hc => does_move (.tmp 4) (.bool v7.2) trivial), ⟨⟨rfl, rfl, trivial⟩, trivial, rfl⟩, rfl,
    Step.plain rfl (does_and 32 33 v3.2 v7.2), ⟨⟨rfl, rfl, trivial⟩, trivial, rfl⟩, rfl,
    Step.plain rfl (does_move (.tmp 34) (.bool (v3.2 && v7.2)) trivial), ⟨⟨rfl, trivial⟩, trivial, rfl⟩, rfl,
    Step.guarded rfl rfl rfl rfl (fun hc => does_move (.tmp 6) (.bool v11.2) trivial), ⟨⟨rfl, rfl, trivial⟩, trivial, rfl⟩, rfl,
    Step.guarded rfl rfl rfl rfl (fun hc => Does.strip (n' := [(36, (.opt (v3.2 && v7.2) (.bool v11.2)))]) (n := [(36, (.bool v11.2))]) ⟨(.opt _ _ hc), trivial⟩ (does_not 4 (.tmp 36) v11.2 trivial)), ⟨⟨rfl, rfl, trivial⟩, trivial, rfl⟩, rfl,
    Step.plain rfl (does_and 35 37 (v3.2 && v7.2) (!v11.2)), ⟨⟨rfl, rfl, trivial⟩, trivial, rfl⟩, rfl,
    Step.plain rfl (does_move (.tmp 38) (.bool ((v3.2 && v7.2) && (!v11.2))) trivial), ⟨⟨rfl, trivial⟩, trivial, rfl⟩, rfl,
    Step.guarded rfl rfl rfl rfl (fun hc => does_move (.tmp 7) (.own 3) trivial), ⟨⟨rfl, rfl, trivial⟩, trivial, rfl⟩, rfl,
    Step.guarded rfl rfl rfl rfl (fun hc => Does.strip (n' := [(40, (.opt ((v3.2 && v7.2) && (!v11.2)) (.own 3)))]) (n := [(40, (.own 3))]) ⟨(.opt _ _ hc), trivial⟩ (does_leno 22 3 v13.length 40 3 (fun j => (e_api_Member (v13.getD j z_api_Member))) el22)), ⟨⟨rfl, rfl, trivial⟩, ⟨rfl, trivial⟩, rfl⟩, rfl,
    Step.guarded rfl rfl rfl rfl (fun hc => Does.strip (n' := [(41, (.opt ((v3.2 && v7.2) && (!v11.2)) (.int .i64 (v13.length : Int))))]) (n := [(41, (.int .i64 (v13.length : Int)))]) ⟨(.opt _ _ hc), trivial⟩ (does_bin .eql 3 3 (.tmp 41) (.const (.int .i64 2)) .i64 (v13.length : Int) 2 (.bool ((v13.length : Int) == 2)) trivial (fun _ => rfl) (bin_eql _ _ _ _))), ⟨⟨rfl, rfl, trivial⟩, trivial, rfl⟩, rfl,
    Step.plain rfl (does_and 39 42 ((v3.2 && v7.2) && (!v11.2)) ((v13.length : Int) == 2)), ⟨⟨rfl, rfl, trivial⟩, trivial, rfl⟩, rfl,
    Step.plain rfl (does_move (.tmp 43) (.bool (((v3.2 && v7.2) && (!v11.2)) && ((v13.length : Int) == 2))) trivial), ⟨⟨rfl, trivial⟩, trivial, rfl⟩, rfl,
    Step.guarded rfl rfl rfl rfl (fun hc => does_move (.tmp 7) (.own 3) trivial), ⟨⟨rfl, rfl, trivial⟩, trivial, rfl⟩, rfl,
    Step.guarded rfl rfl rfl rfl (fun hc => Does.strip (n' := [(45, (.opt (((v3.2 && v7.2) && (!v11.2)) && ((v13.length : Int) == 2)) (.own 3)))]) (n := [(45, (.own 3))]) ⟨(.opt _ _ hc), trivial⟩ (does_indexAddro 22 3 v13.length 45 3 (fun j => (e_api_Member (v13.getD j z_api_Member))) (.const (.int .i64 0)) .i64 0 el22 (fun _ => rfl) (h17 hc).1 (h17 hc).2)), ⟨⟨rfl, rfl, trivial⟩, ⟨rfl, trivial⟩, rfl⟩, rfl,
    Step.guarded rfl rfl rfl rfl (fun hc => Does.strip (n' := [(46, (.opt (((v3.2 && v7.2) && (!v11.2)) && ((v13.length : Int) == 2)) (.ptr 3 (0 * 3) [0])))]) (n := [(46, (.ptr 3 (0 * 3) [0]))]) ⟨(.opt _ _ hc), trivial⟩ (does_load 35 46 3 (0 * 3) [0] (.arr 3 v13.length fun j => (e_api_Member (v13.getD j z_api_Member))) (e_api_Member (v13.getD 0 z_api_Member)) ⟨(ixl (h17 hc)), trivial⟩ rfl rfl ty35)), ⟨⟨rfl, rfl, trivial⟩, ⟨rfl, trivial⟩, rfl⟩, rfl,
    Step.guarded rfl rfl rfl rfl (fun hc => does_buildT 35 #[(0, (.const (.int .i64 1))), (2, (.const (.int .u64 9)))] [(0, (.const (.int .i64 1))), (2, (.const (.int .u64 9)))] [(0, (.int .i64 1)), (2, (.int .u64 9))] (.st [1, 1, 1]) (c_api_Member z_api_Member) (c_api_Member ({ Group := 1, Daemon := 0, Session := 9 } : api_Member)) rfl bo35 ⟨⟨rfl, (fun _ => rfl)⟩, ⟨rfl, (fun _ => rfl)⟩, trivial⟩ ⟨⟨Nat.le_of_ble_eq_true rfl, rfl, rfl⟩, ⟨Nat.le_of_ble_eq_true rfl, rfl, rfl⟩, trivial⟩ (by funext j; match j with | 0 => rfl | 1 => rfl | 2 => rfl | _ + 3 => rfl)), ⟨⟨rfl, trivial⟩, trivial, rfl⟩, rfl,
    Step.guarded rfl rfl rfl rfl (fun hc => Does.strip (n' := [(47, (.opt (((v3.2 && v7.2) && (!v11.2)) && ((v13.length : Int) == 2)) (e_api_Member (v13.getD 0 z_api_Member)))), (48, (.opt (((v3.2 && v7.2) && (!v11.2)) && ((v13.length : Int) == 2)) (e_api_Member ({ Group := 1, Daemon := 0, Session := 9 } : api_Member))))]) (n := [(47, (e_api_Member (v13.getD 0 z_api_Member))), (48, (e_api_Member ({ Group := 1, Daemon := 0, Session := 9 } : api_Member)))]) ⟨(.opt _ _ hc), (.opt _ _ hc), trivial⟩ (does_eqT false 35 35 (.tmp 47) (.tmp 48) (e_api_Member (v13.getD 0 z_api_Member)) (e_api_Member ({ Group := 1, Daemon := 0, Session := 9 } : api_Member)) (e_api_Member z_api_Member) (b_api_Member (v13.getD 0 z_api_Member) ({ Group := 1, Daemon := 0, Session := 9 } : api_Member)) rfl rfl trivial trivial eg35 sh35 (al_api_Member _ _) (al_api_Member _ _) (q_api_Member _ _))), ⟨⟨rfl, rfl, rfl, trivial⟩, trivial, rfl⟩, rfl,
    Step.plain rfl (does_and 44 49 (((v3.2 && v7.2) && (!v11.2)) && ((v13.length : Int) == 2)) (b_api_Member (v13.getD 0 z_api_Member) ({ Group := 1, Daemon := 0, Session := 9 } : api_Member))), ⟨⟨rfl, rfl, trivial⟩, trivial, rfl⟩, rfl,
    Step.plain rfl (does_move (.tmp 50) (.bool ((((v3.2 && v7.2) && (!v11.2)) && ((v13.length : Int) == 2)) && (b_api_Member (v13.getD 0 z_api_Member) ({ Group := 1, Daemon := 0, Session := 9 } : api_Member)))) trivial), ⟨⟨rfl, trivial⟩, trivial, rfl⟩, rfl,
    Step.guarded rfl rfl rfl rfl (fun hc => does_move (.tmp 3) (e_s_api_Member v7.1) trivial), ⟨⟨rfl, rfl, trivial⟩, trivial, rfl⟩, rfl,
    Step.guarded rfl rfl rfl rfl (fun hc => Does.strip (n' := [(52, (.opt ((((v3.2 && v7.2) && (!v11.2)) && ((v13.length : Int) == 2)) && (b_api_Member (v13.getD 0 z_api_Member) ({ Group := 1, Daemon := 0, Session := 9 } : api_Member))) (e_s_api_Member v7.1)))]) (n := [(52, (e_s_api_Member v7.1))]) ⟨(.opt _ _ hc), trivial⟩ (does_call 13 0 (fun _ => .any) (.func 13) [(.tmp 52), (.const (.int .i64 0))] [(e_s_api_Member v7.1), (.int .i64 0)] [] false [(e_s_api_Member v7.1), (.int .i64 0)] (e_s_api_Member v18) _ _ rfl fo13 rfl ⟨trivial, (fun _ => rfl), trivial⟩ ⟨.data _ (d_s_api_Member v7.1), .data _ trivial, trivial⟩ (group_View_data v7.1 0 _ (h19 hc)) (d_s_api_Member v18))), ⟨⟨rfl, rfl, trivial⟩, trivial, rfl⟩, rfl,
    Step.guarded rfl rfl rfl rfl (fun hc => Does.strip (n' := [(53, (.opt ((((v3.2 && v7.2) && (!v11.2)) && ((v13.length : Int) == 2)) && (b_api_Member (v13.getD 0 z_api_Member) ({ Group := 1, Daemon := 0, Session := 9 } : api_Member))) (e_s_api_Member v18)))]) (n := [(53, (e_s_api_Member v18))]) ⟨(.opt _ _ hc), trivial⟩ (does_lens 22 3 v18.length 53 (fun j => (e_api_Member (v18.getD j z_api_Member))) el22)), ⟨⟨rfl, rfl, trivial⟩, trivial, rfl⟩, rfl,
    Step.guarded rfl rfl rfl rfl (fun hc => Does.strip (n' := [(54, (.opt ((((v3.2 && v7.2) && (!v11.2)) && ((v13.length : Int) == 2)) && (b_api_Member (v13.getD 0 z_api_Member) ({ Group := 1, Daemon := 0, Session := 9 } : api_Member))) (.int .i64 (v18.length : Int))))]) (n := [(54, (.int .i64 (v18.length : Int)))]) ⟨(.opt _ _ hc), trivial⟩ (does_bin .eql 3 3 (.tmp 54) (.const (.int .i64 0)) .i64 (v18.length : Int) 0 (.bool ((v18.length : Int) == 0)) trivial (fun _ => rfl) (bin_eql _ _ _ _))), ⟨⟨rfl, rfl, trivial⟩, trivial, rfl⟩, rfl,
    Step.plain rfl (does_and 51 55 ((((v3.2 && v7.2) && (!v11.2)) && ((v13.length : Int) == 2)) && (b_api_Member (v13.getD 0 z_api_Member) ({ Group := 1, Daemon := 0, Session := 9 } : api_Member))) ((v18.length : Int) == 0)), ⟨⟨rfl, rfl, trivial⟩, trivial, rfl⟩, rfl,
    Step.plain rfl (does_move (.tmp 56) (.bool (((((v3.2 && v7.2) && (!v11.2)) && ((v13.length : Int) == 2)) && (b_api_Member (v13.getD 0 z_api_Member) ({ Group := 1, Daemon := 0, Session := 9 } : api_Member))) && ((v18.length : Int) == 0))) trivial), ⟨⟨rfl, trivial⟩, trivial, rfl⟩, rfl,
    Step.guarded rfl rfl rfl rfl (fun hc => does_move (.tmp 8) (.own 4) trivial), ⟨⟨rfl, rfl, trivial⟩, trivial, rfl⟩, rfl,
    Step.guarded rfl rfl rfl rfl (fun hc => Does.strip (n' := [(58, (.opt (((((v3.2 && v7.2) && (!v11.2)) && ((v13.length : Int) == 2)) && (b_api_Member (v13.getD 0 z_api_Member) ({ Group := 1, Daemon := 0, Session := 9 } : api_Member))) && ((v18.length : Int) == 0)) (.own 4)))]) (n := [(58, (.own 4))]) ⟨(.opt _ _ hc), trivial⟩ (does_leno 22 3 v15.length 58 4 (fun j => (e_api_Member (v15.getD j z_api_Member))) el22)), ⟨⟨rfl, rfl, trivial⟩, ⟨rfl, trivial⟩, rfl⟩, rfl,
    Step.guarded rfl rfl rfl rfl (fun hc => Does.strip (n' := [(59, (.opt (((((v3.2 && v7.2) && (!v11.2)) && ((v13.length : Int) == 2)) && (b_api_Member (v13.getD 0 z_api_Member) ({ Group := 1, Daemon := 0, Session := 9 } : api_Member))) && ((v18.length : Int) == 0)) (.int .i64 (v15.length : Int))))]) (n := [(59, (.int .i64 (v15.length : Int)))]) ⟨(.opt _ _ hc), trivial⟩ (does_bin .eql 3 3 (.tmp 59) (.const (.int .i64 1)) .i64 (v15.length : Int) 1 (.bool ((v15.length : Int) == 1)) trivial (fun _ => rfl) (bin_eql _ _ _ _))), ⟨⟨rfl, rfl, trivial⟩, trivial, rfl⟩, rfl,
    Step.plain rfl (does_and 57 60 (((((v3.2 && v7.2) && (!v11.2)) && ((v13.length : Int) == 2)) && (b_api_Member (v13.getD 0 z_api_Member) ({ Group := 1, Daemon := 0, Session := 9 } : api_Member))) && ((v18.length : Int) == 0)) ((v15.length : Int) == 1)), ⟨⟨rfl, rfl, trivial⟩, trivial, rfl⟩, rfl,
    Step.plain rfl (does_move (.tmp 61) (.bool ((((((v3.2 && v7.2) && (!v11.2)) && ((v13.length : Int) == 2)) && (b_api_Member (v13.getD 0 z_api_Member) ({ Group := 1, Daemon := 0, Session := 9 } : api_Member))) && ((v18.length : Int) == 0)) && ((v15.length : Int) == 1))) trivial), ⟨⟨rfl, trivial⟩, trivial, rfl⟩, rfl,
    Step.guarded rfl rfl rfl rfl (fun hc => does_move (.tmp 3) (e_s_api_Member v7.1) trivial), ⟨⟨rfl, rfl, trivial⟩, trivial, rfl⟩, rfl,
    Step.guarded rfl rfl rfl rfl (fun hc => Does.strip (n' := [(63, (.opt ((((((v3.2 && v7.2) && (!v11.2)) && ((v13.length : Int) == 2)) && (b_api_Member (v13.getD 0 z_api_Member) ({ Group := 1, Daemon := 0, Session := 9 } : api_Member))) && ((v18.length : Int) == 0)) && ((v15.length : Int) == 1)) (e_s_api_Member v7.1)))]) (n := [(63, (e_s_api_Member v7.1))]) ⟨(.opt _ _ hc), trivial⟩ (does_call 17 0 (fun _ => .any) (.func 17) [(.tmp 63)] [(e_s_api_Member v7.1)] [] true [(e_s_api_Member v7.1)] (.bool v20) _ _ rfl fo17 rfl ⟨trivial, trivial⟩ ⟨.data _ (d_s_api_Member v7.1), trivial⟩ (group_May_spec v7.1 _ (h21 hc)) trivial)), ⟨⟨rfl, rfl, trivial⟩, trivial, rfl⟩, rfl,
    Step.plain rfl (does_and 62 64 ((((((v3.2 && v7.2) && (!v11.2)) && ((v13.length : Int) == 2)) && (b_api_Member (v13.getD 0 z_api_Member) ({ Group := 1, Daemon := 0, Session := 9 } : api_Member))) && ((v18.length : Int) == 0)) && ((v15.length : Int) == 1)) v20), ⟨⟨rfl, rfl, trivial⟩, trivial, rfl⟩, rfl,
    Step.plain rfl (does_assign (.tmp 65) (.bool (((((((v3.2 && v7.2) && (!v11.2)) && ((v13.length : Int) == 2)) && (b_api_Member (v13.getD 0 z_api_Member) ({ Group := 1, Daemon := 0, Session := 9 } : api_Member))) && ((v18.length : Int) == 0)) && ((v15.length : Int) == 1)) && v20)) trivial), ⟨⟨rfl, trivial⟩, trivial, rfl⟩, rfl, rfl⟩ ?_
  obtain ⟨v22, hv22, H⟩ := lt_of H
  refine aw_cov (cov_prune (s1 := ⟨[(0, (.bool v22))], [], 5⟩) ⟨(by subst hv22; rfl), trivial⟩ trivial (Nat.le_refl _)) ?_
  refine aw_ret ?_
  exact fun a w hr => ⟨_, [(.bool v22)], hr, ⟨⟨_, rfl, .data (.bool v22) trivial⟩, trivial⟩, by decide, by cases H; rfl⟩

theorem congressref18_Same_spec (p0 : (_root_.List api_Member)) (p1 : (_root_.List api_Member)) (r : Bool) (H : congressref18_Same p0 p1 = some r) : FSpec Try.prog 12 [(e_s_api_Member p0), (e_s_api_Member p1)] (.bool r) := by
  refine spec_of (fn := Try.f12) (args := [(e_s_api_Member p0), (e_s_api_Member p1)]) Try.func12 rfl (Nat.le_of_ble_eq_true rfl) ?_
  rintro ⟨G, w0, W, S, Sp⟩ hG
  cases hG
  unfold congressref18_Same at H
  refine aw_region (es := [_]) ⟨Step.plain rfl (does_assign (.const (.bool false)) (.bool false) (fun _ => rfl)), ⟨trivial, trivial, rfl⟩, rfl, rfl⟩ ?_
  refine aw_cov (cov_prune (s1 := ⟨[(0, (e_s_api_Member p0)), (1, (e_s_api_Member p1))], [], 0⟩) ⟨rfl, rfl, trivial⟩ trivial (Nat.le_refl _)) ?_
  refine aw_seq ?_
  refine aw_region (es := [_, _, _, _, _]) ⟨Step.plain rfl (does_move (.tmp 0) (e_s_api_Member p0) trivial), ⟨⟨rfl, trivial⟩, trivial, rfl⟩, rfl,
    Step.plain rfl (does_lens 22 3 p0.length 6 (fun j => (e_api_Member (p0.getD j z_api_Member))) el22), ⟨⟨rfl, trivial⟩, trivial, rfl⟩, rfl,
    Step.plain rfl (does_move (.tmp 1) (e_s_api_Member p1) trivial), ⟨⟨rfl, trivial⟩, trivial, rfl⟩, rfl,
    Step.plain rfl (does_lens 22 3 p1.length 8 (fun j => (e_api_Member (p1.getD j z_api_Member))) el22), ⟨⟨rfl, trivial⟩, trivial, rfl⟩, rfl,
    Step.plain rfl (does_bin .neq 3 3 (.tmp 7) (.tmp 9) .i64 (p0.length : Int) (p1.length : Int) (.bool ((p0.length : Int) != (p1.length : Int))) trivial trivial (bin_neq _ _ _ _)), ⟨⟨rfl, rfl, trivial⟩, trivial, rfl⟩, rfl, rfl⟩ ?_
  refine aw_cov (cov_prune (s1 := ⟨[(0, (e_s_api_Member p0)), (1, (e_s_api_Member p1)), (10, (.bool ((p0.length : Int) != (p1.length : Int))))], [], 0⟩) ⟨rfl, rfl, rfl, trivial⟩ trivial (Nat.le_refl _)) ?_
  refine aw_cond rfl (fun hc => ?_) (fun hc => ?_)
  · replace H := ite_t hc H
    refine aw_region (es := [_]) ⟨Step.plain rfl (does_assign (.const (.bool false)) (.bool false) (fun _ => rfl)), ⟨trivial, trivial, rfl⟩, rfl, rfl⟩ ?_
    refine aw_cov (cov_prune (s1 := ⟨[(4, (.bool false))], [], 0⟩) ⟨rfl, trivial⟩ trivial (Nat.le_refl _)) ?_
    refine aw_ret ?_
    refine rt_then ?_
    exact fun a w hr => ⟨_, [(.bool false)], hr, ⟨⟨_, rfl, .data (.bool false) trivial⟩, trivial⟩, by decide, by cases H; rfl⟩
  · replace H := ite_f hc H
    refine aw_skip ?_
    refine nx_seq ?_
    refine aw_seq ?_
    refine aw_region (es := [_]) ⟨Step.plain rfl (does_assign (.const (.int .i64 0)) (.int .i64 0) (fun _ => rfl)), ⟨trivial, trivial, rfl⟩, rfl, rfl⟩ ?_
    refine aw_cov (cov_prune (s1 := ⟨[(0, (e_s_api_Member p0)), (1, (e_s_api_Member p1)), (5, (.int .i64 0))], [], 0⟩) ⟨rfl, rfl, rfl, trivial⟩ trivial (Nat.le_refl _)) ?_
    obtain ⟨wn2, hwn2, Hrn2⟩ := bnd H
    refine aw_meet (fun y6 : Unit => (⟨[], [], 0⟩ : St)) (fun y6 => Fl.nx y6 = wn2) (fun y6 hy => ?_) (aw_block (aw_runs (fun x1 : Int => (⟨[(0, (e_s_api_Member p0)), (1, (e_s_api_Member p1)), (5, (.int .i64 x1))], [], 0⟩ : St)) hwn2 (cov_prune ⟨rfl, rfl, rfl, trivial⟩ trivial (Nat.le_of_ble_eq_true rfl)) (fun x1 st H hsn2 => ?_)))
    · have H := nx_of hy Hrn2
      refine nx_seq ?_
      refine aw_region (es := [_]) ⟨Step.plain rfl (does_assign (.const (.bool true)) (.bool true) (fun _ => rfl)), ⟨trivial, trivial, rfl⟩, rfl, rfl⟩ ?_
      refine aw_cov (cov_prune (s1 := ⟨[(4, (.bool true))], [], 0⟩) ⟨rfl, trivial⟩ trivial (Nat.le_refl _)) ?_
      refine aw_ret ?_
      exact fun a w hr => ⟨_, [(.bool true)], hr, ⟨⟨_, rfl, .data (.bool true) trivial⟩, trivial⟩, by decide, by cases H; rfl⟩
    · refine aw_seq ?_
      refine aw_region (es := [_, _, _, _]) ⟨Step.plain rfl (does_move (.tmp 5) (.int .i64 x1) trivial), ⟨⟨rfl, trivial⟩, trivial, rfl⟩, rfl,
        Step.plain rfl (does_move (.tmp 0) (e_s_api_Member p0) trivial), ⟨⟨rfl, trivial⟩, trivial, rfl⟩, rfl,
        Step.plain rfl (does_lens 22 3 p0.length 12 (fun j => (e_api_Member (p0.getD j z_api_Member))) el22), ⟨⟨rfl, trivial⟩, trivial, rfl⟩, rfl,
        Step.plain rfl (does_bin .lss 3 3 (.tmp 11) (.tmp 13) .i64 x1 (p0.length : Int) (.bool (decide (x1 < (p0.length : Int)))) trivial trivial (bin_lss _ _ _ _)), ⟨⟨rfl, rfl, trivial⟩, trivial, rfl⟩, rfl, rfl⟩ ?_
      refine aw_cov (cov_prune (s1 := ⟨[(0, (e_s_api_Member p0)), (1, (e_s_api_Member p1)), (5, (.int .i64 x1)), (14, (.bool (decide (x1 < (p0.length : Int)))))], [], 0⟩) ⟨rfl, rfl, rfl, rfl, trivial⟩ trivial (Nat.le_refl _)) ?_
      refine aw_cond rfl (fun hc => ?_) (fun hc => ?_)
      · replace H := ite_t hc H
        refine aw_skip ?_
        refine nx_seq ?_
        refine aw_seq ?_
        refine aw_block ?_
        obtain ⟨h3, H⟩ := ib_of H
        obtain ⟨h4, H⟩ := ib_of H
        refine aw_draw (es := [_, _, _, _, _, _, _, _, _]) (mixed) ⟨Step.plain rfl (does_move (.tmp 0) (e_s_api_Member p0) trivial), ⟨⟨rfl, trivial⟩, trivial, rfl⟩, rfl,
          Step.plain rfl (does_move (.tmp 5) (.int .i64 x1) trivial), ⟨⟨rfl, trivial⟩, trivial, rfl⟩, rfl,
          Step.plain rfl (does_indexAddrs 22 3 p0.length 17 (fun j => (e_api_Member (p0.getD j z_api_Member))) (.tmp 18) .i64 x1 el22 trivial h3.1 h3.2), ⟨⟨rfl, rfl, trivial⟩, trivial, rfl⟩, rfl,
          Step.plain rfl (does_loadc 35 19 (e_api_Member (p0.getD x1.toNat z_api_Member)) ty35), ⟨⟨rfl, trivial⟩, trivial, rfl⟩, rfl,
          Step.plain rfl (does_move (.tmp 1) (e_s_api_Member p1) trivial), ⟨⟨rfl, trivial⟩, trivial, rfl⟩, rfl,
          Step.plain rfl (does_move (.tmp 5) (.int .i64 x1) trivial), ⟨⟨rfl, trivial⟩, trivial, rfl⟩, rfl,
          Step.plain rfl (does_indexAddrs 22 3 p1.length 21 (fun j => (e_api_Member (p1.getD j z_api_Member))) (.tmp 22) .i64 x1 el22 trivial h4.1 h4.2), ⟨⟨rfl, rfl, trivial⟩, trivial, rfl⟩, rfl,
          Step.plain rfl (does_loadc 35 23 (e_api_Member (p1.getD x1.toNat z_api_Member)) ty35), ⟨⟨rfl, trivial⟩, trivial, rfl⟩, rfl,
          Step.plain rfl (does_eqT true 35 35 (.tmp 20) (.tmp 24) (e_api_Member (p0.getD x1.toNat z_api_Member)) (e_api_Member (p1.getD x1.toNat z_api_Member)) (e_api_Member z_api_Member) (b_api_Member (p0.getD x1.toNat z_api_Member) (p1.getD x1.toNat z_api_Member)) rfl rfl trivial trivial eg35 sh35 (al_api_Member _ _) (al_api_Member _ _) (q_api_Member _ _)), ⟨⟨rfl, rfl, trivial⟩, trivial, rfl⟩, rfl, rfl⟩ rfl ?_
        obtain ⟨v5, hv5, H⟩ := lt_of H
        refine aw_cov (cov_prune (s1 := ⟨[(0, (e_s_api_Member p0)), (1, (e_s_api_Member p1)), (5, (.int .i64 x1)), (25, (.bool v5))], [], 0⟩) ⟨rfl, rfl, rfl, (by subst hv5; rfl), trivial⟩ trivial (Nat.le_refl _)) ?_
        refine aw_cond rfl (fun hc => ?_) (fun hc => ?_)
        · replace H := ite_t hc H
          refine aw_region (es := [_]) ⟨Step.plain rfl (does_assign (.const (.bool false)) (.bool false) (fun _ => rfl)), ⟨trivial, trivial, rfl⟩, rfl, rfl⟩ ?_
          refine aw_cov (cov_prune (s1 := ⟨[(4, (.bool false))], [], 0⟩) ⟨rfl, trivial⟩ trivial (Nat.le_refl _)) ?_
          refine aw_ret ?_
          replace H := rt_of H hsn2 Hrn2
          refine rt_blk ?_
          refine rt_then ?_
          refine rt_then ?_
          refine rt_blk ?_
          refine rt_then ?_
          refine rt_then ?_
          exact fun a w hr => ⟨_, [(.bool false)], hr, ⟨⟨_, rfl, .data (.bool false) trivial⟩, trivial⟩, by decide, by cases H; rfl⟩
        · replace H := ite_f hc H
          refine aw_skip ?_
          refine nx_blk ?_
          refine nx_seq ?_
          refine aw_region1 (es := [_, _, _]) ⟨Step.plain rfl (does_move (.tmp 5) (.int .i64 x1) trivial), ⟨⟨rfl, trivial⟩, trivial, rfl⟩, rfl,
            Step.plain rfl (does_bin .add 3 3 (.tmp 15) (.const (.int .i64 1)) .i64 x1 1 (.int .i64 (IntKind.i64.wrap (x1 + 1))) trivial (fun _ => rfl) (bin_add _ _ _ _)), ⟨⟨rfl, trivial⟩, trivial, rfl⟩, rfl,
            Step.plain rfl (does_assign (.tmp 16) (.int .i64 (IntKind.i64.wrap (x1 + 1))) trivial), ⟨⟨rfl, trivial⟩, trivial, rfl⟩, rfl, rfl⟩ ?_
          exact nx_loop ((IntKind.i64.wrap (x1 + 1))) H (cov_prune ⟨rfl, rfl, rfl, trivial⟩ trivial (Nat.le_of_ble_eq_true rfl))
      · replace H := ite_f hc H
        refine aw_exit ?_
        refine ex_then ?_
        refine ex_then ?_
        refine ex_here ?_
        exact nx_ljoin () H hsn2 (cov_prune trivial trivial (Nat.le_of_ble_eq_true rfl))

theorem congressref18_View_spec (p0 : (_root_.List api_Member)) (p1 : Int) (r : (_root_.List api_Member)) (H : congressref18_View p0 p1 = some r) : FSpecO Try.prog 14 [(e_s_api_Member p0), (.int .i64 p1)] [] 0 (.own 0) [(0, some (.arr 3 r.length fun j => (e_api_Member (r.getD j z_api_Member))))] 1 := by
  refine specO_of (fn := Try.f14) (args := [(e_s_api_Member p0), (.int .i64 p1)]) Try.func14 rfl (Nat.le_of_ble_eq_true rfl) ?_
  rintro ⟨G, w0, W, S, Sp⟩ hG
  cases hG
  unfold congressref18_View at H
  refine aw_region (es := [_]) ⟨Step.plain rfl (does_nil false 0 3 (fun j => (e_api_Member (([] : _root_.List api_Member).getD j z_api_Member)))), ⟨trivial, trivial, rfl⟩, rfl, rfl⟩ ?_
  refine aw_cov (cov_prune (s1 := ⟨[(0, (e_s_api_Member p0)), (1, (.int .i64 p1))], [], 1⟩) ⟨rfl, rfl, trivial⟩ trivial (Nat.le_refl _)) ?_
  refine aw_region (es := [_, _]) ⟨Step.plain rfl (does_buildOwn 22 0 3 1 (e_api_Member z_api_Member) (fun j => (e_api_Member (([] : _root_.List api_Member).getD j z_api_Member))) #[] [] [] rfl so22 (by decide) trivial trivial (fun j h => match j, h with  | k + 0, h => absurd h (by omega))), ⟨trivial, trivial, rfl⟩, rfl,
    Step.plain rfl (does_assign (.tmp 7) (.own 1) trivial), ⟨⟨rfl, trivial⟩, trivial, rfl⟩, rfl, rfl⟩ ?_
  refine aw_cov (cov_prune (s1 := ⟨[(0, (e_s_api_Member p0)), (1, (.int .i64 p1)), (5, (.own 1))], [(1, some (.arr 3 ([] : _root_.List api_Member).length fun j => (e_api_Member (([] : _root_.List api_Member).getD j z_api_Member))))], 2⟩) ⟨rfl, rfl, rfl, trivial⟩ ⟨rfl, trivial⟩ (Nat.le_refl _)) ?_
  refine aw_seq ?_
  refine aw_region (es := [_]) ⟨Step.plain rfl (does_assign (.const (.int .i64 0)) (.int .i64 0) (fun _ => rfl)), ⟨trivial, trivial, rfl⟩, rfl, rfl⟩ ?_
  refine aw_cov (cov_prune (s1 := ⟨[(0, (e_s_api_Member p0)), (1, (.int .i64 p1)), (5, (.own 1)), (6, (.int .i64 0))], [(1, some (.arr 3 ([] : _root_.List api_Member).length fun j => (e_api_Member (([] : _root_.List api_Member).getD j z_api_Member))))], 2⟩) ⟨rfl, rfl, rfl, rfl, trivial⟩ ⟨rfl, trivial⟩ (Nat.le_refl _)) ?_
  obtain ⟨wn2, hwn2, Hrn2⟩ := bnd H
  refine aw_meet (fun y8 : _root_.List api_Member => (⟨[(5, (.own 1))], [(1, some (.arr 3 y8.length fun j => (e_api_Member (y8.getD j z_api_Member))))], 2⟩ : St)) (fun y8 => Fl.nx y8 = wn2) (fun y8 hy => ?_) (aw_block (aw_runs (fun x1 : Int × _root_.List api_Member => (⟨[(0, (e_s_api_Member p0)), (1, (.int .i64 p1)), (5, (.own 1)), (6, (.int .i64 x1.1))], [(1, some (.arr 3 x1.2.length fun j => (e_api_Member (x1.2.getD j z_api_Member))))], 2⟩ : St)) hwn2 (cov_prune ⟨rfl, rfl, rfl, rfl, trivial⟩ ⟨rfl, trivial⟩ (Nat.le_of_ble_eq_true rfl)) (fun x1 st H hsn2 => ?_)))
  · have H := nx_of hy Hrn2
    refine nx_seq ?_
    refine aw_region (es := [_, _]) ⟨Step.plain rfl (does_move (.tmp 5) (.own 1) trivial), ⟨⟨rfl, trivial⟩, trivial, rfl⟩, rfl,
      Step.plain rfl (does_assign (.tmp 28) (.own 1) trivial), ⟨⟨rfl, trivial⟩, trivial, rfl⟩, rfl, rfl⟩ ?_
    refine aw_cov (cov_prune (s1 := ⟨[(4, (.own 1))], [(1, some (.arr 3 y8.length fun j => (e_api_Member (y8.getD j z_api_Member))))], 2⟩) ⟨rfl, trivial⟩ ⟨rfl, trivial⟩ (Nat.le_refl _)) ?_
    refine aw_ret ?_
    exact fun a w hr => ⟨_, [(.own 0)], reach_of hr (cov_to (s1 := ⟨[(4, (.own 0))], [(0, some (.arr 3 y8.length fun j => (e_api_Member (y8.getD j z_api_Member))))], 1⟩) (fun i => match i with | 0 => 1 | k => k) [] ⟨⟨_, rfl, .own 0 _ _ (Nat.le_of_ble_eq_true rfl) rfl rfl (Box.like_refl _)⟩, trivial⟩ ⟨⟨Nat.le_of_ble_eq_true rfl, _, _, rfl, rfl, boxTo_arr (fun _ => (d_api_Member _))⟩, trivial⟩ rfl rfl), ⟨rfl, trivial⟩, by decide, by cases H; rfl, by cases H; exact ⟨rfl, trivial⟩, Nat.le_of_ble_eq_true rfl⟩
  · refine aw_seq ?_
    refine aw_region (es := [_, _, _, _]) ⟨Step.plain rfl (does_move (.tmp 6) (.int .i64 x1.1) trivial), ⟨⟨rfl, trivial⟩, trivial, rfl⟩, rfl,
      Step.plain rfl (does_move (.tmp 0) (e_s_api_Member p0) trivial), ⟨⟨rfl, trivial⟩, trivial, rfl⟩, rfl,
      Step.plain rfl (does_lens 22 3 p0.length 9 (fun j => (e_api_Member (p0.getD j z_api_Member))) el22), ⟨⟨rfl, trivial⟩, trivial, rfl⟩, rfl,
      Step.plain rfl (does_bin .lss 3 3 (.tmp 8) (.tmp 10) .i64 x1.1 (p0.length : Int) (.bool (decide (x1.1 < (p0.length : Int)))) trivial trivial (bin_lss _ _ _ _)), ⟨⟨rfl, rfl, trivial⟩, trivial, rfl⟩, rfl, rfl⟩ ?_
    refine aw_cov (cov_prune (s1 := ⟨[(0, (e_s_api_Member p0)), (1, (.int .i64 p1)), (5, (.own 1)), (6, (.int .i64 x1.1)), (11, (.bool (decide (x1.1 < (p0.length : Int)))))], [(1, some (.arr 3 x1.2.length fun j => (e_api_Member (x1.2.getD j z_api_Member))))], 2⟩) ⟨rfl, rfl, rfl, rfl, rfl, trivial⟩ ⟨rfl, trivial⟩ (Nat.le_refl _)) ?_
    refine aw_cond rfl (fun hc => ?_) (fun hc => ?_)
    · replace H := ite_t hc H
      refine aw_skip ?_
      refine nx_seq ?_
      refine aw_seq ?_
      refine aw_jn (fun x7 : _root_.List api_Member => (⟨[(0, (e_s_api_Member p0)), (1, (.int .i64 p1)), (5, (.own 1)), (6, (.int .i64 x1.1))], [(1, some (.arr 3 x7.length fun j => (e_api_Member (x7.getD j z_api_Member))))], 3⟩ : St)) H (fun x7 H => ?_) (fun j3 H => ?_)
      · refine nx_seq ?_
        refine aw_region1 (es := [_, _, _]) ⟨Step.plain rfl (does_move (.tmp 6) (.int .i64 x1.1) trivial), ⟨⟨rfl, trivial⟩, trivial, rfl⟩, rfl,
          Step.plain rfl (does_bin .add 3 3 (.tmp 12) (.const (.int .i64 1)) .i64 x1.1 1 (.int .i64 (IntKind.i64.wrap (x1.1 + 1))) trivial (fun _ => rfl) (bin_add _ _ _ _)), ⟨⟨rfl, trivial⟩, trivial, rfl⟩, rfl,
          Step.plain rfl (does_assign (.tmp 13) (.int .i64 (IntKind.i64.wrap (x1.1 + 1))) trivial), ⟨⟨rfl, trivial⟩, trivial, rfl⟩, rfl, rfl⟩ ?_
        exact nx_loop ((IntKind.i64.wrap (x1.1 + 1)), x7) H (cov_of (fun i => match i with | 1 => 1 | k => k) ⟨⟨_, rfl, ⟨rfl, (d_s_api_Member _).plain⟩⟩, ⟨_, rfl, ⟨rfl, trivial⟩⟩, ⟨_, rfl, ⟨rfl, Nat.le_of_ble_eq_true rfl⟩⟩, ⟨_, rfl, ⟨rfl, trivial⟩⟩, trivial⟩ ⟨⟨Nat.le_of_ble_eq_true rfl, _, _, rfl, rfl, ⟨rfl, rfl, fun _ => .inl ⟨rfl, (d_api_Member _).plain⟩⟩⟩, trivial⟩ rfl)
      · refine aw_block ?_
        obtain ⟨h4, H⟩ := ib_of H
        refine aw_region (es := [_, _, _, _, _, _, _]) ⟨Step.plain rfl (does_move (.tmp 0) (e_s_api_Member p0) trivial), ⟨⟨rfl, trivial⟩, trivial, rfl⟩, rfl,
          Step.plain rfl (does_move (.tmp 6) (.int .i64 x1.1) trivial), ⟨⟨rfl, trivial⟩, trivial, rfl⟩, rfl,
          Step.plain rfl (does_indexAddrs 22 3 p0.length 14 (fun j => (e_api_Member (p0.getD j z_api_Member))) (.tmp 15) .i64 x1.1 el22 trivial h4.1 h4.2), ⟨⟨rfl, rfl, trivial⟩, trivial, rfl⟩, rfl,
          Step.plain rfl (does_fieldAddrc 35 0 0 16 (e_api_Member (p0.getD x1.1.toNat z_api_Member)) fl35_0 rfl (Nat.le_of_ble_eq_true rfl) rfl), ⟨⟨rfl, trivial⟩, trivial, rfl⟩, rfl,
          Step.plain rfl (does_loadc 3 17 (.int .i64 ((p0.getD x1.1.toNat z_api_Member).Group)) ty3), ⟨⟨rfl, trivial⟩, trivial, rfl⟩, rfl,
          Step.plain rfl (does_move (.tmp 1) (.int .i64 p1) trivial), ⟨⟨rfl, trivial⟩, trivial, rfl⟩, rfl,
          Step.plain rfl (does_bin .eql 3 3 (.tmp 18) (.tmp 19) .i64 ((p0.getD x1.1.toNat z_api_Member).Group) p1 (.bool (((p0.getD x1.1.toNat z_api_Member).Group) == p1)) trivial trivial (bin_eql _ _ _ _)), ⟨⟨rfl, rfl, trivial⟩, trivial, rfl⟩, rfl, rfl⟩ ?_
        refine aw_cov (cov_prune (s1 := ⟨[(0, (e_s_api_Member p0)), (1, (.int .i64 p1)), (5, (.own 1)), (6, (.int .i64 x1.1)), (20, (.bool (((p0.getD x1.1.toNat z_api_Member).Group) == p1)))], [(1, some (.arr 3 x1.2.length fun j => (e_api_Member (x1.2.getD j z_api_Member))))], 2⟩) ⟨rfl, rfl, rfl, rfl, rfl, trivial⟩ ⟨rfl, trivial⟩ (Nat.le_refl _)) ?_
        refine aw_cond rfl (fun hc => ?_) (fun hc => ?_)
        · replace H := ite_t hc H
          obtain ⟨h5, H⟩ := ib_of H
          obtain ⟨h6, H⟩ := fit_of H
          refine aw_region1 (es := [_, _, _, _, _, _, _, _]) ⟨Step.plain rfl (does_move (.tmp 5) (.own 1) trivial), ⟨⟨rfl, trivial⟩, trivial, rfl⟩, rfl,
            Step.plain rfl (does_move (.tmp 0) (e_s_api_Member p0) trivial), ⟨⟨rfl, trivial⟩, trivial, rfl⟩, rfl,
            Step.plain rfl (does_move (.tmp 6) (.int .i64 x1.1) trivial), ⟨⟨rfl, trivial⟩, trivial, rfl⟩, rfl,
            Step.plain rfl (does_indexAddrs 22 3 p0.length 22 (fun j => (e_api_Member (p0.getD j z_api_Member))) (.tmp 23) .i64 x1.1 el22 trivial h5.1 h5.2), ⟨⟨rfl, rfl, trivial⟩, trivial, rfl⟩, rfl,
            Step.plain rfl (does_loadc 35 24 (e_api_Member (p0.getD x1.1.toNat z_api_Member)) ty35), ⟨⟨rfl, trivial⟩, trivial, rfl⟩, rfl,
            Step.plain rfl (does_buildSl 22 1 3 (e_api_Member z_api_Member) (fun j => (e_api_Member (([p0.getD x1.1.toNat z_api_Member] : _root_.List api_Member).getD j z_api_Member))) #[(0, (.tmp 25))] [(0, (.tmp 25))] [(0, (e_api_Member (p0.getD x1.1.toNat z_api_Member)))] rfl so22 (by decide) ⟨⟨rfl, trivial⟩, trivial⟩ ⟨⟨Nat.le_of_ble_eq_true rfl, rfl, rfl⟩, trivial⟩ (fun j h => match j, h with | 0, _ => rfl | k + 1, h => absurd h (by omega))), ⟨⟨rfl, trivial⟩, trivial, rfl⟩, rfl,
            Step.plain rfl (does_appendL e_api_Member z_api_Member x1.2 ([p0.getD x1.1.toNat z_api_Member] : _root_.List api_Member) 22 3 24 1 2 21 26 ap22 h6), ⟨⟨rfl, rfl, trivial⟩, ⟨rfl, trivial⟩, rfl⟩, rfl,
            Step.plain rfl (does_assign (.tmp 27) (.own 2) trivial), ⟨⟨rfl, trivial⟩, trivial, rfl⟩, rfl, rfl⟩ ?_
          refine nx_blk ?_
          exact nx_join ((x1.2 ++ ([p0.getD x1.1.toNat z_api_Member] : _root_.List api_Member))) H (cov_of (fun i => match i with | 1 => 2 | k => k) ⟨⟨_, rfl, ⟨rfl, (d_s_api_Member _).plain⟩⟩, ⟨_, rfl, ⟨rfl, trivial⟩⟩, ⟨_, rfl, ⟨rfl, Nat.le_of_ble_eq_true rfl⟩⟩, ⟨_, rfl, ⟨rfl, trivial⟩⟩, trivial⟩ ⟨⟨Nat.le_of_ble_eq_true rfl, _, _, rfl, rfl, ⟨rfl, rfl, fun _ => .inl ⟨rfl, (d_api_Member _).plain⟩⟩⟩, trivial⟩ rfl)
        · replace H := ite_f hc H
          refine aw_skip ?_
          refine nx_blk ?_
          exact nx_join (x1.2) H (cov_of (fun i => match i with | 1 => 1 | k => k) ⟨⟨_, rfl, ⟨rfl, (d_s_api_Member _).plain⟩⟩, ⟨_, rfl, ⟨rfl, trivial⟩⟩, ⟨_, rfl, ⟨rfl, Nat.le_of_ble_eq_true rfl⟩⟩, ⟨_, rfl, ⟨rfl, trivial⟩⟩, trivial⟩ ⟨⟨Nat.le_of_ble_eq_true rfl, _, _, rfl, rfl, ⟨rfl, rfl, fun _ => .inl ⟨rfl, (d_api_Member _).plain⟩⟩⟩, trivial⟩ rfl)
    · replace H := ite_f hc H
      refine aw_exit ?_
      refine ex_then ?_
      refine ex_then ?_
      refine ex_here ?_
      exact nx_ljoin (x1.2) H hsn2 (cov_prune ⟨rfl, trivial⟩ ⟨rfl, trivial⟩ (Nat.le_of_ble_eq_true rfl))

theorem congressref18_View_data (p0 : (_root_.List api_Member)) (p1 : Int) (r : (_root_.List api_Member)) (H : congressref18_View p0 p1 = some r) : FSpec Try.prog 14 [(e_s_api_Member p0), (.int .i64 p1)] (e_s_api_Member r) :=
  FSpecO.toData (fz := [0]) (congressref18_View_spec p0 p1 r H) (d_s_api_Member r) (.frz 0 _ _ _ rfl (fun _ => (d_api_Member _)) (by decide))

theorem congressref18_Keep_spec (p0 : (_root_.List api_Member)) (p1 : (Nat → Int)) (r : (_root_.List api_Member)) (H : congressref18_Keep p0 p1 = some r) : FSpecO Try.prog 16 [(e_s_api_Member p0), (e_a8_u32 p1)] [] 0 (.own 0) [(0, some (.arr 3 r.length fun j => (e_api_Member (r.getD j z_api_Member))))] 1 := by
  refine specO_of (fn := Try.f16) (args := [(e_s_api_Member p0), (e_a8_u32 p1)]) Try.func16 rfl (Nat.le_of_ble_eq_true rfl) ?_
  rintro ⟨G, w0, W, S, Sp⟩ hG
  cases hG
  unfold congressref18_Keep at H
  refine aw_region (es := [_, _]) ⟨Step.plain rfl (does_box 28 (.tmp 1) 0 (e_a8_u32 p1) trivial rfl), ⟨⟨rfl, trivial⟩, trivial, rfl⟩, rfl,
    Step.plain rfl (does_nil false 1 3 (fun j => (e_api_Member (([] : _root_.List api_Member).getD j z_api_Member)))), ⟨trivial, trivial, rfl⟩, rfl, rfl⟩ ?_
  refine aw_cov (cov_prune (s1 := ⟨[(0, (e_s_api_Member p0)), (3, (.ptr 0 0 []))], [(0, some (.var (e_a8_u32 p1)))], 2⟩) ⟨rfl, rfl, trivial⟩ ⟨rfl, trivial⟩ (Nat.le_refl _)) ?_
  refine aw_region (es := [_, _]) ⟨Step.plain rfl (does_buildOwn 22 0 3 2 (e_api_Member z_api_Member) (fun j => (e_api_Member (([] : _root_.List api_Member).getD j z_api_Member))) #[] [] [] rfl so22 (by decide) trivial trivial (fun j h => match j, h with  | k + 0, h => absurd h (by omega))), ⟨trivial, trivial, rfl⟩, rfl,
    Step.plain rfl (does_assign (.tmp 8) (.own 2) trivial), ⟨⟨rfl, trivial⟩, trivial, rfl⟩, rfl, rfl⟩ ?_
  refine aw_cov (cov_prune (s1 := ⟨[(0, (e_s_api_Member p0)), (3, (.ptr 0 0 [])), (5, (.own 2))], [(0, some (.var (e_a8_u32 p1))), (2, some (.arr 3 ([] : _root_.List api_Member).length fun j => (e_api_Member (([] : _root_.List api_Member).getD j z_api_Member))))], 3⟩) ⟨rfl, rfl, rfl, trivial⟩ ⟨rfl, rfl, trivial⟩ (Nat.le_refl _)) ?_
  refine aw_seq ?_
  refine aw_region (es := [_]) ⟨Step.plain rfl (does_assign (.const (.int .i64 0)) (.int .i64 0) (fun _ => rfl)), ⟨trivial, trivial, rfl⟩, rfl, rfl⟩ ?_
  refine aw_cov (cov_prune (s1 := ⟨[(0, (e_s_api_Member p0)), (3, (.ptr 0 0 [])), (5, (.own 2)), (6, (.int .i64 0))], [(0, some (.var (e_a8_u32 p1))), (2, some (.arr 3 ([] : _root_.List api_Member).length fun j => (e_api_Member (([] : _root_.List api_Member).getD j z_api_Member))))], 3⟩) ⟨rfl, rfl, rfl, rfl, trivial⟩ ⟨rfl, rfl, trivial⟩ (Nat.le_refl _)) ?_
  obtain ⟨wn2, hwn2, Hrn2⟩ := bnd H
  refine aw_meet (fun y10 : _root_.List api_Member => (⟨[(5, (.own 2))], [(2, some (.arr 3 y10.length fun j => (e_api_Member (y10.getD j z_api_Member))))], 3⟩ : St)) (fun y10 => Fl.nx y10 = wn2) (fun y10 hy => ?_) (aw_block (aw_runs (fun x1 : Int × _root_.List api_Member => (⟨[(0, (e_s_api_Member p0)), (3, (.ptr 0 0 [])), (5, (.own 2)), (6, (.int .i64 x1.1))], [(0, some (.var (e_a8_u32 p1))), (2, some (.arr 3 x1.2.length fun j => (e_api_Member (x1.2.getD j z_api_Member))))], 3⟩ : St)) hwn2 (cov_prune ⟨rfl, rfl, rfl, rfl, trivial⟩ ⟨rfl, rfl, trivial⟩ (Nat.le_of_ble_eq_true rfl)) (fun x1 st H hsn2 => ?_)))
  · have H := nx_of hy Hrn2
    refine nx_seq ?_
    refine aw_region (es := [_, _]) ⟨Step.plain rfl (does_move (.tmp 5) (.own 2) trivial), ⟨⟨rfl, trivial⟩, trivial, rfl⟩, rfl,
      Step.plain rfl (does_assign (.tmp 40) (.own 2) trivial), ⟨⟨rfl, trivial⟩, trivial, rfl⟩, rfl, rfl⟩ ?_
    refine aw_cov (cov_prune (s1 := ⟨[(4, (.own 2))], [(2, some (.arr 3 y10.length fun j => (e_api_Member (y10.getD j z_api_Member))))], 3⟩) ⟨rfl, trivial⟩ ⟨rfl, trivial⟩ (Nat.le_refl _)) ?_
    refine aw_ret ?_
    exact fun a w hr => ⟨_, [(.own 0)], reach_of hr (cov_to (s1 := ⟨[(4, (.own 0))], [(0, some (.arr 3 y10.length fun j => (e_api_Member (y10.getD j z_api_Member))))], 1⟩) (fun i => match i with | 0 => 2 | k => k) [] ⟨⟨_, rfl, .own 0 _ _ (Nat.le_of_ble_eq_true rfl) rfl rfl (Box.like_refl _)⟩, trivial⟩ ⟨⟨Nat.le_of_ble_eq_true rfl, _, _, rfl, rfl, boxTo_arr (fun _ => (d_api_Member _))⟩, trivial⟩ rfl rfl), ⟨rfl, trivial⟩, by decide, by cases H; rfl, by cases H; exact ⟨rfl, trivial⟩, Nat.le_of_ble_eq_true rfl⟩
  · refine aw_seq ?_
    refine aw_region (es := [_, _, _, _]) ⟨Step.plain rfl (does_move (.tmp 6) (.int .i64 x1.1) trivial), ⟨⟨rfl, trivial⟩, trivial, rfl⟩, rfl,
      Step.plain rfl (does_move (.tmp 0) (e_s_api_Member p0) trivial), ⟨⟨rfl, trivial⟩, trivial, rfl⟩, rfl,
      Step.plain rfl (does_lens 22 3 p0.length 10 (fun j => (e_api_Member (p0.getD j z_api_Member))) el22), ⟨⟨rfl, trivial⟩, trivial, rfl⟩, rfl,
      Step.plain rfl (does_bin .lss 3 3 (.tmp 9) (.tmp 11) .i64 x1.1 (p0.length : Int) (.bool (decide (x1.1 < (p0.length : Int)))) trivial trivial (bin_lss _ _ _ _)), ⟨⟨rfl, rfl, trivial⟩, trivial, rfl⟩, rfl, rfl⟩ ?_
    refine aw_cov (cov_prune (s1 := ⟨[(0, (e_s_api_Member p0)), (3, (.ptr 0 0 [])), (5, (.own 2)), (6, (.int .i64 x1.1)), (12, (.bool (decide (x1.1 < (p0.length : Int)))))], [(0, some (.var (e_a8_u32 p1))), (2, some (.arr 3 x1.2.length fun j => (e_api_Member (x1.2.getD j z_api_Member))))], 3⟩) ⟨rfl, rfl, rfl, rfl, rfl, trivial⟩ ⟨rfl, rfl, trivial⟩ (Nat.le_refl _)) ?_
    refine aw_cond rfl (fun hc => ?_) (fun hc => ?_)
    · replace H := ite_t hc H
      refine aw_skip ?_
      refine nx_seq ?_
      refine aw_seq ?_
      refine aw_jn (fun x9 : _root_.List api_Member => (⟨[(0, (e_s_api_Member p0)), (3, (.ptr 0 0 [])), (5, (.own 2)), (6, (.int .i64 x1.1))], [(0, some (.var (e_a8_u32 p1))), (2, some (.arr 3 x9.length fun j => (e_api_Member (x9.getD j z_api_Member))))], 4⟩ : St)) H (fun x9 H => ?_) (fun j3 H => ?_)
      · refine nx_seq ?_
        refine aw_region1 (es := [_, _, _]) ⟨Step.plain rfl (does_move (.tmp 6) (.int .i64 x1.1) trivial), ⟨⟨rfl, trivial⟩, trivial, rfl⟩, rfl,
          Step.plain rfl (does_bin .add 3 3 (.tmp 13) (.const (.int .i64 1)) .i64 x1.1 1 (.int .i64 (IntKind.i64.wrap (x1.1 + 1))) trivial (fun _ => rfl) (bin_add _ _ _ _)), ⟨⟨rfl, trivial⟩, trivial, rfl⟩, rfl,
          Step.plain rfl (does_assign (.tmp 14) (.int .i64 (IntKind.i64.wrap (x1.1 + 1))) trivial), ⟨⟨rfl, trivial⟩, trivial, rfl⟩, rfl, rfl⟩ ?_
        exact nx_loop ((IntKind.i64.wrap (x1.1 + 1)), x9) H (cov_of (fun i => match i with | 0 => 0 | 2 => 2 | k => k) ⟨⟨_, rfl, ⟨rfl, (d_s_api_Member _).plain⟩⟩, ⟨_, rfl, ⟨rfl, Nat.le_of_ble_eq_true rfl⟩⟩, ⟨_, rfl, ⟨rfl, Nat.le_of_ble_eq_true rfl⟩⟩, ⟨_, rfl, ⟨rfl, trivial⟩⟩, trivial⟩ ⟨⟨Nat.le_of_ble_eq_true rfl, _, _, rfl, rfl, .inl ⟨rfl, (d_a8_u32 _).plain⟩⟩, ⟨Nat.le_of_ble_eq_true rfl, _, _, rfl, rfl, ⟨rfl, rfl, fun _ => .inl ⟨rfl, (d_api_Member _).plain⟩⟩⟩, trivial⟩ rfl)
      · refine aw_block ?_
        obtain ⟨h4, H⟩ := ib_of H
        refine aw_region (es := [_, _, _, _, _, _]) ⟨Step.plain rfl (does_move (.tmp 0) (e_s_api_Member p0) trivial), ⟨⟨rfl, trivial⟩, trivial, rfl⟩, rfl,
          Step.plain rfl (does_move (.tmp 6) (.int .i64 x1.1) trivial), ⟨⟨rfl, trivial⟩, trivial, rfl⟩, rfl,
          Step.plain rfl (does_indexAddrs 22 3 p0.length 15 (fun j => (e_api_Member (p0.getD j z_api_Member))) (.tmp 16) .i64 x1.1 el22 trivial h4.1 h4.2), ⟨⟨rfl, rfl, trivial⟩, trivial, rfl⟩, rfl,
          Step.plain rfl (does_fieldAddrc 35 1 1 17 (e_api_Member (p0.getD x1.1.toNat z_api_Member)) fl35_1 rfl (Nat.le_of_ble_eq_true rfl) rfl), ⟨⟨rfl, trivial⟩, trivial, rfl⟩, rfl,
          Step.plain rfl (does_loadc 3 18 (.int .i64 ((p0.getD x1.1.toNat z_api_Member).Daemon)) ty3), ⟨⟨rfl, trivial⟩, trivial, rfl⟩, rfl,
          Step.plain rfl (does_assign (.tmp 19) (.int .i64 ((p0.getD x1.1.toNat z_api_Member).Daemon)) trivial), ⟨⟨rfl, trivial⟩, trivial, rfl⟩, rfl, rfl⟩ ?_
        refine aw_cov (cov_prune (s1 := ⟨[(0, (e_s_api_Member p0)), (3, (.ptr 0 0 [])), (5, (.own 2)), (6, (.int .i64 x1.1)), (7, (.int .i64 ((p0.getD x1.1.toNat z_api_Member).Daemon)))], [(0, some (.var (e_a8_u32 p1))), (2, some (.arr 3 x1.2.length fun j => (e_api_Member (x1.2.getD j z_api_Member))))], 3⟩) ⟨rfl, rfl, rfl, rfl, rfl, trivial⟩ ⟨rfl, rfl, trivial⟩ (Nat.le_refl _)) ?_
        obtain ⟨h5, H⟩ := ibg_of H
        refine aw_region (es := [_, _, _, _, _, _, _, _, _, _, _, _, _]) ⟨Step.plain rfl (does_move (.tmp 7) (.int .i64 ((p0.getD x1.1.toNat z_api_Member).Daemon)) trivial), ⟨⟨rfl, trivial⟩, trivial, rfl⟩, rfl,
          Step.plain rfl (does_bin .geq 3 3 (.tmp 20) (.const (.int .i64 0)) .i64 ((p0.getD x1.1.toNat z_api_Member).Daemon) 0 (.bool (decide (((p0.getD x1.1.toNat z_api_Member).Daemon) ≥ 0))) trivial (fun _ => rfl) (bin_geq _ _ _ _)), ⟨⟨rfl, trivial⟩, trivial, rfl⟩, rfl,
          Step.plain rfl (does_move (.tmp 21) (.bool (decide (((p0.getD x1.1.toNat z_api_Member).Daemon) ≥ 0))) trivial), ⟨⟨rfl, trivial⟩, trivial, rfl⟩, rfl,
          Step.guarded rfl rfl rfl rfl (fun hc => does_move (.tmp 7) (.int .i64 ((p0.getD x1.1.toNat z_api_Member).Daemon)) trivial), ⟨⟨rfl, rfl, trivial⟩, trivial, rfl⟩, rfl,
          Step.guarded rfl rfl rfl rfl (fun hc => Does.strip (n' := [(23, (.opt (decide (((p0.getD x1.1.toNat z_api_Member).Daemon) ≥ 0)) (.int .i64 ((p0.getD x1.1.toNat z_api_Member).Daemon))))]) (n := [(23, (.int .i64 ((p0.getD x1.1.toNat z_api_Member).Daemon)))]) ⟨(.opt _ _ hc), trivial⟩ (does_bin .leq 3 3 (.tmp 23) (.const (.int .i64 7)) .i64 ((p0.getD x1.1.toNat z_api_Member).Daemon) 7 (.bool (decide (((p0.getD x1.1.toNat z_api_Member).Daemon) ≤ 7))) trivial (fun _ => rfl) (bin_leq _ _ _ _))), ⟨⟨rfl, rfl, trivial⟩, trivial, rfl⟩, rfl,
          Step.plain rfl (does_and 22 24 (decide (((p0.getD x1.1.toNat z_api_Member).Daemon) ≥ 0)) (decide (((p0.getD x1.1.toNat z_api_Member).Daemon) ≤ 7))), ⟨⟨rfl, rfl, trivial⟩, trivial, rfl⟩, rfl,
          Step.plain rfl (does_move (.tmp 25) (.bool ((decide (((p0.getD x1.1.toNat z_api_Member).Daemon) ≥ 0)) && (decide (((p0.getD x1.1.toNat z_api_Member).Daemon) ≤ 7)))) trivial), ⟨⟨rfl, trivial⟩, trivial, rfl⟩, rfl,
          Step.guarded rfl rfl rfl rfl (fun hc => does_move (.tmp 7) (.int .i64 ((p0.getD x1.1.toNat z_api_Member).Daemon)) trivial), ⟨⟨rfl, rfl, trivial⟩, trivial, rfl⟩, rfl,
          Step.guarded rfl rfl rfl rfl (fun hc => Does.strip (n' := [(27, (.opt ((decide (((p0.getD x1.1.toNat z_api_Member).Daemon) ≥ 0)) && (decide (((p0.getD x1.1.toNat z_api_Member).Daemon) ≤ 7))) (.int .i64 ((p0.getD x1.1.toNat z_api_Member).Daemon))))]) (n := [(27, (.int .i64 ((p0.getD x1.1.toNat z_api_Member).Daemon)))]) ⟨(.opt _ _ hc), trivial⟩ (does_bin .and 3 3 (.tmp 27) (.const (.int .i64 7)) .i64 ((p0.getD x1.1.toNat z_api_Member).Daemon) 7 (.int .i64 (iand .i64 ((p0.getD x1.1.toNat z_api_Member).Daemon) 7)) trivial (fun _ => rfl) (bin_and _ _ _ _))), ⟨⟨rfl, rfl, trivial⟩, trivial, rfl⟩, rfl,
          Step.guarded rfl rfl rfl rfl (fun hc => Does.strip (n' := [(3, (.ptr 0 0 [])), (28, (.opt ((decide (((p0.getD x1.1.toNat z_api_Member).Daemon) ≥ 0)) && (decide (((p0.getD x1.1.toNat z_api_Member).Daemon) ≤ 7))) (.int .i64 (iand .i64 ((p0.getD x1.1.toNat z_api_Member).Daemon) 7))))]) (n := [(3, (.ptr 0 0 [])), (28, (.int .i64 (iand .i64 ((p0.getD x1.1.toNat z_api_Member).Daemon) 7)))]) ⟨(.same _), (.opt _ _ hc), trivial⟩ (does_indexAddr 28 8 1 3 0 0 [] (.var (e_a8_u32 p1)) (.tmp 28) .i64 (iand .i64 ((p0.getD x1.1.toNat z_api_Member).Daemon) 7) el28 trivial (h5 hc).1 (h5 hc).2)), ⟨⟨rfl, rfl, rfl, trivial⟩, ⟨rfl, trivial⟩, rfl⟩, rfl,
          Step.guarded rfl rfl rfl rfl (fun hc => Does.strip (n' := [(29, (.opt ((decide (((p0.getD x1.1.toNat z_api_Member).Daemon) ≥ 0)) && (decide (((p0.getD x1.1.toNat z_api_Member).Daemon) ≤ 7))) (.ptr 0 (0 + (iand .i64 ((p0.getD x1.1.toNat z_api_Member).Daemon) 7).toNat * 1) [(iand .i64 ((p0.getD x1.1.toNat z_api_Member).Daemon) 7).toNat])))]) (n := [(29, (.ptr 0 (0 + (iand .i64 ((p0.getD x1.1.toNat z_api_Member).Daemon) 7).toNat * 1) [(iand .i64 ((p0.getD x1.1.toNat z_api_Member).Daemon) 7).toNat]))]) ⟨(.opt _ _ hc), trivial⟩ (does_load 26 29 0 (0 + (iand .i64 ((p0.getD x1.1.toNat z_api_Member).Daemon) 7).toNat * 1) [(iand .i64 ((p0.getD x1.1.toNat z_api_Member).Daemon) 7).toNat] (.var (e_a8_u32 p1)) (.int .u32 (p1 ((iand .i64 ((p0.getD x1.1.toNat z_api_Member).Daemon) 7).toNat))) ⟨rfl, (ixl (h5 hc)), trivial⟩ rfl rfl ty26)), ⟨⟨rfl, rfl, trivial⟩, ⟨rfl, trivial⟩, rfl⟩, rfl,
          Step.guarded rfl rfl rfl rfl (fun hc => Does.strip (n' := [(30, (.opt ((decide (((p0.getD x1.1.toNat z_api_Member).Daemon) ≥ 0)) && (decide (((p0.getD x1.1.toNat z_api_Member).Daemon) ≤ 7))) (.int .u32 (p1 ((iand .i64 ((p0.getD x1.1.toNat z_api_Member).Daemon) 7).toNat)))))]) (n := [(30, (.int .u32 (p1 ((iand .i64 ((p0.getD x1.1.toNat z_api_Member).Daemon) 7).toNat))))]) ⟨(.opt _ _ hc), trivial⟩ (does_bin .neq 26 26 (.tmp 30) (.const (.int .u32 0)) .u32 (p1 ((iand .i64 ((p0.getD x1.1.toNat z_api_Member).Daemon) 7).toNat)) 0 (.bool ((p1 ((iand .i64 ((p0.getD x1.1.toNat z_api_Member).Daemon) 7).toNat)) != 0)) trivial (fun _ => rfl) (bin_neq _ _ _ _))), ⟨⟨rfl, rfl, trivial⟩, trivial, rfl⟩, rfl,
          Step.plain rfl (does_and 26 31 ((decide (((p0.getD x1.1.toNat z_api_Member).Daemon) ≥ 0)) && (decide (((p0.getD x1.1.toNat z_api_Member).Daemon) ≤ 7))) ((p1 ((iand .i64 ((p0.getD x1.1.toNat z_api_Member).Daemon) 7).toNat)) != 0)), ⟨⟨rfl, rfl, trivial⟩, trivial, rfl⟩, rfl, rfl⟩ ?_
        obtain ⟨v6, hv6, H⟩ := lt_of H
        refine aw_cov (cov_prune (s1 := ⟨[(0, (e_s_api_Member p0)), (3, (.ptr 0 0 [])), (5, (.own 2)), (6, (.int .i64 x1.1)), (32, (.bool v6))], [(0, some (.var (e_a8_u32 p1))), (2, some (.arr 3 x1.2.length fun j => (e_api_Member (x1.2.getD j z_api_Member))))], 3⟩) ⟨rfl, rfl, rfl, rfl, (by subst hv6; rfl), trivial⟩ ⟨rfl, rfl, trivial⟩ (Nat.le_refl _)) ?_
        refine aw_cond rfl (fun hc => ?_) (fun hc => ?_)
        · replace H := ite_t hc H
          obtain ⟨h7, H⟩ := ib_of H
          obtain ⟨h8, H⟩ := fit_of H
          refine aw_region1 (es := [_, _, _, _, _, _, _, _]) ⟨Step.plain rfl (does_move (.tmp 5) (.own 2) trivial), ⟨⟨rfl, trivial⟩, trivial, rfl⟩, rfl,
            Step.plain rfl (does_move (.tmp 0) (e_s_api_Member p0) trivial), ⟨⟨rfl, trivial⟩, trivial, rfl⟩, rfl,
            Step.plain rfl (does_move (.tmp 6) (.int .i64 x1.1) trivial), ⟨⟨rfl, trivial⟩, trivial, rfl⟩, rfl,
            Step.plain rfl (does_indexAddrs 22 3 p0.length 34 (fun j => (e_api_Member (p0.getD j z_api_Member))) (.tmp 35) .i64 x1.1 el22 trivial h7.1 h7.2), ⟨⟨rfl, rfl, trivial⟩, trivial, rfl⟩, rfl,
            Step.plain rfl (does_loadc 35 36 (e_api_Member (p0.getD x1.1.toNat z_api_Member)) ty35), ⟨⟨rfl, trivial⟩, trivial, rfl⟩, rfl,
            Step.plain rfl (does_buildSl 22 1 3 (e_api_Member z_api_Member) (fun j => (e_api_Member (([p0.getD x1.1.toNat z_api_Member] : _root_.List api_Member).getD j z_api_Member))) #[(0, (.tmp 37))] [(0, (.tmp 37))] [(0, (e_api_Member (p0.getD x1.1.toNat z_api_Member)))] rfl so22 (by decide) ⟨⟨rfl, trivial⟩, trivial⟩ ⟨⟨Nat.le_of_ble_eq_true rfl, rfl, rfl⟩, trivial⟩ (fun j h => match j, h with | 0, _ => rfl | k + 1, h => absurd h (by omega))), ⟨⟨rfl, trivial⟩, trivial, rfl⟩, rfl,
            Step.plain rfl (does_appendL e_api_Member z_api_Member x1.2 ([p0.getD x1.1.toNat z_api_Member] : _root_.List api_Member) 22 3 24 2 3 33 38 ap22 h8), ⟨⟨rfl, rfl, trivial⟩, ⟨rfl, trivial⟩, rfl⟩, rfl,
            Step.plain rfl (does_assign (.tmp 39) (.own 3) trivial), ⟨⟨rfl, trivial⟩, trivial, rfl⟩, rfl, rfl⟩ ?_
          refine nx_blk ?_
          exact nx_join ((x1.2 ++ ([p0.getD x1.1.toNat z_api_Member] : _root_.List api_Member))) H (cov_of (fun i => match i with | 0 => 0 | 2 => 3 | k => k) ⟨⟨_, rfl, ⟨rfl, (d_s_api_Member _).plain⟩⟩, ⟨_, rfl, ⟨rfl, Nat.le_of_ble_eq_true rfl⟩⟩, ⟨_, rfl, ⟨rfl, Nat.le_of_ble_eq_true rfl⟩⟩, ⟨_, rfl, ⟨rfl, trivial⟩⟩, trivial⟩ ⟨⟨Nat.le_of_ble_eq_true rfl, _, _, rfl, rfl, .inl ⟨rfl, (d_a8_u32 _).plain⟩⟩, ⟨Nat.le_of_ble_eq_true rfl, _, _, rfl, rfl, ⟨rfl, rfl, fun _ => .inl ⟨rfl, (d_api_Member _).plain⟩⟩⟩, trivial⟩ rfl)
        · replace H := ite_f hc H
          refine aw_skip ?_
          refine nx_blk ?_
          exact nx_join (x1.2) H (cov_of (fun i => match i with | 0 => 0 | 2 => 2 | k => k) ⟨⟨_, rfl, ⟨rfl, (d_s_api_Member _).plain⟩⟩, ⟨_, rfl, ⟨rfl, Nat.le_of_ble_eq_true rfl⟩⟩, ⟨_, rfl, ⟨rfl, Nat.le_of_ble_eq_true rfl⟩⟩, ⟨_, rfl, ⟨rfl, trivial⟩⟩, trivial⟩ ⟨⟨Nat.le_of_ble_eq_true rfl, _, _, rfl, rfl, .inl ⟨rfl, (d_a8_u32 _).plain⟩⟩, ⟨Nat.le_of_ble_eq_true rfl, _, _, rfl, rfl, ⟨rfl, rfl, fun _ => .inl ⟨rfl, (d_api_Member _).plain⟩⟩⟩, trivial⟩ rfl)
    · replace H := ite_f hc H
      refine aw_exit ?_
      refine ex_then ?_
      refine ex_then ?_
      refine ex_here ?_
      exact nx_ljoin (x1.2) H hsn2 (cov_prune ⟨rfl, trivial⟩ ⟨rfl, trivial⟩ (Nat.le_of_ble_eq_true rfl))

theorem congressref18_Keep_data (p0 : (_root_.List api_Member)) (p1 : (Nat → Int)) (r : (_root_.List api_Member)) (H : congressref18_Keep p0 p1 = some r) : FSpec Try.prog 16 [(e_s_api_Member p0), (e_a8_u32 p1)] (e_s_api_Member r) :=
  FSpecO.toData (fz := [0]) (congressref18_Keep_spec p0 p1 r H) (d_s_api_Member r) (.frz 0 _ _ _ rfl (fun _ => (d_api_Member _)) (by decide))

theorem congressref18_May_spec (p0 : (_root_.List api_Member)) (r : Bool) (H : congressref18_May p0 = some r) : FSpec Try.prog 18 [(e_s_api_Member p0)] (.bool r) := by
  refine spec_of (fn := Try.f18) (args := [(e_s_api_Member p0)]) Try.func18 rfl (Nat.le_of_ble_eq_true rfl) ?_
  rintro ⟨G, w0, W, S, Sp⟩ hG
  cases hG
  unfold congressref18_May at H
  refine aw_region (es := [_]) ⟨Step.plain rfl (does_assign (.const (.bool false)) (.bool false) (fun _ => rfl)), ⟨trivial, trivial, rfl⟩, rfl, rfl⟩ ?_
  refine aw_cov (cov_prune (s1 := ⟨[(0, (e_s_api_Member p0))], [], 0⟩) ⟨rfl, trivial⟩ trivial (Nat.le_refl _)) ?_
  refine aw_seq ?_
  refine aw_region (es := [_]) ⟨Step.plain rfl (does_assign (.const (.int .i64 0)) (.int .i64 0) (fun _ => rfl)), ⟨trivial, trivial, rfl⟩, rfl, rfl⟩ ?_
  refine aw_cov (cov_prune (s1 := ⟨[(0, (e_s_api_Member p0)), (3, (.int .i64 0))], [], 0⟩) ⟨rfl, rfl, trivial⟩ trivial (Nat.le_refl _)) ?_
  obtain ⟨wn2, hwn2, Hrn2⟩ := bnd H
  refine aw_meet (fun y10 : Unit => (⟨[], [], 0⟩ : St)) (fun y10 => Fl.nx y10 = wn2) (fun y10 hy => ?_) (aw_block (aw_runs (fun x1 : Int => (⟨[(0, (e_s_api_Member p0)), (3, (.int .i64 x1))], [], 0⟩ : St)) hwn2 (cov_prune ⟨rfl, rfl, trivial⟩ trivial (Nat.le_of_ble_eq_true rfl)) (fun x1 st H hsn2 => ?_)))
  · have H := nx_of hy Hrn2
    refine nx_seq ?_
    refine aw_region (es := [_]) ⟨Step.plain rfl (does_assign (.const (.bool true)) (.bool true) (fun _ => rfl)), ⟨trivial, trivial, rfl⟩, rfl, rfl⟩ ?_
    refine aw_cov (cov_prune (s1 := ⟨[(2, (.bool true))], [], 0⟩) ⟨rfl, trivial⟩ trivial (Nat.le_refl _)) ?_
    refine aw_ret ?_
    exact fun a w hr => ⟨_, [(.bool true)], hr, ⟨⟨_, rfl, .data (.bool true) trivial⟩, trivial⟩, by decide, by cases H; rfl⟩
  · refine aw_seq ?_
    refine aw_region (es := [_, _, _, _]) ⟨Step.plain rfl (does_move (.tmp 3) (.int .i64 x1) trivial), ⟨⟨rfl, trivial⟩, trivial, rfl⟩, rfl,
      Step.plain rfl (does_move (.tmp 0) (e_s_api_Member p0) trivial), ⟨⟨rfl, trivial⟩, trivial, rfl⟩, rfl,
      Step.plain rfl (does_lens 22 3 p0.length 5 (fun j => (e_api_Member (p0.getD j z_api_Member))) el22), ⟨⟨rfl, trivial⟩, trivial, rfl⟩, rfl,
      Step.plain rfl (does_bin .lss 3 3 (.tmp 4) (.tmp 6) .i64 x1 (p0.length : Int) (.bool (decide (x1 < (p0.length : Int)))) trivial trivial (bin_lss _ _ _ _)), ⟨⟨rfl, rfl, trivial⟩, trivial, rfl⟩, rfl, rfl⟩ ?_
    refine aw_cov (cov_prune (s1 := ⟨[(0, (e_s_api_Member p0)), (3, (.int .i64 x1)), (7, (.bool (decide (x1 < (p0.length : Int)))))], [], 0⟩) ⟨rfl, rfl, rfl, trivial⟩ trivial (Nat.le_refl _)) ?_
    refine aw_cond rfl (fun hc => ?_) (fun hc => ?_)
    · replace H := ite_t hc H
      refine aw_skip ?_
      refine nx_seq ?_
      refine aw_seq ?_
      refine aw_block ?_
      obtain ⟨h3, H⟩ := ib_of H
      obtain ⟨v4, h5, H⟩ := bnd H
      obtain ⟨h6, H⟩ := ibg_of H
      obtain ⟨h7, H⟩ := ibg_of H
      obtain ⟨v8, h9, H⟩ := whn_of H
      refine aw_draw (es := [_, _, _, _, _, _, _, _, _, _, _, _, _, _, _, _, _, _, _, _, _, _, _]) (mixed) ⟨Step.plain rfl (does_move (.tmp 0) (e_s_api_Member p0) trivial), ⟨⟨rfl, trivial⟩, trivial, rfl⟩, rfl,
        Step.plain rfl (does_move (.tmp 3) (.int .i64 x1) trivial), ⟨⟨rfl, trivial⟩, trivial, rfl⟩, rfl,
        Step.plain rfl (does_indexAddrs 22 3 p0.length 10 (fun j => (e_api_Member (p0.getD j z_api_Member))) (.tmp 11) .i64 x1 el22 trivial h3.1 h3.2), ⟨⟨rfl, rfl, trivial⟩, trivial, rfl⟩, rfl,
        Step.plain rfl (does_loadc 35 12 (e_api_Member (p0.getD x1.toNat z_api_Member)) ty35), ⟨⟨rfl, trivial⟩, trivial, rfl⟩, rfl,
        Step.plain rfl (does_call 28 0 (fun _ => .any) (.func 28) [(.tmp 13)] [(e_api_Member (p0.getD x1.toNat z_api_Member))] [] true [(e_api_Member (p0.getD x1.toNat z_api_Member))] (.bool v4) _ _ rfl fo28 rfl ⟨trivial, trivial⟩ ⟨.data _ (d_api_Member (p0.getD x1.toNat z_api_Member)), trivial⟩ (congressref18_Right_spec (p0.getD x1.toNat z_api_Member) _ h5) trivial), ⟨⟨rfl, trivial⟩, trivial, rfl⟩, rfl,
        Step.plain rfl (does_not 4 (.tmp 14) v4 trivial), ⟨⟨rfl, trivial⟩, trivial, rfl⟩, rfl,
        Step.plain rfl (does_move (.tmp 15) (.bool (!v4)) trivial), ⟨⟨rfl, trivial⟩, trivial, rfl⟩, rfl,
        Step.guarded rfl rfl rfl rfl (fun hc => does_move (.tmp 3) (.int .i64 x1) trivial), ⟨⟨rfl, rfl, trivial⟩, trivial, rfl⟩, rfl,
        Step.guarded rfl rfl rfl rfl (fun hc => Does.strip (n' := [(17, (.opt (!(!v4)) (.int .i64 x1)))]) (n := [(17, (.int .i64 x1))]) ⟨(.opt _ _ hc), trivial⟩ (does_bin .gtr 3 3 (.tmp 17) (.const (.int .i64 0)) .i64 x1 0 (.bool (decide (x1 > 0))) trivial (fun _ => rfl) (bin_gtr _ _ _ _))), ⟨⟨rfl, rfl, trivial⟩, trivial, rfl⟩, rfl,
        Step.guarded rfl rfl rfl rfl (fun hc => Does.strip (n' := [(18, (.opt (!(!v4)) (.bool (decide (x1 > 0)))))]) (n := [(18, (.bool (decide (x1 > 0))))]) ⟨(.opt _ _ hc), trivial⟩ (does_move (.tmp 18) (.bool (decide (x1 > 0))) trivial)), ⟨⟨rfl, rfl, trivial⟩, trivial, rfl⟩, rfl,
        Step.guarded rfl rfl rfl rfl (fun hc => does_move (.tmp 0) (e_s_api_Member p0) trivial), ⟨⟨rfl, rfl, trivial⟩, trivial, rfl⟩, rfl,
        Step.guarded rfl rfl rfl rfl (fun hc => does_move (.tmp 3) (.int .i64 x1) trivial), ⟨⟨rfl, rfl, trivial⟩, trivial, rfl⟩, rfl,
        Step.guarded rfl rfl rfl rfl (fun hc => Does.strip (n' := [(21, (.opt ((!(!v4)) && (decide (x1 > 0))) (.int .i64 x1)))]) (n := [(21, (.int .i64 x1))]) ⟨(.opt _ _ hc), trivial⟩ (does_bin .sub 3 3 (.tmp 21) (.const (.int .i64 1)) .i64 x1 1 (.int .i64 (IntKind.i64.wrap (x1 - 1))) trivial (fun _ => rfl) (bin_sub _ _ _ _))), ⟨⟨rfl, rfl, trivial⟩, trivial, rfl⟩, rfl,
        Step.guarded rfl rfl rfl rfl (fun hc => Does.strip (n' := [(20, (.opt ((!(!v4)) && (decide (x1 > 0))) (e_s_api_Member p0))), (22, (.opt ((!(!v4)) && (decide (x1 > 0))) (.int .i64 (IntKind.i64.wrap (x1 - 1)))))]) (n := [(20, (e_s_api_Member p0)), (22, (.int .i64 (IntKind.i64.wrap (x1 - 1))))]) ⟨(.opt _ _ hc), (.opt _ _ hc), trivial⟩ (does_indexAddrs 22 3 p0.length 20 (fun j => (e_api_Member (p0.getD j z_api_Member))) (.tmp 22) .i64 (IntKind.i64.wrap (x1 - 1)) el22 trivial (h6 hc).1 (h6 hc).2)), ⟨⟨rfl, rfl, rfl, trivial⟩, trivial, rfl⟩, rfl,
        Step.guarded rfl rfl rfl rfl (fun hc => Does.strip (n' := [(23, (.opt ((!(!v4)) && (decide (x1 > 0))) (.cptr (e_api_Member (p0.getD ((IntKind.i64.wrap (x1 - 1)).toNat) z_api_Member)))))]) (n := [(23, (.cptr (e_api_Member (p0.getD ((IntKind.i64.wrap (x1 - 1)).toNat) z_api_Member))))]) ⟨(.opt _ _ hc), trivial⟩ (does_loadc 35 23 (e_api_Member (p0.getD ((IntKind.i64.wrap (x1 - 1)).toNat) z_api_Member)) ty35)), ⟨⟨rfl, rfl, trivial⟩, trivial, rfl⟩, rfl,
        Step.guarded rfl rfl rfl rfl (fun hc => does_move (.tmp 0) (e_s_api_Member p0) trivial), ⟨⟨rfl, rfl, trivial⟩, trivial, rfl⟩, rfl,
        Step.guarded rfl rfl rfl rfl (fun hc => does_move (.tmp 3) (.int .i64 x1) trivial), ⟨⟨rfl, rfl, trivial⟩, trivial, rfl⟩, rfl,
        Step.guarded rfl rfl rfl rfl (fun hc => Does.strip (n' := [(25, (.opt ((!(!v4)) && (decide (x1 > 0))) (e_s_api_Member p0))), (26, (.opt ((!(!v4)) && (decide (x1 > 0))) (.int .i64 x1)))]) (n := [(25, (e_s_api_Member p0)), (26, (.int .i64 x1))]) ⟨(.opt _ _ hc), (.opt _ _ hc), trivial⟩ (does_indexAddrs 22 3 p0.length 25 (fun j => (e_api_Member (p0.getD j z_api_Member))) (.tmp 26) .i64 x1 el22 trivial (h7 hc).1 (h7 hc).2)), ⟨⟨rfl, rfl, rfl, trivial⟩, trivial, rfl⟩, rfl,
        Step.guarded rfl rfl rfl rfl (fun hc => Does.strip (n' := [(27, (.opt ((!(!v4)) && (decide (x1 > 0))) (.cptr (e_api_Member (p0.getD x1.toNat z_api_Member)))))]) (n := [(27, (.cptr (e_api_Member (p0.getD x1.toNat z_api_Member))))]) ⟨(.opt _ _ hc), trivial⟩ (does_loadc 35 27 (e_api_Member (p0.getD x1.toNat z_api_Member)) ty35)), ⟨⟨rfl, rfl, trivial⟩, trivial, rfl⟩, rfl,
        Step.guarded rfl rfl rfl rfl (fun hc => Does.strip (n' := [(24, (.opt ((!(!v4)) && (decide (x1 > 0))) (e_api_Member (p0.getD ((IntKind.i64.wrap (x1 - 1)).toNat) z_api_Member)))), (28, (.opt ((!(!v4)) && (decide (x1 > 0))) (e_api_Member (p0.getD x1.toNat z_api_Member))))]) (n := [(24, (e_api_Member (p0.getD ((IntKind.i64.wrap (x1 - 1)).toNat) z_api_Member))), (28, (e_api_Member (p0.getD x1.toNat z_api_Member)))]) ⟨(.opt _ _ hc), (.opt _ _ hc), trivial⟩ (does_call 10 0 (fun _ => .any) (.func 10) [(.tmp 24), (.tmp 28)] [(e_api_Member (p0.getD ((IntKind.i64.wrap (x1 - 1)).toNat) z_api_Member)), (e_api_Member (p0.getD x1.toNat z_api_Member))] [] true [(e_api_Member (p0.getD ((IntKind.i64.wrap (x1 - 1)).toNat) z_api_Member)), (e_api_Member (p0.getD x1.toNat z_api_Member))] (.bool v8) _ _ rfl fo10 rfl ⟨trivial, trivial, trivial⟩ ⟨.data _ (d_api_Member (p0.getD ((IntKind.i64.wrap (x1 - 1)).toNat) z_api_Member)), .data _ (d_api_Member (p0.getD x1.toNat z_api_Member)), trivial⟩ (congressref18_Less_spec (p0.getD ((IntKind.i64.wrap (x1 - 1)).toNat) z_api_Member) (p0.getD x1.toNat z_api_Member) _ (h9 hc)) trivial)), ⟨⟨rfl, rfl, rfl, trivial⟩, trivial, rfl⟩, rfl,
        Step.guarded rfl rfl rfl rfl (fun hc => Does.strip (n' := [(29, (.opt ((!(!v4)) && (decide (x1 > 0))) (.bool v8)))]) (n := [(29, (.bool v8))]) ⟨(.opt _ _ hc), trivial⟩ (does_not 4 (.tmp 29) v8 trivial)), ⟨⟨rfl, rfl, trivial⟩, trivial, rfl⟩, rfl,
        Step.guarded rfl rfl rfl rfl (fun hc => Does.strip (n' := [(19, (.opt (!(!v4)) (.bool (decide (x1 > 0))))), (30, (.opt ((!(!v4)) && (decide (x1 > 0))) (.bool (!v8))))]) (n := [(19, (.bool (decide (x1 > 0)))), (30, (.opt (decide (x1 > 0)) (.bool (!v8))))]) ⟨(.opt _ _ hc), (.half _ _ hc), trivial⟩ (does_and 19 30 (decide (x1 > 0)) (!v8))), ⟨⟨rfl, rfl, rfl, trivial⟩, trivial, rfl⟩, rfl,
        Step.plain rfl (does_or 16 31 (!v4) ((decide (x1 > 0)) && (!v8))), ⟨⟨rfl, rfl, trivial⟩, trivial, rfl⟩, rfl, rfl⟩ rfl ?_
      refine aw_cov (cov_prune (s1 := ⟨[(0, (e_s_api_Member p0)), (3, (.int .i64 x1)), (32, (.bool ((!v4) || ((decide (x1 > 0)) && (!v8)))))], [], 0⟩) ⟨rfl, rfl, rfl, trivial⟩ trivial (Nat.le_refl _)) ?_
      refine aw_cond rfl (fun hc => ?_) (fun hc => ?_)
      · replace H := ite_t hc H
        refine aw_region (es := [_]) ⟨Step.plain rfl (does_assign (.const (.bool false)) (.bool false) (fun _ => rfl)), ⟨trivial, trivial, rfl⟩, rfl, rfl⟩ ?_
        refine aw_cov (cov_prune (s1 := ⟨[(2, (.bool false))], [], 0⟩) ⟨rfl, trivial⟩ trivial (Nat.le_refl _)) ?_
        refine aw_ret ?_
        replace H := rt_of H hsn2 Hrn2
        refine rt_blk ?_
        refine rt_then ?_
        refine rt_then ?_
        refine rt_blk ?_
        refine rt_then ?_
        refine rt_then ?_
        exact fun a w hr => ⟨_, [(.bool false)], hr, ⟨⟨_, rfl, .data (.bool false) trivial⟩, trivial⟩, by decide, by cases H; rfl⟩
      · replace H := ite_f hc H
        refine aw_skip ?_
        refine nx_blk ?_
        refine nx_seq ?_
        refine aw_region1 (es := [_, _, _]) ⟨Step.plain rfl (does_move (.tmp 3) (.int .i64 x1) trivial), ⟨⟨rfl, trivial⟩, trivial, rfl⟩, rfl,
          Step.plain rfl (does_bin .add 3 3 (.tmp 8) (.const (.int .i64 1)) .i64 x1 1 (.int .i64 (IntKind.i64.wrap (x1 + 1))) trivial (fun _ => rfl) (bin_add _ _ _ _)), ⟨⟨rfl, trivial⟩, trivial, rfl⟩, rfl,
          Step.plain rfl (does_assign (.tmp 9) (.int .i64 (IntKind.i64.wrap (x1 + 1))) trivial), ⟨⟨rfl, trivial⟩, trivial, rfl⟩, rfl, rfl⟩ ?_
        exact nx_loop ((IntKind.i64.wrap (x1 + 1))) H (cov_prune ⟨rfl, rfl, trivial⟩ trivial (Nat.le_of_ble_eq_true rfl))
    · replace H := ite_f hc H
      refine aw_exit ?_
      refine ex_then ?_
      refine ex_then ?_
      refine ex_here ?_
      exact nx_ljoin () H hsn2 (cov_prune trivial trivial (Nat.le_of_ble_eq_true rfl))

theorem congresslaw18_GroupTells_spec (p0 : (_root_.List api_Member)) (p1 : api_Entry) (p2 : congresslaw18_Where) (r : Bool) (H : congresslaw18_GroupTells p0 p1 p2 = some r) : FSpec Try.prog 3 [(e_s_api_Member p0), (e_api_Entry p1), (e_congresslaw18_Where p2)] (.bool r) := by
  refine spec_of (fn := Try.f3) (args := [(e_s_api_Member p0), (e_api_Entry p1), (e_congresslaw18_Where p2)]) Try.func3 rfl (Nat.le_of_ble_eq_true rfl) ?_
  rintro ⟨G, w0, W, S, Sp⟩ hG
  cases hG
  unfold congresslaw18_GroupTells at H
  refine aw_region (es := [_, _, _]) ⟨Step.plain rfl (does_box 25 (.tmp 1) 0 (e_api_Entry p1) trivial rfl), ⟨⟨rfl, trivial⟩, trivial, rfl⟩, rfl,
    Step.plain rfl (does_box 30 (.tmp 2) 1 (e_congresslaw18_Where p2) trivial rfl), ⟨⟨rfl, trivial⟩, trivial, rfl⟩, rfl,
    Step.plain rfl (does_assign (.const (.bool false)) (.bool false) (fun _ => rfl)), ⟨trivial, trivial, rfl⟩, rfl, rfl⟩ ?_
  refine aw_cov (cov_prune (s1 := ⟨[(0, (e_s_api_Member p0)), (4, (.ptr 0 0 [])), (5, (.ptr 1 0 []))], [(0, some (.var (e_api_Entry p1))), (1, some (.var (e_congresslaw18_Where p2)))], 2⟩) ⟨rfl, rfl, rfl, trivial⟩ ⟨rfl, rfl, trivial⟩ (Nat.le_refl _)) ?_
  obtain ⟨v1, h2, H⟩ := bnd H
  refine aw_region (es := [_, _, _, _, _, _, _, _, _, _]) ⟨Step.plain rfl (does_move (.tmp 0) (e_s_api_Member p0) trivial), ⟨⟨rfl, trivial⟩, trivial, rfl⟩, rfl,
    Step.plain rfl (does_fieldAddr 30 0 0 5 1 0 [] (.var (e_congresslaw18_Where p2)) fl30_0), ⟨⟨rfl, trivial⟩, ⟨rfl, trivial⟩, rfl⟩, rfl,
    Step.plain rfl (does_load 3 14 1 (0 + 0) [0] (.var (e_congresslaw18_Where p2)) (.int .i64 p2.Daemon) ⟨rfl, Nat.le_of_ble_eq_true rfl, trivial⟩ rfl rfl ty3), ⟨⟨rfl, trivial⟩, ⟨rfl, trivial⟩, rfl⟩, rfl,
    Step.plain rfl (does_load 25 4 0 0 [] (.var (e_api_Entry p1)) (e_api_Entry p1) trivial rfl rfl ty25), ⟨⟨rfl, trivial⟩, ⟨rfl, trivial⟩, rfl⟩, rfl,
    Step.plain rfl (does_callO 7 0 (fun _ => .any) (.func 7) [(.tmp 13), (.tmp 15), (.tmp 16)] [(e_s_api_Member p0), (.int .i64 p2.Daemon), (e_api_Entry p1)] [] [] true [(e_s_api_Member p0), (.int .i64 p2.Daemon), (e_api_Entry p1)] _ (resV [(.own 2), (.bool v1.2)]) _ 2 1 _ _ rfl fo7 rfl ⟨trivial, trivial, trivial, trivial⟩ ⟨.ro _ _ (.data _ (d_s_api_Member p0)), .ro _ _ (.data _ trivial), .ro _ _ (.data _ (d_api_Entry p1)), trivial⟩ (group_Apply_spec p0 p2.Daemon p1 _ h2) rfl (by simp) rfl trivial ⟨⟨Nat.le_of_ble_eq_true rfl, _, rfl, fun _ => (f_api_Member _)⟩, trivial⟩ (.tup _ _ _ (fun j => match j with | 0 => .own 0 (Nat.le_of_ble_eq_true rfl) | 1 => .data _ (trivial) | _ + 2 => .data _ trivial))), ⟨⟨rfl, rfl, rfl, trivial⟩, trivial, rfl⟩, rfl,
    Step.plain rfl (does_move (.tmp 17) (resV [(.own 2), (.bool v1.2)]) trivial), ⟨⟨rfl, trivial⟩, trivial, rfl⟩, rfl,
    Step.plain rfl (does_extract 12 0 2 (fun j => [(.own 2), (.bool v1.2)].getD j (.bool false)) (Nat.le_of_ble_eq_true rfl)), ⟨⟨rfl, trivial⟩, trivial, rfl⟩, rfl,
    Step.plain rfl (does_extract 12 1 2 (fun j => [(.own 2), (.bool v1.2)].getD j (.bool false)) (Nat.le_of_ble_eq_true rfl)), ⟨⟨rfl, trivial⟩, trivial, rfl⟩, rfl,
    Step.plain rfl (does_assign (.tmp 18) (.own 2) trivial), ⟨⟨rfl, trivial⟩, trivial, rfl⟩, rfl,
    Step.plain rfl (does_assign (.tmp 19) (.bool v1.2) trivial), ⟨⟨rfl, trivial⟩, trivial, rfl⟩, rfl, rfl⟩ ?_
  refine aw_cov (cov_prune (s1 := ⟨[(0, (e_s_api_Member p0)), (4, (.ptr 0 0 [])), (5, (.ptr 1 0 [])), (7, (.own 2)), (8, (.bool v1.2))], [(0, some (.var (e_api_Entry p1))), (1, some (.var (e_congresslaw18_Where p2))), (2, some (.arr 3 v1.1.length fun j => (e_api_Member (v1.1.getD j z_api_Member))))], 3⟩) ⟨rfl, rfl, rfl, rfl, rfl, trivial⟩ ⟨rfl, rfl, rfl, trivial⟩ (Nat.le_refl _)) ?_
  obtain ⟨v3, h4, H⟩ := bnd H
  refine aw_region (es := [_, _, _, _, _, _, _, _, _, _]) ⟨Step.plain rfl (does_move (.tmp 0) (e_s_api_Member p0) trivial), ⟨⟨rfl, trivial⟩, trivial, rfl⟩, rfl,
    Step.plain rfl (does_fieldAddr 30 0 0 5 1 0 [] (.var (e_congresslaw18_Where p2)) fl30_0), ⟨⟨rfl, trivial⟩, ⟨rfl, trivial⟩, rfl⟩, rfl,
    Step.plain rfl (does_load 3 22 1 (0 + 0) [0] (.var (e_congresslaw18_Where p2)) (.int .i64 p2.Daemon) ⟨rfl, Nat.le_of_ble_eq_true rfl, trivial⟩ rfl rfl ty3), ⟨⟨rfl, trivial⟩, ⟨rfl, trivial⟩, rfl⟩, rfl,
    Step.plain rfl (does_load 25 4 0 0 [] (.var (e_api_Entry p1)) (e_api_Entry p1) trivial rfl rfl ty25), ⟨⟨rfl, trivial⟩, ⟨rfl, trivial⟩, rfl⟩, rfl,
    Step.plain rfl (does_call 8 0 (fun _ => .any) (.func 8) [(.tmp 21), (.tmp 23), (.tmp 24)] [(e_s_api_Member p0), (.int .i64 p2.Daemon), (e_api_Entry p1)] [] false [(e_s_api_Member p0), (.int .i64 p2.Daemon), (e_api_Entry p1)] (resV [(e_s_api_Member v3.1), (.bool v3.2)]) _ _ rfl fo8 rfl ⟨trivial, trivial, trivial, trivial⟩ ⟨.data _ (d_s_api_Member p0), .data _ trivial, .data _ (d_api_Entry p1), trivial⟩ (congressref18_Apply_spec p0 p2.Daemon p1 _ h4) (res_data2 (d_s_api_Member v3.1) trivial)), ⟨⟨rfl, rfl, rfl, trivial⟩, trivial, rfl⟩, rfl,
    Step.plain rfl (does_move (.tmp 25) (resV [(e_s_api_Member v3.1), (.bool v3.2)]) trivial), ⟨⟨rfl, trivial⟩, trivial, rfl⟩, rfl,
    Step.plain rfl (does_extract 20 0 2 (fun j => [(e_s_api_Member v3.1), (.bool v3.2)].getD j (.bool false)) (Nat.le_of_ble_eq_true rfl)), ⟨⟨rfl, trivial⟩, trivial, rfl⟩, rfl,
    Step.plain rfl (does_extract 20 1 2 (fun j => [(e_s_api_Member v3.1), (.bool v3.2)].getD j (.bool false)) (Nat.le_of_ble_eq_true rfl)), ⟨⟨rfl, trivial⟩, trivial, rfl⟩, rfl,
    Step.plain rfl (does_assign (.tmp 26) (e_s_api_Member v3.1) trivial), ⟨⟨rfl, trivial⟩, trivial, rfl⟩, rfl,
    Step.plain rfl (does_assign (.tmp 27) (.bool v3.2) trivial), ⟨⟨rfl, trivial⟩, trivial, rfl⟩, rfl, rfl⟩ ?_
  refine aw_cov (cov_prune (s1 := ⟨[(0, (e_s_api_Member p0)), (5, (.ptr 1 0 [])), (7, (.own 2)), (8, (.bool v1.2)), (9, (e_s_api_Member v3.1)), (10, (.bool v3.2))], [(1, some (.var (e_congresslaw18_Where p2))), (2, some (.arr 3 v1.1.length fun j => (e_api_Member (v1.1.getD j z_api_Member))))], 3⟩) ⟨rfl, rfl, rfl, rfl, rfl, rfl, trivial⟩ ⟨rfl, rfl, trivial⟩ (Nat.le_refl _)) ?_
  obtain ⟨h5, H⟩ := ibg_of H
  obtain ⟨h6, H⟩ := ibg_of H
  obtain ⟨v7, h8, H⟩ := whn_of H
  obtain ⟨h9, H⟩ := ibg_of H
  obtain ⟨h10, H⟩ := ibg_of H
  obtain ⟨v11, h12, H⟩ := whn_of H
  refine aw_draw (es := [_, _, _, _, _, _, _, _, _, _, _, _, _, _, _, _, _, _, _, _, _]) (mixed) ⟨Step.plain rfl (does_move (.tmp 0) (e_s_api_Member p0) trivial), ⟨⟨rfl, trivial⟩, trivial, rfl⟩, rfl,
    Step.plain rfl (does_lens 22 3 p0.length 28 (fun j => (e_api_Member (p0.getD j z_api_Member))) el22), ⟨⟨rfl, trivial⟩, trivial, rfl⟩, rfl,
    Step.plain rfl (does_bin .lss 3 3 (.tmp 29) (.const (.int .i64 2)) .i64 (p0.length : Int) 2 (.bool (decide ((p0.length : Int) < 2))) trivial (fun _ => rfl) (bin_lss _ _ _ _)), ⟨⟨rfl, trivial⟩, trivial, rfl⟩, rfl,
    Step.plain rfl (does_move (.tmp 30) (.bool (decide ((p0.length : Int) < 2))) trivial), ⟨⟨rfl, trivial⟩, trivial, rfl⟩, rfl,
    Step.guarded rfl rfl rfl rfl (fun hc => does_move (.tmp 0) (e_s_api_Member p0) trivial), ⟨⟨rfl, rfl, trivial⟩, trivial, rfl⟩, rfl,
    Step.guarded rfl rfl rfl rfl (fun hc => Does.strip (n' := [(32, (.opt (!(decide ((p0.length : Int) < 2))) (e_s_api_Member p0)))]) (n := [(32, (e_s_api_Member p0))]) ⟨(.opt _ _ hc), trivial⟩ (does_indexAddrs 22 3 p0.length 32 (fun j => (e_api_Member (p0.getD j z_api_Member))) (.const (.int .i64 0)) .i64 0 el22 (fun _ => rfl) (h5 hc).1 (h5 hc).2)), ⟨⟨rfl, rfl, trivial⟩, trivial, rfl⟩, rfl,
    Step.guarded rfl rfl rfl rfl (fun hc => Does.strip (n' := [(33, (.opt (!(decide ((p0.length : Int) < 2))) (.cptr (e_api_Member (p0.getD 0 z_api_Member)))))]) (n := [(33, (.cptr (e_api_Member (p0.getD 0 z_api_Member))))]) ⟨(.opt _ _ hc), trivial⟩ (does_loadc 35 33 (e_api_Member (p0.getD 0 z_api_Member)) ty35)), ⟨⟨rfl, rfl, trivial⟩, trivial, rfl⟩, rfl,
    Step.guarded rfl rfl rfl rfl (fun hc => does_move (.tmp 0) (e_s_api_Member p0) trivial), ⟨⟨rfl, rfl, trivial⟩, trivial, rfl⟩, rfl,
    Step.guarded rfl rfl rfl rfl (fun hc => Does.strip (n' := [(35, (.opt (!(decide ((p0.length : Int) < 2))) (e_s_api_Member p0)))]) (n := [(35, (e_s_api_Member p0))]) ⟨(.opt _ _ hc), trivial⟩ (does_indexAddrs 22 3 p0.length 35 (fun j => (e_api_Member (p0.getD j z_api_Member))) (.const (.int .i64 1)) .i64 1 el22 (fun _ => rfl) (h6 hc).1 (h6 hc).2)), ⟨⟨rfl, rfl, trivial⟩, trivial, rfl⟩, rfl,
    Step.guarded rfl rfl rfl rfl (fun hc => Does.strip (n' := [(36, (.opt (!(decide ((p0.length : Int) < 2))) (.cptr (e_api_Member (p0.getD 1 z_api_Member)))))]) (n := [(36, (.cptr (e_api_Member (p0.getD 1 z_api_Member))))]) ⟨(.opt _ _ hc), trivial⟩ (does_loadc 35 36 (e_api_Member (p0.getD 1 z_api_Member)) ty35)), ⟨⟨rfl, rfl, trivial⟩, trivial, rfl⟩, rfl,
    Step.guarded rfl rfl rfl rfl (fun hc => Does.strip (n' := [(34, (.opt (!(decide ((p0.length : Int) < 2))) (e_api_Member (p0.getD 0 z_api_Member)))), (37, (.opt (!(decide ((p0.length : Int) < 2))) (e_api_Member (p0.getD 1 z_api_Member))))]) (n := [(34, (e_api_Member (p0.getD 0 z_api_Member))), (37, (e_api_Member (p0.getD 1 z_api_Member)))]) ⟨(.opt _ _ hc), (.opt _ _ hc), trivial⟩ (does_call 9 0 (fun _ => .any) (.func 9) [(.tmp 34), (.tmp 37)] [(e_api_Member (p0.getD 0 z_api_Member)), (e_api_Member (p0.getD 1 z_api_Member))] [] true [(e_api_Member (p0.getD 0 z_api_Member)), (e_api_Member (p0.getD 1 z_api_Member))] (.bool v7) _ _ rfl fo9 rfl ⟨trivial, trivial, trivial⟩ ⟨.data _ (d_api_Member (p0.getD 0 z_api_Member)), .data _ (d_api_Member (p0.getD 1 z_api_Member)), trivial⟩ (group_Less_spec (p0.getD 0 z_api_Member) (p0.getD 1 z_api_Member) _ (h8 hc)) trivial)), ⟨⟨rfl, rfl, rfl, trivial⟩, trivial, rfl⟩, rfl,
    Step.guarded rfl rfl rfl rfl (fun hc => does_move (.tmp 0) (e_s_api_Member p0) trivial), ⟨⟨rfl, rfl, trivial⟩, trivial, rfl⟩, rfl,
    Step.guarded rfl rfl rfl rfl (fun hc => Does.strip (n' := [(39, (.opt (!(decide ((p0.length : Int) < 2))) (e_s_api_Member p0)))]) (n := [(39, (e_s_api_Member p0))]) ⟨(.opt _ _ hc), trivial⟩ (does_indexAddrs 22 3 p0.length 39 (fun j => (e_api_Member (p0.getD j z_api_Member))) (.const (.int .i64 0)) .i64 0 el22 (fun _ => rfl) (h9 hc).1 (h9 hc).2)), ⟨⟨rfl, rfl, trivial⟩, trivial, rfl⟩, rfl,
    Step.guarded rfl rfl rfl rfl (fun hc => Does.strip (n' := [(40, (.opt (!(decide ((p0.length : Int) < 2))) (.cptr (e_api_Member (p0.getD 0 z_api_Member)))))]) (n := [(40, (.cptr (e_api_Member (p0.getD 0 z_api_Member))))]) ⟨(.opt _ _ hc), trivial⟩ (does_loadc 35 40 (e_api_Member (p0.getD 0 z_api_Member)) ty35)), ⟨⟨rfl, rfl, trivial⟩, trivial, rfl⟩, rfl,
    Step.guarded rfl rfl rfl rfl (fun hc => does_move (.tmp 0) (e_s_api_Member p0) trivial), ⟨⟨rfl, rfl, trivial⟩, trivial, rfl⟩, rfl,
    Step.guarded rfl rfl rfl rfl (fun hc => Does.strip (n' := [(42, (.opt (!(decide ((p0.length : Int) < 2))) (e_s_api_Member p0)))]) (n := [(42, (e_s_api_Member p0))]) ⟨(.opt _ _ hc), trivial⟩ (does_indexAddrs 22 3 p0.length 42 (fun j => (e_api_Member (p0.getD j z_api_Member))) (.const (.int .i64 1)) .i64 1 el22 (fun _ => rfl) (h10 hc).1 (h10 hc).2)), ⟨⟨rfl, rfl, trivial⟩, trivial, rfl⟩, rfl,
    Step.guarded rfl rfl rfl rfl (fun hc => Does.strip (n' := [(43, (.opt (!(decide ((p0.length : Int) < 2))) (.cptr (e_api_Member (p0.getD 1 z_api_Member)))))]) (n := [(43, (.cptr (e_api_Member (p0.getD 1 z_api_Member))))]) ⟨(.opt _ _ hc), trivial⟩ (does_loadc 35 43 (e_api_Member (p0.getD 1 z_api_Member)) ty35)), ⟨⟨rfl, rfl, trivial⟩, trivial, rfl⟩, rfl,
    Step.guarded rfl rfl rfl rfl (fun hc => Does.strip (n' := [(41, (.opt (!(decide ((p0.length : Int) < 2))) (e_api_Member (p0.getD 0 z_api_Member)))), (44, (.opt (!(decide ((p0.length : Int) < 2))) (e_api_Member (p0.getD 1 z_api_Member))))]) (n := [(41, (e_api_Member (p0.getD 0 z_api_Member))), (44, (e_api_Member (p0.getD 1 z_api_Member)))]) ⟨(.opt _ _ hc), (.opt _ _ hc), trivial⟩ (does_call 10 0 (fun _ => .any) (.func 10) [(.tmp 41), (.tmp 44)] [(e_api_Member (p0.getD 0 z_api_Member)), (e_api_Member (p0.getD 1 z_api_Member))] [] true [(e_api_Member (p0.getD 0 z_api_Member)), (e_api_Member (p0.getD 1 z_api_Member))] (.bool v11) _ _ rfl fo10 rfl ⟨trivial, trivial, trivial⟩ ⟨.data _ (d_api_Member (p0.getD 0 z_api_Member)), .data _ (d_api_Member (p0.getD 1 z_api_Member)), trivial⟩ (congressref18_Less_spec (p0.getD 0 z_api_Member) (p0.getD 1 z_api_Member) _ (h12 hc)) trivial)), ⟨⟨rfl, rfl, rfl, trivial⟩, trivial, rfl⟩, rfl,
    Step.guarded rfl rfl rfl rfl (fun hc => Does.strip (n' := [(38, (.opt (!(decide ((p0.length : Int) < 2))) (.bool v7))), (45, (.opt (!(decide ((p0.length : Int) < 2))) (.bool v11)))]) (n := [(38, (.bool v7)), (45, (.bool v11))]) ⟨(.opt _ _ hc), (.opt _ _ hc), trivial⟩ (does_eqBool false 4 4 (.tmp 38) (.tmp 45) v7 v11 trivial trivial rfl)), ⟨⟨rfl, rfl, rfl, trivial⟩, trivial, rfl⟩, rfl,
    Step.plain rfl (does_or 31 46 (decide ((p0.length : Int) < 2)) (v7 == v11)), ⟨⟨rfl, rfl, trivial⟩, trivial, rfl⟩, rfl,
    Step.plain rfl (does_assign (.tmp 47) (.bool ((decide ((p0.length : Int) < 2)) || (v7 == v11))) trivial), ⟨⟨rfl, trivial⟩, trivial, rfl⟩, rfl, rfl⟩ rfl ?_
  refine aw_cov (cov_prune (s1 := ⟨[(0, (e_s_api_Member p0)), (5, (.ptr 1 0 [])), (7, (.own 2)), (8, (.bool v1.2)), (9, (e_s_api_Member v3.1)), (10, (.bool v3.2)), (11, (.bool ((decide ((p0.length : Int) < 2)) || (v7 == v11))))], [(1, some (.var (e_congresslaw18_Where p2))), (2, some (.arr 3 v1.1.length fun j => (e_api_Member (v1.1.getD j z_api_Member))))], 3⟩) ⟨rfl, rfl, rfl, rfl, rfl, rfl, rfl, trivial⟩ ⟨rfl, rfl, trivial⟩ (Nat.le_refl _)) ?_
  obtain ⟨v13, h14, H⟩ := bnd H
  obtain ⟨v15, h16, H⟩ := whn_of H
  obtain ⟨v17, h18, H⟩ := whn_of H
  obtain ⟨v19, h20, H⟩ := whn_of H
  obtain ⟨v21, h22, H⟩ := whn_of H
  obtain ⟨v23, h24, H⟩ := whn_of H
  obtain ⟨v25, h26, H⟩ := whn_of H
  obtain ⟨v27, h28, H⟩ := whn_of H
  obtain ⟨v29, h30, H⟩ := whn_of H
  obtain ⟨v31, h32, H⟩ := whn_of H
  refine aw_draw (es := [_, _, _, _, _, _, _, _, _, _, _, _, _, _, _, _, _, _, _, _, _, _, _, _, _, _, _, _, _, _, _, _, _, _, _, _, _, _, _, _, _, _, _, _]) (mixed) ⟨Step.plain rfl (does_call 11 0 (fun _ => .any) (.func 11) [] [] [] true [] (.bool v13) _ _ rfl fo11 rfl trivial trivial (congresslaw18_fixed_spec _ h14) trivial), ⟨trivial, trivial, rfl⟩, rfl,
    Step.plain rfl (does_move (.tmp 48) (.bool v13) trivial), ⟨⟨rfl, trivial⟩, trivial, rfl⟩, rfl,
    Step.guarded rfl rfl rfl rfl (fun hc => does_move (.tmp 7) (.own 2) trivial), ⟨⟨rfl, rfl, trivial⟩, trivial, rfl⟩, rfl,
    Step.guarded rfl rfl rfl rfl (fun hc => does_move (.tmp 9) (e_s_api_Member v3.1) trivial), ⟨⟨rfl, rfl, trivial⟩, trivial, rfl⟩, rfl,
    Step.guarded rfl rfl rfl rfl (fun hc => Does.strip (n' := [(50, (.opt v13 (.own 2))), (51, (.opt v13 (e_s_api_Member v3.1)))]) (n := [(50, (.own 2)), (51, (e_s_api_Member v3.1))]) ⟨(.opt _ _ hc), (.opt _ _ hc), trivial⟩ (does_call 12 0 (fun _ => .any) (.func 12) [(.tmp 50), (.tmp 51)] [(.own 2), (e_s_api_Member v3.1)] [(2, (.arr 3 v1.1.length fun j => (e_api_Member (v1.1.getD j z_api_Member))))] true [(e_s_api_Member v1.1), (e_s_api_Member v3.1)] (.bool v15) _ _ rfl fo12 rfl ⟨trivial, trivial, trivial⟩ ⟨.own 2 _ _ _ (.head _) rfl (fun _ => (d_api_Member _)), .data _ (d_s_api_Member v3.1), trivial⟩ (congressref18_Same_spec v1.1 v3.1 _ (h16 hc)) trivial)), ⟨⟨rfl, rfl, rfl, trivial⟩, ⟨rfl, trivial⟩, rfl⟩, rfl,
    Step.plain rfl (does_and 49 52 v13 v15), ⟨⟨rfl, rfl, trivial⟩, trivial, rfl⟩, rfl,
    Step.plain rfl (does_move (.tmp 53) (.bool (v13 && v15)) trivial), ⟨⟨rfl, trivial⟩, trivial, rfl⟩, rfl,
    Step.guarded rfl rfl rfl rfl (fun hc => does_move (.tmp 8) (.bool v1.2) trivial), ⟨⟨rfl, rfl, trivial⟩, trivial, rfl⟩, rfl,
    Step.guarded rfl rfl rfl rfl (fun hc => does_move (.tmp 10) (.bool v3.2) trivial), ⟨⟨rfl, rfl, trivial⟩, trivial, rfl⟩, rfl,
    Step.guarded rfl rfl rfl rfl (fun hc => Does.strip (n' := [(55, (.opt (v13 && v15) (.bool v1.2))), (56, (.opt (v13 && v15) (.bool v3.2)))]) (n := [(55, (.bool v1.2)), (56, (.bool v3.2))]) ⟨(.opt _ _ hc), (.opt _ _ hc), trivial⟩ (does_eqBool false 4 4 (.tmp 55) (.tmp 56) v1.2 v3.2 trivial trivial rfl)), ⟨⟨rfl, rfl, rfl, trivial⟩, trivial, rfl⟩, rfl,
    Step.plain rfl (does_and 54 57 (v13 && v15) (v1.2 == v3.2)), ⟨⟨rfl, rfl, trivial⟩, trivial, rfl⟩, rfl,
    Step.plain rfl (does_move (.tmp 58) (.bool ((v13 && v15) && (v1.2 == v3.2))) trivial), ⟨⟨rfl, trivial⟩, trivial, rfl⟩, rfl,
    Step.guarded rfl rfl rfl rfl (fun hc => does_move (.tmp 0) (e_s_api_Member p0) trivial), ⟨⟨rfl, rfl, trivial⟩, trivial, rfl⟩, rfl,
    Step.guarded rfl rfl rfl rfl (fun hc => does_fieldAddr 30 1 1 5 1 0 [] (.var (e_congresslaw18_Where p2)) fl30_1), ⟨⟨rfl, rfl, trivial⟩, ⟨rfl, trivial⟩, rfl⟩, rfl,
    Step.guarded rfl rfl rfl rfl (fun hc => Does.strip (n' := [(61, (.opt ((v13 && v15) && (v1.2 == v3.2)) (.ptr 1 (0 + 1) [1])))]) (n := [(61, (.ptr 1 (0 + 1) [1]))]) ⟨(.opt _ _ hc), trivial⟩ (does_load 3 61 1 (0 + 1) [1] (.var (e_congresslaw18_Where p2)) (.int .i64 p2.Group) ⟨rfl, Nat.le_of_ble_eq_true rfl, trivial⟩ rfl rfl ty3)), ⟨⟨rfl, rfl, trivial⟩, ⟨rfl, trivial⟩, rfl⟩, rfl,
    Step.guarded rfl rfl rfl rfl (fun hc => Does.strip (n' := [(60, (.opt ((v13 && v15) && (v1.2 == v3.2)) (e_s_api_Member p0))), (62, (.opt ((v13 && v15) && (v1.2 == v3.2)) (.int .i64 p2.Group)))]) (n := [(60, (e_s_api_Member p0)), (62, (.int .i64 p2.Group))]) ⟨(.opt _ _ hc), (.opt _ _ hc), trivial⟩ (does_call 13 0 (fun _ => .any) (.func 13) [(.tmp 60), (.tmp 62)] [(e_s_api_Member p0), (.int .i64 p2.Group)] [] false [(e_s_api_Member p0), (.int .i64 p2.Group)] (e_s_api_Member v17) _ _ rfl fo13 rfl ⟨trivial, trivial, trivial⟩ ⟨.data _ (d_s_api_Member p0), .data _ trivial, trivial⟩ (group_View_data p0 p2.Group _ (h18 hc)) (d_s_api_Member v17))), ⟨⟨rfl, rfl, rfl, trivial⟩, trivial, rfl⟩, rfl,
    Step.guarded rfl rfl rfl rfl (fun hc => does_move (.tmp 0) (e_s_api_Member p0) trivial), ⟨⟨rfl, rfl, trivial⟩, trivial, rfl⟩, rfl,
    Step.guarded rfl rfl rfl rfl (fun hc => does_fieldAddr 30 1 1 5 1 0 [] (.var (e_congresslaw18_Where p2)) fl30_1), ⟨⟨rfl, rfl, trivial⟩, ⟨rfl, trivial⟩, rfl⟩, rfl,
    Step.guarded rfl rfl rfl rfl (fun hc => Does.strip (n' := [(65, (.opt ((v13 && v15) && (v1.2 == v3.2)) (.ptr 1 (0 + 1) [1])))]) (n := [(65, (.ptr 1 (0 + 1) [1]))]) ⟨(.opt _ _ hc), trivial⟩ (does_load 3 65 1 (0 + 1) [1] (.var (e_congresslaw18_Where p2)) (.int .i64 p2.Group) ⟨rfl, Nat.le_of_ble_eq_true rfl, trivial⟩ rfl rfl ty3)), ⟨⟨rfl, rfl, trivial⟩, ⟨rfl, trivial⟩, rfl⟩, rfl,
    Step.guarded rfl rfl rfl rfl (fun hc => Does.strip (n' := [(64, (.opt ((v13 && v15) && (v1.2 == v3.2)) (e_s_api_Member p0))), (66, (.opt ((v13 && v15) && (v1.2 == v3.2)) (.int .i64 p2.Group)))]) (n := [(64, (e_s_api_Member p0)), (66, (.int .i64 p2.Group))]) ⟨(.opt _ _ hc), (.opt _ _ hc), trivial⟩ (does_call 14 0 (fun _ => .any) (.func 14) [(.tmp 64), (.tmp 66)] [(e_s_api_Member p0), (.int .i64 p2.Group)] [] false [(e_s_api_Member p0), (.int .i64 p2.Group)] (e_s_api_Member v19) _ _ rfl fo14 rfl ⟨trivial, trivial, trivial⟩ ⟨.data _ (d_s_api_Member p0), .data _ trivial, trivial⟩ (congressref18_View_data p0 p2.Group _ (h20 hc)) (d_s_api_Member v19))), ⟨⟨rfl, rfl, rfl, trivial⟩, trivial, rfl⟩, rfl,
    Step.guarded rfl rfl rfl rfl (fun hc => Does.strip (n' := [(63, (.opt ((v13 && v15) && (v1.2 == v3.2)) (e_s_api_Member v17))), (67, (.opt ((v13 && v15) && (v1.2 == v3.2)) (e_s_api_Member v19)))]) (n := [(63, (e_s_api_Member v17)), (67, (e_s_api_Member v19))]) ⟨(.opt _ _ hc), (.opt _ _ hc), trivial⟩ (does_call 12 0 (fun _ => .any) (.func 12) [(.tmp 63), (.tmp 67)] [(e_s_api_Member v17), (e_s_api_Member v19)] [] true [(e_s_api_Member v17), (e_s_api_Member v19)] (.bool v21) _ _ rfl fo12 rfl ⟨trivial, trivial, trivial⟩ ⟨.data _ (d_s_api_Member v17), .data _ (d_s_api_Member v19), trivial⟩ (congressref18_Same_spec v17 v19 _ (h22 hc)) trivial)), ⟨⟨rfl, rfl, rfl, trivial⟩, trivial, rfl⟩, rfl,
    Step.plain rfl (does_and 59 68 ((v13 && v15) && (v1.2 == v3.2)) v21), ⟨⟨rfl, rfl, trivial⟩, trivial, rfl⟩, rfl,
    Step.plain rfl (does_move (.tmp 69) (.bool (((v13 && v15) && (v1.2 == v3.2)) && v21)) trivial), ⟨⟨rfl, trivial⟩, trivial, rfl⟩, rfl,
    Step.guarded rfl rfl rfl rfl (fun hc => does_move (.tmp 0) (e_s_api_Member p0) trivial), ⟨⟨rfl, rfl, trivial⟩, trivial, rfl⟩, rfl,
    Step.guarded rfl rfl rfl rfl (fun hc => does_fieldAddr 30 2 2 5 1 0 [] (.var (e_congresslaw18_Where p2)) fl30_2), ⟨⟨rfl, rfl, trivial⟩, ⟨rfl, trivial⟩, rfl⟩, rfl,
    Step.guarded rfl rfl rfl rfl (fun hc => Does.strip (n' := [(72, (.opt (((v13 && v15) && (v1.2 == v3.2)) && v21) (.ptr 1 (0 + 2) [2])))]) (n := [(72, (.ptr 1 (0 + 2) [2]))]) ⟨(.opt _ _ hc), trivial⟩ (does_load 28 72 1 (0 + 2) [2] (.var (e_congresslaw18_Where p2)) (e_a8_u32 p2.M) ⟨rfl, Nat.le_of_ble_eq_true rfl, trivial⟩ rfl rfl ty28)), ⟨⟨rfl, rfl, trivial⟩, ⟨rfl, trivial⟩, rfl⟩, rfl,
    Step.guarded rfl rfl rfl rfl (fun hc => Does.strip (n' := [(71, (.opt (((v13 && v15) && (v1.2 == v3.2)) && v21) (e_s_api_Member p0))), (73, (.opt (((v13 && v15) && (v1.2 == v3.2)) && v21) (e_a8_u32 p2.M)))]) (n := [(71, (e_s_api_Member p0)), (73, (e_a8_u32 p2.M))]) ⟨(.opt _ _ hc), (.opt _ _ hc), trivial⟩ (does_call 15 0 (fun _ => .any) (.func 15) [(.tmp 71), (.tmp 73)] [(e_s_api_Member p0), (e_a8_u32 p2.M)] [] false [(e_s_api_Member p0), (e_a8_u32 p2.M)] (e_s_api_Member v23) _ _ rfl fo15 rfl ⟨trivial, trivial, trivial⟩ ⟨.data _ (d_s_api_Member p0), .data _ (d_a8_u32 p2.M), trivial⟩ (group_Keep_data p0 p2.M _ (h24 hc)) (d_s_api_Member v23))), ⟨⟨rfl, rfl, rfl, trivial⟩, trivial, rfl⟩, rfl,
    Step.guarded rfl rfl rfl rfl (fun hc => does_move (.tmp 0) (e_s_api_Member p0) trivial), ⟨⟨rfl, rfl, trivial⟩, trivial, rfl⟩, rfl,
    Step.guarded rfl rfl rfl rfl (fun hc => does_fieldAddr 30 2 2 5 1 0 [] (.var (e_congresslaw18_Where p2)) fl30_2), ⟨⟨rfl, rfl, trivial⟩, ⟨rfl, trivial⟩, rfl⟩, rfl,
    Step.guarded rfl rfl rfl rfl (fun hc => Does.strip (n' := [(76, (.opt (((v13 && v15) && (v1.2 == v3.2)) && v21) (.ptr 1 (0 + 2) [2])))]) (n := [(76, (.ptr 1 (0 + 2) [2]))]) ⟨(.opt _ _ hc), trivial⟩ (does_load 28 76 1 (0 + 2) [2] (.var (e_congresslaw18_Where p2)) (e_a8_u32 p2.M) ⟨rfl, Nat.le_of_ble_eq_true rfl, trivial⟩ rfl rfl ty28)), ⟨⟨rfl, rfl, trivial⟩, ⟨rfl, trivial⟩, rfl⟩, rfl,
    Step.guarded rfl rfl rfl rfl (fun hc => Does.strip (n' := [(75, (.opt (((v13 && v15) && (v1.2 == v3.2)) && v21) (e_s_api_Member p0))), (77, (.opt (((v13 && v15) && (v1.2 == v3.2)) && v21) (e_a8_u32 p2.M)))]) (n := [(75, (e_s_api_Member p0)), (77, (e_a8_u32 p2.M))]) ⟨(.opt _ _ hc), (.opt _ _ hc), trivial⟩ (does_call 16 0 (fun _ => .any) (.func 16) [(.tmp 75), (.tmp 77)] [(e_s_api_Member p0), (e_a8_u32 p2.M)] [] false [(e_s_api_Member p0), (e_a8_u32 p2.M)] (e_s_api_Member v25) _ _ rfl fo16 rfl ⟨trivial, trivial, trivial⟩ ⟨.data _ (d_s_api_Member p0), .data _ (d_a8_u32 p2.M), trivial⟩ (congressref18_Keep_data p0 p2.M _ (h26 hc)) (d_s_api_Member v25))), ⟨⟨rfl, rfl, rfl, trivial⟩, trivial, rfl⟩, rfl,
    Step.guarded rfl rfl rfl rfl (fun hc => Does.strip (n' := [(74, (.opt (((v13 && v15) && (v1.2 == v3.2)) && v21) (e_s_api_Member v23))), (78, (.opt (((v13 && v15) && (v1.2 == v3.2)) && v21) (e_s_api_Member v25)))]) (n := [(74, (e_s_api_Member v23)), (78, (e_s_api_Member v25))]) ⟨(.opt _ _ hc), (.opt _ _ hc), trivial⟩ (does_call 12 0 (fun _ => .any) (.func 12) [(.tmp 74), (.tmp 78)] [(e_s_api_Member v23), (e_s_api_Member v25)] [] true [(e_s_api_Member v23), (e_s_api_Member v25)] (.bool v27) _ _ rfl fo12 rfl ⟨trivial, trivial, trivial⟩ ⟨.data _ (d_s_api_Member v23), .data _ (d_s_api_Member v25), trivial⟩ (congressref18_Same_spec v23 v25 _ (h28 hc)) trivial)), ⟨⟨rfl, rfl, rfl, trivial⟩, trivial, rfl⟩, rfl,
    Step.plain rfl (does_and 70 79 (((v13 && v15) && (v1.2 == v3.2)) && v21) v27), ⟨⟨rfl, rfl, trivial⟩, trivial, rfl⟩, rfl,
    Step.plain rfl (does_move (.tmp 80) (.bool ((((v13 && v15) && (v1.2 == v3.2)) && v21) && v27)) trivial), ⟨⟨rfl, trivial⟩, trivial, rfl⟩, rfl,
    Step.guarded rfl rfl rfl rfl (fun hc => does_move (.tmp 0) (e_s_api_Member p0) trivial), ⟨⟨rfl, rfl, trivial⟩, trivial, rfl⟩, rfl,
    Step.guarded rfl rfl rfl rfl (fun hc => Does.strip (n' := [(82, (.opt ((((v13 && v15) && (v1.2 == v3.2)) && v21) && v27) (e_s_api_Member p0)))]) (n := [(82, (e_s_api_Member p0))]) ⟨(.opt _ _ hc), trivial⟩ (does_call 17 0 (fun _ => .any) (.func 17) [(.tmp 82)] [(e_s_api_Member p0)] [] true [(e_s_api_Member p0)] (.bool v29) _ _ rfl fo17 rfl ⟨trivial, trivial⟩ ⟨.data _ (d_s_api_Member p0), trivial⟩ (group_May_spec p0 _ (h30 hc)) trivial)), ⟨⟨rfl, rfl, trivial⟩, trivial, rfl⟩, rfl,
    Step.guarded rfl rfl rfl rfl (fun hc => does_move (.tmp 0) (e_s_api_Member p0) trivial), ⟨⟨rfl, rfl, trivial⟩, trivial, rfl⟩, rfl,
    Step.guarded rfl rfl rfl rfl (fun hc => Does.strip (n' := [(84, (.opt ((((v13 && v15) && (v1.2 == v3.2)) && v21) && v27) (e_s_api_Member p0)))]) (n := [(84, (e_s_api_Member p0))]) ⟨(.opt _ _ hc), trivial⟩ (does_call 18 0 (fun _ => .any) (.func 18) [(.tmp 84)] [(e_s_api_Member p0)] [] true [(e_s_api_Member p0)] (.bool v31) _ _ rfl fo18 rfl ⟨trivial, trivial⟩ ⟨.data _ (d_s_api_Member p0), trivial⟩ (congressref18_May_spec p0 _ (h32 hc)) trivial)), ⟨⟨rfl, rfl, trivial⟩, trivial, rfl⟩, rfl,
    Step.guarded rfl rfl rfl rfl (fun hc => Does.strip (n' := [(83, (.opt ((((v13 && v15) && (v1.2 == v3.2)) && v21) && v27) (.bool v29))), (85, (.opt ((((v13 && v15) && (v1.2 == v3.2)) && v21) && v27) (.bool v31)))]) (n := [(83, (.bool v29)), (85, (.bool v31))]) ⟨(.opt _ _ hc), (.opt _ _ hc), trivial⟩ (does_eqBool false 4 4 (.tmp 83) (.tmp 85) v29 v31 trivial trivial rfl)), ⟨⟨rfl, rfl, rfl, trivial⟩, trivial, rfl⟩, rfl,
    Step.plain rfl (does_and 81 86 ((((v13 && v15) && (v1.2 == v3.2)) && v21) && v27) (v29 == v31)), ⟨⟨rfl, rfl, trivial⟩, trivial, rfl⟩, rfl,
    Step.plain rfl (does_move (.tmp 87) (.bool (((((v13 && v15) && (v1.2 == v3.2)) && v21) && v27) && (v29 == v31))) trivial), ⟨⟨rfl, trivial⟩, trivial, rfl⟩, rfl,
    Step.guarded rfl rfl rfl rfl (fun hc => does_move (.tmp 11) (.bool ((decide ((p0.length : Int) < 2)) || (v7 == v11))) trivial), ⟨⟨rfl, rfl, trivial⟩, trivial, rfl⟩, rfl,
    Step.plain rfl (does_and 88 89 (((((v13 && v15) && (v1.2 == v3.2)) && v21) && v27) && (v29 == v31)) ((decide ((p0.length : Int) < 2)) || (v7 == v11))), ⟨⟨rfl, rfl, trivial⟩, trivial, rfl⟩, rfl,
    Step.plain rfl (does_assign (.tmp 90) (.bool ((((((v13 && v15) && (v1.2 == v3.2)) && v21) && v27) && (v29 == v31)) && ((decide ((p0.length : Int) < 2)) || (v7 == v11)))) trivial), ⟨⟨rfl, trivial⟩, trivial, rfl⟩, rfl, rfl⟩ rfl ?_
  obtain ⟨v33, hv33, H⟩ := lt_of H
  refine aw_cov (cov_prune (s1 := ⟨[(6, (.bool v33))], [], 3⟩) ⟨(by subst hv33; rfl), trivial⟩ trivial (Nat.le_refl _)) ?_
  refine aw_ret ?_
  exact fun a w hr => ⟨_, [(.bool v33)], hr, ⟨⟨_, rfl, .data (.bool v33) trivial⟩, trivial⟩, by decide, by cases H; rfl⟩
end Go.Proofs.Ytpcpfcijdliicaa
