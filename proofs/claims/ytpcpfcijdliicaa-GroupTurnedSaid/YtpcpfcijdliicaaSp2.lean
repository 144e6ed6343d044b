/- Printed by gen.py. Conditions: none. -/
import Derived.Test.YtpcpfcijdliicaaSp1
import Derived.KernelRfl
set_option linter.unusedVariables false
set_option maxRecDepth 100000
namespace Go.Proofs.Ytpcpfcijdliicaa
open Go.Eng
set_option maxHeartbeats 1600000
theorem group_Apply_spec (p0 : (_root_.List api_Member)) (p1 : Int) (p2 : api_Entry) (r : (_root_.List api_Member) × Bool) (H : group_Apply p0 p1 p2 = some r) : FSpecO Try.prog 7 [(e_s_api_Member p0), (.int .i64 p1), (e_api_Entry p2)] [] 0 (resV [(.own 0), (.bool r.2)]) [(0, some (.arr 3 r.1.length fun j => (e_api_Member (r.1.getD j z_api_Member))))] 1 := by
  refine specO_of (fn := Try.f7) (args := [(e_s_api_Member p0), (.int .i64 p1), (e_api_Entry p2)]) Try.func7 rfl (Nat.le_of_ble_eq_true rfl) ?_
  rintro ⟨G, w0, W, S, Sp⟩ hG
  cases hG
  unfold group_Apply at H
  refine aw_region (es := [_, _, _]) ⟨Step.plain rfl (does_box 25 (.tmp 2) 0 (e_api_Entry p2) trivial rfl), ⟨⟨rfl, trivial⟩, trivial, rfl⟩, rfl,
    Step.plain rfl (does_nil false 1 3 (fun j => (e_api_Member (([] : _root_.List api_Member).getD j z_api_Member)))), ⟨trivial, trivial, rfl⟩, rfl,
    Step.plain rfl (does_assign (.const (.bool false)) (.bool false) (fun _ => rfl)), ⟨trivial, trivial, rfl⟩, rfl, rfl⟩ ?_
  refine aw_cov (cov_prune (s1 := ⟨[(0, (e_s_api_Member p0)), (1, (.int .i64 p1)), (5, (.ptr 0 0 []))], [(0, some (.var (e_api_Entry p2)))], 2⟩) ⟨rfl, rfl, rfl, trivial⟩ ⟨rfl, trivial⟩ (Nat.le_refl _)) ?_
  refine aw_region (es := [_, _, _, _, _, _, _, _]) ⟨Step.plain rfl (does_fieldAddr 25 2 2 5 0 0 [] (.var (e_api_Entry p2)) fl25_2), ⟨⟨rfl, trivial⟩, ⟨rfl, trivial⟩, rfl⟩, rfl,
    Step.plain rfl (does_load 3 12 0 (0 + 2) [2] (.var (e_api_Entry p2)) (.int .i64 p2.Group) ⟨rfl, Nat.le_of_ble_eq_true rfl, trivial⟩ rfl rfl ty3), ⟨⟨rfl, trivial⟩, ⟨rfl, trivial⟩, rfl⟩, rfl,
    Step.plain rfl (does_move (.tmp 1) (.int .i64 p1) trivial), ⟨⟨rfl, trivial⟩, trivial, rfl⟩, rfl,
    Step.plain rfl (does_fieldAddr 25 3 3 5 0 0 [] (.var (e_api_Entry p2)) fl25_3), ⟨⟨rfl, trivial⟩, ⟨rfl, trivial⟩, rfl⟩, rfl,
    Step.plain rfl (does_load 23 15 0 (0 + 3) [3] (.var (e_api_Entry p2)) (.int .u64 p2.Session) ⟨rfl, Nat.le_of_ble_eq_true rfl, trivial⟩ rfl rfl ty23), ⟨⟨rfl, trivial⟩, ⟨rfl, trivial⟩, rfl⟩, rfl,
    Step.plain rfl (does_buildT 35 #[(0, (.tmp 13)), (1, (.tmp 14)), (2, (.tmp 16))] [(0, (.tmp 13)), (1, (.tmp 14)), (2, (.tmp 16))] [(0, (.int .i64 p2.Group)), (1, (.int .i64 p1)), (2, (.int .u64 p2.Session))] (.st [1, 1, 1]) (c_api_Member z_api_Member) (c_api_Member ({ Group := p2.Group, Daemon := p1, Session := p2.Session } : api_Member)) rfl bo35 ⟨⟨rfl, trivial⟩, ⟨rfl, trivial⟩, ⟨rfl, trivial⟩, trivial⟩ ⟨⟨Nat.le_of_ble_eq_true rfl, rfl, rfl⟩, ⟨Nat.le_of_ble_eq_true rfl, rfl, rfl⟩, ⟨Nat.le_of_ble_eq_true rfl, rfl, rfl⟩, trivial⟩ (by funext j; match j with | 0 => rfl | 1 => rfl | 2 => rfl | _ + 3 => rfl)), ⟨⟨rfl, rfl, rfl, trivial⟩, trivial, rfl⟩, rfl,
    Step.plain rfl (does_alloc 35 2 (e_api_Member z_api_Member) zr35), ⟨trivial, trivial, rfl⟩, rfl,
    Step.plain rfl (does_store 35 8 (.tmp 17) 2 0 [] (.var (e_api_Member z_api_Member)) (.var (e_api_Member ({ Group := p2.Group, Daemon := p1, Session := p2.Session } : api_Member))) (e_api_Member ({ Group := p2.Group, Daemon := p1, Session := p2.Session } : api_Member)) true trivial rfl trivial rfl rfl rfl ty35), ⟨⟨rfl, rfl, trivial⟩, ⟨rfl, trivial⟩, rfl⟩, rfl, rfl⟩ ?_
  obtain ⟨v1, hv1, H⟩ := lt_of H
  refine aw_cov (cov_prune (s1 := ⟨[(0, (e_s_api_Member p0)), (5, (.ptr 0 0 [])), (8, (.ptr 2 0 []))], [(0, some (.var (e_api_Entry p2))), (2, some (.var (e_api_Member v1)))], 3⟩) ⟨rfl, rfl, rfl, trivial⟩ ⟨rfl, (by subst hv1; rfl), trivial⟩ (Nat.le_refl _)) ?_
  obtain ⟨v2, h3, H⟩ := bnd H
  refine aw_region (es := [_, _, _]) ⟨Step.plain rfl (does_move (.tmp 0) (e_s_api_Member p0) trivial), ⟨⟨rfl, trivial⟩, trivial, rfl⟩, rfl,
    Step.plain rfl (does_callO 20 0 (fun _ => .any) (.func 20) [(.tmp 18)] [(e_s_api_Member p0)] [] [] true [(e_s_api_Member p0)] _ (.own 3) _ 3 1 _ _ rfl fo20 rfl ⟨trivial, trivial⟩ ⟨.ro _ _ (.data _ (d_s_api_Member p0)), trivial⟩ (slices_Clone_api_Member_api_Member_spec p0 _ h3) rfl (by simp) rfl trivial ⟨⟨Nat.le_of_ble_eq_true rfl, _, rfl, fun _ => (f_api_Member _)⟩, trivial⟩ (.own 0 (Nat.le_of_ble_eq_true rfl))), ⟨⟨rfl, trivial⟩, trivial, rfl⟩, rfl,
    Step.plain rfl (does_assign (.tmp 19) (.own 3) trivial), ⟨⟨rfl, trivial⟩, trivial, rfl⟩, rfl, rfl⟩ ?_
  refine aw_cov (cov_prune (s1 := ⟨[(5, (.ptr 0 0 [])), (8, (.ptr 2 0 [])), (9, (.own 3))], [(0, some (.var (e_api_Entry p2))), (2, some (.var (e_api_Member v1))), (3, some (.arr 3 v2.length fun j => (e_api_Member (v2.getD j z_api_Member))))], 4⟩) ⟨rfl, rfl, rfl, trivial⟩ ⟨rfl, rfl, rfl, trivial⟩ (Nat.le_refl _)) ?_
  obtain ⟨v4, h5, H⟩ := bnd H
  refine aw_region (es := [_, _, _, _]) ⟨Step.plain rfl (does_move (.tmp 9) (.own 3) trivial), ⟨⟨rfl, trivial⟩, trivial, rfl⟩, rfl,
    Step.plain rfl (does_makeFunc 22 [(.tmp 8)] [(.ptr 2 0 [])] #[(.tmp 8)] rfl ⟨trivial, trivial⟩), ⟨⟨rfl, trivial⟩, trivial, rfl⟩, rfl,
    Step.plain rfl (does_call 21 0 (fun _ => .any) (.func 21) [(.tmp 20), (.tmp 21)] [(.own 3), (.fn 22 1 (fun j => ([(.ptr 2 0 [])] : _root_.List V).getD j (.bool false)))] [(3, (.arr 3 v2.length fun j => (e_api_Member (v2.getD j z_api_Member)))), (2, (.var (e_api_Member v1)))] true [(e_s_api_Member v2), (.fn 22 1 (fun j => ([.cptr (e_api_Member v1)] : _root_.List V).getD j (.bool false)))] (.int .i64 v4) _ _ rfl fo21 rfl ⟨trivial, trivial, trivial⟩ ⟨.own 3 _ _ _ (.head _) rfl (fun _ => (d_api_Member _)), .fn _ _ _ _ (fun j hj => match j, hj with | 0, _ => .ptr 2 0 [] (.var (e_api_Member v1)) (e_api_Member v1) (.tail _ (.head _)) trivial rfl rfl (d_api_Member v1) | k + 1, hj => absurd hj (by omega)), trivial⟩ (slices_IndexFunc_api_Member_api_Member_spec v2 (fun z0 => group_Apply_1 z0 v1) 22 1 (fun j => ([.cptr (e_api_Member v1)] : _root_.List V).getD j (.bool false)) fo22 (fun j => match j with | 0 => .inl (.inr ⟨(e_api_Member v1), (d_api_Member v1), rfl⟩) | _ + 1 => .inl (.inl trivial)) (fun z0 r h => group_Apply_1_spec z0 v1 r h) _ h5) trivial), ⟨⟨rfl, rfl, trivial⟩, ⟨rfl, rfl, trivial⟩, rfl⟩, rfl,
    Step.plain rfl (does_assign (.tmp 22) (.int .i64 v4) trivial), ⟨⟨rfl, trivial⟩, trivial, rfl⟩, rfl, rfl⟩ ?_
  refine aw_cov (cov_prune (s1 := ⟨[(5, (.ptr 0 0 [])), (8, (.ptr 2 0 [])), (9, (.own 3)), (10, (.int .i64 v4))], [(0, some (.var (e_api_Entry p2))), (2, some (.var (e_api_Member v1))), (3, some (.arr 3 v2.length fun j => (e_api_Member (v2.getD j z_api_Member))))], 4⟩) ⟨rfl, rfl, rfl, rfl, trivial⟩ ⟨rfl, rfl, rfl, trivial⟩ (Nat.le_refl _)) ?_
  refine aw_seq ?_
  refine aw_region (es := [_, _]) ⟨Step.plain rfl (does_move (.tmp 10) (.int .i64 v4) trivial), ⟨⟨rfl, trivial⟩, trivial, rfl⟩, rfl,
    Step.plain rfl (does_bin .lss 3 3 (.tmp 23) (.const (.int .i64 0)) .i64 v4 0 (.bool (decide (v4 < 0))) trivial (fun _ => rfl) (bin_lss _ _ _ _)), ⟨⟨rfl, trivial⟩, trivial, rfl⟩, rfl, rfl⟩ ?_
  refine aw_cov (cov_prune (s1 := ⟨[(5, (.ptr 0 0 [])), (8, (.ptr 2 0 [])), (9, (.own 3)), (10, (.int .i64 v4)), (24, (.bool (decide (v4 < 0))))], [(0, some (.var (e_api_Entry p2))), (2, some (.var (e_api_Member v1))), (3, some (.arr 3 v2.length fun j => (e_api_Member (v2.getD j z_api_Member))))], 4⟩) ⟨rfl, rfl, rfl, rfl, rfl, trivial⟩ ⟨rfl, rfl, rfl, trivial⟩ (Nat.le_refl _)) ?_
  refine aw_jn (fun x7 : Int => (⟨[(5, (.ptr 0 0 [])), (8, (.ptr 2 0 [])), (9, (.own 3)), (10, (.int .i64 x7))], [(0, some (.var (e_api_Entry p2))), (2, some (.var (e_api_Member v1))), (3, some (.arr 3 v2.length fun j => (e_api_Member (v2.getD j z_api_Member))))], 4⟩ : St)) H (fun x7 H => ?_) (fun j6 H => ?_)
  · refine nx_seq ?_
    obtain ⟨v8, h9, H⟩ := bnd H
    refine aw_region (es := [_, _, _, _]) ⟨Step.plain rfl (does_move (.tmp 9) (.own 3) trivial), ⟨⟨rfl, trivial⟩, trivial, rfl⟩, rfl,
      Step.plain rfl (does_load 35 8 2 0 [] (.var (e_api_Member v1)) (e_api_Member v1) trivial rfl rfl ty35), ⟨⟨rfl, trivial⟩, ⟨rfl, trivial⟩, rfl⟩, rfl,
      Step.plain rfl (does_call 23 0 (fun _ => .any) (.func 23) [(.tmp 27), (.tmp 28)] [(.own 3), (e_api_Member v1)] [(3, (.arr 3 v2.length fun j => (e_api_Member (v2.getD j z_api_Member))))] true [(e_s_api_Member v2), (e_api_Member v1)] (.bool v8) _ _ rfl fo23 rfl ⟨trivial, trivial, trivial⟩ ⟨.own 3 _ _ _ (.head _) rfl (fun _ => (d_api_Member _)), .data _ (d_api_Member v1), trivial⟩ (slices_Contains_api_Member_api_Member_spec v2 v1 _ h9) trivial), ⟨⟨rfl, rfl, trivial⟩, ⟨rfl, trivial⟩, rfl⟩, rfl,
      Step.plain rfl (does_assign (.tmp 29) (.bool v8) trivial), ⟨⟨rfl, trivial⟩, trivial, rfl⟩, rfl, rfl⟩ ?_
    refine aw_cov (cov_prune (s1 := ⟨[(5, (.ptr 0 0 [])), (8, (.ptr 2 0 [])), (9, (.own 3)), (10, (.int .i64 x7)), (11, (.bool v8))], [(0, some (.var (e_api_Entry p2))), (2, some (.var (e_api_Member v1))), (3, some (.arr 3 v2.length fun j => (e_api_Member (v2.getD j z_api_Member))))], 4⟩) ⟨rfl, rfl, rfl, rfl, rfl, trivial⟩ ⟨rfl, rfl, rfl, trivial⟩ (Nat.le_refl _)) ?_
    refine aw_seq ?_
    refine aw_block ?_
    obtain ⟨v10, h11, H⟩ := bnd H
    refine aw_region (es := [_, _, _, _]) ⟨Step.plain rfl (does_load 35 8 2 0 [] (.var (e_api_Member v1)) (e_api_Member v1) trivial rfl rfl ty35), ⟨⟨rfl, trivial⟩, ⟨rfl, trivial⟩, rfl⟩, rfl,
      Step.plain rfl (does_call 24 0 (fun _ => .any) (.func 24) [(.tmp 31)] [(e_api_Member v1)] [] true [(e_api_Member v1)] (.bool v10) _ _ rfl fo24 rfl ⟨trivial, trivial⟩ ⟨.data _ (d_api_Member v1), trivial⟩ (group_right_spec v1 _ h11) trivial), ⟨⟨rfl, trivial⟩, trivial, rfl⟩, rfl,
      Step.plain rfl (does_not 4 (.tmp 32) v10 trivial), ⟨⟨rfl, trivial⟩, trivial, rfl⟩, rfl,
      Step.plain rfl (does_assign (.tmp 33) (.bool (!v10)) trivial), ⟨⟨rfl, trivial⟩, trivial, rfl⟩, rfl, rfl⟩ ?_
    refine aw_cov (cov_prune (s1 := ⟨[(5, (.ptr 0 0 [])), (8, (.ptr 2 0 [])), (9, (.own 3)), (10, (.int .i64 x7)), (11, (.bool v8)), (30, (.bool (!v10)))], [(0, some (.var (e_api_Entry p2))), (2, some (.var (e_api_Member v1))), (3, some (.arr 3 v2.length fun j => (e_api_Member (v2.getD j z_api_Member))))], 4⟩) ⟨rfl, rfl, rfl, rfl, rfl, rfl, trivial⟩ ⟨rfl, rfl, rfl, trivial⟩ (Nat.le_refl _)) ?_
    refine aw_cond rfl (fun hc => ?_) (fun hc => ?_)
    · replace H := ite_t hc H
      refine aw_region (es := [_, _, _]) ⟨Step.plain rfl (does_move (.tmp 9) (.own 3) trivial), ⟨⟨rfl, trivial⟩, trivial, rfl⟩, rfl,
        Step.plain rfl (does_assign (.tmp 34) (.own 3) trivial), ⟨⟨rfl, trivial⟩, trivial, rfl⟩, rfl,
        Step.plain rfl (does_assign (.const (.bool false)) (.bool false) (fun _ => rfl)), ⟨trivial, trivial, rfl⟩, rfl, rfl⟩ ?_
      refine aw_cov (cov_prune (s1 := ⟨[(6, (.own 3)), (7, (.bool false))], [(3, some (.arr 3 v2.length fun j => (e_api_Member (v2.getD j z_api_Member))))], 4⟩) ⟨rfl, rfl, trivial⟩ ⟨rfl, trivial⟩ (Nat.le_refl _)) ?_
      refine aw_ret ?_
      refine rt_blk ?_
      refine rt_then ?_
      exact fun a w hr => ⟨_, [(.own 0), (.bool false)], reach_of hr (cov_to (s1 := ⟨[(6, (.own 0)), (7, (.bool false))], [(0, some (.arr 3 v2.length fun j => (e_api_Member (v2.getD j z_api_Member))))], 1⟩) (fun i => match i with | 0 => 3 | k => k) [] ⟨⟨_, rfl, .own 0 _ _ (Nat.le_of_ble_eq_true rfl) rfl rfl (Box.like_refl _)⟩, ⟨_, rfl, .plain _ (trivial)⟩, trivial⟩ ⟨⟨Nat.le_of_ble_eq_true rfl, _, _, rfl, rfl, boxTo_arr (fun _ => (d_api_Member _))⟩, trivial⟩ rfl rfl), ⟨rfl, rfl, trivial⟩, by decide, by cases H; rfl, by cases H; exact ⟨rfl, trivial⟩, Nat.le_of_ble_eq_true rfl⟩
    · replace H := ite_f hc H
      refine aw_region (es := [_, _, _, _, _, _, _, _]) ⟨Step.plain rfl (does_fieldAddr 25 0 0 5 0 0 [] (.var (e_api_Entry p2)) fl25_0), ⟨⟨rfl, trivial⟩, ⟨rfl, trivial⟩, rfl⟩, rfl,
        Step.plain rfl (does_load 3 36 0 (0 + 0) [0] (.var (e_api_Entry p2)) (.int .i64 p2.Kind) ⟨rfl, Nat.le_of_ble_eq_true rfl, trivial⟩ rfl rfl ty3), ⟨⟨rfl, trivial⟩, ⟨rfl, trivial⟩, rfl⟩, rfl,
        Step.plain rfl (does_bin .eql 3 3 (.tmp 37) (.const (.int .i64 2)) .i64 p2.Kind 2 (.bool (p2.Kind == 2)) trivial (fun _ => rfl) (bin_eql _ _ _ _)), ⟨⟨rfl, trivial⟩, trivial, rfl⟩, rfl,
        Step.plain rfl (does_move (.tmp 38) (.bool (p2.Kind == 2)) trivial), ⟨⟨rfl, trivial⟩, trivial, rfl⟩, rfl,
        Step.guarded rfl rfl rfl rfl (fun hc => does_move (.tmp 11) (.bool v8) trivial), ⟨⟨rfl, rfl, trivial⟩, trivial, rfl⟩, rfl,
        Step.guarded rfl rfl rfl rfl (fun hc => Does.strip (n' := [(40, (.opt (p2.Kind == 2) (.bool v8)))]) (n := [(40, (.bool v8))]) ⟨(.opt _ _ hc), trivial⟩ (does_not 4 (.tmp 40) v8 trivial)), ⟨⟨rfl, rfl, trivial⟩, trivial, rfl⟩, rfl,
        Step.plain rfl (does_and 39 41 (p2.Kind == 2) (!v8)), ⟨⟨rfl, rfl, trivial⟩, trivial, rfl⟩, rfl,
        Step.plain rfl (does_assign (.tmp 42) (.bool ((p2.Kind == 2) && (!v8))) trivial), ⟨⟨rfl, trivial⟩, trivial, rfl⟩, rfl, rfl⟩ ?_
      refine aw_cov (cov_prune (s1 := ⟨[(5, (.ptr 0 0 [])), (8, (.ptr 2 0 [])), (9, (.own 3)), (10, (.int .i64 x7)), (11, (.bool v8)), (35, (.bool ((p2.Kind == 2) && (!v8))))], [(0, some (.var (e_api_Entry p2))), (2, some (.var (e_api_Member v1))), (3, some (.arr 3 v2.length fun j => (e_api_Member (v2.getD j z_api_Member))))], 4⟩) ⟨rfl, rfl, rfl, rfl, rfl, rfl, trivial⟩ ⟨rfl, rfl, rfl, trivial⟩ (Nat.le_refl _)) ?_
      refine aw_cond rfl (fun hc => ?_) (fun hc => ?_)
      · replace H := ite_t hc H
        obtain ⟨v12, h13, H⟩ := bnd H
        refine aw_region (es := [_, _, _, _, _, _, _]) ⟨Step.plain rfl (does_move (.tmp 9) (.own 3) trivial), ⟨⟨rfl, trivial⟩, trivial, rfl⟩, rfl,
          Step.plain rfl (does_move (.tmp 10) (.int .i64 x7) trivial), ⟨⟨rfl, trivial⟩, trivial, rfl⟩, rfl,
          Step.plain rfl (does_load 35 8 2 0 [] (.var (e_api_Member v1)) (e_api_Member v1) trivial rfl rfl ty35), ⟨⟨rfl, trivial⟩, ⟨rfl, trivial⟩, rfl⟩, rfl,
          Step.plain rfl (does_buildSl 22 1 3 (e_api_Member z_api_Member) (fun j => (e_api_Member (([v1] : _root_.List api_Member).getD j z_api_Member))) #[(0, (.tmp 45))] [(0, (.tmp 45))] [(0, (e_api_Member v1))] rfl so22 (by decide) ⟨⟨rfl, trivial⟩, trivial⟩ ⟨⟨Nat.le_of_ble_eq_true rfl, rfl, rfl⟩, trivial⟩ (fun j h => match j, h with | 0, _ => rfl | k + 1, h => absurd h (by omega))), ⟨⟨rfl, trivial⟩, trivial, rfl⟩, rfl,
          Step.plain rfl (does_callO 25 0 (fun _ => .any) (.func 25) [(.tmp 43), (.tmp 44), (.tmp 46)] [(.own 3), (.int .i64 x7), (e_s_api_Member ([v1] : _root_.List api_Member))] [] [(3, (.arr 3 v2.length fun j => (e_api_Member (v2.getD j z_api_Member))))] true [(.own 0), (.int .i64 x7), (e_s_api_Member ([v1] : _root_.List api_Member))] _ (.own 4) _ 4 1 _ _ rfl fo25 rfl ⟨trivial, trivial, trivial, trivial⟩ ⟨(.mv 0 _ rfl), .ro _ _ (.data _ trivial), .ro _ _ (.data _ (d_s_api_Member ([v1] : _root_.List api_Member))), trivial⟩ (slices_Insert_api_Member_api_Member_spec v2 x7 ([v1] : _root_.List api_Member) _ h13) rfl (by simp) rfl ⟨(fun _ => (f_api_Member _)), trivial⟩ ⟨⟨Nat.le_of_ble_eq_true rfl, _, rfl, fun _ => (f_api_Member _)⟩, trivial⟩ (.own 0 (Nat.le_of_ble_eq_true rfl))), ⟨⟨rfl, rfl, rfl, trivial⟩, ⟨rfl, trivial⟩, rfl⟩, rfl,
          Step.plain rfl (does_assign (.tmp 47) (.own 4) trivial), ⟨⟨rfl, trivial⟩, trivial, rfl⟩, rfl,
          Step.plain rfl (does_assign (.const (.bool true)) (.bool true) (fun _ => rfl)), ⟨trivial, trivial, rfl⟩, rfl, rfl⟩ ?_
        refine aw_cov (cov_prune (s1 := ⟨[(6, (.own 4)), (7, (.bool true))], [(4, some (.arr 3 v12.length fun j => (e_api_Member (v12.getD j z_api_Member))))], 5⟩) ⟨rfl, rfl, trivial⟩ ⟨rfl, trivial⟩ (Nat.le_refl _)) ?_
        refine aw_ret ?_
        refine rt_blk ?_
        refine rt_then ?_
        exact fun a w hr => ⟨_, [(.own 0), (.bool true)], reach_of hr (cov_to (s1 := ⟨[(6, (.own 0)), (7, (.bool true))], [(0, some (.arr 3 v12.length fun j => (e_api_Member (v12.getD j z_api_Member))))], 1⟩) (fun i => match i with | 0 => 4 | k => k) [] ⟨⟨_, rfl, .own 0 _ _ (Nat.le_of_ble_eq_true rfl) rfl rfl (Box.like_refl _)⟩, ⟨_, rfl, .plain _ (trivial)⟩, trivial⟩ ⟨⟨Nat.le_of_ble_eq_true rfl, _, _, rfl, rfl, boxTo_arr (fun _ => (d_api_Member _))⟩, trivial⟩ rfl rfl), ⟨rfl, rfl, trivial⟩, by decide, by cases H; rfl, by cases H; exact ⟨rfl, trivial⟩, Nat.le_of_ble_eq_true rfl⟩
      · replace H := ite_f hc H
        refine aw_region (es := [_, _, _, _, _, _, _]) ⟨Step.plain rfl (does_fieldAddr 25 0 0 5 0 0 [] (.var (e_api_Entry p2)) fl25_0), ⟨⟨rfl, trivial⟩, ⟨rfl, trivial⟩, rfl⟩, rfl,
          Step.plain rfl (does_load 3 49 0 (0 + 0) [0] (.var (e_api_Entry p2)) (.int .i64 p2.Kind) ⟨rfl, Nat.le_of_ble_eq_true rfl, trivial⟩ rfl rfl ty3), ⟨⟨rfl, trivial⟩, ⟨rfl, trivial⟩, rfl⟩, rfl,
          Step.plain rfl (does_bin .eql 3 3 (.tmp 50) (.const (.int .i64 3)) .i64 p2.Kind 3 (.bool (p2.Kind == 3)) trivial (fun _ => rfl) (bin_eql _ _ _ _)), ⟨⟨rfl, trivial⟩, trivial, rfl⟩, rfl,
          Step.plain rfl (does_move (.tmp 51) (.bool (p2.Kind == 3)) trivial), ⟨⟨rfl, trivial⟩, trivial, rfl⟩, rfl,
          Step.guarded rfl rfl rfl rfl (fun hc => does_move (.tmp 11) (.bool v8) trivial), ⟨⟨rfl, rfl, trivial⟩, trivial, rfl⟩, rfl,
          Step.plain rfl (does_and 52 53 (p2.Kind == 3) v8), ⟨⟨rfl, rfl, trivial⟩, trivial, rfl⟩, rfl,
          Step.plain rfl (does_assign (.tmp 54) (.bool ((p2.Kind == 3) && v8)) trivial), ⟨⟨rfl, trivial⟩, trivial, rfl⟩, rfl, rfl⟩ ?_
        refine aw_cov (cov_prune (s1 := ⟨[(8, (.ptr 2 0 [])), (9, (.own 3)), (48, (.bool ((p2.Kind == 3) && v8)))], [(2, some (.var (e_api_Member v1))), (3, some (.arr 3 v2.length fun j => (e_api_Member (v2.getD j z_api_Member))))], 4⟩) ⟨rfl, rfl, rfl, trivial⟩ ⟨rfl, rfl, trivial⟩ (Nat.le_refl _)) ?_
        refine aw_cond rfl (fun hc => ?_) (fun hc => ?_)
        · replace H := ite_t hc H
          obtain ⟨v14, h15, H⟩ := bnd H
          refine aw_region (es := [_, _, _, _, _]) ⟨Step.plain rfl (does_move (.tmp 9) (.own 3) trivial), ⟨⟨rfl, trivial⟩, trivial, rfl⟩, rfl,
            Step.plain rfl (does_makeFunc 27 [(.tmp 8)] [(.ptr 2 0 [])] #[(.tmp 8)] rfl ⟨trivial, trivial⟩), ⟨⟨rfl, trivial⟩, trivial, rfl⟩, rfl,
            Step.plain rfl (does_callO 26 0 (fun _ => .any) (.func 26) [(.tmp 55), (.tmp 56)] [(.own 3), (.fn 27 1 (fun j => ([(.ptr 2 0 [])] : _root_.List V).getD j (.bool false)))] [(2, (.var (e_api_Member v1)))] [(3, (.arr 3 v2.length fun j => (e_api_Member (v2.getD j z_api_Member))))] true [(.own 0), (.fn 27 1 (fun j => ([.cptr (e_api_Member v1)] : _root_.List V).getD j (.bool false)))] _ (.own 4) _ 4 1 _ _ rfl fo26 rfl ⟨trivial, trivial, trivial⟩ ⟨(.mv 0 _ rfl), .ro _ _ (.fn _ _ _ _ (fun j hj => match j, hj with | 0, _ => .ptr 2 0 [] (.var (e_api_Member v1)) (e_api_Member v1) (.head _) trivial rfl rfl (d_api_Member v1) | k + 1, hj => absurd hj (by omega))), trivial⟩ (slices_DeleteFunc_api_Member_api_Member_spec v2 (fun z0 => group_Apply_2 z0 v1) 27 1 (fun j => ([.cptr (e_api_Member v1)] : _root_.List V).getD j (.bool false)) fo27 (fun j => match j with | 0 => .inl (.inr ⟨(e_api_Member v1), (d_api_Member v1), rfl⟩) | _ + 1 => .inl (.inl trivial)) (fun z0 r h => group_Apply_2_spec z0 v1 r h) _ h15) rfl (by simp) rfl ⟨(fun _ => (f_api_Member _)), trivial⟩ ⟨⟨Nat.le_of_ble_eq_true rfl, _, rfl, fun _ => (f_api_Member _)⟩, trivial⟩ (.own 0 (Nat.le_of_ble_eq_true rfl))), ⟨⟨rfl, rfl, trivial⟩, ⟨rfl, rfl, trivial⟩, rfl⟩, rfl,
            Step.plain rfl (does_assign (.tmp 57) (.own 4) trivial), ⟨⟨rfl, trivial⟩, trivial, rfl⟩, rfl,
            Step.plain rfl (does_assign (.const (.bool true)) (.bool true) (fun _ => rfl)), ⟨trivial, trivial, rfl⟩, rfl, rfl⟩ ?_
          refine aw_cov (cov_prune (s1 := ⟨[(6, (.own 4)), (7, (.bool true))], [(4, some (.arr 3 v14.length fun j => (e_api_Member (v14.getD j z_api_Member))))], 5⟩) ⟨rfl, rfl, trivial⟩ ⟨rfl, trivial⟩ (Nat.le_refl _)) ?_
          refine aw_ret ?_
          refine rt_blk ?_
          refine rt_then ?_
          exact fun a w hr => ⟨_, [(.own 0), (.bool true)], reach_of hr (cov_to (s1 := ⟨[(6, (.own 0)), (7, (.bool true))], [(0, some (.arr 3 v14.length fun j => (e_api_Member (v14.getD j z_api_Member))))], 1⟩) (fun i => match i with | 0 => 4 | k => k) [] ⟨⟨_, rfl, .own 0 _ _ (Nat.le_of_ble_eq_true rfl) rfl rfl (Box.like_refl _)⟩, ⟨_, rfl, .plain _ (trivial)⟩, trivial⟩ ⟨⟨Nat.le_of_ble_eq_true rfl, _, _, rfl, rfl, boxTo_arr (fun _ => (d_api_Member _))⟩, trivial⟩ rfl rfl), ⟨rfl, rfl, trivial⟩, by decide, by cases H; rfl, by cases H; exact ⟨rfl, trivial⟩, Nat.le_of_ble_eq_true rfl⟩
        · replace H := ite_f hc H
          refine aw_skip ?_
          refine nx_blk ?_
          refine nx_seq ?_
          refine aw_region (es := [_, _, _]) ⟨Step.plain rfl (does_move (.tmp 9) (.own 3) trivial), ⟨⟨rfl, trivial⟩, trivial, rfl⟩, rfl,
            Step.plain rfl (does_assign (.tmp 58) (.own 3) trivial), ⟨⟨rfl, trivial⟩, trivial, rfl⟩, rfl,
            Step.plain rfl (does_assign (.const (.bool false)) (.bool false) (fun _ => rfl)), ⟨trivial, trivial, rfl⟩, rfl, rfl⟩ ?_
          refine aw_cov (cov_prune (s1 := ⟨[(6, (.own 3)), (7, (.bool false))], [(3, some (.arr 3 v2.length fun j => (e_api_Member (v2.getD j z_api_Member))))], 4⟩) ⟨rfl, rfl, trivial⟩ ⟨rfl, trivial⟩ (Nat.le_refl _)) ?_
          refine aw_ret ?_
          exact fun a w hr => ⟨_, [(.own 0), (.bool false)], reach_of hr (cov_to (s1 := ⟨[(6, (.own 0)), (7, (.bool false))], [(0, some (.arr 3 v2.length fun j => (e_api_Member (v2.getD j z_api_Member))))], 1⟩) (fun i => match i with | 0 => 3 | k => k) [] ⟨⟨_, rfl, .own 0 _ _ (Nat.le_of_ble_eq_true rfl) rfl rfl (Box.like_refl _)⟩, ⟨_, rfl, .plain _ (trivial)⟩, trivial⟩ ⟨⟨Nat.le_of_ble_eq_true rfl, _, _, rfl, rfl, boxTo_arr (fun _ => (d_api_Member _))⟩, trivial⟩ rfl rfl), ⟨rfl, rfl, trivial⟩, by decide, by cases H; rfl, by cases H; exact ⟨rfl, trivial⟩, Nat.le_of_ble_eq_true rfl⟩
  · refine aw_cond rfl (fun hc => ?_) (fun hc => ?_)
    · replace H := ite_t hc H
      refine aw_region1 (es := [_, _, _]) ⟨Step.plain rfl (does_move (.tmp 9) (.own 3) trivial), ⟨⟨rfl, trivial⟩, trivial, rfl⟩, rfl,
        Step.plain rfl (does_leno 22 3 v2.length 25 3 (fun j => (e_api_Member (v2.getD j z_api_Member))) el22), ⟨⟨rfl, trivial⟩, ⟨rfl, trivial⟩, rfl⟩, rfl,
        Step.plain rfl (does_assign (.tmp 26) (.int .i64 (v2.length : Int)) trivial), ⟨⟨rfl, trivial⟩, trivial, rfl⟩, rfl, rfl⟩ ?_
      exact nx_join ((v2.length : Int)) H (cov_prune ⟨rfl, rfl, rfl, rfl, trivial⟩ ⟨rfl, rfl, rfl, trivial⟩ (Nat.le_of_ble_eq_true rfl))
    · replace H := ite_f hc H
      refine aw_skip ?_
      exact nx_join (v4) H (cov_prune ⟨rfl, rfl, rfl, rfl, trivial⟩ ⟨rfl, rfl, rfl, trivial⟩ (Nat.le_of_ble_eq_true rfl))

theorem group_Apply_data (p0 : (_root_.List api_Member)) (p1 : Int) (p2 : api_Entry) (r : (_root_.List api_Member) × Bool) (H : group_Apply p0 p1 p2 = some r) : FSpec Try.prog 7 [(e_s_api_Member p0), (.int .i64 p1), (e_api_Entry p2)] (resV [(e_s_api_Member r.1), (.bool r.2)]) :=
  FSpecO.toData (fz := [0]) (group_Apply_spec p0 p1 p2 r H) (res_data2 (d_s_api_Member r.1) trivial) (.tup _ _ _ (fun j => match j with | 0 => .frz 0 _ _ _ rfl (fun _ => (d_api_Member _)) (by decide) | 1 => .plain _ (trivial) | _ + 2 => .plain _ trivial))

theorem congressref18_Right_spec (p0 : api_Member) (r : Bool) (H : congressref18_Right p0 = some r) : FSpec Try.prog 28 [(e_api_Member p0)] (.bool r) := by
  refine spec_of (fn := Try.f28) (args := [(e_api_Member p0)]) Try.func28 rfl (Nat.le_of_ble_eq_true rfl) ?_
  rintro ⟨G, w0, W, S, Sp⟩ hG
  cases hG
  unfold congressref18_Right at H
  refine aw_region (es := [_, _]) ⟨Step.plain rfl (does_box 35 (.tmp 0) 0 (e_api_Member p0) trivial rfl), ⟨⟨rfl, trivial⟩, trivial, rfl⟩, rfl,
    Step.plain rfl (does_assign (.const (.bool false)) (.bool false) (fun _ => rfl)), ⟨trivial, trivial, rfl⟩, rfl, rfl⟩ ?_
  refine aw_cov (cov_prune (s1 := ⟨[(1, (.ptr 0 0 []))], [(0, some (.var (e_api_Member p0)))], 1⟩) ⟨rfl, trivial⟩ ⟨rfl, trivial⟩ (Nat.le_refl _)) ?_
  refine aw_region (es := [_, _, _, _, _, _, _, _, _, _, _, _, _, _, _, _, _, _, _, _, _, _, _, _]) ⟨Step.plain rfl (does_fieldAddr 35 0 0 1 0 0 [] (.var (e_api_Member p0)) fl35_0), ⟨⟨rfl, trivial⟩, ⟨rfl, trivial⟩, rfl⟩, rfl,
    Step.plain rfl (does_load 3 3 0 (0 + 0) [0] (.var (e_api_Member p0)) (.int .i64 p0.Group) ⟨rfl, Nat.le_of_ble_eq_true rfl, trivial⟩ rfl rfl ty3), ⟨⟨rfl, trivial⟩, ⟨rfl, trivial⟩, rfl⟩, rfl,
    Step.plain rfl (does_bin .geq 3 3 (.tmp 4) (.const (.int .i64 0)) .i64 p0.Group 0 (.bool (decide (p0.Group ≥ 0))) trivial (fun _ => rfl) (bin_geq _ _ _ _)), ⟨⟨rfl, trivial⟩, trivial, rfl⟩, rfl,
    Step.plain rfl (does_move (.tmp 5) (.bool (decide (p0.Group ≥ 0))) trivial), ⟨⟨rfl, trivial⟩, trivial, rfl⟩, rfl,
    Step.guarded rfl rfl rfl rfl (fun hc => does_fieldAddr 35 0 0 1 0 0 [] (.var (e_api_Member p0)) fl35_0), ⟨⟨rfl, rfl, trivial⟩, ⟨rfl, trivial⟩, rfl⟩, rfl,
    Step.guarded rfl rfl rfl rfl (fun hc => Does.strip (n' := [(7, (.opt (decide (p0.Group ≥ 0)) (.ptr 0 (0 + 0) [0])))]) (n := [(7, (.ptr 0 (0 + 0) [0]))]) ⟨(.opt _ _ hc), trivial⟩ (does_load 3 7 0 (0 + 0) [0] (.var (e_api_Member p0)) (.int .i64 p0.Group) ⟨rfl, Nat.le_of_ble_eq_true rfl, trivial⟩ rfl rfl ty3)), ⟨⟨rfl, rfl, trivial⟩, ⟨rfl, trivial⟩, rfl⟩, rfl,
    Step.guarded rfl rfl rfl rfl (fun hc => Does.strip (n' := [(8, (.opt (decide (p0.Group ≥ 0)) (.int .i64 p0.Group)))]) (n := [(8, (.int .i64 p0.Group))]) ⟨(.opt _ _ hc), trivial⟩ (does_bin .leq 3 3 (.tmp 8) (.const (.int .i64 7)) .i64 p0.Group 7 (.bool (decide (p0.Group ≤ 7))) trivial (fun _ => rfl) (bin_leq _ _ _ _))), ⟨⟨rfl, rfl, trivial⟩, trivial, rfl⟩, rfl,
    Step.plain rfl (does_and 6 9 (decide (p0.Group ≥ 0)) (decide (p0.Group ≤ 7))), ⟨⟨rfl, rfl, trivial⟩, trivial, rfl⟩, rfl,
    Step.plain rfl (does_move (.tmp 10) (.bool ((decide (p0.Group ≥ 0)) && (decide (p0.Group ≤ 7)))) trivial), ⟨⟨rfl, trivial⟩, trivial, rfl⟩, rfl,
    Step.guarded rfl rfl rfl rfl (fun hc => does_fieldAddr 35 1 1 1 0 0 [] (.var (e_api_Member p0)) fl35_1), ⟨⟨rfl, rfl, trivial⟩, ⟨rfl, trivial⟩, rfl⟩, rfl,
    Step.guarded rfl rfl rfl rfl (fun hc => Does.strip (n' := [(12, (.opt ((decide (p0.Group ≥ 0)) && (decide (p0.Group ≤ 7))) (.ptr 0 (0 + 1) [1])))]) (n := [(12, (.ptr 0 (0 + 1) [1]))]) ⟨(.opt _ _ hc), trivial⟩ (does_load 3 12 0 (0 + 1) [1] (.var (e_api_Member p0)) (.int .i64 p0.Daemon) ⟨rfl, Nat.le_of_ble_eq_true rfl, trivial⟩ rfl rfl ty3)), ⟨⟨rfl, rfl, trivial⟩, ⟨rfl, trivial⟩, rfl⟩, rfl,
    Step.guarded rfl rfl rfl rfl (fun hc => Does.strip (n' := [(13, (.opt ((decide (p0.Group ≥ 0)) && (decide (p0.Group ≤ 7))) (.int .i64 p0.Daemon)))]) (n := [(13, (.int .i64 p0.Daemon))]) ⟨(.opt _ _ hc), trivial⟩ (does_bin .geq 3 3 (.tmp 13) (.const (.int .i64 0)) .i64 p0.Daemon 0 (.bool (decide (p0.Daemon ≥ 0))) trivial (fun _ => rfl) (bin_geq _ _ _ _))), ⟨⟨rfl, rfl, trivial⟩, trivial, rfl⟩, rfl,
    Step.plain rfl (does_and 11 14 ((decide (p0.Group ≥ 0)) && (decide (p0.Group ≤ 7))) (decide (p0.Daemon ≥ 0))), ⟨⟨rfl, rfl, trivial⟩, trivial, rfl⟩, rfl,
    Step.plain rfl (does_move (.tmp 15) (.bool (((decide (p0.Group ≥ 0)) && (decide (p0.Group ≤ 7))) && (decide (p0.Daemon ≥ 0)))) trivial), ⟨⟨rfl, trivial⟩, trivial, rfl⟩, rfl,
    Step.guarded rfl rfl rfl rfl (fun hc => does_fieldAddr 35 1 1 1 0 0 [] (.var (e_api_Member p0)) fl35_1), ⟨⟨rfl, rfl, trivial⟩, ⟨rfl, trivial⟩, rfl⟩, rfl,
    Step.guarded rfl rfl rfl rfl (fun hc => Does.strip (n' := [(17, (.opt (((decide (p0.Group ≥ 0)) && (decide (p0.Group ≤ 7))) && (decide (p0.Daemon ≥ 0))) (.ptr 0 (0 + 1) [1])))]) (n := [(17, (.ptr 0 (0 + 1) [1]))]) ⟨(.opt _ _ hc), trivial⟩ (does_load 3 17 0 (0 + 1) [1] (.var (e_api_Member p0)) (.int .i64 p0.Daemon) ⟨rfl, Nat.le_of_ble_eq_true rfl, trivial⟩ rfl rfl ty3)), ⟨⟨rfl, rfl, trivial⟩, ⟨rfl, trivial⟩, rfl⟩, rfl,
    Step.guarded rfl rfl rfl rfl (fun hc => Does.strip (n' := [(18, (.opt (((decide (p0.Group ≥ 0)) && (decide (p0.Group ≤ 7))) && (decide (p0.Daemon ≥ 0))) (.int .i64 p0.Daemon)))]) (n := [(18, (.int .i64 p0.Daemon))]) ⟨(.opt _ _ hc), trivial⟩ (does_bin .leq 3 3 (.tmp 18) (.const (.int .i64 7)) .i64 p0.Daemon 7 (.bool (decide (p0.Daemon ≤ 7))) trivial (fun _ => rfl) (bin_leq _ _ _ _))), ⟨⟨rfl, rfl, trivial⟩, trivial, rfl⟩, rfl,
    Step.plain rfl (does_and 16 19 (((decide (p0.Group ≥ 0)) && (decide (p0.Group ≤ 7))) && (decide (p0.Daemon ≥ 0))) (decide (p0.Daemon ≤ 7))), ⟨⟨rfl, rfl, trivial⟩, trivial, rfl⟩, rfl,
    Step.plain rfl (does_move (.tmp 20) (.bool ((((decide (p0.Group ≥ 0)) && (decide (p0.Group ≤ 7))) && (decide (p0.Daemon ≥ 0))) && (decide (p0.Daemon ≤ 7)))) trivial), ⟨⟨rfl, trivial⟩, trivial, rfl⟩, rfl,
    Step.guarded rfl rfl rfl rfl (fun hc => does_fieldAddr 35 2 2 1 0 0 [] (.var (e_api_Member p0)) fl35_2), ⟨⟨rfl, rfl, trivial⟩, ⟨rfl, trivial⟩, rfl⟩, rfl,
    Step.guarded rfl rfl rfl rfl (fun hc => Does.strip (n' := [(22, (.opt ((((decide (p0.Group ≥ 0)) && (decide (p0.Group ≤ 7))) && (decide (p0.Daemon ≥ 0))) && (decide (p0.Daemon ≤ 7))) (.ptr 0 (0 + 2) [2])))]) (n := [(22, (.ptr 0 (0 + 2) [2]))]) ⟨(.opt _ _ hc), trivial⟩ (does_load 23 22 0 (0 + 2) [2] (.var (e_api_Member p0)) (.int .u64 p0.Session) ⟨rfl, Nat.le_of_ble_eq_true rfl, trivial⟩ rfl rfl ty23)), ⟨⟨rfl, rfl, trivial⟩, ⟨rfl, trivial⟩, rfl⟩, rfl,
    Step.guarded rfl rfl rfl rfl (fun hc => Does.strip (n' := [(23, (.opt ((((decide (p0.Group ≥ 0)) && (decide (p0.Group ≤ 7))) && (decide (p0.Daemon ≥ 0))) && (decide (p0.Daemon ≤ 7))) (.int .u64 p0.Session)))]) (n := [(23, (.int .u64 p0.Session))]) ⟨(.opt _ _ hc), trivial⟩ (does_bin .lss 23 23 (.tmp 23) (.const (.int .u64 65536)) .u64 p0.Session 65536 (.bool (decide (p0.Session < 65536))) trivial (fun _ => rfl) (bin_lss _ _ _ _))), ⟨⟨rfl, rfl, trivial⟩, trivial, rfl⟩, rfl,
    Step.plain rfl (does_and 21 24 ((((decide (p0.Group ≥ 0)) && (decide (p0.Group ≤ 7))) && (decide (p0.Daemon ≥ 0))) && (decide (p0.Daemon ≤ 7))) (decide (p0.Session < 65536))), ⟨⟨rfl, rfl, trivial⟩, trivial, rfl⟩, rfl,
    Step.plain rfl (does_assign (.tmp 25) (.bool (((((decide (p0.Group ≥ 0)) && (decide (p0.Group ≤ 7))) && (decide (p0.Daemon ≥ 0))) && (decide (p0.Daemon ≤ 7))) && (decide (p0.Session < 65536)))) trivial), ⟨⟨rfl, trivial⟩, trivial, rfl⟩, rfl, rfl⟩ ?_
  obtain ⟨v1, hv1, H⟩ := lt_of H
  refine aw_cov (cov_prune (s1 := ⟨[(2, (.bool v1))], [], 1⟩) ⟨(by subst hv1; rfl), trivial⟩ trivial (Nat.le_refl _)) ?_
  refine aw_ret ?_
  exact fun a w hr => ⟨_, [(.bool v1)], hr, ⟨⟨_, rfl, .data (.bool v1) trivial⟩, trivial⟩, by decide, by cases H; rfl⟩

theorem congressref18_Has_spec (p0 : (_root_.List api_Member)) (p1 : api_Member) (r : Bool) (H : congressref18_Has p0 p1 = some r) : FSpec Try.prog 19 [(e_s_api_Member p0), (e_api_Member p1)] (.bool r) := by
  refine spec_of (fn := Try.f19) (args := [(e_s_api_Member p0), (e_api_Member p1)]) Try.func19 rfl (Nat.le_of_ble_eq_true rfl) ?_
  rintro ⟨G, w0, W, S, Sp⟩ hG
  cases hG
  unfold congressref18_Has at H
  refine aw_region (es := [_, _]) ⟨Step.plain rfl (does_box 35 (.tmp 1) 0 (e_api_Member p1) trivial rfl), ⟨⟨rfl, trivial⟩, trivial, rfl⟩, rfl,
    Step.plain rfl (does_assign (.const (.bool false)) (.bool false) (fun _ => rfl)), ⟨trivial, trivial, rfl⟩, rfl, rfl⟩ ?_
  refine aw_cov (cov_prune (s1 := ⟨[(0, (e_s_api_Member p0)), (3, (.ptr 0 0 []))], [(0, some (.var (e_api_Member p1)))], 1⟩) ⟨rfl, rfl, trivial⟩ ⟨rfl, trivial⟩ (Nat.le_refl _)) ?_
  refine aw_seq ?_
  refine aw_region (es := [_]) ⟨Step.plain rfl (does_assign (.const (.int .i64 0)) (.int .i64 0) (fun _ => rfl)), ⟨trivial, trivial, rfl⟩, rfl, rfl⟩ ?_
  refine aw_cov (cov_prune (s1 := ⟨[(0, (e_s_api_Member p0)), (3, (.ptr 0 0 [])), (5, (.int .i64 0))], [(0, some (.var (e_api_Member p1)))], 1⟩) ⟨rfl, rfl, rfl, trivial⟩ ⟨rfl, trivial⟩ (Nat.le_refl _)) ?_
  obtain ⟨wn2, hwn2, Hrn2⟩ := bnd H
  refine aw_meet (fun y4 : Unit => (⟨[], [], 1⟩ : St)) (fun y4 => Fl.nx y4 = wn2) (fun y4 hy => ?_) (aw_block (aw_runs (fun x1 : Int => (⟨[(0, (e_s_api_Member p0)), (3, (.ptr 0 0 [])), (5, (.int .i64 x1))], [(0, some (.var (e_api_Member p1)))], 1⟩ : St)) hwn2 (cov_prune ⟨rfl, rfl, rfl, trivial⟩ ⟨rfl, trivial⟩ (Nat.le_of_ble_eq_true rfl)) (fun x1 st H hsn2 => ?_)))
  · have H := nx_of hy Hrn2
    refine nx_seq ?_
    refine aw_region (es := [_]) ⟨Step.plain rfl (does_assign (.const (.bool false)) (.bool false) (fun _ => rfl)), ⟨trivial, trivial, rfl⟩, rfl, rfl⟩ ?_
    refine aw_cov (cov_prune (s1 := ⟨[(4, (.bool false))], [], 1⟩) ⟨rfl, trivial⟩ trivial (Nat.le_refl _)) ?_
    refine aw_ret ?_
    exact fun a w hr => ⟨_, [(.bool false)], hr, ⟨⟨_, rfl, .data (.bool false) trivial⟩, trivial⟩, by decide, by cases H; rfl⟩
  · refine aw_seq ?_
    refine aw_region (es := [_, _, _, _]) ⟨Step.plain rfl (does_move (.tmp 5) (.int .i64 x1) trivial), ⟨⟨rfl, trivial⟩, trivial, rfl⟩, rfl,
      Step.plain rfl (does_move (.tmp 0) (e_s_api_Member p0) trivial), ⟨⟨rfl, trivial⟩, trivial, rfl⟩, rfl,
      Step.plain rfl (does_lens 22 3 p0.length 7 (fun j => (e_api_Member (p0.getD j z_api_Member))) el22), ⟨⟨rfl, trivial⟩, trivial, rfl⟩, rfl,
      Step.plain rfl (does_bin .lss 3 3 (.tmp 6) (.tmp 8) .i64 x1 (p0.length : Int) (.bool (decide (x1 < (p0.length : Int)))) trivial trivial (bin_lss _ _ _ _)), ⟨⟨rfl, rfl, trivial⟩, trivial, rfl⟩, rfl, rfl⟩ ?_
    refine aw_cov (cov_prune (s1 := ⟨[(0, (e_s_api_Member p0)), (3, (.ptr 0 0 [])), (5, (.int .i64 x1)), (9, (.bool (decide (x1 < (p0.length : Int)))))], [(0, some (.var (e_api_Member p1)))], 1⟩) ⟨rfl, rfl, rfl, rfl, trivial⟩ ⟨rfl, trivial⟩ (Nat.le_refl _)) ?_
    refine aw_cond rfl (fun hc => ?_) (fun hc => ?_)
    · replace H := ite_t hc H
      refine aw_skip ?_
      refine nx_seq ?_
      refine aw_seq ?_
      refine aw_block ?_
      obtain ⟨h3, H⟩ := ib_of H
      refine aw_draw (es := [_, _, _, _, _, _]) (mixed) ⟨Step.plain rfl (does_move (.tmp 0) (e_s_api_Member p0) trivial), ⟨⟨rfl, trivial⟩, trivial, rfl⟩, rfl,
        Step.plain rfl (does_move (.tmp 5) (.int .i64 x1) trivial), ⟨⟨rfl, trivial⟩, trivial, rfl⟩, rfl,
        Step.plain rfl (does_indexAddrs 22 3 p0.length 12 (fun j => (e_api_Member (p0.getD j z_api_Member))) (.tmp 13) .i64 x1 el22 trivial h3.1 h3.2), ⟨⟨rfl, rfl, trivial⟩, trivial, rfl⟩, rfl,
        Step.plain rfl (does_loadc 35 14 (e_api_Member (p0.getD x1.toNat z_api_Member)) ty35), ⟨⟨rfl, trivial⟩, trivial, rfl⟩, rfl,
        Step.plain rfl (does_load 35 3 0 0 [] (.var (e_api_Member p1)) (e_api_Member p1) trivial rfl rfl ty35), ⟨⟨rfl, trivial⟩, ⟨rfl, trivial⟩, rfl⟩, rfl,
        Step.plain rfl (does_eqT false 35 35 (.tmp 15) (.tmp 16) (e_api_Member (p0.getD x1.toNat z_api_Member)) (e_api_Member p1) (e_api_Member z_api_Member) (b_api_Member (p0.getD x1.toNat z_api_Member) p1) rfl rfl trivial trivial eg35 sh35 (al_api_Member _ _) (al_api_Member _ _) (q_api_Member _ _)), ⟨⟨rfl, rfl, trivial⟩, trivial, rfl⟩, rfl, rfl⟩ rfl ?_
      refine aw_cov (cov_prune (s1 := ⟨[(0, (e_s_api_Member p0)), (3, (.ptr 0 0 [])), (5, (.int .i64 x1)), (17, (.bool (b_api_Member (p0.getD x1.toNat z_api_Member) p1)))], [(0, some (.var (e_api_Member p1)))], 1⟩) ⟨rfl, rfl, rfl, rfl, trivial⟩ ⟨rfl, trivial⟩ (Nat.le_refl _)) ?_
      refine aw_cond rfl (fun hc => ?_) (fun hc => ?_)
      · replace H := ite_t hc H
        refine aw_region (es := [_]) ⟨Step.plain rfl (does_assign (.const (.bool true)) (.bool true) (fun _ => rfl)), ⟨trivial, trivial, rfl⟩, rfl, rfl⟩ ?_
        refine aw_cov (cov_prune (s1 := ⟨[(4, (.bool true))], [], 1⟩) ⟨rfl, trivial⟩ trivial (Nat.le_refl _)) ?_
        refine aw_ret ?_
        replace H := rt_of H hsn2 Hrn2
        refine rt_blk ?_
        refine rt_then ?_
        refine rt_then ?_
        refine rt_blk ?_
        refine rt_then ?_
        refine rt_then ?_
        exact fun a w hr => ⟨_, [(.bool true)], hr, ⟨⟨_, rfl, .data (.bool true) trivial⟩, trivial⟩, by decide, by cases H; rfl⟩
      · replace H := ite_f hc H
        refine aw_skip ?_
        refine nx_blk ?_
        refine nx_seq ?_
        refine aw_region1 (es := [_, _, _]) ⟨Step.plain rfl (does_move (.tmp 5) (.int .i64 x1) trivial), ⟨⟨rfl, trivial⟩, trivial, rfl⟩, rfl,
          Step.plain rfl (does_bin .add 3 3 (.tmp 10) (.const (.int .i64 1)) .i64 x1 1 (.int .i64 (IntKind.i64.wrap (x1 + 1))) trivial (fun _ => rfl) (bin_add _ _ _ _)), ⟨⟨rfl, trivial⟩, trivial, rfl⟩, rfl,
          Step.plain rfl (does_assign (.tmp 11) (.int .i64 (IntKind.i64.wrap (x1 + 1))) trivial), ⟨⟨rfl, trivial⟩, trivial, rfl⟩, rfl, rfl⟩ ?_
        exact nx_loop ((IntKind.i64.wrap (x1 + 1))) H (cov_prune ⟨rfl, rfl, rfl, trivial⟩ ⟨rfl, trivial⟩ (Nat.le_of_ble_eq_true rfl))
    · replace H := ite_f hc H
      refine aw_exit ?_
      refine ex_then ?_
      refine ex_then ?_
      refine ex_here ?_
      exact nx_ljoin () H hsn2 (cov_prune trivial trivial (Nat.le_of_ble_eq_true rfl))

theorem congressref18_Less_spec (p0 : api_Member) (p1 : api_Member) (r : Bool) (H : congressref18_Less p0 p1 = some r) : FSpec Try.prog 10 [(e_api_Member p0), (e_api_Member p1)] (.bool r) := by
  refine spec_of (fn := Try.f10) (args := [(e_api_Member p0), (e_api_Member p1)]) Try.func10 rfl (Nat.le_of_ble_eq_true rfl) ?_
  rintro ⟨G, w0, W, S, Sp⟩ hG
  cases hG
  unfold congressref18_Less at H
  refine aw_region (es := [_, _, _]) ⟨Step.plain rfl (does_box 35 (.tmp 0) 0 (e_api_Member p0) trivial rfl), ⟨⟨rfl, trivial⟩, trivial, rfl⟩, rfl,
    Step.plain rfl (does_box 35 (.tmp 1) 1 (e_api_Member p1) trivial rfl), ⟨⟨rfl, trivial⟩, trivial, rfl⟩, rfl,
    Step.plain rfl (does_assign (.const (.bool false)) (.bool false) (fun _ => rfl)), ⟨trivial, trivial, rfl⟩, rfl, rfl⟩ ?_
  refine aw_cov (cov_prune (s1 := ⟨[(2, (.ptr 0 0 [])), (3, (.ptr 1 0 []))], [(0, some (.var (e_api_Member p0))), (1, some (.var (e_api_Member p1)))], 2⟩) ⟨rfl, rfl, trivial⟩ ⟨rfl, rfl, trivial⟩ (Nat.le_refl _)) ?_
  refine aw_seq ?_
  refine aw_region (es := [_, _, _, _, _]) ⟨Step.plain rfl (does_fieldAddr 35 0 0 2 0 0 [] (.var (e_api_Member p0)) fl35_0), ⟨⟨rfl, trivial⟩, ⟨rfl, trivial⟩, rfl⟩, rfl,
    Step.plain rfl (does_load 3 5 0 (0 + 0) [0] (.var (e_api_Member p0)) (.int .i64 p0.Group) ⟨rfl, Nat.le_of_ble_eq_true rfl, trivial⟩ rfl rfl ty3), ⟨⟨rfl, trivial⟩, ⟨rfl, trivial⟩, rfl⟩, rfl,
    Step.plain rfl (does_fieldAddr 35 0 0 3 1 0 [] (.var (e_api_Member p1)) fl35_0), ⟨⟨rfl, trivial⟩, ⟨rfl, trivial⟩, rfl⟩, rfl,
    Step.plain rfl (does_load 3 7 1 (0 + 0) [0] (.var (e_api_Member p1)) (.int .i64 p1.Group) ⟨rfl, Nat.le_of_ble_eq_true rfl, trivial⟩ rfl rfl ty3), ⟨⟨rfl, trivial⟩, ⟨rfl, trivial⟩, rfl⟩, rfl,
    Step.plain rfl (does_bin .neq 3 3 (.tmp 6) (.tmp 8) .i64 p0.Group p1.Group (.bool (p0.Group != p1.Group)) trivial trivial (bin_neq _ _ _ _)), ⟨⟨rfl, rfl, trivial⟩, trivial, rfl⟩, rfl, rfl⟩ ?_
  refine aw_cov (cov_prune (s1 := ⟨[(2, (.ptr 0 0 [])), (3, (.ptr 1 0 [])), (9, (.bool (p0.Group != p1.Group)))], [(0, some (.var (e_api_Member p0))), (1, some (.var (e_api_Member p1)))], 2⟩) ⟨rfl, rfl, rfl, trivial⟩ ⟨rfl, rfl, trivial⟩ (Nat.le_refl _)) ?_
  refine aw_cond rfl (fun hc => ?_) (fun hc => ?_)
  · replace H := ite_t hc H
    refine aw_region (es := [_, _, _, _, _, _]) ⟨Step.plain rfl (does_fieldAddr 35 0 0 2 0 0 [] (.var (e_api_Member p0)) fl35_0), ⟨⟨rfl, trivial⟩, ⟨rfl, trivial⟩, rfl⟩, rfl,
      Step.plain rfl (does_load 3 10 0 (0 + 0) [0] (.var (e_api_Member p0)) (.int .i64 p0.Group) ⟨rfl, Nat.le_of_ble_eq_true rfl, trivial⟩ rfl rfl ty3), ⟨⟨rfl, trivial⟩, ⟨rfl, trivial⟩, rfl⟩, rfl,
      Step.plain rfl (does_fieldAddr 35 0 0 3 1 0 [] (.var (e_api_Member p1)) fl35_0), ⟨⟨rfl, trivial⟩, ⟨rfl, trivial⟩, rfl⟩, rfl,
      Step.plain rfl (does_load 3 12 1 (0 + 0) [0] (.var (e_api_Member p1)) (.int .i64 p1.Group) ⟨rfl, Nat.le_of_ble_eq_true rfl, trivial⟩ rfl rfl ty3), ⟨⟨rfl, trivial⟩, ⟨rfl, trivial⟩, rfl⟩, rfl,
      Step.plain rfl (does_bin .lss 3 3 (.tmp 11) (.tmp 13) .i64 p0.Group p1.Group (.bool (decide (p0.Group < p1.Group))) trivial trivial (bin_lss _ _ _ _)), ⟨⟨rfl, rfl, trivial⟩, trivial, rfl⟩, rfl,
      Step.plain rfl (does_assign (.tmp 14) (.bool (decide (p0.Group < p1.Group))) trivial), ⟨⟨rfl, trivial⟩, trivial, rfl⟩, rfl, rfl⟩ ?_
    refine aw_cov (cov_prune (s1 := ⟨[(4, (.bool (decide (p0.Group < p1.Group))))], [], 2⟩) ⟨rfl, trivial⟩ trivial (Nat.le_refl _)) ?_
    refine aw_ret ?_
    refine rt_then ?_
    exact fun a w hr => ⟨_, [(.bool (decide (p0.Group < p1.Group)))], hr, ⟨⟨_, rfl, .data (.bool (decide (p0.Group < p1.Group))) trivial⟩, trivial⟩, by decide, by cases H; rfl⟩
  · replace H := ite_f hc H
    refine aw_skip ?_
    refine nx_seq ?_
    refine aw_seq ?_
    refine aw_region (es := [_, _, _, _, _]) ⟨Step.plain rfl (does_fieldAddr 35 1 1 2 0 0 [] (.var (e_api_Member p0)) fl35_1), ⟨⟨rfl, trivial⟩, ⟨rfl, trivial⟩, rfl⟩, rfl,
      Step.plain rfl (does_load 3 15 0 (0 + 1) [1] (.var (e_api_Member p0)) (.int .i64 p0.Daemon) ⟨rfl, Nat.le_of_ble_eq_true rfl, trivial⟩ rfl rfl ty3), ⟨⟨rfl, trivial⟩, ⟨rfl, trivial⟩, rfl⟩, rfl,
      Step.plain rfl (does_fieldAddr 35 1 1 3 1 0 [] (.var (e_api_Member p1)) fl35_1), ⟨⟨rfl, trivial⟩, ⟨rfl, trivial⟩, rfl⟩, rfl,
      Step.plain rfl (does_load 3 17 1 (0 + 1) [1] (.var (e_api_Member p1)) (.int .i64 p1.Daemon) ⟨rfl, Nat.le_of_ble_eq_true rfl, trivial⟩ rfl rfl ty3), ⟨⟨rfl, trivial⟩, ⟨rfl, trivial⟩, rfl⟩, rfl,
      Step.plain rfl (does_bin .neq 3 3 (.tmp 16) (.tmp 18) .i64 p0.Daemon p1.Daemon (.bool (p0.Daemon != p1.Daemon)) trivial trivial (bin_neq _ _ _ _)), ⟨⟨rfl, rfl, trivial⟩, trivial, rfl⟩, rfl, rfl⟩ ?_
    refine aw_cov (cov_prune (s1 := ⟨[(2, (.ptr 0 0 [])), (3, (.ptr 1 0 [])), (19, (.bool (p0.Daemon != p1.Daemon)))], [(0, some (.var (e_api_Member p0))), (1, some (.var (e_api_Member p1)))], 2⟩) ⟨rfl, rfl, rfl, trivial⟩ ⟨rfl, rfl, trivial⟩ (Nat.le_refl _)) ?_
    refine aw_cond rfl (fun hc => ?_) (fun hc => ?_)
    · replace H := ite_t hc H
      refine aw_region (es := [_, _, _, _, _, _]) ⟨Step.plain rfl (does_fieldAddr 35 1 1 2 0 0 [] (.var (e_api_Member p0)) fl35_1), ⟨⟨rfl, trivial⟩, ⟨rfl, trivial⟩, rfl⟩, rfl,
        Step.plain rfl (does_load 3 20 0 (0 + 1) [1] (.var (e_api_Member p0)) (.int .i64 p0.Daemon) ⟨rfl, Nat.le_of_ble_eq_true rfl, trivial⟩ rfl rfl ty3), ⟨⟨rfl, trivial⟩, ⟨rfl, trivial⟩, rfl⟩, rfl,
        Step.plain rfl (does_fieldAddr 35 1 1 3 1 0 [] (.var (e_api_Member p1)) fl35_1), ⟨⟨rfl, trivial⟩, ⟨rfl, trivial⟩, rfl⟩, rfl,
        Step.plain rfl (does_load 3 22 1 (0 + 1) [1] (.var (e_api_Member p1)) (.int .i64 p1.Daemon) ⟨rfl, Nat.le_of_ble_eq_true rfl, trivial⟩ rfl rfl ty3), ⟨⟨rfl, trivial⟩, ⟨rfl, trivial⟩, rfl⟩, rfl,
        Step.plain rfl (does_bin .lss 3 3 (.tmp 21) (.tmp 23) .i64 p0.Daemon p1.Daemon (.bool (decide (p0.Daemon < p1.Daemon))) trivial trivial (bin_lss _ _ _ _)), ⟨⟨rfl, rfl, trivial⟩, trivial, rfl⟩, rfl,
        Step.plain rfl (does_assign (.tmp 24) (.bool (decide (p0.Daemon < p1.Daemon))) trivial), ⟨⟨rfl, trivial⟩, trivial, rfl⟩, rfl, rfl⟩ ?_
      refine aw_cov (cov_prune (s1 := ⟨[(4, (.bool (decide (p0.Daemon < p1.Daemon))))], [], 2⟩) ⟨rfl, trivial⟩ trivial (Nat.le_refl _)) ?_
      refine aw_ret ?_
      refine rt_then ?_
      exact fun a w hr => ⟨_, [(.bool (decide (p0.Daemon < p1.Daemon)))], hr, ⟨⟨_, rfl, .data (.bool (decide (p0.Daemon < p1.Daemon))) trivial⟩, trivial⟩, by decide, by cases H; rfl⟩
    · replace H := ite_f hc H
      refine aw_skip ?_
      refine nx_seq ?_
      refine aw_region (es := [_, _, _, _, _, _]) ⟨Step.plain rfl (does_fieldAddr 35 2 2 2 0 0 [] (.var (e_api_Member p0)) fl35_2), ⟨⟨rfl, trivial⟩, ⟨rfl, trivial⟩, rfl⟩, rfl,
        Step.plain rfl (does_load 23 25 0 (0 + 2) [2] (.var (e_api_Member p0)) (.int .u64 p0.Session) ⟨rfl, Nat.le_of_ble_eq_true rfl, trivial⟩ rfl rfl ty23), ⟨⟨rfl, trivial⟩, ⟨rfl, trivial⟩, rfl⟩, rfl,
        Step.plain rfl (does_fieldAddr 35 2 2 3 1 0 [] (.var (e_api_Member p1)) fl35_2), ⟨⟨rfl, trivial⟩, ⟨rfl, trivial⟩, rfl⟩, rfl,
        Step.plain rfl (does_load 23 27 1 (0 + 2) [2] (.var (e_api_Member p1)) (.int .u64 p1.Session) ⟨rfl, Nat.le_of_ble_eq_true rfl, trivial⟩ rfl rfl ty23), ⟨⟨rfl, trivial⟩, ⟨rfl, trivial⟩, rfl⟩, rfl,
        Step.plain rfl (does_bin .lss 23 23 (.tmp 26) (.tmp 28) .u64 p0.Session p1.Session (.bool (decide (p0.Session < p1.Session))) trivial trivial (bin_lss _ _ _ _)), ⟨⟨rfl, rfl, trivial⟩, trivial, rfl⟩, rfl,
        Step.plain rfl (does_assign (.tmp 29) (.bool (decide (p0.Session < p1.Session))) trivial), ⟨⟨rfl, trivial⟩, trivial, rfl⟩, rfl, rfl⟩ ?_
      refine aw_cov (cov_prune (s1 := ⟨[(4, (.bool (decide (p0.Session < p1.Session))))], [], 2⟩) ⟨rfl, trivial⟩ trivial (Nat.le_refl _)) ?_
      refine aw_ret ?_
      exact fun a w hr => ⟨_, [(.bool (decide (p0.Session < p1.Session)))], hr, ⟨⟨_, rfl, .data (.bool (decide (p0.Session < p1.Session))) trivial⟩, trivial⟩, by decide, by cases H; rfl⟩

theorem congressref18_Apply_spec (p0 : (_root_.List api_Member)) (p1 : Int) (p2 : api_Entry) (r : (_root_.List api_Member) × Bool) (H : congressref18_Apply p0 p1 p2 = some r) : FSpec Try.prog 8 [(e_s_api_Member p0), (.int .i64 p1), (e_api_Entry p2)] (resV [(e_s_api_Member r.1), (.bool r.2)]) := by
  refine spec_of (fn := Try.f8) (args := [(e_s_api_Member p0), (.int .i64 p1), (e_api_Entry p2)]) Try.func8 rfl (Nat.le_of_ble_eq_true rfl) ?_
  rintro ⟨G, w0, W, S, Sp⟩ hG
  cases hG
  unfold congressref18_Apply at H
  refine aw_region (es := [_, _, _]) ⟨Step.plain rfl (does_box 25 (.tmp 2) 0 (e_api_Entry p2) trivial rfl), ⟨⟨rfl, trivial⟩, trivial, rfl⟩, rfl,
    Step.plain rfl (does_nil false 1 3 (fun j => (e_api_Member (([] : _root_.List api_Member).getD j z_api_Member)))), ⟨trivial, trivial, rfl⟩, rfl,
    Step.plain rfl (does_assign (.const (.bool false)) (.bool false) (fun _ => rfl)), ⟨trivial, trivial, rfl⟩, rfl, rfl⟩ ?_
  refine aw_cov (cov_prune (s1 := ⟨[(0, (e_s_api_Member p0)), (1, (.int .i64 p1)), (5, (.ptr 0 0 []))], [(0, some (.var (e_api_Entry p2)))], 2⟩) ⟨rfl, rfl, rfl, trivial⟩ ⟨rfl, trivial⟩ (Nat.le_refl _)) ?_
  refine aw_region (es := [_, _, _, _, _, _, _, _]) ⟨Step.plain rfl (does_fieldAddr 25 2 2 5 0 0 [] (.var (e_api_Entry p2)) fl25_2), ⟨⟨rfl, trivial⟩, ⟨rfl, trivial⟩, rfl⟩, rfl,
    Step.plain rfl (does_load 3 12 0 (0 + 2) [2] (.var (e_api_Entry p2)) (.int .i64 p2.Group) ⟨rfl, Nat.le_of_ble_eq_true rfl, trivial⟩ rfl rfl ty3), ⟨⟨rfl, trivial⟩, ⟨rfl, trivial⟩, rfl⟩, rfl,
    Step.plain rfl (does_move (.tmp 1) (.int .i64 p1) trivial), ⟨⟨rfl, trivial⟩, trivial, rfl⟩, rfl,
    Step.plain rfl (does_fieldAddr 25 3 3 5 0 0 [] (.var (e_api_Entry p2)) fl25_3), ⟨⟨rfl, trivial⟩, ⟨rfl, trivial⟩, rfl⟩, rfl,
    Step.plain rfl (does_load 23 15 0 (0 + 3) [3] (.var (e_api_Entry p2)) (.int .u64 p2.Session) ⟨rfl, Nat.le_of_ble_eq_true rfl, trivial⟩ rfl rfl ty23), ⟨⟨rfl, trivial⟩, ⟨rfl, trivial⟩, rfl⟩, rfl,
    Step.plain rfl (does_buildT 35 #[(0, (.tmp 13)), (1, (.tmp 14)), (2, (.tmp 16))] [(0, (.tmp 13)), (1, (.tmp 14)), (2, (.tmp 16))] [(0, (.int .i64 p2.Group)), (1, (.int .i64 p1)), (2, (.int .u64 p2.Session))] (.st [1, 1, 1]) (c_api_Member z_api_Member) (c_api_Member ({ Group := p2.Group, Daemon := p1, Session := p2.Session } : api_Member)) rfl bo35 ⟨⟨rfl, trivial⟩, ⟨rfl, trivial⟩, ⟨rfl, trivial⟩, trivial⟩ ⟨⟨Nat.le_of_ble_eq_true rfl, rfl, rfl⟩, ⟨Nat.le_of_ble_eq_true rfl, rfl, rfl⟩, ⟨Nat.le_of_ble_eq_true rfl, rfl, rfl⟩, trivial⟩ (by funext j; match j with | 0 => rfl | 1 => rfl | 2 => rfl | _ + 3 => rfl)), ⟨⟨rfl, rfl, rfl, trivial⟩, trivial, rfl⟩, rfl,
    Step.plain rfl (does_alloc 35 2 (e_api_Member z_api_Member) zr35), ⟨trivial, trivial, rfl⟩, rfl,
    Step.plain rfl (does_store 35 8 (.tmp 17) 2 0 [] (.var (e_api_Member z_api_Member)) (.var (e_api_Member ({ Group := p2.Group, Daemon := p1, Session := p2.Session } : api_Member))) (e_api_Member ({ Group := p2.Group, Daemon := p1, Session := p2.Session } : api_Member)) true trivial rfl trivial rfl rfl rfl ty35), ⟨⟨rfl, rfl, trivial⟩, ⟨rfl, trivial⟩, rfl⟩, rfl, rfl⟩ ?_
  obtain ⟨v1, hv1, H⟩ := lt_of H
  refine aw_cov (cov_prune (s1 := ⟨[(0, (e_s_api_Member p0)), (5, (.ptr 0 0 [])), (8, (.ptr 2 0 []))], [(0, some (.var (e_api_Entry p2))), (2, some (.var (e_api_Member v1)))], 3⟩) ⟨rfl, rfl, rfl, trivial⟩ ⟨rfl, (by subst hv1; rfl), trivial⟩ (Nat.le_refl _)) ?_
  refine aw_seq ?_
  obtain ⟨v2, h3, H⟩ := bnd H
  obtain ⟨v4, h5, H⟩ := whn_of H
  refine aw_draw (es := [_, _, _, _, _, _, _, _, _, _, _, _, _, _, _, _, _, _, _, _, _, _]) (mixed) ⟨Step.plain rfl (does_load 35 8 2 0 [] (.var (e_api_Member v1)) (e_api_Member v1) trivial rfl rfl ty35), ⟨⟨rfl, trivial⟩, ⟨rfl, trivial⟩, rfl⟩, rfl,
    Step.plain rfl (does_call 28 0 (fun _ => .any) (.func 28) [(.tmp 18)] [(e_api_Member v1)] [] true [(e_api_Member v1)] (.bool v2) _ _ rfl fo28 rfl ⟨trivial, trivial⟩ ⟨.data _ (d_api_Member v1), trivial⟩ (congressref18_Right_spec v1 _ h3) trivial), ⟨⟨rfl, trivial⟩, trivial, rfl⟩, rfl,
    Step.plain rfl (does_not 4 (.tmp 19) v2 trivial), ⟨⟨rfl, trivial⟩, trivial, rfl⟩, rfl,
    Step.plain rfl (does_move (.tmp 20) (.bool (!v2)) trivial), ⟨⟨rfl, trivial⟩, trivial, rfl⟩, rfl,
    Step.guarded rfl rfl rfl rfl (fun hc => does_fieldAddr 25 0 0 5 0 0 [] (.var (e_api_Entry p2)) fl25_0), ⟨⟨rfl, rfl, trivial⟩, ⟨rfl, trivial⟩, rfl⟩, rfl,
    Step.guarded rfl rfl rfl rfl (fun hc => Does.strip (n' := [(22, (.opt (!(!v2)) (.ptr 0 (0 + 0) [0])))]) (n := [(22, (.ptr 0 (0 + 0) [0]))]) ⟨(.opt _ _ hc), trivial⟩ (does_load 3 22 0 (0 + 0) [0] (.var (e_api_Entry p2)) (.int .i64 p2.Kind) ⟨rfl, Nat.le_of_ble_eq_true rfl, trivial⟩ rfl rfl ty3)), ⟨⟨rfl, rfl, trivial⟩, ⟨rfl, trivial⟩, rfl⟩, rfl,
    Step.guarded rfl rfl rfl rfl (fun hc => Does.strip (n' := [(23, (.opt (!(!v2)) (.int .i64 p2.Kind)))]) (n := [(23, (.int .i64 p2.Kind))]) ⟨(.opt _ _ hc), trivial⟩ (does_bin .neq 3 3 (.tmp 23) (.const (.int .i64 2)) .i64 p2.Kind 2 (.bool (p2.Kind != 2)) trivial (fun _ => rfl) (bin_neq _ _ _ _))), ⟨⟨rfl, rfl, trivial⟩, trivial, rfl⟩, rfl,
    Step.guarded rfl rfl rfl rfl (fun hc => Does.strip (n' := [(24, (.opt (!(!v2)) (.bool (p2.Kind != 2))))]) (n := [(24, (.bool (p2.Kind != 2)))]) ⟨(.opt _ _ hc), trivial⟩ (does_move (.tmp 24) (.bool (p2.Kind != 2)) trivial)), ⟨⟨rfl, rfl, trivial⟩, trivial, rfl⟩, rfl,
    Step.guarded rfl rfl rfl rfl (fun hc => does_fieldAddr 25 0 0 5 0 0 [] (.var (e_api_Entry p2)) fl25_0), ⟨⟨rfl, rfl, trivial⟩, ⟨rfl, trivial⟩, rfl⟩, rfl,
    Step.guarded rfl rfl rfl rfl (fun hc => Does.strip (n' := [(26, (.opt ((!(!v2)) && (p2.Kind != 2)) (.ptr 0 (0 + 0) [0])))]) (n := [(26, (.ptr 0 (0 + 0) [0]))]) ⟨(.opt _ _ hc), trivial⟩ (does_load 3 26 0 (0 + 0) [0] (.var (e_api_Entry p2)) (.int .i64 p2.Kind) ⟨rfl, Nat.le_of_ble_eq_true rfl, trivial⟩ rfl rfl ty3)), ⟨⟨rfl, rfl, trivial⟩, ⟨rfl, trivial⟩, rfl⟩, rfl,
    Step.guarded rfl rfl rfl rfl (fun hc => Does.strip (n' := [(27, (.opt ((!(!v2)) && (p2.Kind != 2)) (.int .i64 p2.Kind)))]) (n := [(27, (.int .i64 p2.Kind))]) ⟨(.opt _ _ hc), trivial⟩ (does_bin .neq 3 3 (.tmp 27) (.const (.int .i64 3)) .i64 p2.Kind 3 (.bool (p2.Kind != 3)) trivial (fun _ => rfl) (bin_neq _ _ _ _))), ⟨⟨rfl, rfl, trivial⟩, trivial, rfl⟩, rfl,
    Step.guarded rfl rfl rfl rfl (fun hc => Does.strip (n' := [(25, (.opt (!(!v2)) (.bool (p2.Kind != 2)))), (28, (.opt ((!(!v2)) && (p2.Kind != 2)) (.bool (p2.Kind != 3))))]) (n := [(25, (.bool (p2.Kind != 2))), (28, (.opt (p2.Kind != 2) (.bool (p2.Kind != 3))))]) ⟨(.opt _ _ hc), (.half _ _ hc), trivial⟩ (does_and 25 28 (p2.Kind != 2) (p2.Kind != 3))), ⟨⟨rfl, rfl, rfl, trivial⟩, trivial, rfl⟩, rfl,
    Step.plain rfl (does_or 21 29 (!v2) ((p2.Kind != 2) && (p2.Kind != 3))), ⟨⟨rfl, rfl, trivial⟩, trivial, rfl⟩, rfl,
    Step.plain rfl (does_move (.tmp 30) (.bool ((!v2) || ((p2.Kind != 2) && (p2.Kind != 3)))) trivial), ⟨⟨rfl, trivial⟩, trivial, rfl⟩, rfl,
    Step.guarded rfl rfl rfl rfl (fun hc => does_move (.tmp 0) (e_s_api_Member p0) trivial), ⟨⟨rfl, rfl, trivial⟩, trivial, rfl⟩, rfl,
    Step.guarded rfl rfl rfl rfl (fun hc => does_load 35 8 2 0 [] (.var (e_api_Member v1)) (e_api_Member v1) trivial rfl rfl ty35), ⟨⟨rfl, rfl, trivial⟩, ⟨rfl, trivial⟩, rfl⟩, rfl,
    Step.guarded rfl rfl rfl rfl (fun hc => Does.strip (n' := [(32, (.opt (!((!v2) || ((p2.Kind != 2) && (p2.Kind != 3)))) (e_s_api_Member p0))), (33, (.opt (!((!v2) || ((p2.Kind != 2) && (p2.Kind != 3)))) (e_api_Member v1)))]) (n := [(32, (e_s_api_Member p0)), (33, (e_api_Member v1))]) ⟨(.opt _ _ hc), (.opt _ _ hc), trivial⟩ (does_call 19 0 (fun _ => .any) (.func 19) [(.tmp 32), (.tmp 33)] [(e_s_api_Member p0), (e_api_Member v1)] [] true [(e_s_api_Member p0), (e_api_Member v1)] (.bool v4) _ _ rfl fo19 rfl ⟨trivial, trivial, trivial⟩ ⟨.data _ (d_s_api_Member p0), .data _ (d_api_Member v1), trivial⟩ (congressref18_Has_spec p0 v1 _ (h5 hc)) trivial)), ⟨⟨rfl, rfl, rfl, trivial⟩, trivial, rfl⟩, rfl,
    Step.guarded rfl rfl rfl rfl (fun hc => does_fieldAddr 25 0 0 5 0 0 [] (.var (e_api_Entry p2)) fl25_0), ⟨⟨rfl, rfl, trivial⟩, ⟨rfl, trivial⟩, rfl⟩, rfl,
    Step.guarded rfl rfl rfl rfl (fun hc => Does.strip (n' := [(35, (.opt (!((!v2) || ((p2.Kind != 2) && (p2.Kind != 3)))) (.ptr 0 (0 + 0) [0])))]) (n := [(35, (.ptr 0 (0 + 0) [0]))]) ⟨(.opt _ _ hc), trivial⟩ (does_load 3 35 0 (0 + 0) [0] (.var (e_api_Entry p2)) (.int .i64 p2.Kind) ⟨rfl, Nat.le_of_ble_eq_true rfl, trivial⟩ rfl rfl ty3)), ⟨⟨rfl, rfl, trivial⟩, ⟨rfl, trivial⟩, rfl⟩, rfl,
    Step.guarded rfl rfl rfl rfl (fun hc => Does.strip (n' := [(36, (.opt (!((!v2) || ((p2.Kind != 2) && (p2.Kind != 3)))) (.int .i64 p2.Kind)))]) (n := [(36, (.int .i64 p2.Kind))]) ⟨(.opt _ _ hc), trivial⟩ (does_bin .eql 3 3 (.tmp 36) (.const (.int .i64 3)) .i64 p2.Kind 3 (.bool (p2.Kind == 3)) trivial (fun _ => rfl) (bin_eql _ _ _ _))), ⟨⟨rfl, rfl, trivial⟩, trivial, rfl⟩, rfl,
    Step.guarded rfl rfl rfl rfl (fun hc => Does.strip (n' := [(34, (.opt (!((!v2) || ((p2.Kind != 2) && (p2.Kind != 3)))) (.bool v4))), (37, (.opt (!((!v2) || ((p2.Kind != 2) && (p2.Kind != 3)))) (.bool (p2.Kind == 3))))]) (n := [(34, (.bool v4)), (37, (.bool (p2.Kind == 3)))]) ⟨(.opt _ _ hc), (.opt _ _ hc), trivial⟩ (does_eqBool true 4 4 (.tmp 34) (.tmp 37) v4 (p2.Kind == 3) trivial trivial rfl)), ⟨⟨rfl, rfl, rfl, trivial⟩, trivial, rfl⟩, rfl,
    Step.plain rfl (does_or 31 38 ((!v2) || ((p2.Kind != 2) && (p2.Kind != 3))) (v4 != (p2.Kind == 3))), ⟨⟨rfl, rfl, trivial⟩, trivial, rfl⟩, rfl, rfl⟩ rfl ?_
  obtain ⟨v6, hv6, H⟩ := lt_of H
  refine aw_cov (cov_prune (s1 := ⟨[(0, (e_s_api_Member p0)), (5, (.ptr 0 0 [])), (8, (.ptr 2 0 [])), (39, (.bool v6))], [(0, some (.var (e_api_Entry p2))), (2, some (.var (e_api_Member v1)))], 3⟩) ⟨rfl, rfl, rfl, (by subst hv6; rfl), trivial⟩ ⟨rfl, rfl, trivial⟩ (Nat.le_refl _)) ?_
  refine aw_cond rfl (fun hc => ?_) (fun hc => ?_)
  · replace H := ite_t hc H
    refine aw_region (es := [_, _, _]) ⟨Step.plain rfl (does_move (.tmp 0) (e_s_api_Member p0) trivial), ⟨⟨rfl, trivial⟩, trivial, rfl⟩, rfl,
      Step.plain rfl (does_assign (.tmp 40) (e_s_api_Member p0) trivial), ⟨⟨rfl, trivial⟩, trivial, rfl⟩, rfl,
      Step.plain rfl (does_assign (.const (.bool false)) (.bool false) (fun _ => rfl)), ⟨trivial, trivial, rfl⟩, rfl, rfl⟩ ?_
    refine aw_cov (cov_prune (s1 := ⟨[(6, (e_s_api_Member p0)), (7, (.bool false))], [], 3⟩) ⟨rfl, rfl, trivial⟩ trivial (Nat.le_refl _)) ?_
    refine aw_ret ?_
    refine rt_then ?_
    exact fun a w hr => ⟨_, [(e_s_api_Member p0), (.bool false)], hr, ⟨⟨_, rfl, .data (e_s_api_Member p0) (d_s_api_Member p0)⟩, ⟨_, rfl, .data (.bool false) trivial⟩, trivial⟩, by decide, by cases H; rfl⟩
  · replace H := ite_f hc H
    refine aw_skip ?_
    refine nx_seq ?_
    refine aw_region (es := [_, _]) ⟨Step.plain rfl (does_buildOwn 22 0 3 3 (e_api_Member z_api_Member) (fun j => (e_api_Member (([] : _root_.List api_Member).getD j z_api_Member))) #[] [] [] rfl so22 (by decide) trivial trivial (fun j h => match j, h with  | k + 0, h => absurd h (by omega))), ⟨trivial, trivial, rfl⟩, rfl,
      Step.plain rfl (does_assign (.tmp 41) (.own 3) trivial), ⟨⟨rfl, trivial⟩, trivial, rfl⟩, rfl, rfl⟩ ?_
    refine aw_cov (cov_prune (s1 := ⟨[(0, (e_s_api_Member p0)), (5, (.ptr 0 0 [])), (8, (.ptr 2 0 [])), (9, (.own 3))], [(0, some (.var (e_api_Entry p2))), (2, some (.var (e_api_Member v1))), (3, some (.arr 3 ([] : _root_.List api_Member).length fun j => (e_api_Member (([] : _root_.List api_Member).getD j z_api_Member))))], 4⟩) ⟨rfl, rfl, rfl, rfl, trivial⟩ ⟨rfl, rfl, rfl, trivial⟩ (Nat.le_refl _)) ?_
    refine aw_region (es := [_, _, _, _]) ⟨Step.plain rfl (does_fieldAddr 25 0 0 5 0 0 [] (.var (e_api_Entry p2)) fl25_0), ⟨⟨rfl, trivial⟩, ⟨rfl, trivial⟩, rfl⟩, rfl,
      Step.plain rfl (does_load 3 42 0 (0 + 0) [0] (.var (e_api_Entry p2)) (.int .i64 p2.Kind) ⟨rfl, Nat.le_of_ble_eq_true rfl, trivial⟩ rfl rfl ty3), ⟨⟨rfl, trivial⟩, ⟨rfl, trivial⟩, rfl⟩, rfl,
      Step.plain rfl (does_bin .eql 3 3 (.tmp 43) (.const (.int .i64 3)) .i64 p2.Kind 3 (.bool (p2.Kind == 3)) trivial (fun _ => rfl) (bin_eql _ _ _ _)), ⟨⟨rfl, trivial⟩, trivial, rfl⟩, rfl,
      Step.plain rfl (does_assign (.tmp 44) (.bool (p2.Kind == 3)) trivial), ⟨⟨rfl, trivial⟩, trivial, rfl⟩, rfl, rfl⟩ ?_
    refine aw_cov (cov_prune (s1 := ⟨[(0, (e_s_api_Member p0)), (8, (.ptr 2 0 [])), (9, (.own 3)), (10, (.bool (p2.Kind == 3)))], [(2, some (.var (e_api_Member v1))), (3, some (.arr 3 ([] : _root_.List api_Member).length fun j => (e_api_Member (([] : _root_.List api_Member).getD j z_api_Member))))], 4⟩) ⟨rfl, rfl, rfl, rfl, trivial⟩ ⟨rfl, rfl, trivial⟩ (Nat.le_refl _)) ?_
    refine aw_seq ?_
    refine aw_region (es := [_]) ⟨Step.plain rfl (does_assign (.const (.int .i64 0)) (.int .i64 0) (fun _ => rfl)), ⟨trivial, trivial, rfl⟩, rfl, rfl⟩ ?_
    refine aw_cov (cov_prune (s1 := ⟨[(0, (e_s_api_Member p0)), (8, (.ptr 2 0 [])), (9, (.own 3)), (10, (.bool (p2.Kind == 3))), (11, (.int .i64 0))], [(2, some (.var (e_api_Member v1))), (3, some (.arr 3 ([] : _root_.List api_Member).length fun j => (e_api_Member (([] : _root_.List api_Member).getD j z_api_Member))))], 4⟩) ⟨rfl, rfl, rfl, rfl, rfl, trivial⟩ ⟨rfl, rfl, trivial⟩ (Nat.le_refl _)) ?_
    obtain ⟨wn8, hwn8, Hrn8⟩ := bnd H
    refine aw_meet (fun y20 : Bool × _root_.List api_Member => (⟨[(8, (.ptr 2 0 [])), (9, (.own 3)), (10, (.bool y20.1))], [(2, some (.var (e_api_Member v1))), (3, some (.arr 3 y20.2.length fun j => (e_api_Member (y20.2.getD j z_api_Member))))], 4⟩ : St)) (fun y20 => Fl.nx y20 = wn8) (fun y20 hy => ?_) (aw_block (aw_runs (fun x7 : Bool × Int × _root_.List api_Member => (⟨[(0, (e_s_api_Member p0)), (8, (.ptr 2 0 [])), (9, (.own 3)), (10, (.bool x7.1)), (11, (.int .i64 x7.2.1))], [(2, some (.var (e_api_Member v1))), (3, some (.arr 3 x7.2.2.length fun j => (e_api_Member (x7.2.2.getD j z_api_Member))))], 4⟩ : St)) hwn8 (cov_prune ⟨rfl, rfl, rfl, rfl, rfl, trivial⟩ ⟨rfl, rfl, trivial⟩ (Nat.le_of_ble_eq_true rfl)) (fun x7 st H hsn8 => ?_)))
    · have H := nx_of hy Hrn8
      refine nx_seq ?_
      refine aw_seq ?_
      refine aw_region (es := [_, _]) ⟨Step.plain rfl (does_move (.tmp 10) (.bool y20.1) trivial), ⟨⟨rfl, trivial⟩, trivial, rfl⟩, rfl,
        Step.plain rfl (does_not 4 (.tmp 79) y20.1 trivial), ⟨⟨rfl, trivial⟩, trivial, rfl⟩, rfl, rfl⟩ ?_
      refine aw_cov (cov_prune (s1 := ⟨[(8, (.ptr 2 0 [])), (9, (.own 3)), (80, (.bool (!y20.1)))], [(2, some (.var (e_api_Member v1))), (3, some (.arr 3 y20.2.length fun j => (e_api_Member (y20.2.getD j z_api_Member))))], 4⟩) ⟨rfl, rfl, rfl, trivial⟩ ⟨rfl, rfl, trivial⟩ (Nat.le_refl _)) ?_
      refine aw_jn (fun x23 : _root_.List api_Member => (⟨[(9, (.own 3))], [(3, some (.arr 3 x23.length fun j => (e_api_Member (x23.getD j z_api_Member))))], 5⟩ : St)) H (fun x23 H => ?_) (fun j21 H => ?_)
      · refine nx_seq ?_
        refine aw_region (es := [_, _, _]) ⟨Step.plain rfl (does_move (.tmp 9) (.own 3) trivial), ⟨⟨rfl, trivial⟩, trivial, rfl⟩, rfl,
          Step.plain rfl (does_assign (.tmp 85) (.own 3) trivial), ⟨⟨rfl, trivial⟩, trivial, rfl⟩, rfl,
          Step.plain rfl (does_assign (.const (.bool true)) (.bool true) (fun _ => rfl)), ⟨trivial, trivial, rfl⟩, rfl, rfl⟩ ?_
        refine aw_cov (cov_prune (s1 := ⟨[(6, (.own 3)), (7, (.bool true))], [(3, some (.arr 3 x23.length fun j => (e_api_Member (x23.getD j z_api_Member))))], 5⟩) ⟨rfl, rfl, trivial⟩ ⟨rfl, trivial⟩ (Nat.le_refl _)) ?_
        refine aw_ret ?_
        exact fun a w hr => ⟨_, [(e_s_api_Member x23), (.bool true)], hr, ⟨⟨_, rfl, .own _ _ _ _ rfl (fun _ => (d_api_Member _))⟩, ⟨_, rfl, .data (.bool true) trivial⟩, trivial⟩, by decide, by cases H; rfl⟩
      · refine aw_cond rfl (fun hc => ?_) (fun hc => ?_)
        · replace H := ite_t hc H
          obtain ⟨h22, H⟩ := fit_of H
          refine aw_region1 (es := [_, _, _, _, _]) ⟨Step.plain rfl (does_move (.tmp 9) (.own 3) trivial), ⟨⟨rfl, trivial⟩, trivial, rfl⟩, rfl,
            Step.plain rfl (does_load 35 8 2 0 [] (.var (e_api_Member v1)) (e_api_Member v1) trivial rfl rfl ty35), ⟨⟨rfl, trivial⟩, ⟨rfl, trivial⟩, rfl⟩, rfl,
            Step.plain rfl (does_buildSl 22 1 3 (e_api_Member z_api_Member) (fun j => (e_api_Member (([v1] : _root_.List api_Member).getD j z_api_Member))) #[(0, (.tmp 82))] [(0, (.tmp 82))] [(0, (e_api_Member v1))] rfl so22 (by decide) ⟨⟨rfl, trivial⟩, trivial⟩ ⟨⟨Nat.le_of_ble_eq_true rfl, rfl, rfl⟩, trivial⟩ (fun j h => match j, h with | 0, _ => rfl | k + 1, h => absurd h (by omega))), ⟨⟨rfl, trivial⟩, trivial, rfl⟩, rfl,
            Step.plain rfl (does_appendL e_api_Member z_api_Member y20.2 ([v1] : _root_.List api_Member) 22 3 24 3 4 81 83 ap22 h22), ⟨⟨rfl, rfl, trivial⟩, ⟨rfl, trivial⟩, rfl⟩, rfl,
            Step.plain rfl (does_assign (.tmp 84) (.own 4) trivial), ⟨⟨rfl, trivial⟩, trivial, rfl⟩, rfl, rfl⟩ ?_
          exact nx_join ((y20.2 ++ ([v1] : _root_.List api_Member))) H (cov_of (fun i => match i with | 3 => 4 | k => k) ⟨⟨_, rfl, ⟨rfl, Nat.le_of_ble_eq_true rfl⟩⟩, trivial⟩ ⟨⟨Nat.le_of_ble_eq_true rfl, _, _, rfl, rfl, ⟨rfl, rfl, fun _ => .inl ⟨rfl, (d_api_Member _).plain⟩⟩⟩, trivial⟩ rfl)
        · replace H := ite_f hc H
          refine aw_skip ?_
          exact nx_join (y20.2) H (cov_of (fun i => match i with | 3 => 3 | k => k) ⟨⟨_, rfl, ⟨rfl, Nat.le_of_ble_eq_true rfl⟩⟩, trivial⟩ ⟨⟨Nat.le_of_ble_eq_true rfl, _, _, rfl, rfl, ⟨rfl, rfl, fun _ => .inl ⟨rfl, (d_api_Member _).plain⟩⟩⟩, trivial⟩ rfl)
    · refine aw_seq ?_
      refine aw_region (es := [_, _, _, _]) ⟨Step.plain rfl (does_move (.tmp 11) (.int .i64 x7.2.1) trivial), ⟨⟨rfl, trivial⟩, trivial, rfl⟩, rfl,
        Step.plain rfl (does_move (.tmp 0) (e_s_api_Member p0) trivial), ⟨⟨rfl, trivial⟩, trivial, rfl⟩, rfl,
        Step.plain rfl (does_lens 22 3 p0.length 46 (fun j => (e_api_Member (p0.getD j z_api_Member))) el22), ⟨⟨rfl, trivial⟩, trivial, rfl⟩, rfl,
        Step.plain rfl (does_bin .lss 3 3 (.tmp 45) (.tmp 47) .i64 x7.2.1 (p0.length : Int) (.bool (decide (x7.2.1 < (p0.length : Int)))) trivial trivial (bin_lss _ _ _ _)), ⟨⟨rfl, rfl, trivial⟩, trivial, rfl⟩, rfl, rfl⟩ ?_
      refine aw_cov (cov_prune (s1 := ⟨[(0, (e_s_api_Member p0)), (8, (.ptr 2 0 [])), (9, (.own 3)), (10, (.bool x7.1)), (11, (.int .i64 x7.2.1)), (48, (.bool (decide (x7.2.1 < (p0.length : Int)))))], [(2, some (.var (e_api_Member v1))), (3, some (.arr 3 x7.2.2.length fun j => (e_api_Member (x7.2.2.getD j z_api_Member))))], 4⟩) ⟨rfl, rfl, rfl, rfl, rfl, rfl, trivial⟩ ⟨rfl, rfl, trivial⟩ (Nat.le_refl _)) ?_
      refine aw_cond rfl (fun hc => ?_) (fun hc => ?_)
      · replace H := ite_t hc H
        refine aw_skip ?_
        refine nx_seq ?_
        refine aw_seq ?_
        refine aw_jn (fun x19 : Bool × _root_.List api_Member => (⟨[(0, (e_s_api_Member p0)), (8, (.ptr 2 0 [])), (9, (.own 3)), (10, (.bool x19.1)), (11, (.int .i64 x7.2.1))], [(2, some (.var (e_api_Member v1))), (3, some (.arr 3 x19.2.length fun j => (e_api_Member (x19.2.getD j z_api_Member))))], 6⟩ : St)) H (fun x19 H => ?_) (fun j9 H => ?_)
        · refine nx_seq ?_
          refine aw_region1 (es := [_, _, _]) ⟨Step.plain rfl (does_move (.tmp 11) (.int .i64 x7.2.1) trivial), ⟨⟨rfl, trivial⟩, trivial, rfl⟩, rfl,
            Step.plain rfl (does_bin .add 3 3 (.tmp 49) (.const (.int .i64 1)) .i64 x7.2.1 1 (.int .i64 (IntKind.i64.wrap (x7.2.1 + 1))) trivial (fun _ => rfl) (bin_add _ _ _ _)), ⟨⟨rfl, trivial⟩, trivial, rfl⟩, rfl,
            Step.plain rfl (does_assign (.tmp 50) (.int .i64 (IntKind.i64.wrap (x7.2.1 + 1))) trivial), ⟨⟨rfl, trivial⟩, trivial, rfl⟩, rfl, rfl⟩ ?_
          exact nx_loop (x19.1, (IntKind.i64.wrap (x7.2.1 + 1)), x19.2) H (cov_of (fun i => match i with | 2 => 2 | 3 => 3 | k => k) ⟨⟨_, rfl, ⟨rfl, (d_s_api_Member _).plain⟩⟩, ⟨_, rfl, ⟨rfl, Nat.le_of_ble_eq_true rfl⟩⟩, ⟨_, rfl, ⟨rfl, Nat.le_of_ble_eq_true rfl⟩⟩, ⟨_, rfl, ⟨rfl, trivial⟩⟩, ⟨_, rfl, ⟨rfl, trivial⟩⟩, trivial⟩ ⟨⟨Nat.le_of_ble_eq_true rfl, _, _, rfl, rfl, .inl ⟨rfl, (d_api_Member _).plain⟩⟩, ⟨Nat.le_of_ble_eq_true rfl, _, _, rfl, rfl, ⟨rfl, rfl, fun _ => .inl ⟨rfl, (d_api_Member _).plain⟩⟩⟩, trivial⟩ rfl)
        · refine aw_block ?_
          refine aw_seq ?_
          obtain ⟨h10, H⟩ := ibg_of H
          obtain ⟨v11, h12, H⟩ := whn_of H
          refine aw_draw (es := [_, _, _, _, _, _, _, _, _, _, _]) (mixed) ⟨Step.plain rfl (does_move (.tmp 10) (.bool x7.1) trivial), ⟨⟨rfl, trivial⟩, trivial, rfl⟩, rfl,
            Step.plain rfl (does_not 4 (.tmp 51) x7.1 trivial), ⟨⟨rfl, trivial⟩, trivial, rfl⟩, rfl,
            Step.plain rfl (does_move (.tmp 52) (.bool (!x7.1)) trivial), ⟨⟨rfl, trivial⟩, trivial, rfl⟩, rfl,
            Step.guarded rfl rfl rfl rfl (fun hc => does_move (.tmp 0) (e_s_api_Member p0) trivial), ⟨⟨rfl, rfl, trivial⟩, trivial, rfl⟩, rfl,
            Step.guarded rfl rfl rfl rfl (fun hc => does_move (.tmp 11) (.int .i64 x7.2.1) trivial), ⟨⟨rfl, rfl, trivial⟩, trivial, rfl⟩, rfl,
            Step.guarded rfl rfl rfl rfl (fun hc => Does.strip (n' := [(54, (.opt (!x7.1) (e_s_api_Member p0))), (55, (.opt (!x7.1) (.int .i64 x7.2.1)))]) (n := [(54, (e_s_api_Member p0)), (55, (.int .i64 x7.2.1))]) ⟨(.opt _ _ hc), (.opt _ _ hc), trivial⟩ (does_indexAddrs 22 3 p0.length 54 (fun j => (e_api_Member (p0.getD j z_api_Member))) (.tmp 55) .i64 x7.2.1 el22 trivial (h10 hc).1 (h10 hc).2)), ⟨⟨rfl, rfl, rfl, trivial⟩, trivial, rfl⟩, rfl,
            Step.guarded rfl rfl rfl rfl (fun hc => Does.strip (n' := [(56, (.opt (!x7.1) (.cptr (e_api_Member (p0.getD x7.2.1.toNat z_api_Member)))))]) (n := [(56, (.cptr (e_api_Member (p0.getD x7.2.1.toNat z_api_Member))))]) ⟨(.opt _ _ hc), trivial⟩ (does_loadc 35 56 (e_api_Member (p0.getD x7.2.1.toNat z_api_Member)) ty35)), ⟨⟨rfl, rfl, trivial⟩, trivial, rfl⟩, rfl,
            Step.guarded rfl rfl rfl rfl (fun hc => does_load 35 8 2 0 [] (.var (e_api_Member v1)) (e_api_Member v1) trivial rfl rfl ty35), ⟨⟨rfl, rfl, trivial⟩, ⟨rfl, trivial⟩, rfl⟩, rfl,
            Step.guarded rfl rfl rfl rfl (fun hc => Does.strip (n' := [(57, (.opt (!x7.1) (e_api_Member (p0.getD x7.2.1.toNat z_api_Member)))), (58, (.opt (!x7.1) (e_api_Member v1)))]) (n := [(57, (e_api_Member (p0.getD x7.2.1.toNat z_api_Member))), (58, (e_api_Member v1))]) ⟨(.opt _ _ hc), (.opt _ _ hc), trivial⟩ (does_call 10 0 (fun _ => .any) (.func 10) [(.tmp 57), (.tmp 58)] [(e_api_Member (p0.getD x7.2.1.toNat z_api_Member)), (e_api_Member v1)] [] true [(e_api_Member (p0.getD x7.2.1.toNat z_api_Member)), (e_api_Member v1)] (.bool v11) _ _ rfl fo10 rfl ⟨trivial, trivial, trivial⟩ ⟨.data _ (d_api_Member (p0.getD x7.2.1.toNat z_api_Member)), .data _ (d_api_Member v1), trivial⟩ (congressref18_Less_spec (p0.getD x7.2.1.toNat z_api_Member) v1 _ (h12 hc)) trivial)), ⟨⟨rfl, rfl, rfl, trivial⟩, trivial, rfl⟩, rfl,
            Step.guarded rfl rfl rfl rfl (fun hc => Does.strip (n' := [(59, (.opt (!x7.1) (.bool v11)))]) (n := [(59, (.bool v11))]) ⟨(.opt _ _ hc), trivial⟩ (does_not 4 (.tmp 59) v11 trivial)), ⟨⟨rfl, rfl, trivial⟩, trivial, rfl⟩, rfl,
            Step.plain rfl (does_and 53 60 (!x7.1) (!v11)), ⟨⟨rfl, rfl, trivial⟩, trivial, rfl⟩, rfl, rfl⟩ rfl ?_
          refine aw_cov (cov_prune (s1 := ⟨[(0, (e_s_api_Member p0)), (8, (.ptr 2 0 [])), (9, (.own 3)), (10, (.bool x7.1)), (11, (.int .i64 x7.2.1)), (61, (.bool ((!x7.1) && (!v11))))], [(2, some (.var (e_api_Member v1))), (3, some (.arr 3 x7.2.2.length fun j => (e_api_Member (x7.2.2.getD j z_api_Member))))], 4⟩) ⟨rfl, rfl, rfl, rfl, rfl, rfl, trivial⟩ ⟨rfl, rfl, trivial⟩ (Nat.le_refl _)) ?_
          refine aw_jn (fun x15 : Bool × _root_.List api_Member => (⟨[(0, (e_s_api_Member p0)), (8, (.ptr 2 0 [])), (9, (.own 3)), (10, (.bool x15.1)), (11, (.int .i64 x7.2.1))], [(2, some (.var (e_api_Member v1))), (3, some (.arr 3 x15.2.length fun j => (e_api_Member (x15.2.getD j z_api_Member))))], 5⟩ : St)) H (fun x15 H => ?_) (fun j13 H => ?_)
          · refine nx_seq ?_
            obtain ⟨h16, H⟩ := ib_of H
            refine aw_draw (es := [_, _, _, _, _, _]) (mixed) ⟨Step.plain rfl (does_move (.tmp 0) (e_s_api_Member p0) trivial), ⟨⟨rfl, trivial⟩, trivial, rfl⟩, rfl,
              Step.plain rfl (does_move (.tmp 11) (.int .i64 x7.2.1) trivial), ⟨⟨rfl, trivial⟩, trivial, rfl⟩, rfl,
              Step.plain rfl (does_indexAddrs 22 3 p0.length 66 (fun j => (e_api_Member (p0.getD j z_api_Member))) (.tmp 67) .i64 x7.2.1 el22 trivial h16.1 h16.2), ⟨⟨rfl, rfl, trivial⟩, trivial, rfl⟩, rfl,
              Step.plain rfl (does_loadc 35 68 (e_api_Member (p0.getD x7.2.1.toNat z_api_Member)) ty35), ⟨⟨rfl, trivial⟩, trivial, rfl⟩, rfl,
              Step.plain rfl (does_load 35 8 2 0 [] (.var (e_api_Member v1)) (e_api_Member v1) trivial rfl rfl ty35), ⟨⟨rfl, trivial⟩, ⟨rfl, trivial⟩, rfl⟩, rfl,
              Step.plain rfl (does_eqT true 35 35 (.tmp 69) (.tmp 70) (e_api_Member (p0.getD x7.2.1.toNat z_api_Member)) (e_api_Member v1) (e_api_Member z_api_Member) (b_api_Member (p0.getD x7.2.1.toNat z_api_Member) v1) rfl rfl trivial trivial eg35 sh35 (al_api_Member _ _) (al_api_Member _ _) (q_api_Member _ _)), ⟨⟨rfl, rfl, trivial⟩, trivial, rfl⟩, rfl, rfl⟩ rfl ?_
            refine aw_cov (cov_prune (s1 := ⟨[(0, (e_s_api_Member p0)), (8, (.ptr 2 0 [])), (9, (.own 3)), (10, (.bool x15.1)), (11, (.int .i64 x7.2.1)), (71, (.bool (!(b_api_Member (p0.getD x7.2.1.toNat z_api_Member) v1))))], [(2, some (.var (e_api_Member v1))), (3, some (.arr 3 x15.2.length fun j => (e_api_Member (x15.2.getD j z_api_Member))))], 5⟩) ⟨rfl, rfl, rfl, rfl, rfl, rfl, trivial⟩ ⟨rfl, rfl, trivial⟩ (Nat.le_refl _)) ?_
            refine aw_cond rfl (fun hc => ?_) (fun hc => ?_)
            · replace H := ite_t hc H
              obtain ⟨h17, H⟩ := ib_of H
              obtain ⟨h18, H⟩ := fit_of H
              refine aw_region1 (es := [_, _, _, _, _, _, _, _]) ⟨Step.plain rfl (does_move (.tmp 9) (.own 3) trivial), ⟨⟨rfl, trivial⟩, trivial, rfl⟩, rfl,
                Step.plain rfl (does_move (.tmp 0) (e_s_api_Member p0) trivial), ⟨⟨rfl, trivial⟩, trivial, rfl⟩, rfl,
                Step.plain rfl (does_move (.tmp 11) (.int .i64 x7.2.1) trivial), ⟨⟨rfl, trivial⟩, trivial, rfl⟩, rfl,
                Step.plain rfl (does_indexAddrs 22 3 p0.length 73 (fun j => (e_api_Member (p0.getD j z_api_Member))) (.tmp 74) .i64 x7.2.1 el22 trivial h17.1 h17.2), ⟨⟨rfl, rfl, trivial⟩, trivial, rfl⟩, rfl,
                Step.plain rfl (does_loadc 35 75 (e_api_Member (p0.getD x7.2.1.toNat z_api_Member)) ty35), ⟨⟨rfl, trivial⟩, trivial, rfl⟩, rfl,
                Step.plain rfl (does_buildSl 22 1 3 (e_api_Member z_api_Member) (fun j => (e_api_Member (([p0.getD x7.2.1.toNat z_api_Member] : _root_.List api_Member).getD j z_api_Member))) #[(0, (.tmp 76))] [(0, (.tmp 76))] [(0, (e_api_Member (p0.getD x7.2.1.toNat z_api_Member)))] rfl so22 (by decide) ⟨⟨rfl, trivial⟩, trivial⟩ ⟨⟨Nat.le_of_ble_eq_true rfl, rfl, rfl⟩, trivial⟩ (fun j h => match j, h with | 0, _ => rfl | k + 1, h => absurd h (by omega))), ⟨⟨rfl, trivial⟩, trivial, rfl⟩, rfl,
                Step.plain rfl (does_appendL e_api_Member z_api_Member x15.2 ([p0.getD x7.2.1.toNat z_api_Member] : _root_.List api_Member) 22 3 24 3 5 72 77 ap22 h18), ⟨⟨rfl, rfl, trivial⟩, ⟨rfl, trivial⟩, rfl⟩, rfl,
                Step.plain rfl (does_assign (.tmp 78) (.own 5) trivial), ⟨⟨rfl, trivial⟩, trivial, rfl⟩, rfl, rfl⟩ ?_
              refine nx_blk ?_
              exact nx_join (x15.1, (x15.2 ++ ([p0.getD x7.2.1.toNat z_api_Member] : _root_.List api_Member))) H (cov_of (fun i => match i with | 2 => 2 | 3 => 5 | k => k) ⟨⟨_, rfl, ⟨rfl, (d_s_api_Member _).plain⟩⟩, ⟨_, rfl, ⟨rfl, Nat.le_of_ble_eq_true rfl⟩⟩, ⟨_, rfl, ⟨rfl, Nat.le_of_ble_eq_true rfl⟩⟩, ⟨_, rfl, ⟨rfl, trivial⟩⟩, ⟨_, rfl, ⟨rfl, trivial⟩⟩, trivial⟩ ⟨⟨Nat.le_of_ble_eq_true rfl, _, _, rfl, rfl, .inl ⟨rfl, (d_api_Member _).plain⟩⟩, ⟨Nat.le_of_ble_eq_true rfl, _, _, rfl, rfl, ⟨rfl, rfl, fun _ => .inl ⟨rfl, (d_api_Member _).plain⟩⟩⟩, trivial⟩ rfl)
            · replace H := ite_f hc H
              refine aw_skip ?_
              refine nx_blk ?_
              exact nx_join (x15.1, x15.2) H (cov_of (fun i => match i with | 2 => 2 | 3 => 3 | k => k) ⟨⟨_, rfl, ⟨rfl, (d_s_api_Member _).plain⟩⟩, ⟨_, rfl, ⟨rfl, Nat.le_of_ble_eq_true rfl⟩⟩, ⟨_, rfl, ⟨rfl, Nat.le_of_ble_eq_true rfl⟩⟩, ⟨_, rfl, ⟨rfl, trivial⟩⟩, ⟨_, rfl, ⟨rfl, trivial⟩⟩, trivial⟩ ⟨⟨Nat.le_of_ble_eq_true rfl, _, _, rfl, rfl, .inl ⟨rfl, (d_api_Member _).plain⟩⟩, ⟨Nat.le_of_ble_eq_true rfl, _, _, rfl, rfl, ⟨rfl, rfl, fun _ => .inl ⟨rfl, (d_api_Member _).plain⟩⟩⟩, trivial⟩ rfl)
          · refine aw_cond rfl (fun hc => ?_) (fun hc => ?_)
            · replace H := ite_t hc H
              obtain ⟨h14, H⟩ := fit_of H
              refine aw_region (es := [_, _, _, _, _]) ⟨Step.plain rfl (does_move (.tmp 9) (.own 3) trivial), ⟨⟨rfl, trivial⟩, trivial, rfl⟩, rfl,
                Step.plain rfl (does_load 35 8 2 0 [] (.var (e_api_Member v1)) (e_api_Member v1) trivial rfl rfl ty35), ⟨⟨rfl, trivial⟩, ⟨rfl, trivial⟩, rfl⟩, rfl,
                Step.plain rfl (does_buildSl 22 1 3 (e_api_Member z_api_Member) (fun j => (e_api_Member (([v1] : _root_.List api_Member).getD j z_api_Member))) #[(0, (.tmp 63))] [(0, (.tmp 63))] [(0, (e_api_Member v1))] rfl so22 (by decide) ⟨⟨rfl, trivial⟩, trivial⟩ ⟨⟨Nat.le_of_ble_eq_true rfl, rfl, rfl⟩, trivial⟩ (fun j h => match j, h with | 0, _ => rfl | k + 1, h => absurd h (by omega))), ⟨⟨rfl, trivial⟩, trivial, rfl⟩, rfl,
                Step.plain rfl (does_appendL e_api_Member z_api_Member x7.2.2 ([v1] : _root_.List api_Member) 22 3 24 3 4 62 64 ap22 h14), ⟨⟨rfl, rfl, trivial⟩, ⟨rfl, trivial⟩, rfl⟩, rfl,
                Step.plain rfl (does_assign (.tmp 65) (.own 4) trivial), ⟨⟨rfl, trivial⟩, trivial, rfl⟩, rfl, rfl⟩ ?_
              refine aw_cov (cov_prune (s1 := ⟨[(0, (e_s_api_Member p0)), (8, (.ptr 2 0 [])), (11, (.int .i64 x7.2.1)), (9, (.own 4))], [(2, some (.var (e_api_Member v1))), (4, some (.arr 3 (x7.2.2 ++ ([v1] : _root_.List api_Member)).length fun j => (e_api_Member ((x7.2.2 ++ ([v1] : _root_.List api_Member)).getD j z_api_Member))))], 5⟩) ⟨rfl, rfl, rfl, rfl, trivial⟩ ⟨rfl, rfl, trivial⟩ (Nat.le_refl _)) ?_
              refine aw_region1 (es := [_]) ⟨Step.plain rfl (does_assign (.const (.bool true)) (.bool true) (fun _ => rfl)), ⟨trivial, trivial, rfl⟩, rfl, rfl⟩ ?_
              exact nx_join (true, (x7.2.2 ++ ([v1] : _root_.List api_Member))) H (cov_of (fun i => match i with | 2 => 2 | 3 => 4 | k => k) ⟨⟨_, rfl, ⟨rfl, (d_s_api_Member _).plain⟩⟩, ⟨_, rfl, ⟨rfl, Nat.le_of_ble_eq_true rfl⟩⟩, ⟨_, rfl, ⟨rfl, Nat.le_of_ble_eq_true rfl⟩⟩, ⟨_, rfl, ⟨rfl, trivial⟩⟩, ⟨_, rfl, ⟨rfl, trivial⟩⟩, trivial⟩ ⟨⟨Nat.le_of_ble_eq_true rfl, _, _, rfl, rfl, .inl ⟨rfl, (d_api_Member _).plain⟩⟩, ⟨Nat.le_of_ble_eq_true rfl, _, _, rfl, rfl, ⟨rfl, rfl, fun _ => .inl ⟨rfl, (d_api_Member _).plain⟩⟩⟩, trivial⟩ rfl)
            · replace H := ite_f hc H
              refine aw_skip ?_
              exact nx_join (x7.1, x7.2.2) H (cov_of (fun i => match i with | 2 => 2 | 3 => 3 | k => k) ⟨⟨_, rfl, ⟨rfl, (d_s_api_Member _).plain⟩⟩, ⟨_, rfl, ⟨rfl, Nat.le_of_ble_eq_true rfl⟩⟩, ⟨_, rfl, ⟨rfl, Nat.le_of_ble_eq_true rfl⟩⟩, ⟨_, rfl, ⟨rfl, trivial⟩⟩, ⟨_, rfl, ⟨rfl, trivial⟩⟩, trivial⟩ ⟨⟨Nat.le_of_ble_eq_true rfl, _, _, rfl, rfl, .inl ⟨rfl, (d_api_Member _).plain⟩⟩, ⟨Nat.le_of_ble_eq_true rfl, _, _, rfl, rfl, ⟨rfl, rfl, fun _ => .inl ⟨rfl, (d_api_Member _).plain⟩⟩⟩, trivial⟩ rfl)
      · replace H := ite_f hc H
        refine aw_exit ?_
        refine ex_then ?_
        refine ex_then ?_
        refine ex_here ?_
        exact nx_ljoin (x7.1, x7.2.2) H hsn8 (cov_prune ⟨rfl, rfl, rfl, trivial⟩ ⟨rfl, rfl, trivial⟩ (Nat.le_of_ble_eq_true rfl))

theorem congresslaw18_join_spec (p0 : Int) (r : api_Entry) (H : congresslaw18_join p0 = some r) : FSpec Try.prog 30 [(.int .u64 p0)] (e_api_Entry r) := by
  refine spec_of (fn := Try.f30) (args := [(.int .u64 p0)]) Try.func30 rfl (Nat.le_of_ble_eq_true rfl) ?_
  rintro ⟨G, w0, W, S, Sp⟩ hG
  cases hG
  unfold congresslaw18_join at H
  refine aw_region (es := [_]) ⟨Step.plain rfl (does_alloc 25 0 (e_api_Entry z_api_Entry) zr25), ⟨trivial, trivial, rfl⟩, rfl, rfl⟩ ?_
  refine aw_cov (cov_prune (s1 := ⟨[(0, (.int .u64 p0)), (2, (.ptr 0 0 []))], [(0, some (.var (e_api_Entry z_api_Entry)))], 1⟩) ⟨rfl, rfl, trivial⟩ ⟨rfl, trivial⟩ (Nat.le_refl _)) ?_
  refine aw_region (es := [_, _, _]) ⟨Step.plain rfl (does_move (.tmp 0) (.int .u64 p0) trivial), ⟨⟨rfl, trivial⟩, trivial, rfl⟩, rfl,
    Step.plain rfl (does_buildT 25 #[(0, (.const (.int .i64 2))), (1, (.const (.int .i64 2))), (2, (.const (.int .i64 1))), (3, (.tmp 3))] [(0, (.const (.int .i64 2))), (1, (.const (.int .i64 2))), (2, (.const (.int .i64 1))), (3, (.tmp 3))] [(0, (.int .i64 2)), (1, (.int .i64 2)), (2, (.int .i64 1)), (3, (.int .u64 p0))] (.st [1, 1, 1, 1, 1, 1]) (c_api_Entry z_api_Entry) (c_api_Entry ({ Kind := 2, Service := 2, Group := 1, Session := p0, Number := 0, Text := ByteArray.empty } : api_Entry)) rfl bo25 ⟨⟨rfl, (fun _ => rfl)⟩, ⟨rfl, (fun _ => rfl)⟩, ⟨rfl, (fun _ => rfl)⟩, ⟨rfl, trivial⟩, trivial⟩ ⟨⟨Nat.le_of_ble_eq_true rfl, rfl, rfl⟩, ⟨Nat.le_of_ble_eq_true rfl, rfl, rfl⟩, ⟨Nat.le_of_ble_eq_true rfl, rfl, rfl⟩, ⟨Nat.le_of_ble_eq_true rfl, rfl, rfl⟩, trivial⟩ (by funext j; match j with | 0 => rfl | 1 => rfl | 2 => rfl | 3 => rfl | 4 => rfl | 5 => rfl | _ + 6 => rfl)), ⟨⟨rfl, trivial⟩, trivial, rfl⟩, rfl,
    Step.plain rfl (does_store 25 2 (.tmp 4) 0 0 [] (.var (e_api_Entry z_api_Entry)) (.var (e_api_Entry ({ Kind := 2, Service := 2, Group := 1, Session := p0, Number := 0, Text := ByteArray.empty } : api_Entry))) (e_api_Entry ({ Kind := 2, Service := 2, Group := 1, Session := p0, Number := 0, Text := ByteArray.empty } : api_Entry)) true trivial rfl trivial rfl rfl rfl ty25), ⟨⟨rfl, rfl, trivial⟩, ⟨rfl, trivial⟩, rfl⟩, rfl, rfl⟩ ?_
  obtain ⟨v1, hv1, H⟩ := lt_of H
  refine aw_cov (cov_prune (s1 := ⟨[(2, (.ptr 0 0 []))], [(0, some (.var (e_api_Entry v1)))], 1⟩) ⟨rfl, trivial⟩ ⟨(by subst hv1; rfl), trivial⟩ (Nat.le_refl _)) ?_
  refine aw_ret ?_
  exact fun a w hr => ⟨_, [(e_api_Entry v1)], hr, ⟨⟨0, _, rfl, rfl, .data _ (d_api_Entry v1), ty25⟩, trivial⟩, by decide, by cases H; rfl⟩

theorem group_those_1_spec (p0 : api_Member) (p100 : (api_Member → Option (Bool))) (k100 n100 : Nat) (c100 : Nat → V) (o100 : FnOk Try.prog k100) (h100 : ∀ j, (c100 j).Cap0) (g100 : ∀ (x0 : api_Member) (r : Bool), p100 x0 = some r → FSpec Try.prog k100 ([(e_api_Member x0)] ++ (List.range n100).map c100) (.bool r)) (r : Bool) (H : group_those_1 p0 p100 = some r) : FSpec Try.prog 40 [(e_api_Member p0), (.cptr (.fn k100 n100 c100))] (.bool r) := by
  refine spec_of (fn := Try.f40) (args := [(e_api_Member p0), (.cptr (.fn k100 n100 c100))]) Try.func40 rfl (Nat.le_of_ble_eq_true rfl) ?_
  rintro ⟨G, w0, W, S, Sp⟩ hG
  cases hG
  unfold group_those_1 at H
  refine aw_region (es := [_, _]) ⟨Step.plain rfl (does_box 35 (.tmp 0) 0 (e_api_Member p0) trivial rfl), ⟨⟨rfl, trivial⟩, trivial, rfl⟩, rfl,
    Step.plain rfl (does_assign (.const (.bool false)) (.bool false) (fun _ => rfl)), ⟨trivial, trivial, rfl⟩, rfl, rfl⟩ ?_
  refine aw_cov (cov_prune (s1 := ⟨[(1, (.cptr (.fn k100 n100 c100))), (2, (.ptr 0 0 []))], [(0, some (.var (e_api_Member p0)))], 1⟩) ⟨rfl, rfl, trivial⟩ ⟨rfl, trivial⟩ (Nat.le_refl _)) ?_
  obtain ⟨v1, h2, H⟩ := bnd H
  refine aw_region (es := [_, _, _, _, _]) ⟨Step.plain rfl (does_loadc 50 1 (.fn k100 n100 c100) ty50), ⟨⟨rfl, trivial⟩, trivial, rfl⟩, rfl,
    Step.plain rfl (does_load 35 2 0 0 [] (.var (e_api_Member p0)) (e_api_Member p0) trivial rfl rfl ty35), ⟨⟨rfl, trivial⟩, ⟨rfl, trivial⟩, rfl⟩, rfl,
    Step.plain rfl (does_callf k100 n100 c100 4 [(.tmp 5)] [(e_api_Member p0)] [(e_api_Member p0)] [] true (.bool v1) _ _ rfl o100 ⟨trivial, trivial⟩ ⟨.data _ (d_api_Member p0), trivial⟩ (fun j => .inl (h100 j)) (g100 p0 _ h2) trivial), ⟨⟨rfl, rfl, trivial⟩, trivial, rfl⟩, rfl,
    Step.plain rfl (does_not 4 (.tmp 6) v1 trivial), ⟨⟨rfl, trivial⟩, trivial, rfl⟩, rfl,
    Step.plain rfl (does_assign (.tmp 7) (.bool (!v1)) trivial), ⟨⟨rfl, trivial⟩, trivial, rfl⟩, rfl, rfl⟩ ?_
  refine aw_cov (cov_prune (s1 := ⟨[(3, (.bool (!v1)))], [], 1⟩) ⟨rfl, trivial⟩ trivial (Nat.le_refl _)) ?_
  refine aw_ret ?_
  exact fun a w hr => ⟨_, [(.bool (!v1))], hr, ⟨⟨_, rfl, .data (.bool (!v1)) trivial⟩, trivial⟩, by decide, by cases H; rfl⟩

theorem group_those_spec (p0 : (_root_.List api_Member)) (p1 : (api_Member → Option (Bool))) (k1 n1 : Nat) (c1 : Nat → V) (o1 : FnOk Try.prog k1) (h1 : ∀ j, (c1 j).Cap0) (g1 : ∀ (x0 : api_Member) (r : Bool), p1 x0 = some r → FSpec Try.prog k1 ([(e_api_Member x0)] ++ (List.range n1).map c1) (.bool r)) (r : (_root_.List api_Member)) (H : group_those p0 p1 = some r) : FSpecO Try.prog 31 [(e_s_api_Member p0), (.fn k1 n1 c1)] [] 0 (.own 0) [(0, some (.arr 3 r.length fun j => (e_api_Member (r.getD j z_api_Member))))] 1 := by
  refine specO_of (fn := Try.f31) (args := [(e_s_api_Member p0), (.fn k1 n1 c1)]) Try.func31 rfl (Nat.le_of_ble_eq_true rfl) ?_
  rintro ⟨G, w0, W, S, Sp⟩ hG
  cases hG
  unfold group_those at H
  refine aw_region (es := [_, _]) ⟨Step.plain rfl (does_box 50 (.tmp 1) 0 (.fn k1 n1 c1) trivial rfl), ⟨⟨rfl, trivial⟩, trivial, rfl⟩, rfl,
    Step.plain rfl (does_nil false 1 3 (fun j => (e_api_Member (([] : _root_.List api_Member).getD j z_api_Member)))), ⟨trivial, trivial, rfl⟩, rfl, rfl⟩ ?_
  refine aw_cov (cov_prune (s1 := ⟨[(0, (e_s_api_Member p0)), (3, (.ptr 0 0 []))], [(0, some (.var (.fn k1 n1 c1)))], 2⟩) ⟨rfl, rfl, trivial⟩ ⟨rfl, trivial⟩ (Nat.le_refl _)) ?_
  obtain ⟨v1, h2, H⟩ := bnd H
  obtain ⟨v3, h4, H⟩ := bnd H
  refine aw_region (es := [_, _, _, _, _]) ⟨Step.plain rfl (does_move (.tmp 0) (e_s_api_Member p0) trivial), ⟨⟨rfl, trivial⟩, trivial, rfl⟩, rfl,
    Step.plain rfl (does_callO 20 0 (fun _ => .any) (.func 20) [(.tmp 5)] [(e_s_api_Member p0)] [] [] true [(e_s_api_Member p0)] _ (.own 2) _ 2 1 _ _ rfl fo20 rfl ⟨trivial, trivial⟩ ⟨.ro _ _ (.data _ (d_s_api_Member p0)), trivial⟩ (slices_Clone_api_Member_api_Member_spec p0 _ h2) rfl (by simp) rfl trivial ⟨⟨Nat.le_of_ble_eq_true rfl, _, rfl, fun _ => (f_api_Member _)⟩, trivial⟩ (.own 0 (Nat.le_of_ble_eq_true rfl))), ⟨⟨rfl, trivial⟩, trivial, rfl⟩, rfl,
    Step.plain rfl (does_makeFunc 40 [(.tmp 3)] [(.ptr 0 0 [])] #[(.tmp 3)] rfl ⟨trivial, trivial⟩), ⟨⟨rfl, trivial⟩, trivial, rfl⟩, rfl,
    Step.plain rfl (does_callO 26 0 (fun _ => .any) (.func 26) [(.tmp 6), (.tmp 7)] [(.own 2), (.fn 40 1 (fun j => ([(.ptr 0 0 [])] : _root_.List V).getD j (.bool false)))] [(0, (.var (.fn k1 n1 c1)))] [(2, (.arr 3 v1.length fun j => (e_api_Member (v1.getD j z_api_Member))))] true [(.own 0), (.fn 40 1 (fun j => ([.cptr (.fn k1 n1 c1)] : _root_.List V).getD j (.bool false)))] _ (.own 3) _ 3 1 _ _ rfl fo26 rfl ⟨trivial, trivial, trivial⟩ ⟨(.mv 0 _ rfl), .ro _ _ (.fn _ _ _ _ (fun j hj => match j, hj with | 0, _ => .ptrF 0 0 [] (.var (.fn k1 n1 c1)) (.fn k1 n1 c1) (.head _) trivial rfl rfl (.fn _ _ _ _ (fun j _ => (h1 j).pass)) | k + 1, hj => absurd hj (by omega))), trivial⟩ (slices_DeleteFunc_api_Member_api_Member_spec v1 (fun z0 => group_those_1 z0 p1) 40 1 (fun j => ([.cptr (.fn k1 n1 c1)] : _root_.List V).getD j (.bool false)) fo40 (fun j => match j with | 0 => .inr ⟨k1, n1, c1, h1, rfl⟩ | _ + 1 => .inl (.inl trivial)) (fun z0 r h => group_those_1_spec z0 p1 k1 n1 c1 o1 h1 g1 r h) _ h4) rfl (by simp) rfl ⟨(fun _ => (f_api_Member _)), trivial⟩ ⟨⟨Nat.le_of_ble_eq_true rfl, _, rfl, fun _ => (f_api_Member _)⟩, trivial⟩ (.own 0 (Nat.le_of_ble_eq_true rfl))), ⟨⟨rfl, rfl, trivial⟩, ⟨rfl, rfl, trivial⟩, rfl⟩, rfl,
    Step.plain rfl (does_assign (.tmp 8) (.own 3) trivial), ⟨⟨rfl, trivial⟩, trivial, rfl⟩, rfl, rfl⟩ ?_
  refine aw_cov (cov_prune (s1 := ⟨[(4, (.own 3))], [(3, some (.arr 3 v3.length fun j => (e_api_Member (v3.getD j z_api_Member))))], 4⟩) ⟨rfl, trivial⟩ ⟨rfl, trivial⟩ (Nat.le_refl _)) ?_
  refine aw_ret ?_
  exact fun a w hr => ⟨_, [(.own 0)], reach_of hr (cov_to (s1 := ⟨[(4, (.own 0))], [(0, some (.arr 3 v3.length fun j => (e_api_Member (v3.getD j z_api_Member))))], 1⟩) (fun i => match i with | 0 => 3 | k => k) [] ⟨⟨_, rfl, .own 0 _ _ (Nat.le_of_ble_eq_true rfl) rfl rfl (Box.like_refl _)⟩, trivial⟩ ⟨⟨Nat.le_of_ble_eq_true rfl, _, _, rfl, rfl, boxTo_arr (fun _ => (d_api_Member _))⟩, trivial⟩ rfl rfl), ⟨rfl, trivial⟩, by decide, by cases H; rfl, by cases H; exact ⟨rfl, trivial⟩, Nat.le_of_ble_eq_true rfl⟩

theorem group_those_data (p0 : (_root_.List api_Member)) (p1 : (api_Member → Option (Bool))) (k1 n1 : Nat) (c1 : Nat → V) (o1 : FnOk Try.prog k1) (h1 : ∀ j, (c1 j).Cap0) (g1 : ∀ (x0 : api_Member) (r : Bool), p1 x0 = some r → FSpec Try.prog k1 ([(e_api_Member x0)] ++ (List.range n1).map c1) (.bool r)) (r : (_root_.List api_Member)) (H : group_those p0 p1 = some r) : FSpec Try.prog 31 [(e_s_api_Member p0), (.fn k1 n1 c1)] (e_s_api_Member r) :=
  FSpecO.toData (fz := [0]) (group_those_spec p0 p1 k1 n1 c1 o1 h1 g1 r H) (d_s_api_Member r) (.frz 0 _ _ _ rfl (fun _ => (d_api_Member _)) (by decide))

theorem group_View_1_spec (p0 : api_Member) (q0 : Int) (r : Bool) (H : group_View_1 p0 q0 = some r) : FSpec Try.prog 32 [(e_api_Member p0), (.cptr (.int .i64 q0))] (.bool r) := by
  refine spec_of (fn := Try.f32) (args := [(e_api_Member p0), (.cptr (.int .i64 q0))]) Try.func32 rfl (Nat.le_of_ble_eq_true rfl) ?_
  rintro ⟨G, w0, W, S, Sp⟩ hG
  cases hG
  unfold group_View_1 at H
  refine aw_region (es := [_, _]) ⟨Step.plain rfl (does_box 35 (.tmp 0) 0 (e_api_Member p0) trivial rfl), ⟨⟨rfl, trivial⟩, trivial, rfl⟩, rfl,
    Step.plain rfl (does_assign (.const (.bool false)) (.bool false) (fun _ => rfl)), ⟨trivial, trivial, rfl⟩, rfl, rfl⟩ ?_
  refine aw_cov (cov_prune (s1 := ⟨[(1, (.cptr (.int .i64 q0))), (2, (.ptr 0 0 []))], [(0, some (.var (e_api_Member p0)))], 1⟩) ⟨rfl, rfl, trivial⟩ ⟨rfl, trivial⟩ (Nat.le_refl _)) ?_
  refine aw_region (es := [_, _, _, _, _]) ⟨Step.plain rfl (does_fieldAddr 35 0 0 2 0 0 [] (.var (e_api_Member p0)) fl35_0), ⟨⟨rfl, trivial⟩, ⟨rfl, trivial⟩, rfl⟩, rfl,
    Step.plain rfl (does_load 3 4 0 (0 + 0) [0] (.var (e_api_Member p0)) (.int .i64 p0.Group) ⟨rfl, Nat.le_of_ble_eq_true rfl, trivial⟩ rfl rfl ty3), ⟨⟨rfl, trivial⟩, ⟨rfl, trivial⟩, rfl⟩, rfl,
    Step.plain rfl (does_loadc 3 1 (.int .i64 q0) ty3), ⟨⟨rfl, trivial⟩, trivial, rfl⟩, rfl,
    Step.plain rfl (does_bin .eql 3 3 (.tmp 5) (.tmp 6) .i64 p0.Group q0 (.bool (p0.Group == q0)) trivial trivial (bin_eql _ _ _ _)), ⟨⟨rfl, rfl, trivial⟩, trivial, rfl⟩, rfl,
    Step.plain rfl (does_assign (.tmp 7) (.bool (p0.Group == q0)) trivial), ⟨⟨rfl, trivial⟩, trivial, rfl⟩, rfl, rfl⟩ ?_
  refine aw_cov (cov_prune (s1 := ⟨[(3, (.bool (p0.Group == q0)))], [], 1⟩) ⟨rfl, trivial⟩ trivial (Nat.le_refl _)) ?_
  refine aw_ret ?_
  exact fun a w hr => ⟨_, [(.bool (p0.Group == q0))], hr, ⟨⟨_, rfl, .data (.bool (p0.Group == q0)) trivial⟩, trivial⟩, by decide, by cases H; rfl⟩

theorem group_View_spec (p0 : (_root_.List api_Member)) (p1 : Int) (r : (_root_.List api_Member)) (H : group_View p0 p1 = some r) : FSpecO Try.prog 13 [(e_s_api_Member p0), (.int .i64 p1)] [] 0 (.own 0) [(0, some (.arr 3 r.length fun j => (e_api_Member (r.getD j z_api_Member))))] 1 := by
  refine specO_of (fn := Try.f13) (args := [(e_s_api_Member p0), (.int .i64 p1)]) Try.func13 rfl (Nat.le_of_ble_eq_true rfl) ?_
  rintro ⟨G, w0, W, S, Sp⟩ hG
  cases hG
  unfold group_View at H
  refine aw_region (es := [_, _]) ⟨Step.plain rfl (does_box 3 (.tmp 1) 0 (.int .i64 p1) trivial rfl), ⟨⟨rfl, trivial⟩, trivial, rfl⟩, rfl,
    Step.plain rfl (does_nil false 1 3 (fun j => (e_api_Member (([] : _root_.List api_Member).getD j z_api_Member)))), ⟨trivial, trivial, rfl⟩, rfl, rfl⟩ ?_
  refine aw_cov (cov_prune (s1 := ⟨[(0, (e_s_api_Member p0)), (3, (.ptr 0 0 []))], [(0, some (.var (.int .i64 p1)))], 2⟩) ⟨rfl, rfl, trivial⟩ ⟨rfl, trivial⟩ (Nat.le_refl _)) ?_
  obtain ⟨v1, h2, H⟩ := bnd H
  refine aw_region (es := [_, _, _, _]) ⟨Step.plain rfl (does_move (.tmp 0) (e_s_api_Member p0) trivial), ⟨⟨rfl, trivial⟩, trivial, rfl⟩, rfl,
    Step.plain rfl (does_makeFunc 32 [(.tmp 3)] [(.ptr 0 0 [])] #[(.tmp 3)] rfl ⟨trivial, trivial⟩), ⟨⟨rfl, trivial⟩, trivial, rfl⟩, rfl,
    Step.plain rfl (does_callO 31 0 (fun _ => .any) (.func 31) [(.tmp 5), (.tmp 6)] [(e_s_api_Member p0), (.fn 32 1 (fun j => ([(.ptr 0 0 [])] : _root_.List V).getD j (.bool false)))] [(0, (.var (.int .i64 p1)))] [] true [(e_s_api_Member p0), (.fn 32 1 (fun j => ([.cptr (.int .i64 p1)] : _root_.List V).getD j (.bool false)))] _ (.own 2) _ 2 1 _ _ rfl fo31 rfl ⟨trivial, trivial, trivial⟩ ⟨.ro _ _ (.data _ (d_s_api_Member p0)), .ro _ _ (.fn _ _ _ _ (fun j hj => match j, hj with | 0, _ => .ptr 0 0 [] (.var (.int .i64 p1)) (.int .i64 p1) (.head _) trivial rfl rfl trivial | k + 1, hj => absurd hj (by omega))), trivial⟩ (group_those_spec p0 (fun z0 => group_View_1 z0 p1) 32 1 (fun j => ([.cptr (.int .i64 p1)] : _root_.List V).getD j (.bool false)) fo32 (fun j => match j with | 0 => .inr ⟨(.int .i64 p1), trivial, rfl⟩ | _ + 1 => .inl trivial) (fun z0 r h => group_View_1_spec z0 p1 r h) _ h2) rfl (by simp) rfl trivial ⟨⟨Nat.le_of_ble_eq_true rfl, _, rfl, fun _ => (f_api_Member _)⟩, trivial⟩ (.own 0 (Nat.le_of_ble_eq_true rfl))), ⟨⟨rfl, rfl, trivial⟩, ⟨rfl, trivial⟩, rfl⟩, rfl,
    Step.plain rfl (does_assign (.tmp 7) (.own 2) trivial), ⟨⟨rfl, trivial⟩, trivial, rfl⟩, rfl, rfl⟩ ?_
  refine aw_cov (cov_prune (s1 := ⟨[(4, (.own 2))], [(2, some (.arr 3 v1.length fun j => (e_api_Member (v1.getD j z_api_Member))))], 3⟩) ⟨rfl, trivial⟩ ⟨rfl, trivial⟩ (Nat.le_refl _)) ?_
  refine aw_ret ?_
  exact fun a w hr => ⟨_, [(.own 0)], reach_of hr (cov_to (s1 := ⟨[(4, (.own 0))], [(0, some (.arr 3 v1.length fun j => (e_api_Member (v1.getD j z_api_Member))))], 1⟩) (fun i => match i with | 0 => 2 | k => k) [] ⟨⟨_, rfl, .own 0 _ _ (Nat.le_of_ble_eq_true rfl) rfl rfl (Box.like_refl _)⟩, trivial⟩ ⟨⟨Nat.le_of_ble_eq_true rfl, _, _, rfl, rfl, boxTo_arr (fun _ => (d_api_Member _))⟩, trivial⟩ rfl rfl), ⟨rfl, trivial⟩, by decide, by cases H; rfl, by cases H; exact ⟨rfl, trivial⟩, Nat.le_of_ble_eq_true rfl⟩

theorem group_View_data (p0 : (_root_.List api_Member)) (p1 : Int) (r : (_root_.List api_Member)) (H : group_View p0 p1 = some r) : FSpec Try.prog 13 [(e_s_api_Member p0), (.int .i64 p1)] (e_s_api_Member r) :=
  FSpecO.toData (fz := [0]) (group_View_spec p0 p1 r H) (d_s_api_Member r) (.frz 0 _ _ _ rfl (fun _ => (d_api_Member _)) (by decide))

theorem group_Keep_1_spec (p0 : api_Member) (q0 : (Nat → Int)) (r : Bool) (H : group_Keep_1 p0 q0 = some r) : FSpec Try.prog 33 [(e_api_Member p0), (.cptr (e_a8_u32 q0))] (.bool r) := by
  refine spec_of (fn := Try.f33) (args := [(e_api_Member p0), (.cptr (e_a8_u32 q0))]) Try.func33 rfl (Nat.le_of_ble_eq_true rfl) ?_
  rintro ⟨G, w0, W, S, Sp⟩ hG
  cases hG
  unfold group_Keep_1 at H
  refine aw_region (es := [_, _]) ⟨Step.plain rfl (does_box 35 (.tmp 0) 0 (e_api_Member p0) trivial rfl), ⟨⟨rfl, trivial⟩, trivial, rfl⟩, rfl,
    Step.plain rfl (does_assign (.const (.bool false)) (.bool false) (fun _ => rfl)), ⟨trivial, trivial, rfl⟩, rfl, rfl⟩ ?_
  refine aw_cov (cov_prune (s1 := ⟨[(1, (.cptr (e_a8_u32 q0))), (2, (.ptr 0 0 []))], [(0, some (.var (e_api_Member p0)))], 1⟩) ⟨rfl, rfl, trivial⟩ ⟨rfl, trivial⟩ (Nat.le_refl _)) ?_
  obtain ⟨h1, H⟩ := ibg_of H
  refine aw_region (es := [_, _, _, _, _, _, _, _, _, _, _, _, _, _, _, _]) ⟨Step.plain rfl (does_fieldAddr 35 1 1 2 0 0 [] (.var (e_api_Member p0)) fl35_1), ⟨⟨rfl, trivial⟩, ⟨rfl, trivial⟩, rfl⟩, rfl,
    Step.plain rfl (does_load 3 4 0 (0 + 1) [1] (.var (e_api_Member p0)) (.int .i64 p0.Daemon) ⟨rfl, Nat.le_of_ble_eq_true rfl, trivial⟩ rfl rfl ty3), ⟨⟨rfl, trivial⟩, ⟨rfl, trivial⟩, rfl⟩, rfl,
    Step.plain rfl (does_bin .geq 3 3 (.tmp 5) (.const (.int .i64 0)) .i64 p0.Daemon 0 (.bool (decide (p0.Daemon ≥ 0))) trivial (fun _ => rfl) (bin_geq _ _ _ _)), ⟨⟨rfl, trivial⟩, trivial, rfl⟩, rfl,
    Step.plain rfl (does_move (.tmp 6) (.bool (decide (p0.Daemon ≥ 0))) trivial), ⟨⟨rfl, trivial⟩, trivial, rfl⟩, rfl,
    Step.guarded rfl rfl rfl rfl (fun hc => does_fieldAddr 35 1 1 2 0 0 [] (.var (e_api_Member p0)) fl35_1), ⟨⟨rfl, rfl, trivial⟩, ⟨rfl, trivial⟩, rfl⟩, rfl,
    Step.guarded rfl rfl rfl rfl (fun hc => Does.strip (n' := [(8, (.opt (decide (p0.Daemon ≥ 0)) (.ptr 0 (0 + 1) [1])))]) (n := [(8, (.ptr 0 (0 + 1) [1]))]) ⟨(.opt _ _ hc), trivial⟩ (does_load 3 8 0 (0 + 1) [1] (.var (e_api_Member p0)) (.int .i64 p0.Daemon) ⟨rfl, Nat.le_of_ble_eq_true rfl, trivial⟩ rfl rfl ty3)), ⟨⟨rfl, rfl, trivial⟩, ⟨rfl, trivial⟩, rfl⟩, rfl,
    Step.guarded rfl rfl rfl rfl (fun hc => Does.strip (n' := [(9, (.opt (decide (p0.Daemon ≥ 0)) (.int .i64 p0.Daemon)))]) (n := [(9, (.int .i64 p0.Daemon))]) ⟨(.opt _ _ hc), trivial⟩ (does_bin .lss 3 3 (.tmp 9) (.const (.int .i64 8)) .i64 p0.Daemon 8 (.bool (decide (p0.Daemon < 8))) trivial (fun _ => rfl) (bin_lss _ _ _ _))), ⟨⟨rfl, rfl, trivial⟩, trivial, rfl⟩, rfl,
    Step.plain rfl (does_and 7 10 (decide (p0.Daemon ≥ 0)) (decide (p0.Daemon < 8))), ⟨⟨rfl, rfl, trivial⟩, trivial, rfl⟩, rfl,
    Step.plain rfl (does_move (.tmp 11) (.bool ((decide (p0.Daemon ≥ 0)) && (decide (p0.Daemon < 8)))) trivial), ⟨⟨rfl, trivial⟩, trivial, rfl⟩, rfl,
    Step.guarded rfl rfl rfl rfl (fun hc => does_fieldAddr 35 1 1 2 0 0 [] (.var (e_api_Member p0)) fl35_1), ⟨⟨rfl, rfl, trivial⟩, ⟨rfl, trivial⟩, rfl⟩, rfl,
    Step.guarded rfl rfl rfl rfl (fun hc => Does.strip (n' := [(13, (.opt ((decide (p0.Daemon ≥ 0)) && (decide (p0.Daemon < 8))) (.ptr 0 (0 + 1) [1])))]) (n := [(13, (.ptr 0 (0 + 1) [1]))]) ⟨(.opt _ _ hc), trivial⟩ (does_load 3 13 0 (0 + 1) [1] (.var (e_api_Member p0)) (.int .i64 p0.Daemon) ⟨rfl, Nat.le_of_ble_eq_true rfl, trivial⟩ rfl rfl ty3)), ⟨⟨rfl, rfl, trivial⟩, ⟨rfl, trivial⟩, rfl⟩, rfl,
    Step.guarded rfl rfl rfl rfl (fun hc => Does.strip (n' := [(1, (.cptr (e_a8_u32 q0))), (14, (.opt ((decide (p0.Daemon ≥ 0)) && (decide (p0.Daemon < 8))) (.int .i64 p0.Daemon)))]) (n := [(1, (.cptr (e_a8_u32 q0))), (14, (.int .i64 p0.Daemon))]) ⟨(.same _), (.opt _ _ hc), trivial⟩ (does_indexAddrc 28 8 1 1 (fun j => (.int .u32 (q0 j))) (.tmp 14) .i64 p0.Daemon el28 trivial (h1 hc).1 (h1 hc).2)), ⟨⟨rfl, rfl, rfl, trivial⟩, trivial, rfl⟩, rfl,
    Step.guarded rfl rfl rfl rfl (fun hc => Does.strip (n' := [(15, (.opt ((decide (p0.Daemon ≥ 0)) && (decide (p0.Daemon < 8))) (.cptr (.int .u32 (q0 p0.Daemon.toNat)))))]) (n := [(15, (.cptr (.int .u32 (q0 p0.Daemon.toNat))))]) ⟨(.opt _ _ hc), trivial⟩ (does_loadc 26 15 (.int .u32 (q0 p0.Daemon.toNat)) ty26)), ⟨⟨rfl, rfl, trivial⟩, trivial, rfl⟩, rfl,
    Step.guarded rfl rfl rfl rfl (fun hc => Does.strip (n' := [(16, (.opt ((decide (p0.Daemon ≥ 0)) && (decide (p0.Daemon < 8))) (.int .u32 (q0 p0.Daemon.toNat))))]) (n := [(16, (.int .u32 (q0 p0.Daemon.toNat)))]) ⟨(.opt _ _ hc), trivial⟩ (does_bin .neq 26 26 (.tmp 16) (.const (.int .u32 0)) .u32 (q0 p0.Daemon.toNat) 0 (.bool ((q0 p0.Daemon.toNat) != 0)) trivial (fun _ => rfl) (bin_neq _ _ _ _))), ⟨⟨rfl, rfl, trivial⟩, trivial, rfl⟩, rfl,
    Step.plain rfl (does_and 12 17 ((decide (p0.Daemon ≥ 0)) && (decide (p0.Daemon < 8))) ((q0 p0.Daemon.toNat) != 0)), ⟨⟨rfl, rfl, trivial⟩, trivial, rfl⟩, rfl,
    Step.plain rfl (does_assign (.tmp 18) (.bool (((decide (p0.Daemon ≥ 0)) && (decide (p0.Daemon < 8))) && ((q0 p0.Daemon.toNat) != 0))) trivial), ⟨⟨rfl, trivial⟩, trivial, rfl⟩, rfl, rfl⟩ ?_
  obtain ⟨v2, hv2, H⟩ := lt_of H
  refine aw_cov (cov_prune (s1 := ⟨[(3, (.bool v2))], [], 1⟩) ⟨(by subst hv2; rfl), trivial⟩ trivial (Nat.le_refl _)) ?_
  refine aw_ret ?_
  exact fun a w hr => ⟨_, [(.bool v2)], hr, ⟨⟨_, rfl, .data (.bool v2) trivial⟩, trivial⟩, by decide, by cases H; rfl⟩

theorem group_Keep_spec (p0 : (_root_.List api_Member)) (p1 : (Nat → Int)) (r : (_root_.List api_Member)) (H : group_Keep p0 p1 = some r) : FSpecO Try.prog 15 [(e_s_api_Member p0), (e_a8_u32 p1)] [] 0 (.own 0) [(0, some (.arr 3 r.length fun j => (e_api_Member (r.getD j z_api_Member))))] 1 := by
  refine specO_of (fn := Try.f15) (args := [(e_s_api_Member p0), (e_a8_u32 p1)]) Try.func15 rfl (Nat.le_of_ble_eq_true rfl) ?_
  rintro ⟨G, w0, W, S, Sp⟩ hG
  cases hG
  unfold group_Keep at H
  refine aw_region (es := [_, _]) ⟨Step.plain rfl (does_box 28 (.tmp 1) 0 (e_a8_u32 p1) trivial rfl), ⟨⟨rfl, trivial⟩, trivial, rfl⟩, rfl,
    Step.plain rfl (does_nil false 1 3 (fun j => (e_api_Member (([] : _root_.List api_Member).getD j z_api_Member)))), ⟨trivial, trivial, rfl⟩, rfl, rfl⟩ ?_
  refine aw_cov (cov_prune (s1 := ⟨[(0, (e_s_api_Member p0)), (3, (.ptr 0 0 []))], [(0, some (.var (e_a8_u32 p1)))], 2⟩) ⟨rfl, rfl, trivial⟩ ⟨rfl, trivial⟩ (Nat.le_refl _)) ?_
  obtain ⟨v1, h2, H⟩ := bnd H
  refine aw_region (es := [_, _, _, _]) ⟨Step.plain rfl (does_move (.tmp 0) (e_s_api_Member p0) trivial), ⟨⟨rfl, trivial⟩, trivial, rfl⟩, rfl,
    Step.plain rfl (does_makeFunc 33 [(.tmp 3)] [(.ptr 0 0 [])] #[(.tmp 3)] rfl ⟨trivial, trivial⟩), ⟨⟨rfl, trivial⟩, trivial, rfl⟩, rfl,
    Step.plain rfl (does_callO 31 0 (fun _ => .any) (.func 31) [(.tmp 5), (.tmp 6)] [(e_s_api_Member p0), (.fn 33 1 (fun j => ([(.ptr 0 0 [])] : _root_.List V).getD j (.bool false)))] [(0, (.var (e_a8_u32 p1)))] [] true [(e_s_api_Member p0), (.fn 33 1 (fun j => ([.cptr (e_a8_u32 p1)] : _root_.List V).getD j (.bool false)))] _ (.own 2) _ 2 1 _ _ rfl fo31 rfl ⟨trivial, trivial, trivial⟩ ⟨.ro _ _ (.data _ (d_s_api_Member p0)), .ro _ _ (.fn _ _ _ _ (fun j hj => match j, hj with | 0, _ => .ptr 0 0 [] (.var (e_a8_u32 p1)) (e_a8_u32 p1) (.head _) trivial rfl rfl (d_a8_u32 p1) | k + 1, hj => absurd hj (by omega))), trivial⟩ (group_those_spec p0 (fun z0 => group_Keep_1 z0 p1) 33 1 (fun j => ([.cptr (e_a8_u32 p1)] : _root_.List V).getD j (.bool false)) fo33 (fun j => match j with | 0 => .inr ⟨(e_a8_u32 p1), (d_a8_u32 p1), rfl⟩ | _ + 1 => .inl trivial) (fun z0 r h => group_Keep_1_spec z0 p1 r h) _ h2) rfl (by simp) rfl trivial ⟨⟨Nat.le_of_ble_eq_true rfl, _, rfl, fun _ => (f_api_Member _)⟩, trivial⟩ (.own 0 (Nat.le_of_ble_eq_true rfl))), ⟨⟨rfl, rfl, trivial⟩, ⟨rfl, trivial⟩, rfl⟩, rfl,
    Step.plain rfl (does_assign (.tmp 7) (.own 2) trivial), ⟨⟨rfl, trivial⟩, trivial, rfl⟩, rfl, rfl⟩ ?_
  refine aw_cov (cov_prune (s1 := ⟨[(4, (.own 2))], [(2, some (.arr 3 v1.length fun j => (e_api_Member (v1.getD j z_api_Member))))], 3⟩) ⟨rfl, trivial⟩ ⟨rfl, trivial⟩ (Nat.le_refl _)) ?_
  refine aw_ret ?_
  exact fun a w hr => ⟨_, [(.own 0)], reach_of hr (cov_to (s1 := ⟨[(4, (.own 0))], [(0, some (.arr 3 v1.length fun j => (e_api_Member (v1.getD j z_api_Member))))], 1⟩) (fun i => match i with | 0 => 2 | k => k) [] ⟨⟨_, rfl, .own 0 _ _ (Nat.le_of_ble_eq_true rfl) rfl rfl (Box.like_refl _)⟩, trivial⟩ ⟨⟨Nat.le_of_ble_eq_true rfl, _, _, rfl, rfl, boxTo_arr (fun _ => (d_api_Member _))⟩, trivial⟩ rfl rfl), ⟨rfl, trivial⟩, by decide, by cases H; rfl, by cases H; exact ⟨rfl, trivial⟩, Nat.le_of_ble_eq_true rfl⟩

theorem group_Keep_data (p0 : (_root_.List api_Member)) (p1 : (Nat → Int)) (r : (_root_.List api_Member)) (H : group_Keep p0 p1 = some r) : FSpec Try.prog 15 [(e_s_api_Member p0), (e_a8_u32 p1)] (e_s_api_Member r) :=
  FSpecO.toData (fz := [0]) (group_Keep_spec p0 p1 r H) (d_s_api_Member r) (.frz 0 _ _ _ rfl (fun _ => (d_api_Member _)) (by decide))

theorem group_May_spec (p0 : (_root_.List api_Member)) (r : Bool) (H : group_May p0 = some r) : FSpec Try.prog 17 [(e_s_api_Member p0)] (.bool r) := by
  refine spec_of (fn := Try.f17) (args := [(e_s_api_Member p0)]) Try.func17 rfl (Nat.le_of_ble_eq_true rfl) ?_
  rintro ⟨G, w0, W, S, Sp⟩ hG
  cases hG
  unfold group_May at H
  refine aw_region (es := [_]) ⟨Step.plain rfl (does_assign (.const (.bool false)) (.bool false) (fun _ => rfl)), ⟨trivial, trivial, rfl⟩, rfl, rfl⟩ ?_
  refine aw_cov (cov_prune (s1 := ⟨[(0, (e_s_api_Member p0))], [], 0⟩) ⟨rfl, trivial⟩ trivial (Nat.le_refl _)) ?_
  refine aw_seq ?_
  refine aw_region (es := [_, _, _]) ⟨Step.plain rfl (does_move (.tmp 0) (e_s_api_Member p0) trivial), ⟨⟨rfl, trivial⟩, trivial, rfl⟩, rfl,
    Step.plain rfl (does_lens 22 3 p0.length 5 (fun j => (e_api_Member (p0.getD j z_api_Member))) el22), ⟨⟨rfl, trivial⟩, trivial, rfl⟩, rfl,
    Step.plain rfl (does_move (.const (.int .i64 0)) (.int .i64 0) (fun _ => rfl)), ⟨trivial, trivial, rfl⟩, rfl, rfl⟩ ?_
  refine aw_cov (cov_prune (s1 := ⟨[(0, (e_s_api_Member p0)), (5, (e_s_api_Member p0)), (6, (.int .i64 (p0.length : Int))), (7, (.int .i64 0))], [], 0⟩) ⟨rfl, rfl, rfl, rfl, trivial⟩ trivial (Nat.le_refl _)) ?_
  obtain ⟨wn2, hwn2, Hrn2⟩ := bnd H
  refine aw_meet (fun y9 : Unit => (⟨[], [], 0⟩ : St)) (fun y9 => Fl.nx y9 = wn2) (fun y9 hy => ?_) (aw_block (aw_runs (fun x1 : Int => (⟨[(0, (e_s_api_Member p0)), (5, (e_s_api_Member p0)), (6, (.int .i64 (p0.length : Int))), (7, (.int .i64 x1))], [], 0⟩ : St)) hwn2 (cov_prune ⟨rfl, rfl, rfl, rfl, trivial⟩ trivial (Nat.le_of_ble_eq_true rfl)) (fun x1 st H hsn2 => ?_)))
  · have H := nx_of hy Hrn2
    refine nx_seq ?_
    refine aw_region (es := [_]) ⟨Step.plain rfl (does_assign (.const (.bool true)) (.bool true) (fun _ => rfl)), ⟨trivial, trivial, rfl⟩, rfl, rfl⟩ ?_
    refine aw_cov (cov_prune (s1 := ⟨[(2, (.bool true))], [], 0⟩) ⟨rfl, trivial⟩ trivial (Nat.le_refl _)) ?_
    refine aw_ret ?_
    exact fun a w hr => ⟨_, [(.bool true)], hr, ⟨⟨_, rfl, .data (.bool true) trivial⟩, trivial⟩, by decide, by cases H; rfl⟩
  · refine aw_region (es := [_]) ⟨Step.plain rfl (does_bin .lss 3 3 (.tmp 7) (.tmp 6) .i64 x1 (p0.length : Int) (.bool (decide (x1 < (p0.length : Int)))) trivial trivial (bin_lss _ _ _ _)), ⟨⟨rfl, rfl, trivial⟩, trivial, rfl⟩, rfl, rfl⟩ ?_
    refine aw_cov (cov_prune (s1 := ⟨[(0, (e_s_api_Member p0)), (5, (e_s_api_Member p0)), (6, (.int .i64 (p0.length : Int))), (7, (.int .i64 x1)), (8, (.bool (decide (x1 < (p0.length : Int)))))], [], 0⟩) ⟨rfl, rfl, rfl, rfl, rfl, trivial⟩ trivial (Nat.le_refl _)) ?_
    refine aw_seq ?_
    refine aw_cond rfl (fun hc => ?_) (fun hc => ?_)
    · replace H := ite_t hc H
      refine aw_skip ?_
      refine nx_seq ?_
      refine aw_seq ?_
      refine aw_block ?_
      obtain ⟨h3, H⟩ := ib_of H
      refine aw_region (es := [_, _, _, _, _, _]) ⟨Step.plain rfl (does_move (.tmp 7) (.int .i64 x1) trivial), ⟨⟨rfl, trivial⟩, trivial, rfl⟩, rfl,
        Step.plain rfl (does_indexAddrs 22 3 p0.length 5 (fun j => (e_api_Member (p0.getD j z_api_Member))) (.tmp 7) .i64 x1 el22 trivial h3.1 h3.2), ⟨⟨rfl, rfl, trivial⟩, trivial, rfl⟩, rfl,
        Step.plain rfl (does_loadc 35 10 (e_api_Member (p0.getD x1.toNat z_api_Member)) ty35), ⟨⟨rfl, trivial⟩, trivial, rfl⟩, rfl,
        Step.plain rfl (does_alloc 35 0 (e_api_Member z_api_Member) zr35), ⟨trivial, trivial, rfl⟩, rfl,
        Step.plain rfl (does_assign (.tmp 9) (.int .i64 x1) trivial), ⟨⟨rfl, trivial⟩, trivial, rfl⟩, rfl,
        Step.plain rfl (does_store 35 4 (.tmp 11) 0 0 [] (.var (e_api_Member z_api_Member)) (.var (e_api_Member (p0.getD x1.toNat z_api_Member))) (e_api_Member (p0.getD x1.toNat z_api_Member)) true trivial rfl trivial rfl rfl rfl ty35), ⟨⟨rfl, rfl, trivial⟩, ⟨rfl, trivial⟩, rfl⟩, rfl, rfl⟩ ?_
      refine aw_cov (cov_prune (s1 := ⟨[(0, (e_s_api_Member p0)), (5, (e_s_api_Member p0)), (6, (.int .i64 (p0.length : Int))), (7, (.int .i64 x1)), (4, (.ptr 0 0 [])), (3, (.int .i64 x1))], [(0, some (.var (e_api_Member (p0.getD x1.toNat z_api_Member))))], 1⟩) ⟨rfl, rfl, rfl, rfl, rfl, rfl, trivial⟩ ⟨rfl, trivial⟩ (Nat.le_refl _)) ?_
      obtain ⟨v4, h5, H⟩ := bnd H
      obtain ⟨h6, H⟩ := ibg_of H
      obtain ⟨v7, h8, H⟩ := whn_of H
      refine aw_draw (es := [_, _, _, _, _, _, _, _, _, _, _, _, _, _, _, _, _]) (mixed) ⟨Step.plain rfl (does_load 35 4 0 0 [] (.var (e_api_Member (p0.getD x1.toNat z_api_Member))) (e_api_Member (p0.getD x1.toNat z_api_Member)) trivial rfl rfl ty35), ⟨⟨rfl, trivial⟩, ⟨rfl, trivial⟩, rfl⟩, rfl,
        Step.plain rfl (does_call 24 0 (fun _ => .any) (.func 24) [(.tmp 12)] [(e_api_Member (p0.getD x1.toNat z_api_Member))] [] true [(e_api_Member (p0.getD x1.toNat z_api_Member))] (.bool v4) _ _ rfl fo24 rfl ⟨trivial, trivial⟩ ⟨.data _ (d_api_Member (p0.getD x1.toNat z_api_Member)), trivial⟩ (group_right_spec (p0.getD x1.toNat z_api_Member) _ h5) trivial), ⟨⟨rfl, trivial⟩, trivial, rfl⟩, rfl,
        Step.plain rfl (does_not 4 (.tmp 13) v4 trivial), ⟨⟨rfl, trivial⟩, trivial, rfl⟩, rfl,
        Step.plain rfl (does_move (.tmp 14) (.bool (!v4)) trivial), ⟨⟨rfl, trivial⟩, trivial, rfl⟩, rfl,
        Step.guarded rfl rfl rfl rfl (fun hc => does_move (.tmp 3) (.int .i64 x1) trivial), ⟨⟨rfl, rfl, trivial⟩, trivial, rfl⟩, rfl,
        Step.guarded rfl rfl rfl rfl (fun hc => Does.strip (n' := [(16, (.opt (!(!v4)) (.int .i64 x1)))]) (n := [(16, (.int .i64 x1))]) ⟨(.opt _ _ hc), trivial⟩ (does_bin .gtr 3 3 (.tmp 16) (.const (.int .i64 0)) .i64 x1 0 (.bool (decide (x1 > 0))) trivial (fun _ => rfl) (bin_gtr _ _ _ _))), ⟨⟨rfl, rfl, trivial⟩, trivial, rfl⟩, rfl,
        Step.guarded rfl rfl rfl rfl (fun hc => Does.strip (n' := [(17, (.opt (!(!v4)) (.bool (decide (x1 > 0)))))]) (n := [(17, (.bool (decide (x1 > 0))))]) ⟨(.opt _ _ hc), trivial⟩ (does_move (.tmp 17) (.bool (decide (x1 > 0))) trivial)), ⟨⟨rfl, rfl, trivial⟩, trivial, rfl⟩, rfl,
        Step.guarded rfl rfl rfl rfl (fun hc => does_move (.tmp 0) (e_s_api_Member p0) trivial), ⟨⟨rfl, rfl, trivial⟩, trivial, rfl⟩, rfl,
        Step.guarded rfl rfl rfl rfl (fun hc => does_move (.tmp 3) (.int .i64 x1) trivial), ⟨⟨rfl, rfl, trivial⟩, trivial, rfl⟩, rfl,
        Step.guarded rfl rfl rfl rfl (fun hc => Does.strip (n' := [(20, (.opt ((!(!v4)) && (decide (x1 > 0))) (.int .i64 x1)))]) (n := [(20, (.int .i64 x1))]) ⟨(.opt _ _ hc), trivial⟩ (does_bin .sub 3 3 (.tmp 20) (.const (.int .i64 1)) .i64 x1 1 (.int .i64 (IntKind.i64.wrap (x1 - 1))) trivial (fun _ => rfl) (bin_sub _ _ _ _))), ⟨⟨rfl, rfl, trivial⟩, trivial, rfl⟩, rfl,
        Step.guarded rfl rfl rfl rfl (fun hc => Does.strip (n' := [(19, (.opt ((!(!v4)) && (decide (x1 > 0))) (e_s_api_Member p0))), (21, (.opt ((!(!v4)) && (decide (x1 > 0))) (.int .i64 (IntKind.i64.wrap (x1 - 1)))))]) (n := [(19, (e_s_api_Member p0)), (21, (.int .i64 (IntKind.i64.wrap (x1 - 1))))]) ⟨(.opt _ _ hc), (.opt _ _ hc), trivial⟩ (does_indexAddrs 22 3 p0.length 19 (fun j => (e_api_Member (p0.getD j z_api_Member))) (.tmp 21) .i64 (IntKind.i64.wrap (x1 - 1)) el22 trivial (h6 hc).1 (h6 hc).2)), ⟨⟨rfl, rfl, rfl, trivial⟩, trivial, rfl⟩, rfl,
        Step.guarded rfl rfl rfl rfl (fun hc => Does.strip (n' := [(22, (.opt ((!(!v4)) && (decide (x1 > 0))) (.cptr (e_api_Member (p0.getD ((IntKind.i64.wrap (x1 - 1)).toNat) z_api_Member)))))]) (n := [(22, (.cptr (e_api_Member (p0.getD ((IntKind.i64.wrap (x1 - 1)).toNat) z_api_Member))))]) ⟨(.opt _ _ hc), trivial⟩ (does_loadc 35 22 (e_api_Member (p0.getD ((IntKind.i64.wrap (x1 - 1)).toNat) z_api_Member)) ty35)), ⟨⟨rfl, rfl, trivial⟩, trivial, rfl⟩, rfl,
        Step.guarded rfl rfl rfl rfl (fun hc => does_load 35 4 0 0 [] (.var (e_api_Member (p0.getD x1.toNat z_api_Member))) (e_api_Member (p0.getD x1.toNat z_api_Member)) trivial rfl rfl ty35), ⟨⟨rfl, rfl, trivial⟩, ⟨rfl, trivial⟩, rfl⟩, rfl,
        Step.guarded rfl rfl rfl rfl (fun hc => Does.strip (n' := [(23, (.opt ((!(!v4)) && (decide (x1 > 0))) (e_api_Member (p0.getD ((IntKind.i64.wrap (x1 - 1)).toNat) z_api_Member)))), (24, (.opt ((!(!v4)) && (decide (x1 > 0))) (e_api_Member (p0.getD x1.toNat z_api_Member))))]) (n := [(23, (e_api_Member (p0.getD ((IntKind.i64.wrap (x1 - 1)).toNat) z_api_Member))), (24, (e_api_Member (p0.getD x1.toNat z_api_Member)))]) ⟨(.opt _ _ hc), (.opt _ _ hc), trivial⟩ (does_call 9 0 (fun _ => .any) (.func 9) [(.tmp 23), (.tmp 24)] [(e_api_Member (p0.getD ((IntKind.i64.wrap (x1 - 1)).toNat) z_api_Member)), (e_api_Member (p0.getD x1.toNat z_api_Member))] [] true [(e_api_Member (p0.getD ((IntKind.i64.wrap (x1 - 1)).toNat) z_api_Member)), (e_api_Member (p0.getD x1.toNat z_api_Member))] (.bool v7) _ _ rfl fo9 rfl ⟨trivial, trivial, trivial⟩ ⟨.data _ (d_api_Member (p0.getD ((IntKind.i64.wrap (x1 - 1)).toNat) z_api_Member)), .data _ (d_api_Member (p0.getD x1.toNat z_api_Member)), trivial⟩ (group_Less_spec (p0.getD ((IntKind.i64.wrap (x1 - 1)).toNat) z_api_Member) (p0.getD x1.toNat z_api_Member) _ (h8 hc)) trivial)), ⟨⟨rfl, rfl, rfl, trivial⟩, trivial, rfl⟩, rfl,
        Step.guarded rfl rfl rfl rfl (fun hc => Does.strip (n' := [(25, (.opt ((!(!v4)) && (decide (x1 > 0))) (.bool v7)))]) (n := [(25, (.bool v7))]) ⟨(.opt _ _ hc), trivial⟩ (does_not 4 (.tmp 25) v7 trivial)), ⟨⟨rfl, rfl, trivial⟩, trivial, rfl⟩, rfl,
        Step.guarded rfl rfl rfl rfl (fun hc => Does.strip (n' := [(18, (.opt (!(!v4)) (.bool (decide (x1 > 0))))), (26, (.opt ((!(!v4)) && (decide (x1 > 0))) (.bool (!v7))))]) (n := [(18, (.bool (decide (x1 > 0)))), (26, (.opt (decide (x1 > 0)) (.bool (!v7))))]) ⟨(.opt _ _ hc), (.half _ _ hc), trivial⟩ (does_and 18 26 (decide (x1 > 0)) (!v7))), ⟨⟨rfl, rfl, rfl, trivial⟩, trivial, rfl⟩, rfl,
        Step.plain rfl (does_or 15 27 (!v4) ((decide (x1 > 0)) && (!v7))), ⟨⟨rfl, rfl, trivial⟩, trivial, rfl⟩, rfl, rfl⟩ rfl ?_
      refine aw_cov (cov_prune (s1 := ⟨[(0, (e_s_api_Member p0)), (5, (e_s_api_Member p0)), (6, (.int .i64 (p0.length : Int))), (7, (.int .i64 x1)), (28, (.bool ((!v4) || ((decide (x1 > 0)) && (!v7)))))], [], 1⟩) ⟨rfl, rfl, rfl, rfl, rfl, trivial⟩ trivial (Nat.le_refl _)) ?_
      refine aw_cond rfl (fun hc => ?_) (fun hc => ?_)
      · replace H := ite_t hc H
        refine aw_region (es := [_]) ⟨Step.plain rfl (does_assign (.const (.bool false)) (.bool false) (fun _ => rfl)), ⟨trivial, trivial, rfl⟩, rfl, rfl⟩ ?_
        refine aw_cov (cov_prune (s1 := ⟨[(2, (.bool false))], [], 1⟩) ⟨rfl, trivial⟩ trivial (Nat.le_refl _)) ?_
        refine aw_ret ?_
        replace H := rt_of H hsn2 Hrn2
        refine rt_blk ?_
        refine rt_then ?_
        refine rt_then ?_
        refine rt_blk ?_
        refine rt_then ?_
        refine rt_then ?_
        exact fun a w hr => ⟨_, [(.bool false)], hr, ⟨⟨_, rfl, .data (.bool false) trivial⟩, trivial⟩, by decide, by cases H; rfl⟩
      · replace H := ite_f hc H
        refine aw_skip ?_
        refine nx_blk ?_
        refine nx_seq ?_
        refine aw_region1 (es := [_, _]) ⟨Step.plain rfl (does_bin .add 3 3 (.tmp 7) (.const (.int .i64 1)) .i64 x1 1 (.int .i64 (IntKind.i64.wrap (x1 + 1))) trivial (fun _ => rfl) (bin_add _ _ _ _)), ⟨⟨rfl, trivial⟩, trivial, rfl⟩, rfl,
          Step.plain rfl (does_move (.tmp 29) (.int .i64 (IntKind.i64.wrap (x1 + 1))) trivial), ⟨⟨rfl, trivial⟩, trivial, rfl⟩, rfl, rfl⟩ ?_
        exact nx_loop ((IntKind.i64.wrap (x1 + 1))) H (cov_of (fun i => i) ⟨⟨_, rfl, ⟨rfl, (d_s_api_Member _).plain⟩⟩, ⟨_, rfl, ⟨rfl, (d_s_api_Member _).plain⟩⟩, ⟨_, rfl, ⟨rfl, trivial⟩⟩, ⟨_, rfl, ⟨rfl, trivial⟩⟩, trivial⟩ trivial rfl)
    · replace H := ite_f hc H
      refine aw_exit ?_
      refine ex_then ?_
      refine ex_then ?_
      refine ex_here ?_
      exact nx_ljoin () H hsn2 (cov_prune trivial trivial (Nat.le_of_ble_eq_true rfl))
end Go.Proofs.Ytpcpfcijdliicaa
