/- Printed by gen.py. Conditions: none. -/
import Derived.Test.YtbcjnggdielljaaFact
import Derived.KernelRfl
set_option linter.unusedVariables false
set_option maxRecDepth 100000
namespace Go.Proofs.Ytbcjnggdielljaa
open Go.Eng
set_option maxHeartbeats 1600000
theorem slices_Clone_api_Session_api_Session_spec (p0 : (_root_.List api_Session)) (r : (_root_.List api_Session)) (H : slices_Clone_api_Session_api_Session p0 = some r) : FSpecO Try.prog 22 [(e_s_api_Session p0)] [] 0 (.own 0) [(0, some (.arr 2 r.length fun j => (e_api_Session (r.getD j z_api_Session))))] 1 := by
  refine specO_of (fn := Try.f22) (args := [(e_s_api_Session p0)]) Try.func22 rfl (Nat.le_of_ble_eq_true rfl) ?_
  rintro ⟨G, w0, W, S, Sp⟩ hG
  cases hG
  unfold slices_Clone_api_Session_api_Session at H
  refine aw_region (es := [_]) ⟨Step.plain rfl (does_nil false 0 2 (fun j => (e_api_Session (([] : _root_.List api_Session).getD j z_api_Session)))), ⟨trivial, trivial, rfl⟩, rfl, rfl⟩ ?_
  refine aw_cov (cov_prune (s1 := ⟨[(0, (e_s_api_Session p0))], [], 1⟩) ⟨rfl, trivial⟩ trivial (Nat.le_refl _)) ?_
  refine aw_seq ?_
  refine aw_region (es := [_, _]) ⟨Step.plain rfl (does_move (.tmp 0) (e_s_api_Session p0) trivial), ⟨⟨rfl, trivial⟩, trivial, rfl⟩, rfl,
    Step.plain rfl (does_eqnil 23 41 23 3 2 p0.length (fun j => (e_api_Session (p0.getD j z_api_Session))) us23), ⟨⟨rfl, trivial⟩, trivial, rfl⟩, rfl, rfl⟩ ?_
  refine aw_cov (cov_prune (s1 := ⟨[(0, (e_s_api_Session p0)), (4, (.nilq p0.length))], [], 1⟩) ⟨rfl, rfl, trivial⟩ trivial (Nat.le_refl _)) ?_
  obtain ⟨H1, H2⟩ := nilq_of H
  clear H
  refine aw_condq rfl (fun hc => ?_) ?_
  · have H := H1 hc
    refine aw_region (es := [_]) ⟨Step.plain rfl (does_nil false 1 2 (fun j => (e_api_Session (([] : _root_.List api_Session).getD j z_api_Session)))), ⟨trivial, trivial, rfl⟩, rfl, rfl⟩ ?_
    refine aw_cov (cov_prune (s1 := ⟨[(2, (.own 1))], [(1, some (.arr 2 ([] : _root_.List api_Session).length fun j => (e_api_Session (([] : _root_.List api_Session).getD j z_api_Session))))], 2⟩) ⟨rfl, trivial⟩ ⟨rfl, trivial⟩ (Nat.le_refl _)) ?_
    refine aw_ret ?_
    refine rt_then ?_
    exact fun a w hr => ⟨_, [(.own 0)], reach_of hr (cov_to (s1 := ⟨[(2, (.own 0))], [(0, some (.arr 2 ([] : _root_.List api_Session).length fun j => (e_api_Session (([] : _root_.List api_Session).getD j z_api_Session))))], 1⟩) (fun i => match i with | 0 => 1 | k => k) [] ⟨⟨_, rfl, .own 0 _ _ (Nat.le_of_ble_eq_true rfl) rfl rfl (Box.like_refl _)⟩, trivial⟩ ⟨⟨Nat.le_of_ble_eq_true rfl, _, _, rfl, rfl, boxTo_arr (fun _ => (d_api_Session _))⟩, trivial⟩ rfl rfl), ⟨rfl, trivial⟩, by decide, by cases H; rfl, by cases H; exact ⟨rfl, trivial⟩, Nat.le_of_ble_eq_true rfl⟩
  · have H := H2
    refine aw_skip ?_
    refine nx_seq ?_
    obtain ⟨h1, H⟩ := fit_of H
    refine aw_region (es := [_, _, _, _]) ⟨Step.plain rfl (does_buildOwn 23 0 2 1 (e_api_Session z_api_Session) (fun j => (e_api_Session (([] : _root_.List api_Session).getD j z_api_Session))) #[] [] [] rfl so23 (by decide) trivial trivial (fun j h => match j, h with  | k + 0, h => absurd h (by omega))), ⟨trivial, trivial, rfl⟩, rfl,
      Step.plain rfl (does_move (.tmp 0) (e_s_api_Session p0) trivial), ⟨⟨rfl, trivial⟩, trivial, rfl⟩, rfl,
      Step.plain rfl (does_appendL e_api_Session z_api_Session ([] : _root_.List api_Session) p0 23 2 16 1 2 5 6 ap23 h1), ⟨⟨rfl, rfl, trivial⟩, ⟨rfl, trivial⟩, rfl⟩, rfl,
      Step.plain rfl (does_assign (.tmp 7) (.own 2) trivial), ⟨⟨rfl, trivial⟩, trivial, rfl⟩, rfl, rfl⟩ ?_
    refine aw_cov (cov_prune (s1 := ⟨[(2, (.own 2))], [(2, some (.arr 2 (([] : _root_.List api_Session) ++ p0).length fun j => (e_api_Session ((([] : _root_.List api_Session) ++ p0).getD j z_api_Session))))], 3⟩) ⟨rfl, trivial⟩ ⟨rfl, trivial⟩ (Nat.le_refl _)) ?_
    refine aw_ret ?_
    exact fun a w hr => ⟨_, [(.own 0)], reach_of hr (cov_to (s1 := ⟨[(2, (.own 0))], [(0, some (.arr 2 (([] : _root_.List api_Session) ++ p0).length fun j => (e_api_Session ((([] : _root_.List api_Session) ++ p0).getD j z_api_Session))))], 1⟩) (fun i => match i with | 0 => 2 | k => k) [] ⟨⟨_, rfl, .own 0 _ _ (Nat.le_of_ble_eq_true rfl) rfl rfl (Box.like_refl _)⟩, trivial⟩ ⟨⟨Nat.le_of_ble_eq_true rfl, _, _, rfl, rfl, boxTo_arr (fun _ => (d_api_Session _))⟩, trivial⟩ rfl rfl), ⟨rfl, trivial⟩, by decide, by cases H; rfl, by cases H; exact ⟨rfl, trivial⟩, Nat.le_of_ble_eq_true rfl⟩

theorem slices_Clone_api_Session_api_Session_data (p0 : (_root_.List api_Session)) (r : (_root_.List api_Session)) (H : slices_Clone_api_Session_api_Session p0 = some r) : FSpec Try.prog 22 [(e_s_api_Session p0)] (e_s_api_Session r) :=
  FSpecO.toData (fz := [0]) (slices_Clone_api_Session_api_Session_spec p0 r H) (d_s_api_Session r) (.frz 0 _ _ _ rfl (fun _ => (d_api_Session _)) (by decide))

theorem roster_copied_spec (p0 : api_Roster) (r : api_Roster) (H : roster_copied p0 = some r) : FSpecO Try.prog 19 [(e_api_Roster p0)] [] 0 (.agg (.st [1, 1]) (vupd (c_api_Roster r) 1 (.own 0))) [(0, some (.arr 2 r.List.length fun j => (e_api_Session (r.List.getD j z_api_Session))))] 2 := by
  refine specO_of (fn := Try.f19) (args := [(e_api_Roster p0)]) Try.func19 rfl (Nat.le_of_ble_eq_true rfl) ?_
  rintro ⟨G, w0, W, S, Sp⟩ hG
  cases hG
  unfold roster_copied at H
  refine aw_region (es := [_, _]) ⟨Step.plain rfl (does_box 25 (.tmp 0) 0 (e_api_Roster p0) trivial rfl), ⟨⟨rfl, trivial⟩, trivial, rfl⟩, rfl,
    Step.plain rfl (does_alloc 25 1 (e_api_Roster z_api_Roster) zr25), ⟨trivial, trivial, rfl⟩, rfl, rfl⟩ ?_
  refine aw_cov (cov_prune (s1 := ⟨[(1, (.ptr 0 0 [])), (2, (.ptr 1 0 []))], [(0, some (.var (e_api_Roster p0))), (1, some (.var (e_api_Roster z_api_Roster)))], 2⟩) ⟨rfl, rfl, trivial⟩ ⟨rfl, rfl, trivial⟩ (Nat.le_refl _)) ?_
  obtain ⟨v1, h2, H⟩ := bnd H
  refine aw_region (es := [_, _, _, _, _]) ⟨Step.plain rfl (does_fieldAddr 25 1 1 1 0 0 [] (.var (e_api_Roster p0)) fl25_1), ⟨⟨rfl, trivial⟩, ⟨rfl, trivial⟩, rfl⟩, rfl,
    Step.plain rfl (does_load 23 3 0 (0 + 1) [1] (.var (e_api_Roster p0)) (e_s_api_Session p0.List) ⟨rfl, Nat.le_of_ble_eq_true rfl, trivial⟩ rfl rfl ty23), ⟨⟨rfl, trivial⟩, ⟨rfl, trivial⟩, rfl⟩, rfl,
    Step.plain rfl (does_callO 22 0 (fun _ => .any) (.func 22) [(.tmp 4)] [(e_s_api_Session p0.List)] [] [] true [(e_s_api_Session p0.List)] _ (.own 2) _ 2 1 _ _ rfl fo22 rfl ⟨trivial, trivial⟩ ⟨.ro _ _ (.data _ (d_s_api_Session p0.List)), trivial⟩ (slices_Clone_api_Session_api_Session_spec p0.List _ h2) rfl (by simp) rfl trivial ⟨⟨Nat.le_of_ble_eq_true rfl, _, rfl, fun _ => (f_api_Session _)⟩, trivial⟩ (.own 0 (Nat.le_of_ble_eq_true rfl))), ⟨⟨rfl, trivial⟩, trivial, rfl⟩, rfl,
    Step.plain rfl (does_fieldAddr 25 1 1 1 0 0 [] (.var (e_api_Roster p0)) fl25_1), ⟨⟨rfl, trivial⟩, ⟨rfl, trivial⟩, rfl⟩, rfl,
    Step.plain rfl (does_storeO 23 6 (.tmp 5) 0 (0 + 1) [1] (.var (e_api_Roster p0)) (.var (.agg (.st [1, 1]) (vupd (c_api_Roster p0) 1 (.own 2)))) 2 2 v1.length (fun j => (e_api_Session (v1.getD j z_api_Session))) (.own 2) rfl false trivial ⟨rfl, Nat.le_of_ble_eq_true rfl, trivial⟩ rfl rfl rfl ty23), ⟨⟨rfl, rfl, trivial⟩, ⟨rfl, rfl, trivial⟩, rfl⟩, rfl, rfl⟩ ?_
  refine aw_cov (cov_prune (s1 := ⟨[(1, (.ptr 0 0 [])), (2, (.ptr 1 0 []))], [(0, some (.var (.agg (.st [1, 1]) (vupd (c_api_Roster p0) 1 (.own 2))))), (1, some (.var (e_api_Roster z_api_Roster))), (2, some (.arr 2 v1.length fun j => (e_api_Session (v1.getD j z_api_Session))))], 3⟩) ⟨rfl, rfl, trivial⟩ ⟨rfl, rfl, rfl, trivial⟩ (Nat.le_refl _)) ?_
  refine aw_region (es := [_, _]) ⟨Step.plain rfl (does_load 25 1 0 0 [] (.var (.agg (.st [1, 1]) (vupd (c_api_Roster p0) 1 (.own 2)))) (.agg (.st [1, 1]) (vupd (c_api_Roster p0) 1 (.own 2))) trivial rfl rfl ty25), ⟨⟨rfl, trivial⟩, ⟨rfl, trivial⟩, rfl⟩, rfl,
    Step.plain rfl (does_store 25 2 (.tmp 7) 1 0 [] (.var (e_api_Roster z_api_Roster)) (.var (.agg (.st [1, 1]) (vupd (c_api_Roster p0) 1 (.own 2)))) (.agg (.st [1, 1]) (vupd (c_api_Roster p0) 1 (.own 2))) true trivial rfl trivial rfl rfl rfl ty25), ⟨⟨rfl, rfl, trivial⟩, ⟨rfl, trivial⟩, rfl⟩, rfl, rfl⟩ ?_
  refine aw_cov (cov_prune (s1 := ⟨[(2, (.ptr 1 0 []))], [(1, some (.var (.agg (.st [1, 1]) (vupd (c_api_Roster p0) 1 (.own 2))))), (2, some (.arr 2 v1.length fun j => (e_api_Session (v1.getD j z_api_Session))))], 3⟩) ⟨rfl, trivial⟩ ⟨rfl, rfl, trivial⟩ (Nat.le_refl _)) ?_
  refine aw_ret ?_
  exact fun a w hr => ⟨_, [(.agg (.st [1, 1]) (vupd (c_api_Roster ({ p0 with List := v1 })) 1 (.own 0)))], reach_of hr (cov_to (s1 := ⟨[(2, (.ptr 1 0 []))], [(0, some (.arr 2 v1.length fun j => (e_api_Session (v1.getD j z_api_Session)))), (1, some (.var (.agg (.st [1, 1]) (vupd (c_api_Roster ({ p0 with List := v1 })) 1 (.own 0)))))], 2⟩) (fun i => match i with | 0 => 2 | 1 => 1 | k => k) [] ⟨⟨_, rfl, .ptr 1 _ _ _ _ (Nat.le_of_ble_eq_true rfl) rfl rfl⟩, trivial⟩ ⟨⟨Nat.le_of_ble_eq_true rfl, _, _, rfl, rfl, boxTo_arr (fun _ => (d_api_Session _))⟩, ⟨Nat.le_of_ble_eq_true rfl, _, _, rfl, rfl, (boxTo_st (.agg _ _ _ (fun j => match j with | 0 => .plain _ (trivial) | 1 => .own 0 _ _ (Nat.le_of_ble_eq_true rfl) rfl rfl (Box.like_refl _) | _ + 2 => .plain _ trivial)))⟩, trivial⟩ rfl rfl), ⟨⟨1, rfl, rfl, ty25⟩, trivial⟩, by decide, by cases H; rfl, by cases H; exact ⟨rfl, trivial⟩, Nat.le_of_ble_eq_true rfl⟩

theorem roster_copied_data (p0 : api_Roster) (r : api_Roster) (H : roster_copied p0 = some r) : FSpec Try.prog 19 [(e_api_Roster p0)] (e_api_Roster r) :=
  FSpecO.toData (fz := [0]) (roster_copied_spec p0 r H) (d_api_Roster r) (.agg _ _ _ (fun j => match j with | 0 => .plain _ (trivial) | 1 => .frz 0 _ _ _ rfl (fun _ => (d_api_Session _)) (by decide) | _ + 2 => .plain _ trivial))

theorem roster_Open_spec (p0 : api_Roster) (r : api_Roster × Int × Int) (H : roster_Open p0 = some r) : FSpec Try.prog 7 [(e_api_Roster p0)] (resV [(e_api_Roster r.1), (.int .u64 r.2.1), (.int .i64 r.2.2)]) := by
  refine spec_of (fn := Try.f7) (args := [(e_api_Roster p0)]) Try.func7 rfl (Nat.le_of_ble_eq_true rfl) ?_
  rintro ⟨G, w0, W, S, Sp⟩ hG
  cases hG
  unfold roster_Open at H
  refine aw_region (es := [_, _, _, _]) ⟨Step.plain rfl (does_box 25 (.tmp 0) 0 (e_api_Roster p0) trivial rfl), ⟨⟨rfl, trivial⟩, trivial, rfl⟩, rfl,
    Step.plain rfl (does_alloc 25 1 (e_api_Roster z_api_Roster) zr25), ⟨trivial, trivial, rfl⟩, rfl,
    Step.plain rfl (does_assign (.const (.int .u64 0)) (.int .u64 0) (fun _ => rfl)), ⟨trivial, trivial, rfl⟩, rfl,
    Step.plain rfl (does_assign (.const (.int .i64 0)) (.int .i64 0) (fun _ => rfl)), ⟨trivial, trivial, rfl⟩, rfl, rfl⟩ ?_
  refine aw_cov (cov_prune (s1 := ⟨[(1, (.ptr 0 0 [])), (2, (.ptr 1 0 []))], [(0, some (.var (e_api_Roster p0))), (1, some (.var (e_api_Roster z_api_Roster)))], 2⟩) ⟨rfl, rfl, trivial⟩ ⟨rfl, rfl, trivial⟩ (Nat.le_refl _)) ?_
  refine aw_seq ?_
  refine aw_region (es := [_, _, _, _, _, _, _, _, _]) ⟨Step.plain rfl (does_fieldAddr 25 1 1 1 0 0 [] (.var (e_api_Roster p0)) fl25_1), ⟨⟨rfl, trivial⟩, ⟨rfl, trivial⟩, rfl⟩, rfl,
    Step.plain rfl (does_load 23 6 0 (0 + 1) [1] (.var (e_api_Roster p0)) (e_s_api_Session p0.List) ⟨rfl, Nat.le_of_ble_eq_true rfl, trivial⟩ rfl rfl ty23), ⟨⟨rfl, trivial⟩, ⟨rfl, trivial⟩, rfl⟩, rfl,
    Step.plain rfl (does_lens 23 2 p0.List.length 7 (fun j => (e_api_Session (p0.List.getD j z_api_Session))) el23), ⟨⟨rfl, trivial⟩, trivial, rfl⟩, rfl,
    Step.plain rfl (does_bin .geq 3 3 (.tmp 8) (.const (.int .i64 4)) .i64 (p0.List.length : Int) 4 (.bool (decide ((p0.List.length : Int) ≥ 4))) trivial (fun _ => rfl) (bin_geq _ _ _ _)), ⟨⟨rfl, trivial⟩, trivial, rfl⟩, rfl,
    Step.plain rfl (does_move (.tmp 9) (.bool (decide ((p0.List.length : Int) ≥ 4))) trivial), ⟨⟨rfl, trivial⟩, trivial, rfl⟩, rfl,
    Step.guarded rfl rfl rfl rfl (fun hc => does_fieldAddr 25 0 0 1 0 0 [] (.var (e_api_Roster p0)) fl25_0), ⟨⟨rfl, rfl, trivial⟩, ⟨rfl, trivial⟩, rfl⟩, rfl,
    Step.guarded rfl rfl rfl rfl (fun hc => Does.strip (n' := [(11, (.opt (!(decide ((p0.List.length : Int) ≥ 4))) (.ptr 0 (0 + 0) [0])))]) (n := [(11, (.ptr 0 (0 + 0) [0]))]) ⟨(.opt _ _ hc), trivial⟩ (does_load 22 11 0 (0 + 0) [0] (.var (e_api_Roster p0)) (.int .u64 p0.Last) ⟨rfl, Nat.le_of_ble_eq_true rfl, trivial⟩ rfl rfl ty22)), ⟨⟨rfl, rfl, trivial⟩, ⟨rfl, trivial⟩, rfl⟩, rfl,
    Step.guarded rfl rfl rfl rfl (fun hc => Does.strip (n' := [(12, (.opt (!(decide ((p0.List.length : Int) ≥ 4))) (.int .u64 p0.Last)))]) (n := [(12, (.int .u64 p0.Last))]) ⟨(.opt _ _ hc), trivial⟩ (does_bin .geq 22 22 (.tmp 12) (.const (.int .u64 65535)) .u64 p0.Last 65535 (.bool (decide (p0.Last ≥ 65535))) trivial (fun _ => rfl) (bin_geq _ _ _ _))), ⟨⟨rfl, rfl, trivial⟩, trivial, rfl⟩, rfl,
    Step.plain rfl (does_or 10 13 (decide ((p0.List.length : Int) ≥ 4)) (decide (p0.Last ≥ 65535))), ⟨⟨rfl, rfl, trivial⟩, trivial, rfl⟩, rfl, rfl⟩ ?_
  refine aw_cov (cov_prune (s1 := ⟨[(1, (.ptr 0 0 [])), (2, (.ptr 1 0 [])), (14, (.bool ((decide ((p0.List.length : Int) ≥ 4)) || (decide (p0.Last ≥ 65535)))))], [(0, some (.var (e_api_Roster p0))), (1, some (.var (e_api_Roster z_api_Roster)))], 2⟩) ⟨rfl, rfl, rfl, trivial⟩ ⟨rfl, rfl, trivial⟩ (Nat.le_refl _)) ?_
  refine aw_cond rfl (fun hc => ?_) (fun hc => ?_)
  · replace H := ite_t hc H
    refine aw_region (es := [_, _, _, _]) ⟨Step.plain rfl (does_buildT 25 #[] [] [] (.st [1, 1]) (c_api_Roster z_api_Roster) (c_api_Roster ({ Last := 0, List := [] } : api_Roster)) rfl bo25 trivial trivial (by funext j; match j with | 0 => rfl | 1 => rfl | _ + 2 => rfl)), ⟨trivial, trivial, rfl⟩, rfl,
      Step.plain rfl (does_store 25 2 (.tmp 15) 1 0 [] (.var (e_api_Roster z_api_Roster)) (.var (e_api_Roster ({ Last := 0, List := [] } : api_Roster))) (e_api_Roster ({ Last := 0, List := [] } : api_Roster)) true trivial rfl trivial rfl rfl rfl ty25), ⟨⟨rfl, rfl, trivial⟩, ⟨rfl, trivial⟩, rfl⟩, rfl,
      Step.plain rfl (does_assign (.const (.int .u64 0)) (.int .u64 0) (fun _ => rfl)), ⟨trivial, trivial, rfl⟩, rfl,
      Step.plain rfl (does_assign (.const (.int .i64 161)) (.int .i64 161) (fun _ => rfl)), ⟨trivial, trivial, rfl⟩, rfl, rfl⟩ ?_
    refine aw_cov (cov_prune (s1 := ⟨[(2, (.ptr 1 0 [])), (3, (.int .u64 0)), (4, (.int .i64 161))], [(1, some (.var (e_api_Roster ({ Last := 0, List := [] } : api_Roster))))], 2⟩) ⟨rfl, rfl, rfl, trivial⟩ ⟨rfl, trivial⟩ (Nat.le_refl _)) ?_
    refine aw_ret ?_
    refine rt_then ?_
    exact fun a w hr => ⟨_, [(e_api_Roster ({ Last := 0, List := [] } : api_Roster)), (.int .u64 0), (.int .i64 161)], hr, ⟨⟨1, _, rfl, rfl, .data _ (d_api_Roster ({ Last := 0, List := [] } : api_Roster)), ty25⟩, ⟨_, rfl, .data (.int .u64 0) trivial⟩, ⟨_, rfl, .data (.int .i64 161) trivial⟩, trivial⟩, by decide, by cases H; rfl⟩
  · replace H := ite_f hc H
    refine aw_skip ?_
    refine nx_seq ?_
    obtain ⟨v1, h2, H⟩ := bnd H
    refine aw_region (es := [_, _, _, _]) ⟨Step.plain rfl (does_load 25 1 0 0 [] (.var (e_api_Roster p0)) (e_api_Roster p0) trivial rfl rfl ty25), ⟨⟨rfl, trivial⟩, ⟨rfl, trivial⟩, rfl⟩, rfl,
      Step.plain rfl (does_callO 19 0 (fun _ => .any) (.func 19) [(.tmp 16)] [(e_api_Roster p0)] [] [] true [(e_api_Roster p0)] _ (.agg (.st [1, 1]) (vupd (c_api_Roster v1) 1 (.own 2))) _ 2 2 _ _ rfl fo19 rfl ⟨trivial, trivial⟩ ⟨.ro _ _ (.data _ (d_api_Roster p0)), trivial⟩ (roster_copied_spec p0 _ h2) rfl (by simp) rfl trivial ⟨⟨Nat.le_of_ble_eq_true rfl, _, rfl, fun _ => (f_api_Session _)⟩, trivial⟩ (.agg _ _ _ (fun j => match j with | 0 => .data _ (trivial) | 1 => .own 0 (Nat.le_of_ble_eq_true rfl) | _ + 2 => .data _ trivial))), ⟨⟨rfl, trivial⟩, trivial, rfl⟩, rfl,
      Step.plain rfl (does_alloc 25 4 (e_api_Roster z_api_Roster) zr25), ⟨trivial, trivial, rfl⟩, rfl,
      Step.plain rfl (does_store 25 5 (.tmp 17) 4 0 [] (.var (e_api_Roster z_api_Roster)) (.var (.agg (.st [1, 1]) (vupd (c_api_Roster v1) 1 (.own 2)))) (.agg (.st [1, 1]) (vupd (c_api_Roster v1) 1 (.own 2))) true trivial rfl trivial rfl rfl rfl ty25), ⟨⟨rfl, rfl, trivial⟩, ⟨rfl, trivial⟩, rfl⟩, rfl, rfl⟩ ?_
    refine aw_cov (cov_prune (s1 := ⟨[(2, (.ptr 1 0 [])), (5, (.ptr 4 0 []))], [(1, some (.var (e_api_Roster z_api_Roster))), (2, some (.arr 2 v1.List.length fun j => (e_api_Session (v1.List.getD j z_api_Session)))), (4, some (.var (.agg (.st [1, 1]) (vupd (c_api_Roster v1) 1 (.own 2)))))], 5⟩) ⟨rfl, rfl, trivial⟩ ⟨rfl, rfl, rfl, trivial⟩ (Nat.le_refl _)) ?_
    refine aw_region (es := [_, _, _, _, _]) ⟨Step.plain rfl (does_fieldAddr 25 0 0 5 4 0 [] (.var (.agg (.st [1, 1]) (vupd (c_api_Roster v1) 1 (.own 2)))) fl25_0), ⟨⟨rfl, trivial⟩, ⟨rfl, trivial⟩, rfl⟩, rfl,
      Step.plain rfl (does_load 22 18 4 (0 + 0) [0] (.var (.agg (.st [1, 1]) (vupd (c_api_Roster v1) 1 (.own 2)))) (.int .u64 v1.Last) ⟨rfl, Nat.le_of_ble_eq_true rfl, trivial⟩ rfl rfl ty22), ⟨⟨rfl, trivial⟩, ⟨rfl, trivial⟩, rfl⟩, rfl,
      Step.plain rfl (does_bin .add 22 22 (.tmp 19) (.const (.int .u64 1)) .u64 v1.Last 1 (.int .u64 (IntKind.u64.wrap (v1.Last + 1))) trivial (fun _ => rfl) (bin_add _ _ _ _)), ⟨⟨rfl, trivial⟩, trivial, rfl⟩, rfl,
      Step.plain rfl (does_fieldAddr 25 0 0 5 4 0 [] (.var (.agg (.st [1, 1]) (vupd (c_api_Roster v1) 1 (.own 2)))) fl25_0), ⟨⟨rfl, trivial⟩, ⟨rfl, trivial⟩, rfl⟩, rfl,
      Step.plain rfl (does_store 22 21 (.tmp 20) 4 (0 + 0) [0] (.var (.agg (.st [1, 1]) (vupd (c_api_Roster v1) 1 (.own 2)))) (.var (.agg (.st [1, 1]) (vupd (c_api_Roster ({ v1 with Last := (IntKind.u64.wrap (v1.Last + 1)) })) 1 (.own 2)))) (.int .u64 (IntKind.u64.wrap (v1.Last + 1))) false trivial rfl ⟨rfl, Nat.le_of_ble_eq_true rfl, trivial⟩ rfl rfl (congrArg Box.var (set_cons rfl ((vupd_comm _ 0 1 _ _ (by decide)).trans (congrArg (fun f => vupd f 1 (.own 2)) (st_api_Roster_0 _ _))))) ty22), ⟨⟨rfl, rfl, trivial⟩, ⟨rfl, trivial⟩, rfl⟩, rfl, rfl⟩ ?_
    refine aw_cov (cov_prune (s1 := ⟨[(2, (.ptr 1 0 [])), (5, (.ptr 4 0 []))], [(1, some (.var (e_api_Roster z_api_Roster))), (2, some (.arr 2 v1.List.length fun j => (e_api_Session (v1.List.getD j z_api_Session)))), (4, some (.var (.agg (.st [1, 1]) (vupd (c_api_Roster ({ v1 with Last := (IntKind.u64.wrap (v1.Last + 1)) })) 1 (.own 2)))))], 5⟩) ⟨rfl, rfl, trivial⟩ ⟨rfl, rfl, rfl, trivial⟩ (Nat.le_refl _)) ?_
    obtain ⟨h3, H⟩ := fit_of H
    refine aw_region (es := [_, _, _, _, _, _, _, _, _]) ⟨Step.plain rfl (does_fieldAddr 25 1 1 5 4 0 [] (.var (.agg (.st [1, 1]) (vupd (c_api_Roster ({ v1 with Last := (IntKind.u64.wrap (v1.Last + 1)) })) 1 (.own 2)))) fl25_1), ⟨⟨rfl, trivial⟩, ⟨rfl, trivial⟩, rfl⟩, rfl,
      Step.plain rfl (does_load 23 22 4 (0 + 1) [1] (.var (.agg (.st [1, 1]) (vupd (c_api_Roster ({ v1 with Last := (IntKind.u64.wrap (v1.Last + 1)) })) 1 (.own 2)))) (.own 2) ⟨rfl, Nat.le_of_ble_eq_true rfl, trivial⟩ rfl rfl ty23), ⟨⟨rfl, trivial⟩, ⟨rfl, trivial⟩, rfl⟩, rfl,
      Step.plain rfl (does_fieldAddr 25 0 0 5 4 0 [] (.var (.agg (.st [1, 1]) (vupd (c_api_Roster ({ v1 with Last := (IntKind.u64.wrap (v1.Last + 1)) })) 1 (.own 2)))) fl25_0), ⟨⟨rfl, trivial⟩, ⟨rfl, trivial⟩, rfl⟩, rfl,
      Step.plain rfl (does_load 22 24 4 (0 + 0) [0] (.var (.agg (.st [1, 1]) (vupd (c_api_Roster ({ v1 with Last := (IntKind.u64.wrap (v1.Last + 1)) })) 1 (.own 2)))) (.int .u64 (({ v1 with Last := (IntKind.u64.wrap (v1.Last + 1)) }).Last)) ⟨rfl, Nat.le_of_ble_eq_true rfl, trivial⟩ rfl rfl ty22), ⟨⟨rfl, trivial⟩, ⟨rfl, trivial⟩, rfl⟩, rfl,
      Step.plain rfl (does_buildT 41 #[(0, (.tmp 25))] [(0, (.tmp 25))] [(0, (.int .u64 (({ v1 with Last := (IntKind.u64.wrap (v1.Last + 1)) }).Last)))] (.st [1, 1]) (c_api_Session z_api_Session) (c_api_Session ({ Id := ({ v1 with Last := (IntKind.u64.wrap (v1.Last + 1)) }).Last, Number := 0 } : api_Session)) rfl bo41 ⟨⟨rfl, trivial⟩, trivial⟩ ⟨⟨Nat.le_of_ble_eq_true rfl, rfl, rfl⟩, trivial⟩ (by funext j; match j with | 0 => rfl | 1 => rfl | _ + 2 => rfl)), ⟨⟨rfl, trivial⟩, trivial, rfl⟩, rfl,
      Step.plain rfl (does_buildSl 23 1 2 (e_api_Session z_api_Session) (fun j => (e_api_Session (([({ Id := ({ v1 with Last := (IntKind.u64.wrap (v1.Last + 1)) }).Last, Number := 0 } : api_Session)] : _root_.List api_Session).getD j z_api_Session))) #[(0, (.tmp 26))] [(0, (.tmp 26))] [(0, (e_api_Session ({ Id := ({ v1 with Last := (IntKind.u64.wrap (v1.Last + 1)) }).Last, Number := 0 } : api_Session)))] rfl so23 (by decide) ⟨⟨rfl, trivial⟩, trivial⟩ ⟨⟨Nat.le_of_ble_eq_true rfl, rfl, rfl⟩, trivial⟩ (fun j h => match j, h with | 0, _ => rfl | k + 1, h => absurd h (by omega))), ⟨⟨rfl, trivial⟩, trivial, rfl⟩, rfl,
      Step.plain rfl (does_appendL e_api_Session z_api_Session v1.List ([({ Id := ({ v1 with Last := (IntKind.u64.wrap (v1.Last + 1)) }).Last, Number := 0 } : api_Session)] : _root_.List api_Session) 23 2 16 2 5 23 27 ap23 h3), ⟨⟨rfl, rfl, trivial⟩, ⟨rfl, trivial⟩, rfl⟩, rfl,
      Step.plain rfl (does_fieldAddr 25 1 1 5 4 0 [] (.var (.agg (.st [1, 1]) (vupd (c_api_Roster ({ v1 with Last := (IntKind.u64.wrap (v1.Last + 1)) })) 1 (.own 2)))) fl25_1), ⟨⟨rfl, trivial⟩, ⟨rfl, trivial⟩, rfl⟩, rfl,
      Step.plain rfl (does_storeO 23 29 (.tmp 28) 4 (0 + 1) [1] (.var (.agg (.st [1, 1]) (vupd (c_api_Roster ({ v1 with Last := (IntKind.u64.wrap (v1.Last + 1)) })) 1 (.own 2)))) (.var (.agg (.st [1, 1]) (vupd (c_api_Roster ({ v1 with Last := (IntKind.u64.wrap (v1.Last + 1)) })) 1 (.own 5)))) 5 2 (v1.List ++ ([({ Id := ({ v1 with Last := (IntKind.u64.wrap (v1.Last + 1)) }).Last, Number := 0 } : api_Session)] : _root_.List api_Session)).length (fun j => (e_api_Session ((v1.List ++ ([({ Id := ({ v1 with Last := (IntKind.u64.wrap (v1.Last + 1)) }).Last, Number := 0 } : api_Session)] : _root_.List api_Session)).getD j z_api_Session))) (.own 5) rfl false trivial ⟨rfl, Nat.le_of_ble_eq_true rfl, trivial⟩ rfl rfl (congrArg Box.var (congrArg (V.agg _) (vupd_vupd _ _ _ _))) ty23), ⟨⟨rfl, rfl, trivial⟩, ⟨rfl, rfl, trivial⟩, rfl⟩, rfl, rfl⟩ ?_
    obtain ⟨v4, hv4, H⟩ := lt_of H
    refine aw_cov (cov_prune (s1 := ⟨[(2, (.ptr 1 0 [])), (5, (.ptr 4 0 []))], [(1, some (.var (e_api_Roster z_api_Roster))), (4, some (.var (.agg (.st [1, 1]) (vupd (c_api_Roster ({ v1 with Last := (IntKind.u64.wrap (v1.Last + 1)) })) 1 (.own 5))))), (5, some (.arr 2 v4.length fun j => (e_api_Session (v4.getD j z_api_Session))))], 6⟩) ⟨rfl, rfl, trivial⟩ ⟨rfl, rfl, (by subst hv4; rfl), trivial⟩ (Nat.le_refl _)) ?_
    refine aw_draw (es := [_, _, _, _, _, _]) (mixed) ⟨Step.plain rfl (does_load 25 5 4 0 [] (.var (.agg (.st [1, 1]) (vupd (c_api_Roster ({ v1 with Last := (IntKind.u64.wrap (v1.Last + 1)) })) 1 (.own 5)))) (.agg (.st [1, 1]) (vupd (c_api_Roster ({ v1 with Last := (IntKind.u64.wrap (v1.Last + 1)) })) 1 (.own 5))) trivial rfl rfl ty25), ⟨⟨rfl, trivial⟩, ⟨rfl, trivial⟩, rfl⟩, rfl,
      Step.plain rfl (does_fieldAddr 25 0 0 5 4 0 [] (.var (.agg (.st [1, 1]) (vupd (c_api_Roster ({ v1 with Last := (IntKind.u64.wrap (v1.Last + 1)) })) 1 (.own 5)))) fl25_0), ⟨⟨rfl, trivial⟩, ⟨rfl, trivial⟩, rfl⟩, rfl,
      Step.plain rfl (does_load 22 31 4 (0 + 0) [0] (.var (.agg (.st [1, 1]) (vupd (c_api_Roster ({ v1 with Last := (IntKind.u64.wrap (v1.Last + 1)) })) 1 (.own 5)))) (.int .u64 (({ v1 with Last := (IntKind.u64.wrap (v1.Last + 1)) }).Last)) ⟨rfl, Nat.le_of_ble_eq_true rfl, trivial⟩ rfl rfl ty22), ⟨⟨rfl, trivial⟩, ⟨rfl, trivial⟩, rfl⟩, rfl,
      Step.plain rfl (does_store 25 2 (.tmp 30) 1 0 [] (.var (e_api_Roster z_api_Roster)) (.var (.agg (.st [1, 1]) (vupd (c_api_Roster ({ v1 with Last := (IntKind.u64.wrap (v1.Last + 1)) })) 1 (.own 5)))) (.agg (.st [1, 1]) (vupd (c_api_Roster ({ v1 with Last := (IntKind.u64.wrap (v1.Last + 1)) })) 1 (.own 5))) true trivial rfl trivial rfl rfl rfl ty25), ⟨⟨rfl, rfl, trivial⟩, ⟨rfl, trivial⟩, rfl⟩, rfl,
      Step.plain rfl (does_assign (.tmp 32) (.int .u64 (({ v1 with Last := (IntKind.u64.wrap (v1.Last + 1)) }).Last)) trivial), ⟨⟨rfl, trivial⟩, trivial, rfl⟩, rfl,
      Step.plain rfl (does_assign (.const (.int .i64 0)) (.int .i64 0) (fun _ => rfl)), ⟨trivial, trivial, rfl⟩, rfl, rfl⟩ rfl ?_
    refine aw_cov (cov_prune (s1 := ⟨[(2, (.ptr 1 0 [])), (3, (.int .u64 (({ v1 with Last := (IntKind.u64.wrap (v1.Last + 1)) }).Last))), (4, (.int .i64 0))], [(1, some (.var (.agg (.st [1, 1]) (vupd (c_api_Roster ({ v1 with Last := (IntKind.u64.wrap (v1.Last + 1)) })) 1 (.own 5))))), (5, some (.arr 2 v4.length fun j => (e_api_Session (v4.getD j z_api_Session))))], 6⟩) ⟨rfl, rfl, rfl, trivial⟩ ⟨rfl, rfl, trivial⟩ (Nat.le_refl _)) ?_
    refine aw_ret ?_
    exact fun a w hr => ⟨_, [(e_api_Roster ({ { v1 with Last := (IntKind.u64.wrap (v1.Last + 1)) } with List := v4 })), (.int .u64 (({ v1 with Last := (IntKind.u64.wrap (v1.Last + 1)) }).Last)), (.int .i64 0)], hr, ⟨⟨1, _, rfl, rfl, .agg _ _ _ (fun j hj => match j, hj with | 0, _ => ⟨rfl, rfl⟩ | 1, _ => ⟨rfl, rfl⟩ | k + 2, hj => absurd (show k + 2 < 2 from hj) (by omega)) (fun j hj => match j, hj with | 0, _ => .data (.int .u64 (({ { v1 with Last := (IntKind.u64.wrap (v1.Last + 1)) } with List := v4 }).Last)) (trivial) | 1, _ => .own _ _ _ _ rfl (fun _ => (d_api_Session _)) | k + 2, hj => absurd (show k + 2 < 2 from hj) (by omega)), ty25⟩, ⟨_, rfl, .data (.int .u64 (({ v1 with Last := (IntKind.u64.wrap (v1.Last + 1)) }).Last)) trivial⟩, ⟨_, rfl, .data (.int .i64 0) trivial⟩, trivial⟩, by decide, by cases H; rfl⟩

theorem congressref17_Open_spec (p0 : api_Roster) (r : api_Roster × Int × Int) (H : congressref17_Open p0 = some r) : FSpec Try.prog 8 [(e_api_Roster p0)] (resV [(e_api_Roster r.1), (.int .u64 r.2.1), (.int .i64 r.2.2)]) := by
  refine spec_of (fn := Try.f8) (args := [(e_api_Roster p0)]) Try.func8 rfl (Nat.le_of_ble_eq_true rfl) ?_
  rintro ⟨G, w0, W, S, Sp⟩ hG
  cases hG
  unfold congressref17_Open at H
  refine aw_region (es := [_, _, _, _]) ⟨Step.plain rfl (does_box 25 (.tmp 0) 0 (e_api_Roster p0) trivial rfl), ⟨⟨rfl, trivial⟩, trivial, rfl⟩, rfl,
    Step.plain rfl (does_alloc 25 1 (e_api_Roster z_api_Roster) zr25), ⟨trivial, trivial, rfl⟩, rfl,
    Step.plain rfl (does_assign (.const (.int .u64 0)) (.int .u64 0) (fun _ => rfl)), ⟨trivial, trivial, rfl⟩, rfl,
    Step.plain rfl (does_assign (.const (.int .i64 0)) (.int .i64 0) (fun _ => rfl)), ⟨trivial, trivial, rfl⟩, rfl, rfl⟩ ?_
  refine aw_cov (cov_prune (s1 := ⟨[(1, (.ptr 0 0 [])), (2, (.ptr 1 0 []))], [(0, some (.var (e_api_Roster p0))), (1, some (.var (e_api_Roster z_api_Roster)))], 2⟩) ⟨rfl, rfl, trivial⟩ ⟨rfl, rfl, trivial⟩ (Nat.le_refl _)) ?_
  refine aw_seq ?_
  refine aw_region (es := [_, _, _, _, _, _, _, _, _]) ⟨Step.plain rfl (does_fieldAddr 25 1 1 1 0 0 [] (.var (e_api_Roster p0)) fl25_1), ⟨⟨rfl, trivial⟩, ⟨rfl, trivial⟩, rfl⟩, rfl,
    Step.plain rfl (does_load 23 6 0 (0 + 1) [1] (.var (e_api_Roster p0)) (e_s_api_Session p0.List) ⟨rfl, Nat.le_of_ble_eq_true rfl, trivial⟩ rfl rfl ty23), ⟨⟨rfl, trivial⟩, ⟨rfl, trivial⟩, rfl⟩, rfl,
    Step.plain rfl (does_lens 23 2 p0.List.length 7 (fun j => (e_api_Session (p0.List.getD j z_api_Session))) el23), ⟨⟨rfl, trivial⟩, trivial, rfl⟩, rfl,
    Step.plain rfl (does_bin .gtr 3 3 (.tmp 8) (.const (.int .i64 3)) .i64 (p0.List.length : Int) 3 (.bool (decide ((p0.List.length : Int) > 3))) trivial (fun _ => rfl) (bin_gtr _ _ _ _)), ⟨⟨rfl, trivial⟩, trivial, rfl⟩, rfl,
    Step.plain rfl (does_move (.tmp 9) (.bool (decide ((p0.List.length : Int) > 3))) trivial), ⟨⟨rfl, trivial⟩, trivial, rfl⟩, rfl,
    Step.guarded rfl rfl rfl rfl (fun hc => does_fieldAddr 25 0 0 1 0 0 [] (.var (e_api_Roster p0)) fl25_0), ⟨⟨rfl, rfl, trivial⟩, ⟨rfl, trivial⟩, rfl⟩, rfl,
    Step.guarded rfl rfl rfl rfl (fun hc => Does.strip (n' := [(11, (.opt (!(decide ((p0.List.length : Int) > 3))) (.ptr 0 (0 + 0) [0])))]) (n := [(11, (.ptr 0 (0 + 0) [0]))]) ⟨(.opt _ _ hc), trivial⟩ (does_load 22 11 0 (0 + 0) [0] (.var (e_api_Roster p0)) (.int .u64 p0.Last) ⟨rfl, Nat.le_of_ble_eq_true rfl, trivial⟩ rfl rfl ty22)), ⟨⟨rfl, rfl, trivial⟩, ⟨rfl, trivial⟩, rfl⟩, rfl,
    Step.guarded rfl rfl rfl rfl (fun hc => Does.strip (n' := [(12, (.opt (!(decide ((p0.List.length : Int) > 3))) (.int .u64 p0.Last)))]) (n := [(12, (.int .u64 p0.Last))]) ⟨(.opt _ _ hc), trivial⟩ (does_bin .gtr 22 22 (.tmp 12) (.const (.int .u64 65534)) .u64 p0.Last 65534 (.bool (decide (p0.Last > 65534))) trivial (fun _ => rfl) (bin_gtr _ _ _ _))), ⟨⟨rfl, rfl, trivial⟩, trivial, rfl⟩, rfl,
    Step.plain rfl (does_or 10 13 (decide ((p0.List.length : Int) > 3)) (decide (p0.Last > 65534))), ⟨⟨rfl, rfl, trivial⟩, trivial, rfl⟩, rfl, rfl⟩ ?_
  refine aw_cov (cov_prune (s1 := ⟨[(1, (.ptr 0 0 [])), (2, (.ptr 1 0 [])), (14, (.bool ((decide ((p0.List.length : Int) > 3)) || (decide (p0.Last > 65534)))))], [(0, some (.var (e_api_Roster p0))), (1, some (.var (e_api_Roster z_api_Roster)))], 2⟩) ⟨rfl, rfl, rfl, trivial⟩ ⟨rfl, rfl, trivial⟩ (Nat.le_refl _)) ?_
  refine aw_cond rfl (fun hc => ?_) (fun hc => ?_)
  · replace H := ite_t hc H
    refine aw_region (es := [_, _, _, _]) ⟨Step.plain rfl (does_buildT 25 #[] [] [] (.st [1, 1]) (c_api_Roster z_api_Roster) (c_api_Roster ({ Last := 0, List := [] } : api_Roster)) rfl bo25 trivial trivial (by funext j; match j with | 0 => rfl | 1 => rfl | _ + 2 => rfl)), ⟨trivial, trivial, rfl⟩, rfl,
      Step.plain rfl (does_store 25 2 (.tmp 15) 1 0 [] (.var (e_api_Roster z_api_Roster)) (.var (e_api_Roster ({ Last := 0, List := [] } : api_Roster))) (e_api_Roster ({ Last := 0, List := [] } : api_Roster)) true trivial rfl trivial rfl rfl rfl ty25), ⟨⟨rfl, rfl, trivial⟩, ⟨rfl, trivial⟩, rfl⟩, rfl,
      Step.plain rfl (does_assign (.const (.int .u64 0)) (.int .u64 0) (fun _ => rfl)), ⟨trivial, trivial, rfl⟩, rfl,
      Step.plain rfl (does_assign (.const (.int .i64 161)) (.int .i64 161) (fun _ => rfl)), ⟨trivial, trivial, rfl⟩, rfl, rfl⟩ ?_
    refine aw_cov (cov_prune (s1 := ⟨[(2, (.ptr 1 0 [])), (3, (.int .u64 0)), (4, (.int .i64 161))], [(1, some (.var (e_api_Roster ({ Last := 0, List := [] } : api_Roster))))], 2⟩) ⟨rfl, rfl, rfl, trivial⟩ ⟨rfl, trivial⟩ (Nat.le_refl _)) ?_
    refine aw_ret ?_
    refine rt_then ?_
    exact fun a w hr => ⟨_, [(e_api_Roster ({ Last := 0, List := [] } : api_Roster)), (.int .u64 0), (.int .i64 161)], hr, ⟨⟨1, _, rfl, rfl, .data _ (d_api_Roster ({ Last := 0, List := [] } : api_Roster)), ty25⟩, ⟨_, rfl, .data (.int .u64 0) trivial⟩, ⟨_, rfl, .data (.int .i64 161) trivial⟩, trivial⟩, by decide, by cases H; rfl⟩
  · replace H := ite_f hc H
    refine aw_skip ?_
    refine nx_seq ?_
    obtain ⟨h1, H⟩ := fit_of H
    refine aw_draw (es := [_, _, _, _, _, _, _, _, _, _]) (mixed) ⟨Step.plain rfl (does_fieldAddr 25 0 0 1 0 0 [] (.var (e_api_Roster p0)) fl25_0), ⟨⟨rfl, trivial⟩, ⟨rfl, trivial⟩, rfl⟩, rfl,
      Step.plain rfl (does_load 22 16 0 (0 + 0) [0] (.var (e_api_Roster p0)) (.int .u64 p0.Last) ⟨rfl, Nat.le_of_ble_eq_true rfl, trivial⟩ rfl rfl ty22), ⟨⟨rfl, trivial⟩, ⟨rfl, trivial⟩, rfl⟩, rfl,
      Step.plain rfl (does_bin .add 22 22 (.tmp 17) (.const (.int .u64 1)) .u64 p0.Last 1 (.int .u64 (IntKind.u64.wrap (p0.Last + 1))) trivial (fun _ => rfl) (bin_add _ _ _ _)), ⟨⟨rfl, trivial⟩, trivial, rfl⟩, rfl,
      Step.plain rfl (does_buildOwn 23 0 2 2 (e_api_Session z_api_Session) (fun j => (e_api_Session (([] : _root_.List api_Session).getD j z_api_Session))) #[] [] [] rfl so23 (by decide) trivial trivial (fun j h => match j, h with  | k + 0, h => absurd h (by omega))), ⟨trivial, trivial, rfl⟩, rfl,
      Step.plain rfl (does_fieldAddr 25 1 1 1 0 0 [] (.var (e_api_Roster p0)) fl25_1), ⟨⟨rfl, trivial⟩, ⟨rfl, trivial⟩, rfl⟩, rfl,
      Step.plain rfl (does_load 23 20 0 (0 + 1) [1] (.var (e_api_Roster p0)) (e_s_api_Session p0.List) ⟨rfl, Nat.le_of_ble_eq_true rfl, trivial⟩ rfl rfl ty23), ⟨⟨rfl, trivial⟩, ⟨rfl, trivial⟩, rfl⟩, rfl,
      Step.plain rfl (does_appendL e_api_Session z_api_Session ([] : _root_.List api_Session) p0.List 23 2 16 2 3 19 21 ap23 h1), ⟨⟨rfl, rfl, trivial⟩, ⟨rfl, trivial⟩, rfl⟩, rfl,
      Step.plain rfl (does_buildO 25 #[(0, (.tmp 18)), (1, (.tmp 22))] [(0, (.tmp 18)), (1, (.tmp 22))] [(0, (.int .u64 (IntKind.u64.wrap (p0.Last + 1)))), (1, (.own 3))] (.st [1, 1]) (c_api_Roster z_api_Roster) (vupd (c_api_Roster ({ Last := (IntKind.u64.wrap (p0.Last + 1)), List := [] } : api_Roster)) 1 (.own 3)) [(3, (.arr 2 (([] : _root_.List api_Session) ++ p0.List).length fun j => (e_api_Session ((([] : _root_.List api_Session) ++ p0.List).getD j z_api_Session))))] rfl bo25 ⟨⟨rfl, trivial⟩, ⟨rfl, trivial⟩, trivial⟩ (fun e hn => ⟨⟨Nat.le_of_ble_eq_true rfl, sol_solid rfl, rfl⟩, ⟨Nat.le_of_ble_eq_true rfl, sol_own (hn _ (.head _)) _ rfl, rfl⟩, trivial⟩) (by funext j; match j with | 0 => rfl | 1 => rfl | _ + 2 => rfl)), ⟨⟨rfl, rfl, trivial⟩, ⟨rfl, trivial⟩, rfl⟩, rfl,
      Step.plain rfl (does_alloc 25 4 (e_api_Roster z_api_Roster) zr25), ⟨trivial, trivial, rfl⟩, rfl,
      Step.plain rfl (does_store 25 5 (.tmp 23) 4 0 [] (.var (e_api_Roster z_api_Roster)) (.var (.agg (.st [1, 1]) (vupd (c_api_Roster ({ Last := (IntKind.u64.wrap (p0.Last + 1)), List := [] } : api_Roster)) 1 (.own 3)))) (.agg (.st [1, 1]) (vupd (c_api_Roster ({ Last := (IntKind.u64.wrap (p0.Last + 1)), List := [] } : api_Roster)) 1 (.own 3))) true trivial rfl trivial rfl rfl rfl ty25), ⟨⟨rfl, rfl, trivial⟩, ⟨rfl, trivial⟩, rfl⟩, rfl, rfl⟩ rfl ?_
    obtain ⟨v2, hv2, H⟩ := lt_of H
    refine aw_cov (cov_prune (s1 := ⟨[(1, (.ptr 0 0 [])), (2, (.ptr 1 0 [])), (5, (.ptr 4 0 []))], [(0, some (.var (e_api_Roster p0))), (1, some (.var (e_api_Roster z_api_Roster))), (3, some (.arr 2 (([] : _root_.List api_Session) ++ p0.List).length fun j => (e_api_Session ((([] : _root_.List api_Session) ++ p0.List).getD j z_api_Session)))), (4, some (.var (.agg (.st [1, 1]) (vupd (c_api_Roster v2) 1 (.own 3)))))], 5⟩) ⟨rfl, rfl, rfl, trivial⟩ ⟨rfl, rfl, rfl, (by subst hv2; rfl), trivial⟩ (Nat.le_refl _)) ?_
    obtain ⟨h3, H⟩ := fit_of H
    refine aw_region (es := [_, _, _, _, _, _, _, _, _, _]) ⟨Step.plain rfl (does_fieldAddr 25 1 1 5 4 0 [] (.var (.agg (.st [1, 1]) (vupd (c_api_Roster v2) 1 (.own 3)))) fl25_1), ⟨⟨rfl, trivial⟩, ⟨rfl, trivial⟩, rfl⟩, rfl,
      Step.plain rfl (does_load 23 24 4 (0 + 1) [1] (.var (.agg (.st [1, 1]) (vupd (c_api_Roster v2) 1 (.own 3)))) (.own 3) ⟨rfl, Nat.le_of_ble_eq_true rfl, trivial⟩ rfl rfl ty23), ⟨⟨rfl, trivial⟩, ⟨rfl, trivial⟩, rfl⟩, rfl,
      Step.plain rfl (does_fieldAddr 25 0 0 1 0 0 [] (.var (e_api_Roster p0)) fl25_0), ⟨⟨rfl, trivial⟩, ⟨rfl, trivial⟩, rfl⟩, rfl,
      Step.plain rfl (does_load 22 26 0 (0 + 0) [0] (.var (e_api_Roster p0)) (.int .u64 p0.Last) ⟨rfl, Nat.le_of_ble_eq_true rfl, trivial⟩ rfl rfl ty22), ⟨⟨rfl, trivial⟩, ⟨rfl, trivial⟩, rfl⟩, rfl,
      Step.plain rfl (does_bin .add 22 22 (.tmp 27) (.const (.int .u64 1)) .u64 p0.Last 1 (.int .u64 (IntKind.u64.wrap (p0.Last + 1))) trivial (fun _ => rfl) (bin_add _ _ _ _)), ⟨⟨rfl, trivial⟩, trivial, rfl⟩, rfl,
      Step.plain rfl (does_buildT 41 #[(0, (.tmp 28))] [(0, (.tmp 28))] [(0, (.int .u64 (IntKind.u64.wrap (p0.Last + 1))))] (.st [1, 1]) (c_api_Session z_api_Session) (c_api_Session ({ Id := (IntKind.u64.wrap (p0.Last + 1)), Number := 0 } : api_Session)) rfl bo41 ⟨⟨rfl, trivial⟩, trivial⟩ ⟨⟨Nat.le_of_ble_eq_true rfl, rfl, rfl⟩, trivial⟩ (by funext j; match j with | 0 => rfl | 1 => rfl | _ + 2 => rfl)), ⟨⟨rfl, trivial⟩, trivial, rfl⟩, rfl,
      Step.plain rfl (does_buildSl 23 1 2 (e_api_Session z_api_Session) (fun j => (e_api_Session (([({ Id := (IntKind.u64.wrap (p0.Last + 1)), Number := 0 } : api_Session)] : _root_.List api_Session).getD j z_api_Session))) #[(0, (.tmp 29))] [(0, (.tmp 29))] [(0, (e_api_Session ({ Id := (IntKind.u64.wrap (p0.Last + 1)), Number := 0 } : api_Session)))] rfl so23 (by decide) ⟨⟨rfl, trivial⟩, trivial⟩ ⟨⟨Nat.le_of_ble_eq_true rfl, rfl, rfl⟩, trivial⟩ (fun j h => match j, h with | 0, _ => rfl | k + 1, h => absurd h (by omega))), ⟨⟨rfl, trivial⟩, trivial, rfl⟩, rfl,
      Step.plain rfl (does_appendL e_api_Session z_api_Session (([] : _root_.List api_Session) ++ p0.List) ([({ Id := (IntKind.u64.wrap (p0.Last + 1)), Number := 0 } : api_Session)] : _root_.List api_Session) 23 2 16 3 5 25 30 ap23 h3), ⟨⟨rfl, rfl, trivial⟩, ⟨rfl, trivial⟩, rfl⟩, rfl,
      Step.plain rfl (does_fieldAddr 25 1 1 5 4 0 [] (.var (.agg (.st [1, 1]) (vupd (c_api_Roster v2) 1 (.own 3)))) fl25_1), ⟨⟨rfl, trivial⟩, ⟨rfl, trivial⟩, rfl⟩, rfl,
      Step.plain rfl (does_storeO 23 32 (.tmp 31) 4 (0 + 1) [1] (.var (.agg (.st [1, 1]) (vupd (c_api_Roster v2) 1 (.own 3)))) (.var (.agg (.st [1, 1]) (vupd (c_api_Roster v2) 1 (.own 5)))) 5 2 ((([] : _root_.List api_Session) ++ p0.List) ++ ([({ Id := (IntKind.u64.wrap (p0.Last + 1)), Number := 0 } : api_Session)] : _root_.List api_Session)).length (fun j => (e_api_Session (((([] : _root_.List api_Session) ++ p0.List) ++ ([({ Id := (IntKind.u64.wrap (p0.Last + 1)), Number := 0 } : api_Session)] : _root_.List api_Session)).getD j z_api_Session))) (.own 5) rfl false trivial ⟨rfl, Nat.le_of_ble_eq_true rfl, trivial⟩ rfl rfl (congrArg Box.var (congrArg (V.agg _) (vupd_vupd _ _ _ _))) ty23), ⟨⟨rfl, rfl, trivial⟩, ⟨rfl, rfl, trivial⟩, rfl⟩, rfl, rfl⟩ ?_
    obtain ⟨v4, hv4, H⟩ := lt_of H
    refine aw_cov (cov_prune (s1 := ⟨[(1, (.ptr 0 0 [])), (2, (.ptr 1 0 [])), (5, (.ptr 4 0 []))], [(0, some (.var (e_api_Roster p0))), (1, some (.var (e_api_Roster z_api_Roster))), (4, some (.var (.agg (.st [1, 1]) (vupd (c_api_Roster v2) 1 (.own 5))))), (5, some (.arr 2 v4.length fun j => (e_api_Session (v4.getD j z_api_Session))))], 6⟩) ⟨rfl, rfl, rfl, trivial⟩ ⟨rfl, rfl, rfl, (by subst hv4; rfl), trivial⟩ (Nat.le_refl _)) ?_
    refine aw_draw (es := [_, _, _, _, _, _, _]) (mixed) ⟨Step.plain rfl (does_load 25 5 4 0 [] (.var (.agg (.st [1, 1]) (vupd (c_api_Roster v2) 1 (.own 5)))) (.agg (.st [1, 1]) (vupd (c_api_Roster v2) 1 (.own 5))) trivial rfl rfl ty25), ⟨⟨rfl, trivial⟩, ⟨rfl, trivial⟩, rfl⟩, rfl,
      Step.plain rfl (does_fieldAddr 25 0 0 1 0 0 [] (.var (e_api_Roster p0)) fl25_0), ⟨⟨rfl, trivial⟩, ⟨rfl, trivial⟩, rfl⟩, rfl,
      Step.plain rfl (does_load 22 34 0 (0 + 0) [0] (.var (e_api_Roster p0)) (.int .u64 p0.Last) ⟨rfl, Nat.le_of_ble_eq_true rfl, trivial⟩ rfl rfl ty22), ⟨⟨rfl, trivial⟩, ⟨rfl, trivial⟩, rfl⟩, rfl,
      Step.plain rfl (does_bin .add 22 22 (.tmp 35) (.const (.int .u64 1)) .u64 p0.Last 1 (.int .u64 (IntKind.u64.wrap (p0.Last + 1))) trivial (fun _ => rfl) (bin_add _ _ _ _)), ⟨⟨rfl, trivial⟩, trivial, rfl⟩, rfl,
      Step.plain rfl (does_store 25 2 (.tmp 33) 1 0 [] (.var (e_api_Roster z_api_Roster)) (.var (.agg (.st [1, 1]) (vupd (c_api_Roster v2) 1 (.own 5)))) (.agg (.st [1, 1]) (vupd (c_api_Roster v2) 1 (.own 5))) true trivial rfl trivial rfl rfl rfl ty25), ⟨⟨rfl, rfl, trivial⟩, ⟨rfl, trivial⟩, rfl⟩, rfl,
      Step.plain rfl (does_assign (.tmp 36) (.int .u64 (IntKind.u64.wrap (p0.Last + 1))) trivial), ⟨⟨rfl, trivial⟩, trivial, rfl⟩, rfl,
      Step.plain rfl (does_assign (.const (.int .i64 0)) (.int .i64 0) (fun _ => rfl)), ⟨trivial, trivial, rfl⟩, rfl, rfl⟩ rfl ?_
    refine aw_cov (cov_prune (s1 := ⟨[(2, (.ptr 1 0 [])), (3, (.int .u64 (IntKind.u64.wrap (p0.Last + 1)))), (4, (.int .i64 0))], [(1, some (.var (.agg (.st [1, 1]) (vupd (c_api_Roster v2) 1 (.own 5))))), (5, some (.arr 2 v4.length fun j => (e_api_Session (v4.getD j z_api_Session))))], 6⟩) ⟨rfl, rfl, rfl, trivial⟩ ⟨rfl, rfl, trivial⟩ (Nat.le_refl _)) ?_
    refine aw_ret ?_
    exact fun a w hr => ⟨_, [(e_api_Roster ({ v2 with List := v4 })), (.int .u64 (IntKind.u64.wrap (p0.Last + 1))), (.int .i64 0)], hr, ⟨⟨1, _, rfl, rfl, .agg _ _ _ (fun j hj => match j, hj with | 0, _ => ⟨rfl, rfl⟩ | 1, _ => ⟨rfl, rfl⟩ | k + 2, hj => absurd (show k + 2 < 2 from hj) (by omega)) (fun j hj => match j, hj with | 0, _ => .data (.int .u64 (({ v2 with List := v4 }).Last)) (trivial) | 1, _ => .own _ _ _ _ rfl (fun _ => (d_api_Session _)) | k + 2, hj => absurd (show k + 2 < 2 from hj) (by omega)), ty25⟩, ⟨_, rfl, .data (.int .u64 (IntKind.u64.wrap (p0.Last + 1))) trivial⟩, ⟨_, rfl, .data (.int .i64 0) trivial⟩, trivial⟩, by decide, by cases H; rfl⟩

theorem slices_IndexFunc_api_Session_api_Session_spec (p0 : (_root_.List api_Session)) (p1 : (api_Session → Option (Bool))) (k1 n1 : Nat) (c1 : Nat → V) (o1 : FnOk Try.prog k1) (h1 : ∀ j, (c1 j).Cap) (g1 : ∀ (x0 : api_Session) (r : Bool), p1 x0 = some r → FSpec Try.prog k1 ([(e_api_Session x0)] ++ (List.range n1).map c1) (.bool r)) (r : Int) (H : slices_IndexFunc_api_Session_api_Session p0 p1 = some r) : FSpec Try.prog 23 [(e_s_api_Session p0), (.fn k1 n1 c1)] (.int .i64 r) := by
  refine spec_of (fn := Try.f23) (args := [(e_s_api_Session p0), (.fn k1 n1 c1)]) Try.func23 rfl (Nat.le_of_ble_eq_true rfl) ?_
  rintro ⟨G, w0, W, S, Sp⟩ hG
  cases hG
  unfold slices_IndexFunc_api_Session_api_Session at H
  refine aw_region (es := [_]) ⟨Step.plain rfl (does_assign (.const (.int .i64 0)) (.int .i64 0) (fun _ => rfl)), ⟨trivial, trivial, rfl⟩, rfl, rfl⟩ ?_
  refine aw_cov (cov_prune (s1 := ⟨[(0, (e_s_api_Session p0)), (1, (.fn k1 n1 c1))], [], 0⟩) ⟨rfl, rfl, trivial⟩ trivial (Nat.le_refl _)) ?_
  refine aw_seq ?_
  refine aw_region (es := [_, _, _]) ⟨Step.plain rfl (does_move (.tmp 0) (e_s_api_Session p0) trivial), ⟨⟨rfl, trivial⟩, trivial, rfl⟩, rfl,
    Step.plain rfl (does_lens 23 2 p0.length 6 (fun j => (e_api_Session (p0.getD j z_api_Session))) el23), ⟨⟨rfl, trivial⟩, trivial, rfl⟩, rfl,
    Step.plain rfl (does_move (.const (.int .i64 0)) (.int .i64 0) (fun _ => rfl)), ⟨trivial, trivial, rfl⟩, rfl, rfl⟩ ?_
  refine aw_cov (cov_prune (s1 := ⟨[(0, (e_s_api_Session p0)), (1, (.fn k1 n1 c1)), (7, (.int .i64 (p0.length : Int))), (8, (.int .i64 0))], [], 0⟩) ⟨rfl, rfl, rfl, rfl, trivial⟩ trivial (Nat.le_refl _)) ?_
  obtain ⟨wn2, hwn2, Hrn2⟩ := bnd H
  refine aw_meet (fun y6 : Unit => (⟨[], [], 0⟩ : St)) (fun y6 => Fl.nx y6 = wn2) (fun y6 hy => ?_) (aw_block (aw_runs (fun x1 : Int => (⟨[(0, (e_s_api_Session p0)), (1, (.fn k1 n1 c1)), (7, (.int .i64 (p0.length : Int))), (8, (.int .i64 x1))], [], 0⟩ : St)) hwn2 (cov_prune ⟨rfl, rfl, rfl, rfl, trivial⟩ trivial (Nat.le_of_ble_eq_true rfl)) (fun x1 st H hsn2 => ?_)))
  · have H := nx_of hy Hrn2
    refine nx_seq ?_
    refine aw_region (es := [_]) ⟨Step.plain rfl (does_assign (.const (.int .i64 (-1))) (.int .i64 (-1)) (fun _ => rfl)), ⟨trivial, trivial, rfl⟩, rfl, rfl⟩ ?_
    refine aw_cov (cov_prune (s1 := ⟨[(4, (.int .i64 (-1)))], [], 0⟩) ⟨rfl, trivial⟩ trivial (Nat.le_refl _)) ?_
    refine aw_ret ?_
    exact fun a w hr => ⟨_, [(.int .i64 (-1))], hr, ⟨⟨_, rfl, .data (.int .i64 (-1)) trivial⟩, trivial⟩, by decide, by cases H; rfl⟩
  · refine aw_region (es := [_]) ⟨Step.plain rfl (does_bin .lss 3 3 (.tmp 8) (.tmp 7) .i64 x1 (p0.length : Int) (.bool (decide (x1 < (p0.length : Int)))) trivial trivial (bin_lss _ _ _ _)), ⟨⟨rfl, rfl, trivial⟩, trivial, rfl⟩, rfl, rfl⟩ ?_
    refine aw_cov (cov_prune (s1 := ⟨[(0, (e_s_api_Session p0)), (1, (.fn k1 n1 c1)), (7, (.int .i64 (p0.length : Int))), (8, (.int .i64 x1)), (9, (.bool (decide (x1 < (p0.length : Int)))))], [], 0⟩) ⟨rfl, rfl, rfl, rfl, rfl, trivial⟩ trivial (Nat.le_refl _)) ?_
    refine aw_seq ?_
    refine aw_cond rfl (fun hc => ?_) (fun hc => ?_)
    · replace H := ite_t hc H
      refine aw_skip ?_
      refine nx_seq ?_
      refine aw_seq ?_
      refine aw_block ?_
      refine aw_region (es := [_, _]) ⟨Step.plain rfl (does_move (.tmp 8) (.int .i64 x1) trivial), ⟨⟨rfl, trivial⟩, trivial, rfl⟩, rfl,
        Step.plain rfl (does_assign (.tmp 10) (.int .i64 x1) trivial), ⟨⟨rfl, trivial⟩, trivial, rfl⟩, rfl, rfl⟩ ?_
      refine aw_cov (cov_prune (s1 := ⟨[(0, (e_s_api_Session p0)), (1, (.fn k1 n1 c1)), (7, (.int .i64 (p0.length : Int))), (8, (.int .i64 x1)), (5, (.int .i64 x1))], [], 0⟩) ⟨rfl, rfl, rfl, rfl, rfl, trivial⟩ trivial (Nat.le_refl _)) ?_
      obtain ⟨h3, H⟩ := ib_of H
      obtain ⟨v4, h5, H⟩ := bnd H
      refine aw_region (es := [_, _, _, _, _, _]) ⟨Step.plain rfl (does_move (.tmp 1) (.fn k1 n1 c1) trivial), ⟨⟨rfl, trivial⟩, trivial, rfl⟩, rfl,
        Step.plain rfl (does_move (.tmp 0) (e_s_api_Session p0) trivial), ⟨⟨rfl, trivial⟩, trivial, rfl⟩, rfl,
        Step.plain rfl (does_move (.tmp 5) (.int .i64 x1) trivial), ⟨⟨rfl, trivial⟩, trivial, rfl⟩, rfl,
        Step.plain rfl (does_indexAddrs 23 2 p0.length 12 (fun j => (e_api_Session (p0.getD j z_api_Session))) (.tmp 13) .i64 x1 el23 trivial h3.1 h3.2), ⟨⟨rfl, rfl, trivial⟩, trivial, rfl⟩, rfl,
        Step.plain rfl (does_loadc 41 14 (e_api_Session (p0.getD x1.toNat z_api_Session)) ty41), ⟨⟨rfl, trivial⟩, trivial, rfl⟩, rfl,
        Step.plain rfl (does_callf k1 n1 c1 11 [(.tmp 15)] [(e_api_Session (p0.getD x1.toNat z_api_Session))] [(e_api_Session (p0.getD x1.toNat z_api_Session))] [] true (.bool v4) _ _ rfl o1 ⟨trivial, trivial⟩ ⟨.data _ (d_api_Session (p0.getD x1.toNat z_api_Session)), trivial⟩ h1 (g1 (p0.getD x1.toNat z_api_Session) _ h5) trivial), ⟨⟨rfl, rfl, trivial⟩, trivial, rfl⟩, rfl, rfl⟩ ?_
      refine aw_cov (cov_prune (s1 := ⟨[(0, (e_s_api_Session p0)), (1, (.fn k1 n1 c1)), (7, (.int .i64 (p0.length : Int))), (8, (.int .i64 x1)), (5, (.int .i64 x1)), (16, (.bool v4))], [], 0⟩) ⟨rfl, rfl, rfl, rfl, rfl, rfl, trivial⟩ trivial (Nat.le_refl _)) ?_
      refine aw_cond rfl (fun hc => ?_) (fun hc => ?_)
      · replace H := ite_t hc H
        refine aw_region (es := [_, _]) ⟨Step.plain rfl (does_move (.tmp 5) (.int .i64 x1) trivial), ⟨⟨rfl, trivial⟩, trivial, rfl⟩, rfl,
          Step.plain rfl (does_assign (.tmp 17) (.int .i64 x1) trivial), ⟨⟨rfl, trivial⟩, trivial, rfl⟩, rfl, rfl⟩ ?_
        refine aw_cov (cov_prune (s1 := ⟨[(4, (.int .i64 x1))], [], 0⟩) ⟨rfl, trivial⟩ trivial (Nat.le_refl _)) ?_
        refine aw_ret ?_
        replace H := rt_of H hsn2 Hrn2
        refine rt_blk ?_
        refine rt_then ?_
        refine rt_then ?_
        refine rt_blk ?_
        refine rt_then ?_
        refine rt_then ?_
        exact fun a w hr => ⟨_, [(.int .i64 x1)], hr, ⟨⟨_, rfl, .data (.int .i64 x1) trivial⟩, trivial⟩, by decide, by cases H; rfl⟩
      · replace H := ite_f hc H
        refine aw_skip ?_
        refine nx_blk ?_
        refine nx_seq ?_
        refine aw_region1 (es := [_, _]) ⟨Step.plain rfl (does_bin .add 3 3 (.tmp 8) (.const (.int .i64 1)) .i64 x1 1 (.int .i64 (IntKind.i64.wrap (x1 + 1))) trivial (fun _ => rfl) (bin_add _ _ _ _)), ⟨⟨rfl, trivial⟩, trivial, rfl⟩, rfl,
          Step.plain rfl (does_move (.tmp 18) (.int .i64 (IntKind.i64.wrap (x1 + 1))) trivial), ⟨⟨rfl, trivial⟩, trivial, rfl⟩, rfl, rfl⟩ ?_
        exact nx_loop ((IntKind.i64.wrap (x1 + 1))) H (cov_prune ⟨rfl, rfl, rfl, rfl, trivial⟩ trivial (Nat.le_of_ble_eq_true rfl))
    · replace H := ite_f hc H
      refine aw_exit ?_
      refine ex_then ?_
      refine ex_then ?_
      refine ex_here ?_
      exact nx_ljoin () H hsn2 (cov_prune trivial trivial (Nat.le_of_ble_eq_true rfl))

theorem roster_find_1_spec (p0 : api_Session) (q0 : Int) (r : Bool) (H : roster_find_1 p0 q0 = some r) : FSpec Try.prog 24 [(e_api_Session p0), (.cptr (.int .u64 q0))] (.bool r) := by
  refine spec_of (fn := Try.f24) (args := [(e_api_Session p0), (.cptr (.int .u64 q0))]) Try.func24 rfl (Nat.le_of_ble_eq_true rfl) ?_
  rintro ⟨G, w0, W, S, Sp⟩ hG
  cases hG
  unfold roster_find_1 at H
  refine aw_region (es := [_, _]) ⟨Step.plain rfl (does_box 41 (.tmp 0) 0 (e_api_Session p0) trivial rfl), ⟨⟨rfl, trivial⟩, trivial, rfl⟩, rfl,
    Step.plain rfl (does_assign (.const (.bool false)) (.bool false) (fun _ => rfl)), ⟨trivial, trivial, rfl⟩, rfl, rfl⟩ ?_
  refine aw_cov (cov_prune (s1 := ⟨[(1, (.cptr (.int .u64 q0))), (2, (.ptr 0 0 []))], [(0, some (.var (e_api_Session p0)))], 1⟩) ⟨rfl, rfl, trivial⟩ ⟨rfl, trivial⟩ (Nat.le_refl _)) ?_
  refine aw_region (es := [_, _, _, _, _]) ⟨Step.plain rfl (does_fieldAddr 41 0 0 2 0 0 [] (.var (e_api_Session p0)) fl41_0), ⟨⟨rfl, trivial⟩, ⟨rfl, trivial⟩, rfl⟩, rfl,
    Step.plain rfl (does_load 22 4 0 (0 + 0) [0] (.var (e_api_Session p0)) (.int .u64 p0.Id) ⟨rfl, Nat.le_of_ble_eq_true rfl, trivial⟩ rfl rfl ty22), ⟨⟨rfl, trivial⟩, ⟨rfl, trivial⟩, rfl⟩, rfl,
    Step.plain rfl (does_loadc 22 1 (.int .u64 q0) ty22), ⟨⟨rfl, trivial⟩, trivial, rfl⟩, rfl,
    Step.plain rfl (does_bin .eql 22 22 (.tmp 5) (.tmp 6) .u64 p0.Id q0 (.bool (p0.Id == q0)) trivial trivial (bin_eql _ _ _ _)), ⟨⟨rfl, rfl, trivial⟩, trivial, rfl⟩, rfl,
    Step.plain rfl (does_assign (.tmp 7) (.bool (p0.Id == q0)) trivial), ⟨⟨rfl, trivial⟩, trivial, rfl⟩, rfl, rfl⟩ ?_
  refine aw_cov (cov_prune (s1 := ⟨[(3, (.bool (p0.Id == q0)))], [], 1⟩) ⟨rfl, trivial⟩ trivial (Nat.le_refl _)) ?_
  refine aw_ret ?_
  exact fun a w hr => ⟨_, [(.bool (p0.Id == q0))], hr, ⟨⟨_, rfl, .data (.bool (p0.Id == q0)) trivial⟩, trivial⟩, by decide, by cases H; rfl⟩

theorem roster_find_spec (p0 : api_Roster) (p1 : Int) (r : Int) (H : roster_find p0 p1 = some r) : FSpec Try.prog 20 [(e_api_Roster p0), (.int .u64 p1)] (.int .i64 r) := by
  refine spec_of (fn := Try.f20) (args := [(e_api_Roster p0), (.int .u64 p1)]) Try.func20 rfl (Nat.le_of_ble_eq_true rfl) ?_
  rintro ⟨G, w0, W, S, Sp⟩ hG
  cases hG
  unfold roster_find at H
  refine aw_region (es := [_, _, _]) ⟨Step.plain rfl (does_box 25 (.tmp 0) 0 (e_api_Roster p0) trivial rfl), ⟨⟨rfl, trivial⟩, trivial, rfl⟩, rfl,
    Step.plain rfl (does_box 22 (.tmp 1) 1 (.int .u64 p1) trivial rfl), ⟨⟨rfl, trivial⟩, trivial, rfl⟩, rfl,
    Step.plain rfl (does_assign (.const (.int .i64 0)) (.int .i64 0) (fun _ => rfl)), ⟨trivial, trivial, rfl⟩, rfl, rfl⟩ ?_
  refine aw_cov (cov_prune (s1 := ⟨[(2, (.ptr 0 0 [])), (3, (.ptr 1 0 []))], [(0, some (.var (e_api_Roster p0))), (1, some (.var (.int .u64 p1)))], 2⟩) ⟨rfl, rfl, trivial⟩ ⟨rfl, rfl, trivial⟩ (Nat.le_refl _)) ?_
  obtain ⟨v1, h2, H⟩ := bnd H
  refine aw_region (es := [_, _, _, _, _]) ⟨Step.plain rfl (does_fieldAddr 25 1 1 2 0 0 [] (.var (e_api_Roster p0)) fl25_1), ⟨⟨rfl, trivial⟩, ⟨rfl, trivial⟩, rfl⟩, rfl,
    Step.plain rfl (does_load 23 5 0 (0 + 1) [1] (.var (e_api_Roster p0)) (e_s_api_Session p0.List) ⟨rfl, Nat.le_of_ble_eq_true rfl, trivial⟩ rfl rfl ty23), ⟨⟨rfl, trivial⟩, ⟨rfl, trivial⟩, rfl⟩, rfl,
    Step.plain rfl (does_makeFunc 24 [(.tmp 3)] [(.ptr 1 0 [])] #[(.tmp 3)] rfl ⟨trivial, trivial⟩), ⟨⟨rfl, trivial⟩, trivial, rfl⟩, rfl,
    Step.plain rfl (does_call 23 0 (fun _ => .any) (.func 23) [(.tmp 6), (.tmp 7)] [(e_s_api_Session p0.List), (.fn 24 1 (fun j => ([(.ptr 1 0 [])] : _root_.List V).getD j (.bool false)))] [(1, (.var (.int .u64 p1)))] true [(e_s_api_Session p0.List), (.fn 24 1 (fun j => ([.cptr (.int .u64 p1)] : _root_.List V).getD j (.bool false)))] (.int .i64 v1) _ _ rfl fo23 rfl ⟨trivial, trivial, trivial⟩ ⟨.data _ (d_s_api_Session p0.List), .fn _ _ _ _ (fun j hj => match j, hj with | 0, _ => .ptr 1 0 [] (.var (.int .u64 p1)) (.int .u64 p1) (.head _) trivial rfl rfl trivial | k + 1, hj => absurd hj (by omega)), trivial⟩ (slices_IndexFunc_api_Session_api_Session_spec p0.List (fun z0 => roster_find_1 z0 p1) 24 1 (fun j => ([.cptr (.int .u64 p1)] : _root_.List V).getD j (.bool false)) fo24 (fun j => match j with | 0 => .inr ⟨(.int .u64 p1), trivial, rfl⟩ | _ + 1 => .inl trivial) (fun z0 r h => roster_find_1_spec z0 p1 r h) _ h2) trivial), ⟨⟨rfl, rfl, trivial⟩, ⟨rfl, trivial⟩, rfl⟩, rfl,
    Step.plain rfl (does_assign (.tmp 8) (.int .i64 v1) trivial), ⟨⟨rfl, trivial⟩, trivial, rfl⟩, rfl, rfl⟩ ?_
  refine aw_cov (cov_prune (s1 := ⟨[(4, (.int .i64 v1))], [], 2⟩) ⟨rfl, trivial⟩ trivial (Nat.le_refl _)) ?_
  refine aw_ret ?_
  exact fun a w hr => ⟨_, [(.int .i64 v1)], hr, ⟨⟨_, rfl, .data (.int .i64 v1) trivial⟩, trivial⟩, by decide, by cases H; rfl⟩

theorem slices_Delete_api_Session_api_Session_spec (p0 : (_root_.List api_Session)) (p1 : Int) (p2 : Int) (r : (_root_.List api_Session)) (H : slices_Delete_api_Session_api_Session p0 p1 p2 = some r) : FSpecO Try.prog 21 [(.own 0), (.int .i64 p1), (.int .i64 p2)] [(0, some (.arr 2 p0.length fun j => (e_api_Session (p0.getD j z_api_Session))))] 1 (.own 0) [(0, some (.arr 2 r.length fun j => (e_api_Session (r.getD j z_api_Session))))] 1 := by
  refine specO_of (fn := Try.f21) (args := [(.own 0), (.int .i64 p1), (.int .i64 p2)]) Try.func21 rfl (Nat.le_of_ble_eq_true rfl) ?_
  rintro ⟨G, w0, W, S, Sp⟩ hG
  cases hG
  unfold slices_Delete_api_Session_api_Session at H
  refine aw_region (es := [_]) ⟨Step.plain rfl (does_nil false 1 2 (fun j => (e_api_Session (([] : _root_.List api_Session).getD j z_api_Session)))), ⟨trivial, trivial, rfl⟩, rfl, rfl⟩ ?_
  refine aw_cov (cov_prune (s1 := ⟨[(0, (.own 0)), (1, (.int .i64 p1)), (2, (.int .i64 p2))], [(0, some (.arr 2 p0.length fun j => (e_api_Session (p0.getD j z_api_Session))))], 2⟩) ⟨rfl, rfl, rfl, trivial⟩ ⟨rfl, trivial⟩ (Nat.le_refl _)) ?_
  obtain ⟨h1, H⟩ := sb_of H
  obtain ⟨h2, H⟩ := sb_of H
  refine aw_region (es := [_, _, _, _, _, _]) ⟨Step.plain rfl (does_move (.tmp 0) (.own 0) trivial), ⟨⟨rfl, trivial⟩, trivial, rfl⟩, rfl,
    Step.plain rfl (does_move (.tmp 1) (.int .i64 p1) trivial), ⟨⟨rfl, trivial⟩, trivial, rfl⟩, rfl,
    Step.plain rfl (does_move (.tmp 2) (.int .i64 p2) trivial), ⟨⟨rfl, trivial⟩, trivial, rfl⟩, rfl,
    Step.plain rfl (does_move (.tmp 0) (.own 0) trivial), ⟨⟨rfl, trivial⟩, trivial, rfl⟩, rfl,
    Step.plain rfl (does_leno 23 2 p0.length 11 0 (fun j => (e_api_Session (p0.getD j z_api_Session))) el23), ⟨⟨rfl, trivial⟩, ⟨rfl, trivial⟩, rfl⟩, rfl,
    Step.plain rfl (does_slice3 23 2 p0.length 8 0 (fun j => (e_api_Session (p0.getD j z_api_Session))) (.tmp 9) (.tmp 10) (.tmp 12) .i64 .i64 .i64 p1 p2 (p0.length : Int) el23 trivial trivial trivial h1.1 h1.2.1 h2.2.1 h2.2.2), ⟨⟨rfl, rfl, rfl, rfl, trivial⟩, ⟨rfl, trivial⟩, rfl⟩, rfl, rfl⟩ ?_
  refine aw_cov (cov_prune (s1 := ⟨[(0, (.own 0)), (1, (.int .i64 p1)), (2, (.int .i64 p2))], [(0, some (.arr 2 p0.length fun j => (e_api_Session (p0.getD j z_api_Session))))], 2⟩) ⟨rfl, rfl, rfl, trivial⟩ ⟨rfl, trivial⟩ (Nat.le_refl _)) ?_
  refine aw_seq ?_
  refine aw_region (es := [_, _, _]) ⟨Step.plain rfl (does_move (.tmp 1) (.int .i64 p1) trivial), ⟨⟨rfl, trivial⟩, trivial, rfl⟩, rfl,
    Step.plain rfl (does_move (.tmp 2) (.int .i64 p2) trivial), ⟨⟨rfl, trivial⟩, trivial, rfl⟩, rfl,
    Step.plain rfl (does_bin .eql 3 3 (.tmp 14) (.tmp 15) .i64 p1 p2 (.bool (p1 == p2)) trivial trivial (bin_eql _ _ _ _)), ⟨⟨rfl, rfl, trivial⟩, trivial, rfl⟩, rfl, rfl⟩ ?_
  refine aw_cov (cov_prune (s1 := ⟨[(0, (.own 0)), (1, (.int .i64 p1)), (2, (.int .i64 p2)), (16, (.bool (p1 == p2)))], [(0, some (.arr 2 p0.length fun j => (e_api_Session (p0.getD j z_api_Session))))], 2⟩) ⟨rfl, rfl, rfl, rfl, trivial⟩ ⟨rfl, trivial⟩ (Nat.le_refl _)) ?_
  refine aw_cond rfl (fun hc => ?_) (fun hc => ?_)
  · replace H := ite_t hc H
    refine aw_region (es := [_, _]) ⟨Step.plain rfl (does_move (.tmp 0) (.own 0) trivial), ⟨⟨rfl, trivial⟩, trivial, rfl⟩, rfl,
      Step.plain rfl (does_assign (.tmp 17) (.own 0) trivial), ⟨⟨rfl, trivial⟩, trivial, rfl⟩, rfl, rfl⟩ ?_
    refine aw_cov (cov_prune (s1 := ⟨[(6, (.own 0))], [(0, some (.arr 2 p0.length fun j => (e_api_Session (p0.getD j z_api_Session))))], 2⟩) ⟨rfl, trivial⟩ ⟨rfl, trivial⟩ (Nat.le_refl _)) ?_
    refine aw_ret ?_
    refine rt_then ?_
    exact fun a w hr => ⟨_, [(.own 0)], reach_of hr (cov_to (s1 := ⟨[(6, (.own 0))], [(0, some (.arr 2 p0.length fun j => (e_api_Session (p0.getD j z_api_Session))))], 1⟩) (fun i => match i with | 0 => 0 | k => k) [] ⟨⟨_, rfl, .own 0 _ _ (Nat.le_of_ble_eq_true rfl) rfl rfl (Box.like_refl _)⟩, trivial⟩ ⟨⟨Nat.le_of_ble_eq_true rfl, _, _, rfl, rfl, boxTo_arr (fun _ => (d_api_Session _))⟩, trivial⟩ rfl rfl), ⟨rfl, trivial⟩, by decide, by cases H; rfl, by cases H; exact ⟨rfl, trivial⟩, Nat.le_of_ble_eq_true rfl⟩
  · replace H := ite_f hc H
    refine aw_skip ?_
    refine nx_seq ?_
    refine aw_region (es := [_, _, _]) ⟨Step.plain rfl (does_move (.tmp 0) (.own 0) trivial), ⟨⟨rfl, trivial⟩, trivial, rfl⟩, rfl,
      Step.plain rfl (does_leno 23 2 p0.length 18 0 (fun j => (e_api_Session (p0.getD j z_api_Session))) el23), ⟨⟨rfl, trivial⟩, ⟨rfl, trivial⟩, rfl⟩, rfl,
      Step.plain rfl (does_assign (.tmp 19) (.int .i64 (p0.length : Int)) trivial), ⟨⟨rfl, trivial⟩, trivial, rfl⟩, rfl, rfl⟩ ?_
    refine aw_cov (cov_prune (s1 := ⟨[(0, (.own 0)), (1, (.int .i64 p1)), (2, (.int .i64 p2)), (7, (.int .i64 (p0.length : Int)))], [(0, some (.arr 2 p0.length fun j => (e_api_Session (p0.getD j z_api_Session))))], 2⟩) ⟨rfl, rfl, rfl, rfl, trivial⟩ ⟨rfl, trivial⟩ (Nat.le_refl _)) ?_
    obtain ⟨h3, H⟩ := sb_of H
    obtain ⟨h4, H⟩ := sb_of H
    obtain ⟨h5, H⟩ := inb_of H
    obtain ⟨h6, H⟩ := inb_of H
    refine aw_draw (es := [_, _, _, _, _, _, _, _]) (mixed) ⟨Step.plain rfl (does_move (.tmp 0) (.own 0) trivial), ⟨⟨rfl, trivial⟩, trivial, rfl⟩, rfl,
      Step.plain rfl (does_move (.tmp 1) (.int .i64 p1) trivial), ⟨⟨rfl, trivial⟩, trivial, rfl⟩, rfl,
      Step.plain rfl (does_sliceo 23 2 p0.length 20 0 0 p1.toNat (fun j => (e_api_Session (p0.getD j z_api_Session))) none (some ((.tmp 21), .i64, p1)) _ _ el23 rfl rfl trivial trivial rfl (Int.toNat_of_nonneg (Int.le_trans h3.1 h3.2.1)).symm (by omega) (by omega)), ⟨⟨rfl, rfl, trivial⟩, ⟨rfl, trivial⟩, rfl⟩, rfl,
      Step.plain rfl (does_move (.tmp 0) (.own 0) trivial), ⟨⟨rfl, trivial⟩, trivial, rfl⟩, rfl,
      Step.plain rfl (does_move (.tmp 2) (.int .i64 p2) trivial), ⟨⟨rfl, trivial⟩, trivial, rfl⟩, rfl,
      Step.plain rfl (does_sliceo 23 2 p0.length 23 0 p2.toNat p0.length (fun j => (e_api_Session (p0.getD j z_api_Session))) (some ((.tmp 24), .i64, p2)) none _ _ el23 rfl rfl trivial trivial (Int.toNat_of_nonneg h4.1).symm rfl (by omega) (by omega)), ⟨⟨rfl, rfl, trivial⟩, ⟨rfl, trivial⟩, rfl⟩, rfl,
      Step.plain rfl (does_appendVL e_api_Session z_api_Session p0 23 2 16 22 25 0 (p1.toNat - 0) p2.toNat (p0.length - p2.toNat) ap23 h5 h6), ⟨⟨rfl, rfl, trivial⟩, ⟨rfl, trivial⟩, rfl⟩, rfl,
      Step.plain rfl (does_assign (.tmp 26) (.view 0 0 ((p1.toNat - 0) + (p0.length - p2.toNat))) trivial), ⟨⟨rfl, trivial⟩, trivial, rfl⟩, rfl, rfl⟩ rfl ?_
    refine aw_cov (cov_prune (s1 := ⟨[(7, (.int .i64 (p0.length : Int))), (0, (.view 0 0 ((p1.toNat - 0) + (p0.length - p2.toNat))))], [(0, some (.arr 2 (shf p0 z_api_Session (p1.toNat - 0) p2.toNat (p0.length - p2.toNat)).length fun j => (e_api_Session ((shf p0 z_api_Session (p1.toNat - 0) p2.toNat (p0.length - p2.toNat)).getD j z_api_Session))))], 2⟩) ⟨rfl, rfl, trivial⟩ ⟨rfl, trivial⟩ (Nat.le_refl _)) ?_
    obtain ⟨h7, H⟩ := sb_of H
    obtain ⟨h8, H⟩ := inb_of H
    refine aw_region (es := [_, _, _, _, _, _]) ⟨Step.plain rfl (does_move (.tmp 0) (.view 0 0 ((p1.toNat - 0) + (p0.length - p2.toNat))) trivial), ⟨⟨rfl, trivial⟩, trivial, rfl⟩, rfl,
      Step.plain rfl (does_move (.tmp 0) (.view 0 0 ((p1.toNat - 0) + (p0.length - p2.toNat))) trivial), ⟨⟨rfl, trivial⟩, trivial, rfl⟩, rfl,
      Step.plain rfl (does_lenv 23 2 (shf p0 z_api_Session (p1.toNat - 0) p2.toNat (p0.length - p2.toNat)).length 28 0 ((p1.toNat - 0) + (p0.length - p2.toNat)) (fun j => (e_api_Session ((shf p0 z_api_Session (p1.toNat - 0) p2.toNat (p0.length - p2.toNat)).getD j z_api_Session))) el23), ⟨⟨rfl, trivial⟩, ⟨rfl, trivial⟩, rfl⟩, rfl,
      Step.plain rfl (does_move (.tmp 7) (.int .i64 (p0.length : Int)) trivial), ⟨⟨rfl, trivial⟩, trivial, rfl⟩, rfl,
      Step.plain rfl (does_slicev 23 2 (shf p0 z_api_Session (p1.toNat - 0) p2.toNat (p0.length - p2.toNat)).length 27 0 ((p1.toNat - 0) + (p0.length - p2.toNat)) (((((p1.toNat - 0) + (p0.length - p2.toNat)) : Nat) : Int).toNat) ((p0.length : Int).toNat) (fun j => (e_api_Session ((shf p0 z_api_Session (p1.toNat - 0) p2.toNat (p0.length - p2.toNat)).getD j z_api_Session))) (some ((.tmp 29), .i64, ((((p1.toNat - 0) + (p0.length - p2.toNat)) : Nat) : Int))) (some ((.tmp 30), .i64, (p0.length : Int))) _ _ el23 rfl rfl trivial trivial (Int.toNat_of_nonneg h7.1).symm (Int.toNat_of_nonneg (Int.le_trans h7.1 h7.2.1)).symm (by omega) (by omega)), ⟨⟨rfl, rfl, rfl, trivial⟩, ⟨rfl, trivial⟩, rfl⟩, rfl,
      Step.plain rfl (does_clearL e_api_Session z_api_Session (shf p0 z_api_Session (p1.toNat - 0) p2.toNat (p0.length - p2.toNat)) 23 2 31 0 (((((p1.toNat - 0) + (p0.length - p2.toNat)) : Nat) : Int).toNat) (((p0.length : Int).toNat) - (((((p1.toNat - 0) + (p0.length - p2.toNat)) : Nat) : Int).toNat)) so23 h8), ⟨⟨rfl, trivial⟩, ⟨rfl, trivial⟩, rfl⟩, rfl, rfl⟩ ?_
    obtain ⟨v9, hv9, H⟩ := lt_of H
    refine aw_cov (cov_prune (s1 := ⟨[(0, (.view 0 0 ((p1.toNat - 0) + (p0.length - p2.toNat))))], [(0, some (.arr 2 v9.length fun j => (e_api_Session (v9.getD j z_api_Session))))], 2⟩) ⟨rfl, trivial⟩ ⟨(by subst hv9; rfl), trivial⟩ (Nat.le_refl _)) ?_
    refine aw_region (es := [_, _]) ⟨Step.plain rfl (does_move (.tmp 0) (.view 0 0 ((p1.toNat - 0) + (p0.length - p2.toNat))) trivial), ⟨⟨rfl, trivial⟩, trivial, rfl⟩, rfl,
      Step.plain rfl (does_assign (.tmp 32) (.view 0 0 ((p1.toNat - 0) + (p0.length - p2.toNat))) trivial), ⟨⟨rfl, trivial⟩, trivial, rfl⟩, rfl, rfl⟩ ?_
    refine aw_cov (cov_prune (s1 := ⟨[(6, (.view 0 0 ((p1.toNat - 0) + (p0.length - p2.toNat))))], [(0, some (.arr 2 v9.length fun j => (e_api_Session (v9.getD j z_api_Session))))], 2⟩) ⟨rfl, trivial⟩ ⟨rfl, trivial⟩ (Nat.le_refl _)) ?_
    refine aw_ret ?_
    obtain ⟨h10, H⟩ := inb_of H
    exact fun a w hr => ⟨_, [(.own 0)], reach_of hr (cov_to (s1 := ⟨[(6, (.own 0))], [(0, some (.arr 2 (v9.take ((p1.toNat - 0) + (p0.length - p2.toNat))).length fun j => (e_api_Session ((v9.take ((p1.toNat - 0) + (p0.length - p2.toNat))).getD j z_api_Session))))], 1⟩) (fun i => match i with | 0 => 0 | k => k) [] ⟨⟨_, rfl, .shr 0 _ _ _ _ _ _ (Nat.le_of_ble_eq_true rfl) rfl rfl (len_take h10)⟩, trivial⟩ ⟨⟨Nat.le_of_ble_eq_true rfl, _, _, rfl, rfl, boxTo_take e_api_Session _ (fun _ => (d_api_Session _))⟩, trivial⟩ rfl rfl), ⟨rfl, trivial⟩, by decide, by cases H; rfl, by cases H; exact ⟨rfl, trivial⟩, Nat.le_of_ble_eq_true rfl⟩

theorem roster_Close_spec (p0 : api_Roster) (p1 : Int) (r : api_Roster × Int) (H : roster_Close p0 p1 = some r) : FSpec Try.prog 9 [(e_api_Roster p0), (.int .u64 p1)] (resV [(e_api_Roster r.1), (.int .i64 r.2)]) := by
  refine spec_of (fn := Try.f9) (args := [(e_api_Roster p0), (.int .u64 p1)]) Try.func9 rfl (Nat.le_of_ble_eq_true rfl) ?_
  rintro ⟨G, w0, W, S, Sp⟩ hG
  cases hG
  unfold roster_Close at H
  refine aw_region (es := [_, _, _]) ⟨Step.plain rfl (does_box 25 (.tmp 0) 0 (e_api_Roster p0) trivial rfl), ⟨⟨rfl, trivial⟩, trivial, rfl⟩, rfl,
    Step.plain rfl (does_alloc 25 1 (e_api_Roster z_api_Roster) zr25), ⟨trivial, trivial, rfl⟩, rfl,
    Step.plain rfl (does_assign (.const (.int .i64 0)) (.int .i64 0) (fun _ => rfl)), ⟨trivial, trivial, rfl⟩, rfl, rfl⟩ ?_
  refine aw_cov (cov_prune (s1 := ⟨[(1, (.int .u64 p1)), (2, (.ptr 0 0 [])), (4, (.ptr 1 0 []))], [(0, some (.var (e_api_Roster p0))), (1, some (.var (e_api_Roster z_api_Roster)))], 2⟩) ⟨rfl, rfl, rfl, trivial⟩ ⟨rfl, rfl, trivial⟩ (Nat.le_refl _)) ?_
  obtain ⟨v1, h2, H⟩ := bnd H
  refine aw_region (es := [_, _, _, _]) ⟨Step.plain rfl (does_load 25 2 0 0 [] (.var (e_api_Roster p0)) (e_api_Roster p0) trivial rfl rfl ty25), ⟨⟨rfl, trivial⟩, ⟨rfl, trivial⟩, rfl⟩, rfl,
    Step.plain rfl (does_move (.tmp 1) (.int .u64 p1) trivial), ⟨⟨rfl, trivial⟩, trivial, rfl⟩, rfl,
    Step.plain rfl (does_call 20 0 (fun _ => .any) (.func 20) [(.tmp 8), (.tmp 9)] [(e_api_Roster p0), (.int .u64 p1)] [] true [(e_api_Roster p0), (.int .u64 p1)] (.int .i64 v1) _ _ rfl fo20 rfl ⟨trivial, trivial, trivial⟩ ⟨.data _ (d_api_Roster p0), .data _ trivial, trivial⟩ (roster_find_spec p0 p1 _ h2) trivial), ⟨⟨rfl, rfl, trivial⟩, trivial, rfl⟩, rfl,
    Step.plain rfl (does_assign (.tmp 10) (.int .i64 v1) trivial), ⟨⟨rfl, trivial⟩, trivial, rfl⟩, rfl, rfl⟩ ?_
  refine aw_cov (cov_prune (s1 := ⟨[(2, (.ptr 0 0 [])), (4, (.ptr 1 0 [])), (6, (.int .i64 v1))], [(0, some (.var (e_api_Roster p0))), (1, some (.var (e_api_Roster z_api_Roster)))], 2⟩) ⟨rfl, rfl, rfl, trivial⟩ ⟨rfl, rfl, trivial⟩ (Nat.le_refl _)) ?_
  refine aw_seq ?_
  refine aw_region (es := [_, _]) ⟨Step.plain rfl (does_move (.tmp 6) (.int .i64 v1) trivial), ⟨⟨rfl, trivial⟩, trivial, rfl⟩, rfl,
    Step.plain rfl (does_bin .lss 3 3 (.tmp 11) (.const (.int .i64 0)) .i64 v1 0 (.bool (decide (v1 < 0))) trivial (fun _ => rfl) (bin_lss _ _ _ _)), ⟨⟨rfl, trivial⟩, trivial, rfl⟩, rfl, rfl⟩ ?_
  refine aw_cov (cov_prune (s1 := ⟨[(2, (.ptr 0 0 [])), (4, (.ptr 1 0 [])), (6, (.int .i64 v1)), (12, (.bool (decide (v1 < 0))))], [(0, some (.var (e_api_Roster p0))), (1, some (.var (e_api_Roster z_api_Roster)))], 2⟩) ⟨rfl, rfl, rfl, rfl, trivial⟩ ⟨rfl, rfl, trivial⟩ (Nat.le_refl _)) ?_
  refine aw_cond rfl (fun hc => ?_) (fun hc => ?_)
  · replace H := ite_t hc H
    refine aw_region (es := [_, _, _]) ⟨Step.plain rfl (does_buildT 25 #[] [] [] (.st [1, 1]) (c_api_Roster z_api_Roster) (c_api_Roster ({ Last := 0, List := [] } : api_Roster)) rfl bo25 trivial trivial (by funext j; match j with | 0 => rfl | 1 => rfl | _ + 2 => rfl)), ⟨trivial, trivial, rfl⟩, rfl,
      Step.plain rfl (does_store 25 4 (.tmp 13) 1 0 [] (.var (e_api_Roster z_api_Roster)) (.var (e_api_Roster ({ Last := 0, List := [] } : api_Roster))) (e_api_Roster ({ Last := 0, List := [] } : api_Roster)) true trivial rfl trivial rfl rfl rfl ty25), ⟨⟨rfl, rfl, trivial⟩, ⟨rfl, trivial⟩, rfl⟩, rfl,
      Step.plain rfl (does_assign (.const (.int .i64 162)) (.int .i64 162) (fun _ => rfl)), ⟨trivial, trivial, rfl⟩, rfl, rfl⟩ ?_
    refine aw_cov (cov_prune (s1 := ⟨[(4, (.ptr 1 0 [])), (5, (.int .i64 162))], [(1, some (.var (e_api_Roster ({ Last := 0, List := [] } : api_Roster))))], 2⟩) ⟨rfl, rfl, trivial⟩ ⟨rfl, trivial⟩ (Nat.le_refl _)) ?_
    refine aw_ret ?_
    refine rt_then ?_
    exact fun a w hr => ⟨_, [(e_api_Roster ({ Last := 0, List := [] } : api_Roster)), (.int .i64 162)], hr, ⟨⟨1, _, rfl, rfl, .data _ (d_api_Roster ({ Last := 0, List := [] } : api_Roster)), ty25⟩, ⟨_, rfl, .data (.int .i64 162) trivial⟩, trivial⟩, by decide, by cases H; rfl⟩
  · replace H := ite_f hc H
    refine aw_skip ?_
    refine nx_seq ?_
    obtain ⟨v3, h4, H⟩ := bnd H
    refine aw_region (es := [_, _, _, _]) ⟨Step.plain rfl (does_load 25 2 0 0 [] (.var (e_api_Roster p0)) (e_api_Roster p0) trivial rfl rfl ty25), ⟨⟨rfl, trivial⟩, ⟨rfl, trivial⟩, rfl⟩, rfl,
      Step.plain rfl (does_callO 19 0 (fun _ => .any) (.func 19) [(.tmp 14)] [(e_api_Roster p0)] [] [] true [(e_api_Roster p0)] _ (.agg (.st [1, 1]) (vupd (c_api_Roster v3) 1 (.own 2))) _ 2 2 _ _ rfl fo19 rfl ⟨trivial, trivial⟩ ⟨.ro _ _ (.data _ (d_api_Roster p0)), trivial⟩ (roster_copied_spec p0 _ h4) rfl (by simp) rfl trivial ⟨⟨Nat.le_of_ble_eq_true rfl, _, rfl, fun _ => (f_api_Session _)⟩, trivial⟩ (.agg _ _ _ (fun j => match j with | 0 => .data _ (trivial) | 1 => .own 0 (Nat.le_of_ble_eq_true rfl) | _ + 2 => .data _ trivial))), ⟨⟨rfl, trivial⟩, trivial, rfl⟩, rfl,
      Step.plain rfl (does_alloc 25 4 (e_api_Roster z_api_Roster) zr25), ⟨trivial, trivial, rfl⟩, rfl,
      Step.plain rfl (does_store 25 7 (.tmp 15) 4 0 [] (.var (e_api_Roster z_api_Roster)) (.var (.agg (.st [1, 1]) (vupd (c_api_Roster v3) 1 (.own 2)))) (.agg (.st [1, 1]) (vupd (c_api_Roster v3) 1 (.own 2))) true trivial rfl trivial rfl rfl rfl ty25), ⟨⟨rfl, rfl, trivial⟩, ⟨rfl, trivial⟩, rfl⟩, rfl, rfl⟩ ?_
    refine aw_cov (cov_prune (s1 := ⟨[(4, (.ptr 1 0 [])), (6, (.int .i64 v1)), (7, (.ptr 4 0 []))], [(1, some (.var (e_api_Roster z_api_Roster))), (2, some (.arr 2 v3.List.length fun j => (e_api_Session (v3.List.getD j z_api_Session)))), (4, some (.var (.agg (.st [1, 1]) (vupd (c_api_Roster v3) 1 (.own 2)))))], 5⟩) ⟨rfl, rfl, rfl, trivial⟩ ⟨rfl, rfl, rfl, trivial⟩ (Nat.le_refl _)) ?_
    obtain ⟨v5, h6, H⟩ := bnd H
    refine aw_region (es := [_, _, _, _, _, _, _, _]) ⟨Step.plain rfl (does_fieldAddr 25 1 1 7 4 0 [] (.var (.agg (.st [1, 1]) (vupd (c_api_Roster v3) 1 (.own 2)))) fl25_1), ⟨⟨rfl, trivial⟩, ⟨rfl, trivial⟩, rfl⟩, rfl,
      Step.plain rfl (does_load 23 16 4 (0 + 1) [1] (.var (.agg (.st [1, 1]) (vupd (c_api_Roster v3) 1 (.own 2)))) (.own 2) ⟨rfl, Nat.le_of_ble_eq_true rfl, trivial⟩ rfl rfl ty23), ⟨⟨rfl, trivial⟩, ⟨rfl, trivial⟩, rfl⟩, rfl,
      Step.plain rfl (does_move (.tmp 6) (.int .i64 v1) trivial), ⟨⟨rfl, trivial⟩, trivial, rfl⟩, rfl,
      Step.plain rfl (does_move (.tmp 6) (.int .i64 v1) trivial), ⟨⟨rfl, trivial⟩, trivial, rfl⟩, rfl,
      Step.plain rfl (does_bin .add 3 3 (.tmp 19) (.const (.int .i64 1)) .i64 v1 1 (.int .i64 (IntKind.i64.wrap (v1 + 1))) trivial (fun _ => rfl) (bin_add _ _ _ _)), ⟨⟨rfl, trivial⟩, trivial, rfl⟩, rfl,
      Step.plain rfl (does_callO 21 0 (fun _ => .any) (.func 21) [(.tmp 17), (.tmp 18), (.tmp 20)] [(.own 2), (.int .i64 v1), (.int .i64 (IntKind.i64.wrap (v1 + 1)))] [] [(2, (.arr 2 v3.List.length fun j => (e_api_Session (v3.List.getD j z_api_Session))))] true [(.own 0), (.int .i64 v1), (.int .i64 (IntKind.i64.wrap (v1 + 1)))] _ (.own 5) _ 5 1 _ _ rfl fo21 rfl ⟨trivial, trivial, trivial, trivial⟩ ⟨(.mv 0 _ rfl), .ro _ _ (.data _ trivial), .ro _ _ (.data _ trivial), trivial⟩ (slices_Delete_api_Session_api_Session_spec v3.List v1 (IntKind.i64.wrap (v1 + 1)) _ h6) rfl (by simp) rfl ⟨(fun _ => (f_api_Session _)), trivial⟩ ⟨⟨Nat.le_of_ble_eq_true rfl, _, rfl, fun _ => (f_api_Session _)⟩, trivial⟩ (.own 0 (Nat.le_of_ble_eq_true rfl))), ⟨⟨rfl, rfl, rfl, trivial⟩, ⟨rfl, trivial⟩, rfl⟩, rfl,
      Step.plain rfl (does_fieldAddr 25 1 1 7 4 0 [] (.var (.agg (.st [1, 1]) (vupd (c_api_Roster v3) 1 (.own 2)))) fl25_1), ⟨⟨rfl, trivial⟩, ⟨rfl, trivial⟩, rfl⟩, rfl,
      Step.plain rfl (does_storeO 23 22 (.tmp 21) 4 (0 + 1) [1] (.var (.agg (.st [1, 1]) (vupd (c_api_Roster v3) 1 (.own 2)))) (.var (.agg (.st [1, 1]) (vupd (c_api_Roster v3) 1 (.own 5)))) 5 2 v5.length (fun j => (e_api_Session (v5.getD j z_api_Session))) (.own 5) rfl false trivial ⟨rfl, Nat.le_of_ble_eq_true rfl, trivial⟩ rfl rfl (congrArg Box.var (congrArg (V.agg _) (vupd_vupd _ _ _ _))) ty23), ⟨⟨rfl, rfl, trivial⟩, ⟨rfl, rfl, trivial⟩, rfl⟩, rfl, rfl⟩ ?_
    refine aw_cov (cov_prune (s1 := ⟨[(4, (.ptr 1 0 [])), (7, (.ptr 4 0 []))], [(1, some (.var (e_api_Roster z_api_Roster))), (4, some (.var (.agg (.st [1, 1]) (vupd (c_api_Roster v3) 1 (.own 5))))), (5, some (.arr 2 v5.length fun j => (e_api_Session (v5.getD j z_api_Session))))], 6⟩) ⟨rfl, rfl, trivial⟩ ⟨rfl, rfl, rfl, trivial⟩ (Nat.le_refl _)) ?_
    refine aw_region (es := [_, _, _]) ⟨Step.plain rfl (does_load 25 7 4 0 [] (.var (.agg (.st [1, 1]) (vupd (c_api_Roster v3) 1 (.own 5)))) (.agg (.st [1, 1]) (vupd (c_api_Roster v3) 1 (.own 5))) trivial rfl rfl ty25), ⟨⟨rfl, trivial⟩, ⟨rfl, trivial⟩, rfl⟩, rfl,
      Step.plain rfl (does_store 25 4 (.tmp 23) 1 0 [] (.var (e_api_Roster z_api_Roster)) (.var (.agg (.st [1, 1]) (vupd (c_api_Roster v3) 1 (.own 5)))) (.agg (.st [1, 1]) (vupd (c_api_Roster v3) 1 (.own 5))) true trivial rfl trivial rfl rfl rfl ty25), ⟨⟨rfl, rfl, trivial⟩, ⟨rfl, trivial⟩, rfl⟩, rfl,
      Step.plain rfl (does_assign (.const (.int .i64 0)) (.int .i64 0) (fun _ => rfl)), ⟨trivial, trivial, rfl⟩, rfl, rfl⟩ ?_
    refine aw_cov (cov_prune (s1 := ⟨[(4, (.ptr 1 0 [])), (5, (.int .i64 0))], [(1, some (.var (.agg (.st [1, 1]) (vupd (c_api_Roster v3) 1 (.own 5))))), (5, some (.arr 2 v5.length fun j => (e_api_Session (v5.getD j z_api_Session))))], 6⟩) ⟨rfl, rfl, trivial⟩ ⟨rfl, rfl, trivial⟩ (Nat.le_refl _)) ?_
    refine aw_ret ?_
    exact fun a w hr => ⟨_, [(e_api_Roster ({ v3 with List := v5 })), (.int .i64 0)], hr, ⟨⟨1, _, rfl, rfl, .agg _ _ _ (fun j hj => match j, hj with | 0, _ => ⟨rfl, rfl⟩ | 1, _ => ⟨rfl, rfl⟩ | k + 2, hj => absurd (show k + 2 < 2 from hj) (by omega)) (fun j hj => match j, hj with | 0, _ => .data (.int .u64 (({ v3 with List := v5 }).Last)) (trivial) | 1, _ => .own _ _ _ _ rfl (fun _ => (d_api_Session _)) | k + 2, hj => absurd (show k + 2 < 2 from hj) (by omega)), ty25⟩, ⟨_, rfl, .data (.int .i64 0) trivial⟩, trivial⟩, by decide, by cases H; rfl⟩

theorem congressref17_Find_spec (p0 : api_Roster) (p1 : Int) (r : Int) (H : congressref17_Find p0 p1 = some r) : FSpec Try.prog 16 [(e_api_Roster p0), (.int .u64 p1)] (.int .i64 r) := by
  refine spec_of (fn := Try.f16) (args := [(e_api_Roster p0), (.int .u64 p1)]) Try.func16 rfl (Nat.le_of_ble_eq_true rfl) ?_
  rintro ⟨G, w0, W, S, Sp⟩ hG
  cases hG
  unfold congressref17_Find at H
  refine aw_region (es := [_, _]) ⟨Step.plain rfl (does_box 25 (.tmp 0) 0 (e_api_Roster p0) trivial rfl), ⟨⟨rfl, trivial⟩, trivial, rfl⟩, rfl,
    Step.plain rfl (does_assign (.const (.int .i64 0)) (.int .i64 0) (fun _ => rfl)), ⟨trivial, trivial, rfl⟩, rfl, rfl⟩ ?_
  refine aw_cov (cov_prune (s1 := ⟨[(1, (.int .u64 p1)), (2, (.ptr 0 0 []))], [(0, some (.var (e_api_Roster p0)))], 1⟩) ⟨rfl, rfl, trivial⟩ ⟨rfl, trivial⟩ (Nat.le_refl _)) ?_
  refine aw_seq ?_
  refine aw_region (es := [_]) ⟨Step.plain rfl (does_assign (.const (.int .i64 0)) (.int .i64 0) (fun _ => rfl)), ⟨trivial, trivial, rfl⟩, rfl, rfl⟩ ?_
  refine aw_cov (cov_prune (s1 := ⟨[(1, (.int .u64 p1)), (2, (.ptr 0 0 [])), (5, (.int .i64 0))], [(0, some (.var (e_api_Roster p0)))], 1⟩) ⟨rfl, rfl, rfl, trivial⟩ ⟨rfl, trivial⟩ (Nat.le_refl _)) ?_
  obtain ⟨wn2, hwn2, Hrn2⟩ := bnd H
  refine aw_meet (fun y4 : Unit => (⟨[], [], 1⟩ : St)) (fun y4 => Fl.nx y4 = wn2) (fun y4 hy => ?_) (aw_block (aw_runs (fun x1 : Int => (⟨[(1, (.int .u64 p1)), (2, (.ptr 0 0 [])), (5, (.int .i64 x1))], [(0, some (.var (e_api_Roster p0)))], 1⟩ : St)) hwn2 (cov_prune ⟨rfl, rfl, rfl, trivial⟩ ⟨rfl, trivial⟩ (Nat.le_of_ble_eq_true rfl)) (fun x1 st H hsn2 => ?_)))
  · have H := nx_of hy Hrn2
    refine nx_seq ?_
    refine aw_region (es := [_]) ⟨Step.plain rfl (does_assign (.const (.int .i64 (-1))) (.int .i64 (-1)) (fun _ => rfl)), ⟨trivial, trivial, rfl⟩, rfl, rfl⟩ ?_
    refine aw_cov (cov_prune (s1 := ⟨[(4, (.int .i64 (-1)))], [], 1⟩) ⟨rfl, trivial⟩ trivial (Nat.le_refl _)) ?_
    refine aw_ret ?_
    exact fun a w hr => ⟨_, [(.int .i64 (-1))], hr, ⟨⟨_, rfl, .data (.int .i64 (-1)) trivial⟩, trivial⟩, by decide, by cases H; rfl⟩
  · refine aw_seq ?_
    refine aw_region (es := [_, _, _, _, _]) ⟨Step.plain rfl (does_move (.tmp 5) (.int .i64 x1) trivial), ⟨⟨rfl, trivial⟩, trivial, rfl⟩, rfl,
      Step.plain rfl (does_fieldAddr 25 1 1 2 0 0 [] (.var (e_api_Roster p0)) fl25_1), ⟨⟨rfl, trivial⟩, ⟨rfl, trivial⟩, rfl⟩, rfl,
      Step.plain rfl (does_load 23 7 0 (0 + 1) [1] (.var (e_api_Roster p0)) (e_s_api_Session p0.List) ⟨rfl, Nat.le_of_ble_eq_true rfl, trivial⟩ rfl rfl ty23), ⟨⟨rfl, trivial⟩, ⟨rfl, trivial⟩, rfl⟩, rfl,
      Step.plain rfl (does_lens 23 2 p0.List.length 8 (fun j => (e_api_Session (p0.List.getD j z_api_Session))) el23), ⟨⟨rfl, trivial⟩, trivial, rfl⟩, rfl,
      Step.plain rfl (does_bin .lss 3 3 (.tmp 6) (.tmp 9) .i64 x1 (p0.List.length : Int) (.bool (decide (x1 < (p0.List.length : Int)))) trivial trivial (bin_lss _ _ _ _)), ⟨⟨rfl, rfl, trivial⟩, trivial, rfl⟩, rfl, rfl⟩ ?_
    refine aw_cov (cov_prune (s1 := ⟨[(1, (.int .u64 p1)), (2, (.ptr 0 0 [])), (5, (.int .i64 x1)), (10, (.bool (decide (x1 < (p0.List.length : Int)))))], [(0, some (.var (e_api_Roster p0)))], 1⟩) ⟨rfl, rfl, rfl, rfl, trivial⟩ ⟨rfl, trivial⟩ (Nat.le_refl _)) ?_
    refine aw_cond rfl (fun hc => ?_) (fun hc => ?_)
    · replace H := ite_t hc H
      refine aw_skip ?_
      refine nx_seq ?_
      refine aw_seq ?_
      refine aw_block ?_
      obtain ⟨h3, H⟩ := ib_of H
      refine aw_region (es := [_, _, _, _, _, _, _, _]) ⟨Step.plain rfl (does_fieldAddr 25 1 1 2 0 0 [] (.var (e_api_Roster p0)) fl25_1), ⟨⟨rfl, trivial⟩, ⟨rfl, trivial⟩, rfl⟩, rfl,
        Step.plain rfl (does_load 23 13 0 (0 + 1) [1] (.var (e_api_Roster p0)) (e_s_api_Session p0.List) ⟨rfl, Nat.le_of_ble_eq_true rfl, trivial⟩ rfl rfl ty23), ⟨⟨rfl, trivial⟩, ⟨rfl, trivial⟩, rfl⟩, rfl,
        Step.plain rfl (does_move (.tmp 5) (.int .i64 x1) trivial), ⟨⟨rfl, trivial⟩, trivial, rfl⟩, rfl,
        Step.plain rfl (does_indexAddrs 23 2 p0.List.length 14 (fun j => (e_api_Session (p0.List.getD j z_api_Session))) (.tmp 15) .i64 x1 el23 trivial h3.1 h3.2), ⟨⟨rfl, rfl, trivial⟩, trivial, rfl⟩, rfl,
        Step.plain rfl (does_fieldAddrc 41 0 0 16 (e_api_Session (p0.List.getD x1.toNat z_api_Session)) fl41_0 rfl (Nat.le_of_ble_eq_true rfl) rfl), ⟨⟨rfl, trivial⟩, trivial, rfl⟩, rfl,
        Step.plain rfl (does_loadc 22 17 (.int .u64 ((p0.List.getD x1.toNat z_api_Session).Id)) ty22), ⟨⟨rfl, trivial⟩, trivial, rfl⟩, rfl,
        Step.plain rfl (does_move (.tmp 1) (.int .u64 p1) trivial), ⟨⟨rfl, trivial⟩, trivial, rfl⟩, rfl,
        Step.plain rfl (does_bin .eql 22 22 (.tmp 18) (.tmp 19) .u64 ((p0.List.getD x1.toNat z_api_Session).Id) p1 (.bool (((p0.List.getD x1.toNat z_api_Session).Id) == p1)) trivial trivial (bin_eql _ _ _ _)), ⟨⟨rfl, rfl, trivial⟩, trivial, rfl⟩, rfl, rfl⟩ ?_
      refine aw_cov (cov_prune (s1 := ⟨[(1, (.int .u64 p1)), (2, (.ptr 0 0 [])), (5, (.int .i64 x1)), (20, (.bool (((p0.List.getD x1.toNat z_api_Session).Id) == p1)))], [(0, some (.var (e_api_Roster p0)))], 1⟩) ⟨rfl, rfl, rfl, rfl, trivial⟩ ⟨rfl, trivial⟩ (Nat.le_refl _)) ?_
      refine aw_cond rfl (fun hc => ?_) (fun hc => ?_)
      · replace H := ite_t hc H
        refine aw_region (es := [_, _]) ⟨Step.plain rfl (does_move (.tmp 5) (.int .i64 x1) trivial), ⟨⟨rfl, trivial⟩, trivial, rfl⟩, rfl,
          Step.plain rfl (does_assign (.tmp 21) (.int .i64 x1) trivial), ⟨⟨rfl, trivial⟩, trivial, rfl⟩, rfl, rfl⟩ ?_
        refine aw_cov (cov_prune (s1 := ⟨[(4, (.int .i64 x1))], [], 1⟩) ⟨rfl, trivial⟩ trivial (Nat.le_refl _)) ?_
        refine aw_ret ?_
        replace H := rt_of H hsn2 Hrn2
        refine rt_blk ?_
        refine rt_then ?_
        refine rt_then ?_
        refine rt_blk ?_
        refine rt_then ?_
        refine rt_then ?_
        exact fun a w hr => ⟨_, [(.int .i64 x1)], hr, ⟨⟨_, rfl, .data (.int .i64 x1) trivial⟩, trivial⟩, by decide, by cases H; rfl⟩
      · replace H := ite_f hc H
        refine aw_skip ?_
        refine nx_blk ?_
        refine nx_seq ?_
        refine aw_region1 (es := [_, _, _]) ⟨Step.plain rfl (does_move (.tmp 5) (.int .i64 x1) trivial), ⟨⟨rfl, trivial⟩, trivial, rfl⟩, rfl,
          Step.plain rfl (does_bin .add 3 3 (.tmp 11) (.const (.int .i64 1)) .i64 x1 1 (.int .i64 (IntKind.i64.wrap (x1 + 1))) trivial (fun _ => rfl) (bin_add _ _ _ _)), ⟨⟨rfl, trivial⟩, trivial, rfl⟩, rfl,
          Step.plain rfl (does_assign (.tmp 12) (.int .i64 (IntKind.i64.wrap (x1 + 1))) trivial), ⟨⟨rfl, trivial⟩, trivial, rfl⟩, rfl, rfl⟩ ?_
        exact nx_loop ((IntKind.i64.wrap (x1 + 1))) H (cov_prune ⟨rfl, rfl, rfl, trivial⟩ ⟨rfl, trivial⟩ (Nat.le_of_ble_eq_true rfl))
    · replace H := ite_f hc H
      refine aw_exit ?_
      refine ex_then ?_
      refine ex_then ?_
      refine ex_here ?_
      exact nx_ljoin () H hsn2 (cov_prune trivial trivial (Nat.le_of_ble_eq_true rfl))

theorem congressref17_Close_spec (p0 : api_Roster) (p1 : Int) (r : api_Roster × Int) (H : congressref17_Close p0 p1 = some r) : FSpecO Try.prog 10 [(e_api_Roster p0), (.int .u64 p1)] [] 0 (resV [(.agg (.st [1, 1]) (vupd (c_api_Roster r.1) 1 (.own 0))), (.int .i64 r.2)]) [(0, some (.arr 2 r.1.List.length fun j => (e_api_Session (r.1.List.getD j z_api_Session))))] 2 := by
  refine specO_of (fn := Try.f10) (args := [(e_api_Roster p0), (.int .u64 p1)]) Try.func10 rfl (Nat.le_of_ble_eq_true rfl) ?_
  rintro ⟨G, w0, W, S, Sp⟩ hG
  cases hG
  unfold congressref17_Close at H
  refine aw_region (es := [_, _, _]) ⟨Step.plain rfl (does_box 25 (.tmp 0) 0 (e_api_Roster p0) trivial rfl), ⟨⟨rfl, trivial⟩, trivial, rfl⟩, rfl,
    Step.plain rfl (does_alloc 25 1 (e_api_Roster z_api_Roster) zr25), ⟨trivial, trivial, rfl⟩, rfl,
    Step.plain rfl (does_assign (.const (.int .i64 0)) (.int .i64 0) (fun _ => rfl)), ⟨trivial, trivial, rfl⟩, rfl, rfl⟩ ?_
  refine aw_cov (cov_prune (s1 := ⟨[(1, (.int .u64 p1)), (2, (.ptr 0 0 [])), (4, (.ptr 1 0 []))], [(0, some (.var (e_api_Roster p0))), (1, some (.var (e_api_Roster z_api_Roster)))], 2⟩) ⟨rfl, rfl, rfl, trivial⟩ ⟨rfl, rfl, trivial⟩ (Nat.le_refl _)) ?_
  obtain ⟨v1, h2, H⟩ := bnd H
  refine aw_region (es := [_, _, _, _]) ⟨Step.plain rfl (does_load 25 2 0 0 [] (.var (e_api_Roster p0)) (e_api_Roster p0) trivial rfl rfl ty25), ⟨⟨rfl, trivial⟩, ⟨rfl, trivial⟩, rfl⟩, rfl,
    Step.plain rfl (does_move (.tmp 1) (.int .u64 p1) trivial), ⟨⟨rfl, trivial⟩, trivial, rfl⟩, rfl,
    Step.plain rfl (does_call 16 0 (fun _ => .any) (.func 16) [(.tmp 9), (.tmp 10)] [(e_api_Roster p0), (.int .u64 p1)] [] true [(e_api_Roster p0), (.int .u64 p1)] (.int .i64 v1) _ _ rfl fo16 rfl ⟨trivial, trivial, trivial⟩ ⟨.data _ (d_api_Roster p0), .data _ trivial, trivial⟩ (congressref17_Find_spec p0 p1 _ h2) trivial), ⟨⟨rfl, rfl, trivial⟩, trivial, rfl⟩, rfl,
    Step.plain rfl (does_assign (.tmp 11) (.int .i64 v1) trivial), ⟨⟨rfl, trivial⟩, trivial, rfl⟩, rfl, rfl⟩ ?_
  refine aw_cov (cov_prune (s1 := ⟨[(2, (.ptr 0 0 [])), (4, (.ptr 1 0 [])), (6, (.int .i64 v1))], [(0, some (.var (e_api_Roster p0))), (1, some (.var (e_api_Roster z_api_Roster)))], 2⟩) ⟨rfl, rfl, rfl, trivial⟩ ⟨rfl, rfl, trivial⟩ (Nat.le_refl _)) ?_
  refine aw_seq ?_
  refine aw_region (es := [_, _]) ⟨Step.plain rfl (does_move (.tmp 6) (.int .i64 v1) trivial), ⟨⟨rfl, trivial⟩, trivial, rfl⟩, rfl,
    Step.plain rfl (does_bin .lss 3 3 (.tmp 12) (.const (.int .i64 0)) .i64 v1 0 (.bool (decide (v1 < 0))) trivial (fun _ => rfl) (bin_lss _ _ _ _)), ⟨⟨rfl, trivial⟩, trivial, rfl⟩, rfl, rfl⟩ ?_
  refine aw_cov (cov_prune (s1 := ⟨[(2, (.ptr 0 0 [])), (4, (.ptr 1 0 [])), (6, (.int .i64 v1)), (13, (.bool (decide (v1 < 0))))], [(0, some (.var (e_api_Roster p0))), (1, some (.var (e_api_Roster z_api_Roster)))], 2⟩) ⟨rfl, rfl, rfl, rfl, trivial⟩ ⟨rfl, rfl, trivial⟩ (Nat.le_refl _)) ?_
  refine aw_cond rfl (fun hc => ?_) (fun hc => ?_)
  · replace H := ite_t hc H
    refine aw_region (es := [_, _, _]) ⟨Step.plain rfl (does_buildN 25 #[] [] [] (.st [1, 1]) (c_api_Roster z_api_Roster) (vupd (c_api_Roster ({ Last := 0, List := [] } : api_Roster)) 1 (.own 2)) (fun j => (e_api_Session (([] : _root_.List api_Session).getD j z_api_Session))) (fun j => (e_api_Session (([] : _root_.List api_Session).getD j z_api_Session))) 1 2 2 rfl bo25 trivial trivial (Nat.le_of_ble_eq_true rfl) rfl (by funext j; match j with | 0 => rfl | 1 => rfl | _ + 2 => rfl)), ⟨trivial, trivial, rfl⟩, rfl,
      Step.plain rfl (does_store 25 4 (.tmp 14) 1 0 [] (.var (e_api_Roster z_api_Roster)) (.var (.agg (.st [1, 1]) (vupd (c_api_Roster ({ Last := 0, List := [] } : api_Roster)) 1 (.own 2)))) (.agg (.st [1, 1]) (vupd (c_api_Roster ({ Last := 0, List := [] } : api_Roster)) 1 (.own 2))) true trivial rfl trivial rfl rfl rfl ty25), ⟨⟨rfl, rfl, trivial⟩, ⟨rfl, trivial⟩, rfl⟩, rfl,
      Step.plain rfl (does_assign (.const (.int .i64 162)) (.int .i64 162) (fun _ => rfl)), ⟨trivial, trivial, rfl⟩, rfl, rfl⟩ ?_
    refine aw_cov (cov_prune (s1 := ⟨[(4, (.ptr 1 0 [])), (5, (.int .i64 162))], [(1, some (.var (.agg (.st [1, 1]) (vupd (c_api_Roster ({ Last := 0, List := [] } : api_Roster)) 1 (.own 2))))), (2, some (.arr 2 ([] : _root_.List api_Session).length fun j => (e_api_Session (([] : _root_.List api_Session).getD j z_api_Session))))], 3⟩) ⟨rfl, rfl, trivial⟩ ⟨rfl, rfl, trivial⟩ (Nat.le_refl _)) ?_
    refine aw_ret ?_
    refine rt_then ?_
    exact fun a w hr => ⟨_, [(.agg (.st [1, 1]) (vupd (c_api_Roster ({ ({ Last := 0, List := [] } : api_Roster) with List := ([] : _root_.List api_Session) })) 1 (.own 0))), (.int .i64 162)], reach_of hr (cov_to (s1 := ⟨[(4, (.ptr 1 0 [])), (5, (.int .i64 162))], [(0, some (.arr 2 ([] : _root_.List api_Session).length fun j => (e_api_Session (([] : _root_.List api_Session).getD j z_api_Session)))), (1, some (.var (.agg (.st [1, 1]) (vupd (c_api_Roster ({ ({ Last := 0, List := [] } : api_Roster) with List := ([] : _root_.List api_Session) })) 1 (.own 0)))))], 2⟩) (fun i => match i with | 0 => 2 | 1 => 1 | k => k) [] ⟨⟨_, rfl, .ptr 1 _ _ _ _ (Nat.le_of_ble_eq_true rfl) rfl rfl⟩, ⟨_, rfl, .plain _ (trivial)⟩, trivial⟩ ⟨⟨Nat.le_of_ble_eq_true rfl, _, _, rfl, rfl, boxTo_arr (fun _ => (d_api_Session _))⟩, ⟨Nat.le_of_ble_eq_true rfl, _, _, rfl, rfl, (boxTo_st (.agg _ _ _ (fun j => match j with | 0 => .plain _ (trivial) | 1 => .own 0 _ _ (Nat.le_of_ble_eq_true rfl) rfl rfl (Box.like_refl _) | _ + 2 => .plain _ trivial)))⟩, trivial⟩ rfl rfl), ⟨⟨1, rfl, rfl, ty25⟩, rfl, trivial⟩, by decide, by cases H; rfl, by cases H; exact ⟨rfl, trivial⟩, Nat.le_of_ble_eq_true rfl⟩
  · replace H := ite_f hc H
    refine aw_skip ?_
    refine nx_seq ?_
    refine aw_region (es := [_, _, _, _, _]) ⟨Step.plain rfl (does_fieldAddr 25 0 0 2 0 0 [] (.var (e_api_Roster p0)) fl25_0), ⟨⟨rfl, trivial⟩, ⟨rfl, trivial⟩, rfl⟩, rfl,
      Step.plain rfl (does_load 22 15 0 (0 + 0) [0] (.var (e_api_Roster p0)) (.int .u64 p0.Last) ⟨rfl, Nat.le_of_ble_eq_true rfl, trivial⟩ rfl rfl ty22), ⟨⟨rfl, trivial⟩, ⟨rfl, trivial⟩, rfl⟩, rfl,
      Step.plain rfl (does_buildN 25 #[(0, (.tmp 16))] [(0, (.tmp 16))] [(0, (.int .u64 p0.Last))] (.st [1, 1]) (c_api_Roster z_api_Roster) (vupd (c_api_Roster ({ Last := p0.Last, List := [] } : api_Roster)) 1 (.own 2)) (fun j => (e_api_Session (([] : _root_.List api_Session).getD j z_api_Session))) (fun j => (e_api_Session (([] : _root_.List api_Session).getD j z_api_Session))) 1 2 2 rfl bo25 ⟨⟨rfl, trivial⟩, trivial⟩ ⟨⟨Nat.le_of_ble_eq_true rfl, rfl, rfl⟩, trivial⟩ (Nat.le_of_ble_eq_true rfl) rfl (by funext j; match j with | 0 => rfl | 1 => rfl | _ + 2 => rfl)), ⟨⟨rfl, trivial⟩, trivial, rfl⟩, rfl,
      Step.plain rfl (does_alloc 25 3 (e_api_Roster z_api_Roster) zr25), ⟨trivial, trivial, rfl⟩, rfl,
      Step.plain rfl (does_store 25 7 (.tmp 17) 3 0 [] (.var (e_api_Roster z_api_Roster)) (.var (.agg (.st [1, 1]) (vupd (c_api_Roster ({ Last := p0.Last, List := [] } : api_Roster)) 1 (.own 2)))) (.agg (.st [1, 1]) (vupd (c_api_Roster ({ Last := p0.Last, List := [] } : api_Roster)) 1 (.own 2))) true trivial rfl trivial rfl rfl rfl ty25), ⟨⟨rfl, rfl, trivial⟩, ⟨rfl, trivial⟩, rfl⟩, rfl, rfl⟩ ?_
    refine aw_cov (cov_prune (s1 := ⟨[(2, (.ptr 0 0 [])), (4, (.ptr 1 0 [])), (6, (.int .i64 v1)), (7, (.ptr 3 0 []))], [(0, some (.var (e_api_Roster p0))), (1, some (.var (e_api_Roster z_api_Roster))), (2, some (.arr 2 ([] : _root_.List api_Session).length fun j => (e_api_Session (([] : _root_.List api_Session).getD j z_api_Session)))), (3, some (.var (.agg (.st [1, 1]) (vupd (c_api_Roster ({ Last := p0.Last, List := [] } : api_Roster)) 1 (.own 2)))))], 4⟩) ⟨rfl, rfl, rfl, rfl, trivial⟩ ⟨rfl, rfl, rfl, rfl, trivial⟩ (Nat.le_refl _)) ?_
    refine aw_seq ?_
    refine aw_region (es := [_]) ⟨Step.plain rfl (does_assign (.const (.int .i64 0)) (.int .i64 0) (fun _ => rfl)), ⟨trivial, trivial, rfl⟩, rfl, rfl⟩ ?_
    refine aw_cov (cov_prune (s1 := ⟨[(2, (.ptr 0 0 [])), (4, (.ptr 1 0 [])), (6, (.int .i64 v1)), (7, (.ptr 3 0 [])), (8, (.int .i64 0))], [(0, some (.var (e_api_Roster p0))), (1, some (.var (e_api_Roster z_api_Roster))), (2, some (.arr 2 ([] : _root_.List api_Session).length fun j => (e_api_Session (([] : _root_.List api_Session).getD j z_api_Session)))), (3, some (.var (.agg (.st [1, 1]) (vupd (c_api_Roster ({ Last := p0.Last, List := [] } : api_Roster)) 1 (.own 2)))))], 4⟩) ⟨rfl, rfl, rfl, rfl, rfl, trivial⟩ ⟨rfl, rfl, rfl, rfl, trivial⟩ (Nat.le_refl _)) ?_
    obtain ⟨wn4, hwn4, Hrn4⟩ := bnd H
    refine aw_meet (fun y9 : _root_.List api_Session => (⟨[(4, (.ptr 1 0 [])), (7, (.ptr 3 0 []))], [(1, some (.var (e_api_Roster z_api_Roster))), (3, some (.var (.agg (.st [1, 1]) (vupd (c_api_Roster ({ Last := p0.Last, List := [] } : api_Roster)) 1 (.own 2))))), (2, some (.arr 2 y9.length fun j => (e_api_Session (y9.getD j z_api_Session))))], 4⟩ : St)) (fun y9 => Fl.nx y9 = wn4) (fun y9 hy => ?_) (aw_block (aw_runs (fun x3 : Int × _root_.List api_Session => (⟨[(2, (.ptr 0 0 [])), (4, (.ptr 1 0 [])), (6, (.int .i64 v1)), (7, (.ptr 3 0 [])), (8, (.int .i64 x3.1))], [(0, some (.var (e_api_Roster p0))), (1, some (.var (e_api_Roster z_api_Roster))), (2, some (.arr 2 x3.2.length fun j => (e_api_Session (x3.2.getD j z_api_Session)))), (3, some (.var (.agg (.st [1, 1]) (vupd (c_api_Roster ({ Last := p0.Last, List := [] } : api_Roster)) 1 (.own 2)))))], 4⟩ : St)) hwn4 (cov_prune ⟨rfl, rfl, rfl, rfl, rfl, trivial⟩ ⟨rfl, rfl, rfl, rfl, trivial⟩ (Nat.le_of_ble_eq_true rfl)) (fun x3 st H hsn4 => ?_)))
    · have H := nx_of hy Hrn4
      refine nx_seq ?_
      refine aw_region (es := [_, _, _]) ⟨Step.plain rfl (does_load 25 7 3 0 [] (.var (.agg (.st [1, 1]) (vupd (c_api_Roster ({ Last := p0.Last, List := [] } : api_Roster)) 1 (.own 2)))) (.agg (.st [1, 1]) (vupd (c_api_Roster ({ Last := p0.Last, List := [] } : api_Roster)) 1 (.own 2))) trivial rfl rfl ty25), ⟨⟨rfl, trivial⟩, ⟨rfl, trivial⟩, rfl⟩, rfl,
        Step.plain rfl (does_store 25 4 (.tmp 38) 1 0 [] (.var (e_api_Roster z_api_Roster)) (.var (.agg (.st [1, 1]) (vupd (c_api_Roster ({ Last := p0.Last, List := [] } : api_Roster)) 1 (.own 2)))) (.agg (.st [1, 1]) (vupd (c_api_Roster ({ Last := p0.Last, List := [] } : api_Roster)) 1 (.own 2))) true trivial rfl trivial rfl rfl rfl ty25), ⟨⟨rfl, rfl, trivial⟩, ⟨rfl, trivial⟩, rfl⟩, rfl,
        Step.plain rfl (does_assign (.const (.int .i64 0)) (.int .i64 0) (fun _ => rfl)), ⟨trivial, trivial, rfl⟩, rfl, rfl⟩ ?_
      refine aw_cov (cov_prune (s1 := ⟨[(4, (.ptr 1 0 [])), (5, (.int .i64 0))], [(1, some (.var (.agg (.st [1, 1]) (vupd (c_api_Roster ({ Last := p0.Last, List := [] } : api_Roster)) 1 (.own 2))))), (2, some (.arr 2 y9.length fun j => (e_api_Session (y9.getD j z_api_Session))))], 4⟩) ⟨rfl, rfl, trivial⟩ ⟨rfl, rfl, trivial⟩ (Nat.le_refl _)) ?_
      refine aw_ret ?_
      exact fun a w hr => ⟨_, [(.agg (.st [1, 1]) (vupd (c_api_Roster ({ ({ Last := p0.Last, List := [] } : api_Roster) with List := y9 })) 1 (.own 0))), (.int .i64 0)], reach_of hr (cov_to (s1 := ⟨[(4, (.ptr 1 0 [])), (5, (.int .i64 0))], [(0, some (.arr 2 y9.length fun j => (e_api_Session (y9.getD j z_api_Session)))), (1, some (.var (.agg (.st [1, 1]) (vupd (c_api_Roster ({ ({ Last := p0.Last, List := [] } : api_Roster) with List := y9 })) 1 (.own 0)))))], 2⟩) (fun i => match i with | 0 => 2 | 1 => 1 | k => k) [] ⟨⟨_, rfl, .ptr 1 _ _ _ _ (Nat.le_of_ble_eq_true rfl) rfl rfl⟩, ⟨_, rfl, .plain _ (trivial)⟩, trivial⟩ ⟨⟨Nat.le_of_ble_eq_true rfl, _, _, rfl, rfl, boxTo_arr (fun _ => (d_api_Session _))⟩, ⟨Nat.le_of_ble_eq_true rfl, _, _, rfl, rfl, (boxTo_st (.agg _ _ _ (fun j => match j with | 0 => .plain _ (trivial) | 1 => .own 0 _ _ (Nat.le_of_ble_eq_true rfl) rfl rfl (Box.like_refl _) | _ + 2 => .plain _ trivial)))⟩, trivial⟩ rfl rfl), ⟨⟨1, rfl, rfl, ty25⟩, rfl, trivial⟩, by decide, by cases H; rfl, by cases H; exact ⟨rfl, trivial⟩, Nat.le_of_ble_eq_true rfl⟩
    · refine aw_seq ?_
      refine aw_region (es := [_, _, _, _, _]) ⟨Step.plain rfl (does_move (.tmp 8) (.int .i64 x3.1) trivial), ⟨⟨rfl, trivial⟩, trivial, rfl⟩, rfl,
        Step.plain rfl (does_fieldAddr 25 1 1 2 0 0 [] (.var (e_api_Roster p0)) fl25_1), ⟨⟨rfl, trivial⟩, ⟨rfl, trivial⟩, rfl⟩, rfl,
        Step.plain rfl (does_load 23 19 0 (0 + 1) [1] (.var (e_api_Roster p0)) (e_s_api_Session p0.List) ⟨rfl, Nat.le_of_ble_eq_true rfl, trivial⟩ rfl rfl ty23), ⟨⟨rfl, trivial⟩, ⟨rfl, trivial⟩, rfl⟩, rfl,
        Step.plain rfl (does_lens 23 2 p0.List.length 20 (fun j => (e_api_Session (p0.List.getD j z_api_Session))) el23), ⟨⟨rfl, trivial⟩, trivial, rfl⟩, rfl,
        Step.plain rfl (does_bin .lss 3 3 (.tmp 18) (.tmp 21) .i64 x3.1 (p0.List.length : Int) (.bool (decide (x3.1 < (p0.List.length : Int)))) trivial trivial (bin_lss _ _ _ _)), ⟨⟨rfl, rfl, trivial⟩, trivial, rfl⟩, rfl, rfl⟩ ?_
      refine aw_cov (cov_prune (s1 := ⟨[(2, (.ptr 0 0 [])), (4, (.ptr 1 0 [])), (6, (.int .i64 v1)), (7, (.ptr 3 0 [])), (8, (.int .i64 x3.1)), (22, (.bool (decide (x3.1 < (p0.List.length : Int)))))], [(0, some (.var (e_api_Roster p0))), (1, some (.var (e_api_Roster z_api_Roster))), (2, some (.arr 2 x3.2.length fun j => (e_api_Session (x3.2.getD j z_api_Session)))), (3, some (.var (.agg (.st [1, 1]) (vupd (c_api_Roster ({ Last := p0.Last, List := [] } : api_Roster)) 1 (.own 2)))))], 4⟩) ⟨rfl, rfl, rfl, rfl, rfl, rfl, trivial⟩ ⟨rfl, rfl, rfl, rfl, trivial⟩ (Nat.le_refl _)) ?_
      refine aw_cond rfl (fun hc => ?_) (fun hc => ?_)
      · replace H := ite_t hc H
        refine aw_skip ?_
        refine nx_seq ?_
        refine aw_seq ?_
        refine aw_jn (fun x8 : _root_.List api_Session => (⟨[(2, (.ptr 0 0 [])), (4, (.ptr 1 0 [])), (6, (.int .i64 v1)), (7, (.ptr 3 0 [])), (8, (.int .i64 x3.1))], [(0, some (.var (e_api_Roster p0))), (1, some (.var (e_api_Roster z_api_Roster))), (3, some (.var (.agg (.st [1, 1]) (vupd (c_api_Roster ({ Last := p0.Last, List := [] } : api_Roster)) 1 (.own 2))))), (2, some (.arr 2 x8.length fun j => (e_api_Session (x8.getD j z_api_Session))))], 5⟩ : St)) H (fun x8 H => ?_) (fun j5 H => ?_)
        · refine nx_seq ?_
          refine aw_region1 (es := [_, _, _]) ⟨Step.plain rfl (does_move (.tmp 8) (.int .i64 x3.1) trivial), ⟨⟨rfl, trivial⟩, trivial, rfl⟩, rfl,
            Step.plain rfl (does_bin .add 3 3 (.tmp 23) (.const (.int .i64 1)) .i64 x3.1 1 (.int .i64 (IntKind.i64.wrap (x3.1 + 1))) trivial (fun _ => rfl) (bin_add _ _ _ _)), ⟨⟨rfl, trivial⟩, trivial, rfl⟩, rfl,
            Step.plain rfl (does_assign (.tmp 24) (.int .i64 (IntKind.i64.wrap (x3.1 + 1))) trivial), ⟨⟨rfl, trivial⟩, trivial, rfl⟩, rfl, rfl⟩ ?_
          exact nx_loop ((IntKind.i64.wrap (x3.1 + 1)), x8) H (cov_to (fun i => match i with | 0 => 0 | 1 => 1 | 2 => 2 | 3 => 3 | k => k) [] ⟨⟨_, rfl, .ptr 0 _ _ _ _ (Nat.le_of_ble_eq_true rfl) rfl rfl⟩, ⟨_, rfl, .ptr 1 _ _ _ _ (Nat.le_of_ble_eq_true rfl) rfl rfl⟩, ⟨_, rfl, .plain _ (trivial)⟩, ⟨_, rfl, .ptr 3 _ _ _ _ (Nat.le_of_ble_eq_true rfl) rfl rfl⟩, ⟨_, rfl, .plain _ (trivial)⟩, trivial⟩ ⟨⟨Nat.le_of_ble_eq_true rfl, _, _, rfl, rfl, boxTo_var ((d_api_Roster _).plain)⟩, ⟨Nat.le_of_ble_eq_true rfl, _, _, rfl, rfl, boxTo_var ((d_api_Roster _).plain)⟩, ⟨Nat.le_of_ble_eq_true rfl, _, _, rfl, rfl, boxTo_arr (fun _ => (d_api_Session _))⟩, ⟨Nat.le_of_ble_eq_true rfl, _, _, rfl, rfl, (boxTo_st (.agg _ _ _ (fun j => match j with | 0 => .plain _ (trivial) | 1 => .own 2 _ _ (Nat.le_of_ble_eq_true rfl) rfl rfl (Box.like_refl _) | _ + 2 => .plain _ trivial)))⟩, trivial⟩ rfl rfl)
        · refine aw_block ?_
          refine aw_region (es := [_, _, _]) ⟨Step.plain rfl (does_move (.tmp 8) (.int .i64 x3.1) trivial), ⟨⟨rfl, trivial⟩, trivial, rfl⟩, rfl,
            Step.plain rfl (does_move (.tmp 6) (.int .i64 v1) trivial), ⟨⟨rfl, trivial⟩, trivial, rfl⟩, rfl,
            Step.plain rfl (does_bin .neq 3 3 (.tmp 25) (.tmp 26) .i64 x3.1 v1 (.bool (x3.1 != v1)) trivial trivial (bin_neq _ _ _ _)), ⟨⟨rfl, rfl, trivial⟩, trivial, rfl⟩, rfl, rfl⟩ ?_
          refine aw_cov (cov_prune (s1 := ⟨[(2, (.ptr 0 0 [])), (4, (.ptr 1 0 [])), (6, (.int .i64 v1)), (7, (.ptr 3 0 [])), (8, (.int .i64 x3.1)), (27, (.bool (x3.1 != v1)))], [(0, some (.var (e_api_Roster p0))), (1, some (.var (e_api_Roster z_api_Roster))), (2, some (.arr 2 x3.2.length fun j => (e_api_Session (x3.2.getD j z_api_Session)))), (3, some (.var (.agg (.st [1, 1]) (vupd (c_api_Roster ({ Last := p0.Last, List := [] } : api_Roster)) 1 (.own 2)))))], 4⟩) ⟨rfl, rfl, rfl, rfl, rfl, rfl, trivial⟩ ⟨rfl, rfl, rfl, rfl, trivial⟩ (Nat.le_refl _)) ?_
          refine aw_cond rfl (fun hc => ?_) (fun hc => ?_)
          · replace H := ite_t hc H
            obtain ⟨h6, H⟩ := ib_of H
            obtain ⟨h7, H⟩ := fit_of H
            refine aw_draw1 (es := [_, _, _, _, _, _, _, _, _, _, _]) (mixed) ⟨Step.plain rfl (does_fieldAddr 25 1 1 7 3 0 [] (.var (.agg (.st [1, 1]) (vupd (c_api_Roster ({ Last := p0.Last, List := [] } : api_Roster)) 1 (.own 2)))) fl25_1), ⟨⟨rfl, trivial⟩, ⟨rfl, trivial⟩, rfl⟩, rfl,
              Step.plain rfl (does_load 23 28 3 (0 + 1) [1] (.var (.agg (.st [1, 1]) (vupd (c_api_Roster ({ Last := p0.Last, List := [] } : api_Roster)) 1 (.own 2)))) (.own 2) ⟨rfl, Nat.le_of_ble_eq_true rfl, trivial⟩ rfl rfl ty23), ⟨⟨rfl, trivial⟩, ⟨rfl, trivial⟩, rfl⟩, rfl,
              Step.plain rfl (does_fieldAddr 25 1 1 2 0 0 [] (.var (e_api_Roster p0)) fl25_1), ⟨⟨rfl, trivial⟩, ⟨rfl, trivial⟩, rfl⟩, rfl,
              Step.plain rfl (does_load 23 30 0 (0 + 1) [1] (.var (e_api_Roster p0)) (e_s_api_Session p0.List) ⟨rfl, Nat.le_of_ble_eq_true rfl, trivial⟩ rfl rfl ty23), ⟨⟨rfl, trivial⟩, ⟨rfl, trivial⟩, rfl⟩, rfl,
              Step.plain rfl (does_move (.tmp 8) (.int .i64 x3.1) trivial), ⟨⟨rfl, trivial⟩, trivial, rfl⟩, rfl,
              Step.plain rfl (does_indexAddrs 23 2 p0.List.length 31 (fun j => (e_api_Session (p0.List.getD j z_api_Session))) (.tmp 32) .i64 x3.1 el23 trivial h6.1 h6.2), ⟨⟨rfl, rfl, trivial⟩, trivial, rfl⟩, rfl,
              Step.plain rfl (does_loadc 41 33 (e_api_Session (p0.List.getD x3.1.toNat z_api_Session)) ty41), ⟨⟨rfl, trivial⟩, trivial, rfl⟩, rfl,
              Step.plain rfl (does_buildSl 23 1 2 (e_api_Session z_api_Session) (fun j => (e_api_Session (([p0.List.getD x3.1.toNat z_api_Session] : _root_.List api_Session).getD j z_api_Session))) #[(0, (.tmp 34))] [(0, (.tmp 34))] [(0, (e_api_Session (p0.List.getD x3.1.toNat z_api_Session)))] rfl so23 (by decide) ⟨⟨rfl, trivial⟩, trivial⟩ ⟨⟨Nat.le_of_ble_eq_true rfl, rfl, rfl⟩, trivial⟩ (fun j h => match j, h with | 0, _ => rfl | k + 1, h => absurd h (by omega))), ⟨⟨rfl, trivial⟩, trivial, rfl⟩, rfl,
              Step.plain rfl (does_appendL e_api_Session z_api_Session x3.2 ([p0.List.getD x3.1.toNat z_api_Session] : _root_.List api_Session) 23 2 16 2 4 29 35 ap23 h7), ⟨⟨rfl, rfl, trivial⟩, ⟨rfl, trivial⟩, rfl⟩, rfl,
              Step.plain rfl (does_fieldAddr 25 1 1 7 3 0 [] (.var (.agg (.st [1, 1]) (vupd (c_api_Roster ({ Last := p0.Last, List := [] } : api_Roster)) 1 (.own 2)))) fl25_1), ⟨⟨rfl, trivial⟩, ⟨rfl, trivial⟩, rfl⟩, rfl,
              Step.plain rfl (does_storeO 23 37 (.tmp 36) 3 (0 + 1) [1] (.var (.agg (.st [1, 1]) (vupd (c_api_Roster ({ Last := p0.Last, List := [] } : api_Roster)) 1 (.own 2)))) (.var (.agg (.st [1, 1]) (vupd (c_api_Roster ({ Last := p0.Last, List := [] } : api_Roster)) 1 (.own 4)))) 4 2 (x3.2 ++ ([p0.List.getD x3.1.toNat z_api_Session] : _root_.List api_Session)).length (fun j => (e_api_Session ((x3.2 ++ ([p0.List.getD x3.1.toNat z_api_Session] : _root_.List api_Session)).getD j z_api_Session))) (.own 4) rfl false trivial ⟨rfl, Nat.le_of_ble_eq_true rfl, trivial⟩ rfl rfl (congrArg Box.var (congrArg (V.agg _) (vupd_vupd _ _ _ _))) ty23), ⟨⟨rfl, rfl, trivial⟩, ⟨rfl, rfl, trivial⟩, rfl⟩, rfl, rfl⟩ rfl ?_
            refine nx_blk ?_
            exact nx_join ((x3.2 ++ ([p0.List.getD x3.1.toNat z_api_Session] : _root_.List api_Session))) H (cov_to (fun i => match i with | 0 => 0 | 1 => 1 | 3 => 3 | 2 => 4 | k => k) [] ⟨⟨_, rfl, .ptr 0 _ _ _ _ (Nat.le_of_ble_eq_true rfl) rfl rfl⟩, ⟨_, rfl, .ptr 1 _ _ _ _ (Nat.le_of_ble_eq_true rfl) rfl rfl⟩, ⟨_, rfl, .plain _ (trivial)⟩, ⟨_, rfl, .ptr 3 _ _ _ _ (Nat.le_of_ble_eq_true rfl) rfl rfl⟩, ⟨_, rfl, .plain _ (trivial)⟩, trivial⟩ ⟨⟨Nat.le_of_ble_eq_true rfl, _, _, rfl, rfl, boxTo_var ((d_api_Roster _).plain)⟩, ⟨Nat.le_of_ble_eq_true rfl, _, _, rfl, rfl, boxTo_var ((d_api_Roster _).plain)⟩, ⟨Nat.le_of_ble_eq_true rfl, _, _, rfl, rfl, (boxTo_st (.agg _ _ _ (fun j => match j with | 0 => .plain _ (trivial) | 1 => .own 2 _ _ (Nat.le_of_ble_eq_true rfl) rfl rfl (Box.like_refl _) | _ + 2 => .plain _ trivial)))⟩, ⟨Nat.le_of_ble_eq_true rfl, _, _, rfl, rfl, boxTo_arr (fun _ => (d_api_Session _))⟩, trivial⟩ rfl rfl)
          · replace H := ite_f hc H
            refine aw_skip ?_
            refine nx_blk ?_
            exact nx_join (x3.2) H (cov_to (fun i => match i with | 0 => 0 | 1 => 1 | 3 => 3 | 2 => 2 | k => k) [] ⟨⟨_, rfl, .ptr 0 _ _ _ _ (Nat.le_of_ble_eq_true rfl) rfl rfl⟩, ⟨_, rfl, .ptr 1 _ _ _ _ (Nat.le_of_ble_eq_true rfl) rfl rfl⟩, ⟨_, rfl, .plain _ (trivial)⟩, ⟨_, rfl, .ptr 3 _ _ _ _ (Nat.le_of_ble_eq_true rfl) rfl rfl⟩, ⟨_, rfl, .plain _ (trivial)⟩, trivial⟩ ⟨⟨Nat.le_of_ble_eq_true rfl, _, _, rfl, rfl, boxTo_var ((d_api_Roster _).plain)⟩, ⟨Nat.le_of_ble_eq_true rfl, _, _, rfl, rfl, boxTo_var ((d_api_Roster _).plain)⟩, ⟨Nat.le_of_ble_eq_true rfl, _, _, rfl, rfl, (boxTo_st (.agg _ _ _ (fun j => match j with | 0 => .plain _ (trivial) | 1 => .own 2 _ _ (Nat.le_of_ble_eq_true rfl) rfl rfl (Box.like_refl _) | _ + 2 => .plain _ trivial)))⟩, ⟨Nat.le_of_ble_eq_true rfl, _, _, rfl, rfl, boxTo_arr (fun _ => (d_api_Session _))⟩, trivial⟩ rfl rfl)
      · replace H := ite_f hc H
        refine aw_exit ?_
        refine ex_then ?_
        refine ex_then ?_
        refine ex_here ?_
        exact nx_ljoin (x3.2) H hsn4 (cov_prune ⟨rfl, rfl, trivial⟩ ⟨rfl, rfl, rfl, trivial⟩ (Nat.le_of_ble_eq_true rfl))

theorem congressref17_Close_data (p0 : api_Roster) (p1 : Int) (r : api_Roster × Int) (H : congressref17_Close p0 p1 = some r) : FSpec Try.prog 10 [(e_api_Roster p0), (.int .u64 p1)] (resV [(e_api_Roster r.1), (.int .i64 r.2)]) :=
  FSpecO.toData (fz := [0]) (congressref17_Close_spec p0 p1 r H) (res_data2 (d_api_Roster r.1) trivial) (.tup _ _ _ (fun j => match j with | 0 => .agg _ _ _ (fun j => match j with | 0 => .plain _ (trivial) | 1 => .frz 0 _ _ _ rfl (fun _ => (d_api_Session _)) (by decide) | _ + 2 => .plain _ trivial) | 1 => .plain _ (trivial) | _ + 2 => .plain _ trivial))
end Go.Proofs.Ytbcjnggdielljaa
