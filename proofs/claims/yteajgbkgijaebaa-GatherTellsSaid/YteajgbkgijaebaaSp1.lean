/- Printed by gen.py. Conditions: none. -/
import Derived.Test.YteajgbkgijaebaaFact
import Derived.KernelRfl
set_option linter.unusedVariables false
set_option maxRecDepth 100000
namespace Go.Proofs.Yteajgbkgijaebaa
open Go.Eng
set_option maxHeartbeats 1600000
theorem congresslaw12_pair_spec (p0 : api_Id) (r : api_Core) (H : congresslaw12_pair p0 = some r) : FSpec Try.prog 22 [(e_api_Id p0)] (e_api_Core r) := by
  refine spec_of (fn := Try.f22) (args := [(e_api_Id p0)]) Try.func22 rfl (Nat.le_of_ble_eq_true rfl) ?_
  rintro ⟨G, w0, W, S, Sp⟩ hG
  cases hG
  unfold congresslaw12_pair at H
  refine aw_region (es := [_, _]) ⟨Step.plain rfl (does_box 27 (.tmp 0) 0 (e_api_Id p0) trivial rfl), ⟨⟨rfl, trivial⟩, trivial, rfl⟩, rfl,
    Step.plain rfl (does_alloc 35 1 (e_api_Core z_api_Core) zr35), ⟨trivial, trivial, rfl⟩, rfl, rfl⟩ ?_
  refine aw_cov (cov_prune (s1 := ⟨[(1, (.ptr 0 0 [])), (2, (.ptr 1 0 []))], [(0, some (.var (e_api_Id p0))), (1, some (.var (e_api_Core z_api_Core)))], 2⟩) ⟨rfl, rfl, trivial⟩ ⟨rfl, rfl, trivial⟩ (Nat.le_refl _)) ?_
  refine aw_region (es := [_, _, _, _, _]) ⟨Step.plain rfl (does_buildT 27 #[(0, (.const (.int .u32 1))), (2, (.const (.int .u32 1)))] [(0, (.const (.int .u32 1))), (2, (.const (.int .u32 1)))] [(0, (.int .u32 1)), (2, (.int .u32 1))] (.st [1, 1, 1]) (c_api_Id z_api_Id) (c_api_Id ({ Epoch := 1, Coord := 0, Inc := 1 } : api_Id)) rfl bo27 ⟨⟨rfl, (fun _ => rfl)⟩, ⟨rfl, (fun _ => rfl)⟩, trivial⟩ ⟨⟨Nat.le_of_ble_eq_true rfl, rfl, rfl⟩, ⟨Nat.le_of_ble_eq_true rfl, rfl, rfl⟩, trivial⟩ (by funext j; match j with | 0 => rfl | 1 => rfl | 2 => rfl | _ + 3 => rfl)), ⟨trivial, trivial, rfl⟩, rfl,
    Step.plain rfl (does_buildT 28 #[(0, (.const (.int .u32 1))), (1, (.const (.int .u32 1)))] [(0, (.const (.int .u32 1))), (1, (.const (.int .u32 1)))] [(0, (.int .u32 1)), (1, (.int .u32 1))] (.ar 8 1) (fun j => (.int .u32 ((fun _ => 0) j))) (fun j => (.int .u32 ((aset (fun _ => 0) [(0, 1), (1, 1)]) j))) rfl bo28 ⟨⟨rfl, (fun _ => rfl)⟩, ⟨rfl, (fun _ => rfl)⟩, trivial⟩ ⟨⟨Nat.le_of_ble_eq_true rfl, rfl, rfl⟩, ⟨Nat.le_of_ble_eq_true rfl, rfl, rfl⟩, trivial⟩ (setAll_map (fun z => V.int .u32 z) [(0, 1), (1, 1)] _)), ⟨trivial, trivial, rfl⟩, rfl,
    Step.plain rfl (does_buildT 35 #[(2, (.const (.int .u32 1))), (8, (.tmp 4)), (9, (.tmp 5)), (13, (.const (.int .u32 1)))] [(2, (.const (.int .u32 1))), (8, (.tmp 4)), (9, (.tmp 5)), (13, (.const (.int .u32 1)))] [(2, (.int .u32 1)), (8, (e_api_Id ({ Epoch := 1, Coord := 0, Inc := 1 } : api_Id))), (9, (e_a8_u32 (aset (fun _ => 0) [(0, 1), (1, 1)]))), (13, (.int .u32 1))] (.st [1, 1, 1, 17, 3, 8, 8, 1, 3, 8, 8, 1, 128, 1]) (c_api_Core z_api_Core) (c_api_Core ({ Self := 0, Wait := 0, Own := 1, Beat := z_api_Beat, Conf := z_api_Id, Members := (fun _ => 0), Count := (fun _ => 0), Kept := [], Promise := ({ Epoch := 1, Coord := 0, Inc := 1 } : api_Id), Wanted := (aset (fun _ => 0) [(0, 1), (1, 1)]), Cut := (fun _ => 0), Ready := false, Peers := (fun _ => z_api_Peer), Epoch := 1 } : api_Core)) rfl bo35 ⟨⟨rfl, (fun _ => rfl)⟩, ⟨rfl, trivial⟩, ⟨rfl, trivial⟩, ⟨rfl, (fun _ => rfl)⟩, trivial⟩ ⟨⟨Nat.le_of_ble_eq_true rfl, rfl, rfl⟩, ⟨Nat.le_of_ble_eq_true rfl, rfl, rfl⟩, ⟨Nat.le_of_ble_eq_true rfl, rfl, rfl⟩, ⟨Nat.le_of_ble_eq_true rfl, rfl, rfl⟩, trivial⟩ (by funext j; match j with | 0 => rfl | 1 => rfl | 2 => rfl | 3 => rfl | 4 => rfl | 5 => rfl | 6 => rfl | 7 => rfl | 8 => rfl | 9 => rfl | 10 => rfl | 11 => rfl | 12 => rfl | 13 => rfl | _ + 14 => rfl)), ⟨⟨rfl, rfl, trivial⟩, trivial, rfl⟩, rfl,
    Step.plain rfl (does_alloc 35 2 (e_api_Core z_api_Core) zr35), ⟨trivial, trivial, rfl⟩, rfl,
    Step.plain rfl (does_store 35 3 (.tmp 6) 2 0 [] (.var (e_api_Core z_api_Core)) (.var (e_api_Core ({ Self := 0, Wait := 0, Own := 1, Beat := z_api_Beat, Conf := z_api_Id, Members := (fun _ => 0), Count := (fun _ => 0), Kept := [], Promise := ({ Epoch := 1, Coord := 0, Inc := 1 } : api_Id), Wanted := (aset (fun _ => 0) [(0, 1), (1, 1)]), Cut := (fun _ => 0), Ready := false, Peers := (fun _ => z_api_Peer), Epoch := 1 } : api_Core))) (e_api_Core ({ Self := 0, Wait := 0, Own := 1, Beat := z_api_Beat, Conf := z_api_Id, Members := (fun _ => 0), Count := (fun _ => 0), Kept := [], Promise := ({ Epoch := 1, Coord := 0, Inc := 1 } : api_Id), Wanted := (aset (fun _ => 0) [(0, 1), (1, 1)]), Cut := (fun _ => 0), Ready := false, Peers := (fun _ => z_api_Peer), Epoch := 1 } : api_Core)) true trivial rfl trivial rfl rfl rfl ty35), ⟨⟨rfl, rfl, trivial⟩, ⟨rfl, trivial⟩, rfl⟩, rfl, rfl⟩ ?_
  obtain ⟨v1, hv1, H⟩ := lt_of H
  refine aw_cov (cov_prune (s1 := ⟨[(1, (.ptr 0 0 [])), (2, (.ptr 1 0 [])), (3, (.ptr 2 0 []))], [(0, some (.var (e_api_Id p0))), (1, some (.var (e_api_Core z_api_Core))), (2, some (.var (e_api_Core v1)))], 3⟩) ⟨rfl, rfl, rfl, trivial⟩ ⟨rfl, rfl, (by subst hv1; rfl), trivial⟩ (Nat.le_refl _)) ?_
  refine aw_region (es := [_, _, _, _, _]) ⟨Step.plain rfl (does_load 27 1 0 0 [] (.var (e_api_Id p0)) (e_api_Id p0) trivial rfl rfl ty27), ⟨⟨rfl, trivial⟩, ⟨rfl, trivial⟩, rfl⟩, rfl,
    Step.plain rfl (does_buildT 32 #[(0, (.const (.int .u32 1))), (2, (.tmp 7))] [(0, (.const (.int .u32 1))), (2, (.tmp 7))] [(0, (.int .u32 1)), (2, (e_api_Id p0))] (.st [1, 3, 3, 8, 1]) (c_api_Peer z_api_Peer) (c_api_Peer ({ Inc := 1, Conf := z_api_Id, Promise := p0, Cut := (fun _ => 0), Ready := false } : api_Peer)) rfl bo32 ⟨⟨rfl, (fun _ => rfl)⟩, ⟨rfl, trivial⟩, trivial⟩ ⟨⟨Nat.le_of_ble_eq_true rfl, rfl, rfl⟩, ⟨Nat.le_of_ble_eq_true rfl, rfl, rfl⟩, trivial⟩ (by funext j; match j with | 0 => rfl | 1 => rfl | 2 => rfl | 3 => rfl | 4 => rfl | _ + 5 => rfl)), ⟨⟨rfl, trivial⟩, trivial, rfl⟩, rfl,
    Step.plain rfl (does_fieldAddr 35 12 60 3 2 0 [] (.var (e_api_Core v1)) fl35_12), ⟨⟨rfl, trivial⟩, ⟨rfl, trivial⟩, rfl⟩, rfl,
    Step.plain rfl (does_indexAddr 33 8 16 9 2 (0 + 60) [12] (.var (e_api_Core v1)) (.const (.int .i64 1)) .i64 1 el33 (fun _ => rfl) (by decide) (by decide)), ⟨⟨rfl, trivial⟩, ⟨rfl, trivial⟩, rfl⟩, rfl,
    Step.plain rfl (does_store 32 10 (.tmp 8) 2 ((0 + 60) + 1 * 16) [12, 1] (.var (e_api_Core v1)) (.var (e_api_Core ({ v1 with Peers := aupd v1.Peers 1 ({ Inc := 1, Conf := z_api_Id, Promise := p0, Cut := (fun _ => 0), Ready := false } : api_Peer) }))) (e_api_Peer ({ Inc := 1, Conf := z_api_Id, Promise := p0, Cut := (fun _ => 0), Ready := false } : api_Peer)) true trivial rfl ⟨rfl, Nat.le_of_ble_eq_true rfl, ⟨rfl, (Nat.le_of_ble_eq_true rfl), trivial⟩⟩ rfl rfl (congrArg Box.var (set_cons (set_cons rfl (vupd_map e_api_Peer _ _ _)) (st_api_Core_12 _ _))) ty32), ⟨⟨rfl, rfl, trivial⟩, ⟨rfl, trivial⟩, rfl⟩, rfl, rfl⟩ ?_
  obtain ⟨v2, hv2, H⟩ := lt_of H
  refine aw_cov (cov_prune (s1 := ⟨[(2, (.ptr 1 0 [])), (3, (.ptr 2 0 []))], [(1, some (.var (e_api_Core z_api_Core))), (2, some (.var (e_api_Core v2)))], 3⟩) ⟨rfl, rfl, trivial⟩ ⟨rfl, (by subst hv2; rfl), trivial⟩ (Nat.le_refl _)) ?_
  refine aw_region (es := [_, _]) ⟨Step.plain rfl (does_load 35 3 2 0 [] (.var (e_api_Core v2)) (e_api_Core v2) trivial rfl rfl ty35), ⟨⟨rfl, trivial⟩, ⟨rfl, trivial⟩, rfl⟩, rfl,
    Step.plain rfl (does_store 35 2 (.tmp 11) 1 0 [] (.var (e_api_Core z_api_Core)) (.var (e_api_Core v2)) (e_api_Core v2) true trivial rfl trivial rfl rfl rfl ty35), ⟨⟨rfl, rfl, trivial⟩, ⟨rfl, trivial⟩, rfl⟩, rfl, rfl⟩ ?_
  refine aw_cov (cov_prune (s1 := ⟨[(2, (.ptr 1 0 []))], [(1, some (.var (e_api_Core v2)))], 3⟩) ⟨rfl, trivial⟩ ⟨rfl, trivial⟩ (Nat.le_refl _)) ?_
  refine aw_ret ?_
  exact fun a w hr => ⟨_, [(e_api_Core v2)], hr, ⟨⟨1, _, rfl, rfl, .data _ (d_api_Core v2), ty35⟩, trivial⟩, by decide, by cases H; rfl⟩

theorem ident_List_spec (p0 : (Nat → Int)) (r : (_root_.List Int)) (H : ident_List p0 = some r) : FSpecO Try.prog 28 [(e_a8_u32 p0)] [] 0 (.own 0) [(0, some (.arr 1 r.length fun j => (.int .i64 (r.getD j 0))))] 1 := by
  refine specO_of (fn := Try.f28) (args := [(e_a8_u32 p0)]) Try.func28 rfl (Nat.le_of_ble_eq_true rfl) ?_
  rintro ⟨G, w0, W, S, Sp⟩ hG
  cases hG
  unfold ident_List at H
  refine aw_region (es := [_, _]) ⟨Step.plain rfl (does_box 28 (.tmp 0) 0 (e_a8_u32 p0) trivial rfl), ⟨⟨rfl, trivial⟩, trivial, rfl⟩, rfl,
    Step.plain rfl (does_nil false 1 1 (fun j => (.int .i64 (([] : _root_.List Int).getD j 0)))), ⟨trivial, trivial, rfl⟩, rfl, rfl⟩ ?_
  refine aw_cov (cov_prune (s1 := ⟨[(1, (.ptr 0 0 []))], [(0, some (.var (e_a8_u32 p0)))], 2⟩) ⟨rfl, trivial⟩ ⟨rfl, trivial⟩ (Nat.le_refl _)) ?_
  refine aw_region (es := [_]) ⟨Step.plain rfl (does_nil false 2 1 (fun j => (.int .i64 (([] : _root_.List Int).getD j 0)))), ⟨trivial, trivial, rfl⟩, rfl, rfl⟩ ?_
  refine aw_cov (cov_prune (s1 := ⟨[(1, (.ptr 0 0 [])), (3, (.own 2))], [(0, some (.var (e_a8_u32 p0))), (2, some (.arr 1 ([] : _root_.List Int).length fun j => (.int .i64 (([] : _root_.List Int).getD j 0))))], 3⟩) ⟨rfl, rfl, trivial⟩ ⟨rfl, rfl, trivial⟩ (Nat.le_refl _)) ?_
  refine aw_seq ?_
  refine aw_region (es := [_, _]) ⟨Step.plain rfl (does_load 28 1 0 0 [] (.var (e_a8_u32 p0)) (e_a8_u32 p0) trivial rfl rfl ty28), ⟨⟨rfl, trivial⟩, ⟨rfl, trivial⟩, rfl⟩, rfl,
    Step.plain rfl (does_move (.const (.int .i64 0)) (.int .i64 0) (fun _ => rfl)), ⟨trivial, trivial, rfl⟩, rfl, rfl⟩ ?_
  refine aw_cov (cov_prune (s1 := ⟨[(3, (.own 2)), (6, (e_a8_u32 p0)), (7, (.int .i64 0))], [(2, some (.arr 1 ([] : _root_.List Int).length fun j => (.int .i64 (([] : _root_.List Int).getD j 0))))], 3⟩) ⟨rfl, rfl, rfl, trivial⟩ ⟨rfl, trivial⟩ (Nat.le_refl _)) ?_
  obtain ⟨wn2, hwn2, Hrn2⟩ := bnd H
  refine aw_meet (fun y7 : _root_.List Int => (⟨[(3, (.own 2))], [(2, some (.arr 1 y7.length fun j => (.int .i64 (y7.getD j 0))))], 3⟩ : St)) (fun y7 => Fl.nx y7 = wn2) (fun y7 hy => ?_) (aw_block (aw_runs (fun x1 : Int × _root_.List Int => (⟨[(3, (.own 2)), (6, (e_a8_u32 p0)), (7, (.int .i64 x1.1))], [(2, some (.arr 1 x1.2.length fun j => (.int .i64 (x1.2.getD j 0))))], 3⟩ : St)) hwn2 (cov_prune ⟨rfl, rfl, rfl, trivial⟩ ⟨rfl, trivial⟩ (Nat.le_of_ble_eq_true rfl)) (fun x1 st H hsn2 => ?_)))
  · have H := nx_of hy Hrn2
    refine nx_seq ?_
    refine aw_region (es := [_, _]) ⟨Step.plain rfl (does_move (.tmp 3) (.own 2) trivial), ⟨⟨rfl, trivial⟩, trivial, rfl⟩, rfl,
      Step.plain rfl (does_assign (.tmp 18) (.own 2) trivial), ⟨⟨rfl, trivial⟩, trivial, rfl⟩, rfl, rfl⟩ ?_
    refine aw_cov (cov_prune (s1 := ⟨[(2, (.own 2))], [(2, some (.arr 1 y7.length fun j => (.int .i64 (y7.getD j 0))))], 3⟩) ⟨rfl, trivial⟩ ⟨rfl, trivial⟩ (Nat.le_refl _)) ?_
    refine aw_ret ?_
    exact fun a w hr => ⟨_, [(.own 0)], reach_of hr (cov_to (s1 := ⟨[(2, (.own 0))], [(0, some (.arr 1 y7.length fun j => (.int .i64 (y7.getD j 0))))], 1⟩) (fun i => match i with | 0 => 2 | k => k) [] ⟨⟨_, rfl, .own 0 _ _ (Nat.le_of_ble_eq_true rfl) rfl rfl (Box.like_refl _)⟩, trivial⟩ ⟨⟨Nat.le_of_ble_eq_true rfl, _, _, rfl, rfl, boxTo_arr (fun _ => trivial)⟩, trivial⟩ rfl rfl), ⟨rfl, trivial⟩, by decide, by cases H; rfl, by cases H; exact ⟨rfl, trivial⟩, Nat.le_of_ble_eq_true rfl⟩
  · refine aw_region (es := [_]) ⟨Step.plain rfl (does_bin .lss 3 3 (.tmp 7) (.const (.int .i64 8)) .i64 x1.1 8 (.bool (decide (x1.1 < 8))) trivial (fun _ => rfl) (bin_lss _ _ _ _)), ⟨⟨rfl, trivial⟩, trivial, rfl⟩, rfl, rfl⟩ ?_
    refine aw_cov (cov_prune (s1 := ⟨[(3, (.own 2)), (6, (e_a8_u32 p0)), (7, (.int .i64 x1.1)), (8, (.bool (decide (x1.1 < 8))))], [(2, some (.arr 1 x1.2.length fun j => (.int .i64 (x1.2.getD j 0))))], 3⟩) ⟨rfl, rfl, rfl, rfl, trivial⟩ ⟨rfl, trivial⟩ (Nat.le_refl _)) ?_
    refine aw_seq ?_
    refine aw_cond rfl (fun hc => ?_) (fun hc => ?_)
    · replace H := ite_t hc H
      refine aw_skip ?_
      refine nx_seq ?_
      refine aw_seq ?_
      refine aw_jn (fun x6 : _root_.List Int => (⟨[(3, (.own 2)), (6, (e_a8_u32 p0)), (7, (.int .i64 x1.1))], [(2, some (.arr 1 x6.length fun j => (.int .i64 (x6.getD j 0))))], 4⟩ : St)) H (fun x6 H => ?_) (fun j3 H => ?_)
      · refine nx_seq ?_
        refine aw_region1 (es := [_, _]) ⟨Step.plain rfl (does_bin .add 3 3 (.tmp 7) (.const (.int .i64 1)) .i64 x1.1 1 (.int .i64 (IntKind.i64.wrap (x1.1 + 1))) trivial (fun _ => rfl) (bin_add _ _ _ _)), ⟨⟨rfl, trivial⟩, trivial, rfl⟩, rfl,
          Step.plain rfl (does_move (.tmp 17) (.int .i64 (IntKind.i64.wrap (x1.1 + 1))) trivial), ⟨⟨rfl, trivial⟩, trivial, rfl⟩, rfl, rfl⟩ ?_
        exact nx_loop ((IntKind.i64.wrap (x1.1 + 1)), x6) H (cov_of (fun i => match i with | 2 => 2 | k => k) ⟨⟨_, rfl, ⟨rfl, Nat.le_of_ble_eq_true rfl⟩⟩, ⟨_, rfl, .inl ⟨rfl, (d_a8_u32 _).plain⟩⟩, ⟨_, rfl, ⟨rfl, trivial⟩⟩, trivial⟩ ⟨⟨Nat.le_of_ble_eq_true rfl, _, _, rfl, rfl, ⟨rfl, rfl, fun _ => ⟨rfl, trivial⟩⟩⟩, trivial⟩ rfl)
      · refine aw_block ?_
        obtain ⟨h4, H⟩ := ib_of H
        refine aw_region (es := [_, _, _, _]) ⟨Step.plain rfl (does_move (.tmp 7) (.int .i64 x1.1) trivial), ⟨⟨rfl, trivial⟩, trivial, rfl⟩, rfl,
          Step.plain rfl (does_index 28 8 22 1 6 false (fun j => (.int .u32 (p0 j))) (.tmp 7) .i64 x1.1 ua28 ty22 rfl trivial h4.1 h4.2), ⟨⟨rfl, rfl, trivial⟩, trivial, rfl⟩, rfl,
          Step.plain rfl (does_assign (.tmp 9) (.int .i64 x1.1) trivial), ⟨⟨rfl, trivial⟩, trivial, rfl⟩, rfl,
          Step.plain rfl (does_assign (.tmp 10) (.int .u32 (p0 x1.1.toNat)) trivial), ⟨⟨rfl, trivial⟩, trivial, rfl⟩, rfl, rfl⟩ ?_
        refine aw_cov (cov_prune (s1 := ⟨[(3, (.own 2)), (6, (e_a8_u32 p0)), (7, (.int .i64 x1.1)), (4, (.int .i64 x1.1)), (5, (.int .u32 (p0 x1.1.toNat)))], [(2, some (.arr 1 x1.2.length fun j => (.int .i64 (x1.2.getD j 0))))], 3⟩) ⟨rfl, rfl, rfl, rfl, rfl, trivial⟩ ⟨rfl, trivial⟩ (Nat.le_refl _)) ?_
        refine aw_region (es := [_, _]) ⟨Step.plain rfl (does_move (.tmp 5) (.int .u32 (p0 x1.1.toNat)) trivial), ⟨⟨rfl, trivial⟩, trivial, rfl⟩, rfl,
          Step.plain rfl (does_bin .neq 22 22 (.tmp 11) (.const (.int .u32 0)) .u32 (p0 x1.1.toNat) 0 (.bool ((p0 x1.1.toNat) != 0)) trivial (fun _ => rfl) (bin_neq _ _ _ _)), ⟨⟨rfl, trivial⟩, trivial, rfl⟩, rfl, rfl⟩ ?_
        refine aw_cov (cov_prune (s1 := ⟨[(3, (.own 2)), (6, (e_a8_u32 p0)), (7, (.int .i64 x1.1)), (4, (.int .i64 x1.1)), (12, (.bool ((p0 x1.1.toNat) != 0)))], [(2, some (.arr 1 x1.2.length fun j => (.int .i64 (x1.2.getD j 0))))], 3⟩) ⟨rfl, rfl, rfl, rfl, rfl, trivial⟩ ⟨rfl, trivial⟩ (Nat.le_refl _)) ?_
        refine aw_cond rfl (fun hc => ?_) (fun hc => ?_)
        · replace H := ite_t hc H
          obtain ⟨h5, H⟩ := fit_of H
          refine aw_region1 (es := [_, _, _, _, _]) ⟨Step.plain rfl (does_move (.tmp 3) (.own 2) trivial), ⟨⟨rfl, trivial⟩, trivial, rfl⟩, rfl,
            Step.plain rfl (does_move (.tmp 4) (.int .i64 x1.1) trivial), ⟨⟨rfl, trivial⟩, trivial, rfl⟩, rfl,
            Step.plain rfl (does_buildSl 63 1 1 (.int .i64 0) (fun j => (.int .i64 (([x1.1] : _root_.List Int).getD j 0))) #[(0, (.tmp 14))] [(0, (.tmp 14))] [(0, (.int .i64 x1.1))] rfl so63 (by decide) ⟨⟨rfl, trivial⟩, trivial⟩ ⟨⟨Nat.le_of_ble_eq_true rfl, rfl, rfl⟩, trivial⟩ (fun j h => match j, h with | 0, _ => rfl | k + 1, h => absurd h (by omega))), ⟨⟨rfl, trivial⟩, trivial, rfl⟩, rfl,
            Step.plain rfl (does_appendL (fun z => V.int .i64 z) 0 x1.2 ([x1.1] : _root_.List Int) 63 1 8 2 3 13 15 ap63 h5), ⟨⟨rfl, rfl, trivial⟩, ⟨rfl, trivial⟩, rfl⟩, rfl,
            Step.plain rfl (does_assign (.tmp 16) (.own 3) trivial), ⟨⟨rfl, trivial⟩, trivial, rfl⟩, rfl, rfl⟩ ?_
          refine nx_blk ?_
          exact nx_join ((x1.2 ++ ([x1.1] : _root_.List Int))) H (cov_of (fun i => match i with | 2 => 3 | k => k) ⟨⟨_, rfl, ⟨rfl, Nat.le_of_ble_eq_true rfl⟩⟩, ⟨_, rfl, .inl ⟨rfl, (d_a8_u32 _).plain⟩⟩, ⟨_, rfl, ⟨rfl, trivial⟩⟩, trivial⟩ ⟨⟨Nat.le_of_ble_eq_true rfl, _, _, rfl, rfl, ⟨rfl, rfl, fun _ => ⟨rfl, trivial⟩⟩⟩, trivial⟩ rfl)
        · replace H := ite_f hc H
          refine aw_skip ?_
          refine nx_blk ?_
          exact nx_join (x1.2) H (cov_of (fun i => match i with | 2 => 2 | k => k) ⟨⟨_, rfl, ⟨rfl, Nat.le_of_ble_eq_true rfl⟩⟩, ⟨_, rfl, .inl ⟨rfl, (d_a8_u32 _).plain⟩⟩, ⟨_, rfl, ⟨rfl, trivial⟩⟩, trivial⟩ ⟨⟨Nat.le_of_ble_eq_true rfl, _, _, rfl, rfl, ⟨rfl, rfl, fun _ => ⟨rfl, trivial⟩⟩⟩, trivial⟩ rfl)
    · replace H := ite_f hc H
      refine aw_exit ?_
      refine ex_then ?_
      refine ex_then ?_
      refine ex_here ?_
      exact nx_ljoin (x1.2) H hsn2 (cov_prune ⟨rfl, trivial⟩ ⟨rfl, trivial⟩ (Nat.le_of_ble_eq_true rfl))

theorem ident_List_data (p0 : (Nat → Int)) (r : (_root_.List Int)) (H : ident_List p0 = some r) : FSpec Try.prog 28 [(e_a8_u32 p0)] (e_s_i64 r) :=
  FSpecO.toData (fz := [0]) (ident_List_spec p0 r H) (d_s_i64 r) (.frz 0 _ _ _ rfl (fun _ => trivial) (by decide))

theorem ident_Least_spec (p0 : (Nat → Int)) (r : Int × Bool) (H : ident_Least p0 = some r) : FSpec Try.prog 26 [(e_a8_u32 p0)] (resV [(.int .i64 r.1), (.bool r.2)]) := by
  refine spec_of (fn := Try.f26) (args := [(e_a8_u32 p0)]) Try.func26 rfl (Nat.le_of_ble_eq_true rfl) ?_
  rintro ⟨G, w0, W, S, Sp⟩ hG
  cases hG
  unfold ident_Least at H
  refine aw_region (es := [_, _, _]) ⟨Step.plain rfl (does_box 28 (.tmp 0) 0 (e_a8_u32 p0) trivial rfl), ⟨⟨rfl, trivial⟩, trivial, rfl⟩, rfl,
    Step.plain rfl (does_assign (.const (.int .i64 0)) (.int .i64 0) (fun _ => rfl)), ⟨trivial, trivial, rfl⟩, rfl,
    Step.plain rfl (does_assign (.const (.bool false)) (.bool false) (fun _ => rfl)), ⟨trivial, trivial, rfl⟩, rfl, rfl⟩ ?_
  refine aw_cov (cov_prune (s1 := ⟨[(1, (.ptr 0 0 []))], [(0, some (.var (e_a8_u32 p0)))], 1⟩) ⟨rfl, trivial⟩ ⟨rfl, trivial⟩ (Nat.le_refl _)) ?_
  obtain ⟨v1, h2, H⟩ := bnd H
  refine aw_region (es := [_, _, _]) ⟨Step.plain rfl (does_load 28 1 0 0 [] (.var (e_a8_u32 p0)) (e_a8_u32 p0) trivial rfl rfl ty28), ⟨⟨rfl, trivial⟩, ⟨rfl, trivial⟩, rfl⟩, rfl,
    Step.plain rfl (does_callO 28 0 (fun _ => .any) (.func 28) [(.tmp 5)] [(e_a8_u32 p0)] [] [] true [(e_a8_u32 p0)] _ (.own 1) _ 1 1 _ _ rfl fo28 rfl ⟨trivial, trivial⟩ ⟨.ro _ _ (.data _ (d_a8_u32 p0)), trivial⟩ (ident_List_spec p0 _ h2) rfl (by simp) rfl trivial ⟨⟨Nat.le_of_ble_eq_true rfl, _, rfl, fun _ => trivial⟩, trivial⟩ (.own 0 (Nat.le_of_ble_eq_true rfl))), ⟨⟨rfl, trivial⟩, trivial, rfl⟩, rfl,
    Step.plain rfl (does_assign (.tmp 6) (.own 1) trivial), ⟨⟨rfl, trivial⟩, trivial, rfl⟩, rfl, rfl⟩ ?_
  refine aw_cov (cov_prune (s1 := ⟨[(4, (.own 1))], [(1, some (.arr 1 v1.length fun j => (.int .i64 (v1.getD j 0))))], 2⟩) ⟨rfl, trivial⟩ ⟨rfl, trivial⟩ (Nat.le_refl _)) ?_
  refine aw_seq ?_
  refine aw_region (es := [_, _, _]) ⟨Step.plain rfl (does_move (.tmp 4) (.own 1) trivial), ⟨⟨rfl, trivial⟩, trivial, rfl⟩, rfl,
    Step.plain rfl (does_leno 63 1 v1.length 7 1 (fun j => (.int .i64 (v1.getD j 0))) el63), ⟨⟨rfl, trivial⟩, ⟨rfl, trivial⟩, rfl⟩, rfl,
    Step.plain rfl (does_bin .eql 3 3 (.tmp 8) (.const (.int .i64 0)) .i64 (v1.length : Int) 0 (.bool ((v1.length : Int) == 0)) trivial (fun _ => rfl) (bin_eql _ _ _ _)), ⟨⟨rfl, trivial⟩, trivial, rfl⟩, rfl, rfl⟩ ?_
  refine aw_cov (cov_prune (s1 := ⟨[(4, (.own 1)), (9, (.bool ((v1.length : Int) == 0)))], [(1, some (.arr 1 v1.length fun j => (.int .i64 (v1.getD j 0))))], 2⟩) ⟨rfl, rfl, trivial⟩ ⟨rfl, trivial⟩ (Nat.le_refl _)) ?_
  refine aw_cond rfl (fun hc => ?_) (fun hc => ?_)
  · replace H := ite_t hc H
    refine aw_region (es := [_, _]) ⟨Step.plain rfl (does_assign (.const (.int .i64 0)) (.int .i64 0) (fun _ => rfl)), ⟨trivial, trivial, rfl⟩, rfl,
      Step.plain rfl (does_assign (.const (.bool false)) (.bool false) (fun _ => rfl)), ⟨trivial, trivial, rfl⟩, rfl, rfl⟩ ?_
    refine aw_cov (cov_prune (s1 := ⟨[(2, (.int .i64 0)), (3, (.bool false))], [], 2⟩) ⟨rfl, rfl, trivial⟩ trivial (Nat.le_refl _)) ?_
    refine aw_ret ?_
    refine rt_then ?_
    exact fun a w hr => ⟨_, [(.int .i64 0), (.bool false)], hr, ⟨⟨_, rfl, .data _ trivial⟩, ⟨_, rfl, .data _ trivial⟩, trivial⟩, by decide, by cases H; rfl⟩
  · replace H := ite_f hc H
    refine aw_skip ?_
    refine nx_seq ?_
    obtain ⟨h3, H⟩ := ib_of H
    refine aw_region (es := [_, _, _, _, _]) ⟨Step.plain rfl (does_move (.tmp 4) (.own 1) trivial), ⟨⟨rfl, trivial⟩, trivial, rfl⟩, rfl,
      Step.plain rfl (does_indexAddro 63 1 v1.length 10 1 (fun j => (.int .i64 (v1.getD j 0))) (.const (.int .i64 0)) .i64 0 el63 (fun _ => rfl) h3.1 h3.2), ⟨⟨rfl, trivial⟩, ⟨rfl, trivial⟩, rfl⟩, rfl,
      Step.plain rfl (does_load 3 11 1 (0 * 1) [0] (.arr 1 v1.length fun j => (.int .i64 (v1.getD j 0))) (.int .i64 (v1.getD 0 0)) ⟨(ixl h3), trivial⟩ rfl rfl ty3), ⟨⟨rfl, trivial⟩, ⟨rfl, trivial⟩, rfl⟩, rfl,
      Step.plain rfl (does_assign (.tmp 12) (.int .i64 (v1.getD 0 0)) trivial), ⟨⟨rfl, trivial⟩, trivial, rfl⟩, rfl,
      Step.plain rfl (does_assign (.const (.bool true)) (.bool true) (fun _ => rfl)), ⟨trivial, trivial, rfl⟩, rfl, rfl⟩ ?_
    refine aw_cov (cov_prune (s1 := ⟨[(2, (.int .i64 (v1.getD 0 0))), (3, (.bool true))], [], 2⟩) ⟨rfl, rfl, trivial⟩ trivial (Nat.le_refl _)) ?_
    refine aw_ret ?_
    exact fun a w hr => ⟨_, [(.int .i64 (v1.getD 0 0)), (.bool true)], hr, ⟨⟨_, rfl, .data _ trivial⟩, ⟨_, rfl, .data _ trivial⟩, trivial⟩, by decide, by cases H; rfl⟩

theorem cmp_isNaN_uint32_spec (p0 : Int) (r : Bool) (H : cmp_isNaN_uint32 p0 = some r) : FSpec Try.prog 38 [(.int .u32 p0)] (.bool r) := by
  refine spec_of (fn := Try.f38) (args := [(.int .u32 p0)]) Try.func38 rfl (Nat.le_of_ble_eq_true rfl) ?_
  rintro ⟨G, w0, W, S, Sp⟩ hG
  cases hG
  unfold cmp_isNaN_uint32 at H
  refine aw_region (es := [_]) ⟨Step.plain rfl (does_assign (.const (.bool false)) (.bool false) (fun _ => rfl)), ⟨trivial, trivial, rfl⟩, rfl, rfl⟩ ?_
  refine aw_cov (cov_prune (s1 := ⟨[(0, (.int .u32 p0))], [], 0⟩) ⟨rfl, trivial⟩ trivial (Nat.le_refl _)) ?_
  refine aw_region (es := [_, _, _, _]) ⟨Step.plain rfl (does_move (.tmp 0) (.int .u32 p0) trivial), ⟨⟨rfl, trivial⟩, trivial, rfl⟩, rfl,
    Step.plain rfl (does_move (.tmp 0) (.int .u32 p0) trivial), ⟨⟨rfl, trivial⟩, trivial, rfl⟩, rfl,
    Step.plain rfl (does_bin .neq 22 22 (.tmp 3) (.tmp 4) .u32 p0 p0 (.bool (p0 != p0)) trivial trivial (bin_neq _ _ _ _)), ⟨⟨rfl, rfl, trivial⟩, trivial, rfl⟩, rfl,
    Step.plain rfl (does_assign (.tmp 5) (.bool (p0 != p0)) trivial), ⟨⟨rfl, trivial⟩, trivial, rfl⟩, rfl, rfl⟩ ?_
  refine aw_cov (cov_prune (s1 := ⟨[(2, (.bool (p0 != p0)))], [], 0⟩) ⟨rfl, trivial⟩ trivial (Nat.le_refl _)) ?_
  refine aw_ret ?_
  exact fun a w hr => ⟨_, [(.bool (p0 != p0))], hr, ⟨⟨_, rfl, .data _ trivial⟩, trivial⟩, by decide, by cases H; rfl⟩

theorem cmp_Compare_uint32_spec (p0 : Int) (p1 : Int) (r : Int) (H : cmp_Compare_uint32 p0 p1 = some r) : FSpec Try.prog 37 [(.int .u32 p0), (.int .u32 p1)] (.int .i64 r) := by
  refine spec_of (fn := Try.f37) (args := [(.int .u32 p0), (.int .u32 p1)]) Try.func37 rfl (Nat.le_of_ble_eq_true rfl) ?_
  rintro ⟨G, w0, W, S, Sp⟩ hG
  cases hG
  unfold cmp_Compare_uint32 at H
  refine aw_region (es := [_]) ⟨Step.plain rfl (does_assign (.const (.int .i64 0)) (.int .i64 0) (fun _ => rfl)), ⟨trivial, trivial, rfl⟩, rfl, rfl⟩ ?_
  refine aw_cov (cov_prune (s1 := ⟨[(0, (.int .u32 p0)), (1, (.int .u32 p1))], [], 0⟩) ⟨rfl, rfl, trivial⟩ trivial (Nat.le_refl _)) ?_
  obtain ⟨v1, h2, H⟩ := bnd H
  refine aw_region (es := [_, _, _]) ⟨Step.plain rfl (does_move (.tmp 0) (.int .u32 p0) trivial), ⟨⟨rfl, trivial⟩, trivial, rfl⟩, rfl,
    Step.plain rfl (does_call 38 0 (fun _ => .any) (.func 38) [(.tmp 7)] [(.int .u32 p0)] [] true [(.int .u32 p0)] (.bool v1) _ _ rfl fo38 rfl ⟨trivial, trivial⟩ ⟨.data _ trivial, trivial⟩ (cmp_isNaN_uint32_spec p0 _ h2) trivial), ⟨⟨rfl, trivial⟩, trivial, rfl⟩, rfl,
    Step.plain rfl (does_assign (.tmp 8) (.bool v1) trivial), ⟨⟨rfl, trivial⟩, trivial, rfl⟩, rfl, rfl⟩ ?_
  refine aw_cov (cov_prune (s1 := ⟨[(0, (.int .u32 p0)), (1, (.int .u32 p1)), (5, (.bool v1))], [], 0⟩) ⟨rfl, rfl, rfl, trivial⟩ trivial (Nat.le_refl _)) ?_
  obtain ⟨v3, h4, H⟩ := bnd H
  refine aw_region (es := [_, _, _]) ⟨Step.plain rfl (does_move (.tmp 1) (.int .u32 p1) trivial), ⟨⟨rfl, trivial⟩, trivial, rfl⟩, rfl,
    Step.plain rfl (does_call 38 0 (fun _ => .any) (.func 38) [(.tmp 9)] [(.int .u32 p1)] [] true [(.int .u32 p1)] (.bool v3) _ _ rfl fo38 rfl ⟨trivial, trivial⟩ ⟨.data _ trivial, trivial⟩ (cmp_isNaN_uint32_spec p1 _ h4) trivial), ⟨⟨rfl, trivial⟩, trivial, rfl⟩, rfl,
    Step.plain rfl (does_assign (.tmp 10) (.bool v3) trivial), ⟨⟨rfl, trivial⟩, trivial, rfl⟩, rfl, rfl⟩ ?_
  refine aw_cov (cov_prune (s1 := ⟨[(0, (.int .u32 p0)), (1, (.int .u32 p1)), (5, (.bool v1)), (6, (.bool v3))], [], 0⟩) ⟨rfl, rfl, rfl, rfl, trivial⟩ trivial (Nat.le_refl _)) ?_
  refine aw_seq ?_
  refine aw_region (es := [_]) ⟨Step.plain rfl (does_move (.tmp 5) (.bool v1) trivial), ⟨⟨rfl, trivial⟩, trivial, rfl⟩, rfl, rfl⟩ ?_
  refine aw_cov (cov_prune (s1 := ⟨[(0, (.int .u32 p0)), (1, (.int .u32 p1)), (6, (.bool v3)), (11, (.bool v1))], [], 0⟩) ⟨rfl, rfl, rfl, rfl, trivial⟩ trivial (Nat.le_refl _)) ?_
  refine aw_cond rfl (fun hc => ?_) (fun hc => ?_)
  · replace H := ite_t hc H
    refine aw_seq ?_
    refine aw_region (es := [_]) ⟨Step.plain rfl (does_move (.tmp 6) (.bool v3) trivial), ⟨⟨rfl, trivial⟩, trivial, rfl⟩, rfl, rfl⟩ ?_
    refine aw_cov (cov_prune (s1 := ⟨[(12, (.bool v3))], [], 0⟩) ⟨rfl, trivial⟩ trivial (Nat.le_refl _)) ?_
    refine aw_cond rfl (fun hc => ?_) (fun hc => ?_)
    · replace H := ite_t hc H
      refine aw_region (es := [_]) ⟨Step.plain rfl (does_assign (.const (.int .i64 0)) (.int .i64 0) (fun _ => rfl)), ⟨trivial, trivial, rfl⟩, rfl, rfl⟩ ?_
      refine aw_cov (cov_prune (s1 := ⟨[(4, (.int .i64 0))], [], 0⟩) ⟨rfl, trivial⟩ trivial (Nat.le_refl _)) ?_
      refine aw_ret ?_
      refine rt_then ?_
      refine rt_then ?_
      exact fun a w hr => ⟨_, [(.int .i64 0)], hr, ⟨⟨_, rfl, .data _ trivial⟩, trivial⟩, by decide, by cases H; rfl⟩
    · replace H := ite_f hc H
      refine aw_skip ?_
      refine nx_seq ?_
      refine aw_region (es := [_]) ⟨Step.plain rfl (does_assign (.const (.int .i64 (-1))) (.int .i64 (-1)) (fun _ => rfl)), ⟨trivial, trivial, rfl⟩, rfl, rfl⟩ ?_
      refine aw_cov (cov_prune (s1 := ⟨[(4, (.int .i64 (-1)))], [], 0⟩) ⟨rfl, trivial⟩ trivial (Nat.le_refl _)) ?_
      refine aw_ret ?_
      refine rt_then ?_
      exact fun a w hr => ⟨_, [(.int .i64 (-1))], hr, ⟨⟨_, rfl, .data _ trivial⟩, trivial⟩, by decide, by cases H; rfl⟩
  · replace H := ite_f hc H
    refine aw_skip ?_
    refine nx_seq ?_
    refine aw_seq ?_
    refine aw_region (es := [_]) ⟨Step.plain rfl (does_move (.tmp 6) (.bool v3) trivial), ⟨⟨rfl, trivial⟩, trivial, rfl⟩, rfl, rfl⟩ ?_
    refine aw_cov (cov_prune (s1 := ⟨[(0, (.int .u32 p0)), (1, (.int .u32 p1)), (13, (.bool v3))], [], 0⟩) ⟨rfl, rfl, rfl, trivial⟩ trivial (Nat.le_refl _)) ?_
    refine aw_cond rfl (fun hc => ?_) (fun hc => ?_)
    · replace H := ite_t hc H
      refine aw_region (es := [_]) ⟨Step.plain rfl (does_assign (.const (.int .i64 1)) (.int .i64 1) (fun _ => rfl)), ⟨trivial, trivial, rfl⟩, rfl, rfl⟩ ?_
      refine aw_cov (cov_prune (s1 := ⟨[(4, (.int .i64 1))], [], 0⟩) ⟨rfl, trivial⟩ trivial (Nat.le_refl _)) ?_
      refine aw_ret ?_
      refine rt_then ?_
      exact fun a w hr => ⟨_, [(.int .i64 1)], hr, ⟨⟨_, rfl, .data _ trivial⟩, trivial⟩, by decide, by cases H; rfl⟩
    · replace H := ite_f hc H
      refine aw_skip ?_
      refine nx_seq ?_
      refine aw_seq ?_
      refine aw_region (es := [_, _, _]) ⟨Step.plain rfl (does_move (.tmp 0) (.int .u32 p0) trivial), ⟨⟨rfl, trivial⟩, trivial, rfl⟩, rfl,
        Step.plain rfl (does_move (.tmp 1) (.int .u32 p1) trivial), ⟨⟨rfl, trivial⟩, trivial, rfl⟩, rfl,
        Step.plain rfl (does_bin .lss 22 22 (.tmp 14) (.tmp 15) .u32 p0 p1 (.bool (decide (p0 < p1))) trivial trivial (bin_lss _ _ _ _)), ⟨⟨rfl, rfl, trivial⟩, trivial, rfl⟩, rfl, rfl⟩ ?_
      refine aw_cov (cov_prune (s1 := ⟨[(0, (.int .u32 p0)), (1, (.int .u32 p1)), (16, (.bool (decide (p0 < p1))))], [], 0⟩) ⟨rfl, rfl, rfl, trivial⟩ trivial (Nat.le_refl _)) ?_
      refine aw_cond rfl (fun hc => ?_) (fun hc => ?_)
      · replace H := ite_t hc H
        refine aw_region (es := [_]) ⟨Step.plain rfl (does_assign (.const (.int .i64 (-1))) (.int .i64 (-1)) (fun _ => rfl)), ⟨trivial, trivial, rfl⟩, rfl, rfl⟩ ?_
        refine aw_cov (cov_prune (s1 := ⟨[(4, (.int .i64 (-1)))], [], 0⟩) ⟨rfl, trivial⟩ trivial (Nat.le_refl _)) ?_
        refine aw_ret ?_
        refine rt_then ?_
        exact fun a w hr => ⟨_, [(.int .i64 (-1))], hr, ⟨⟨_, rfl, .data _ trivial⟩, trivial⟩, by decide, by cases H; rfl⟩
      · replace H := ite_f hc H
        refine aw_skip ?_
        refine nx_seq ?_
        refine aw_seq ?_
        refine aw_region (es := [_, _, _]) ⟨Step.plain rfl (does_move (.tmp 0) (.int .u32 p0) trivial), ⟨⟨rfl, trivial⟩, trivial, rfl⟩, rfl,
          Step.plain rfl (does_move (.tmp 1) (.int .u32 p1) trivial), ⟨⟨rfl, trivial⟩, trivial, rfl⟩, rfl,
          Step.plain rfl (does_bin .gtr 22 22 (.tmp 17) (.tmp 18) .u32 p0 p1 (.bool (decide (p0 > p1))) trivial trivial (bin_gtr _ _ _ _)), ⟨⟨rfl, rfl, trivial⟩, trivial, rfl⟩, rfl, rfl⟩ ?_
        refine aw_cov (cov_prune (s1 := ⟨[(19, (.bool (decide (p0 > p1))))], [], 0⟩) ⟨rfl, trivial⟩ trivial (Nat.le_refl _)) ?_
        refine aw_cond rfl (fun hc => ?_) (fun hc => ?_)
        · replace H := ite_t hc H
          refine aw_region (es := [_]) ⟨Step.plain rfl (does_assign (.const (.int .i64 1)) (.int .i64 1) (fun _ => rfl)), ⟨trivial, trivial, rfl⟩, rfl, rfl⟩ ?_
          refine aw_cov (cov_prune (s1 := ⟨[(4, (.int .i64 1))], [], 0⟩) ⟨rfl, trivial⟩ trivial (Nat.le_refl _)) ?_
          refine aw_ret ?_
          refine rt_then ?_
          exact fun a w hr => ⟨_, [(.int .i64 1)], hr, ⟨⟨_, rfl, .data _ trivial⟩, trivial⟩, by decide, by cases H; rfl⟩
        · replace H := ite_f hc H
          refine aw_skip ?_
          refine nx_seq ?_
          refine aw_region (es := [_]) ⟨Step.plain rfl (does_assign (.const (.int .i64 0)) (.int .i64 0) (fun _ => rfl)), ⟨trivial, trivial, rfl⟩, rfl, rfl⟩ ?_
          refine aw_cov (cov_prune (s1 := ⟨[(4, (.int .i64 0))], [], 0⟩) ⟨rfl, trivial⟩ trivial (Nat.le_refl _)) ?_
          refine aw_ret ?_
          exact fun a w hr => ⟨_, [(.int .i64 0)], hr, ⟨⟨_, rfl, .data _ trivial⟩, trivial⟩, by decide, by cases H; rfl⟩

theorem cmp_Or_int_spec (p0 : (_root_.List Int)) (r : Int) (H : cmp_Or_int p0 = some r) : FSpec Try.prog 36 [(e_s_i64 p0)] (.int .i64 r) := by
  refine spec_of (fn := Try.f36) (args := [(e_s_i64 p0)]) Try.func36 rfl (Nat.le_of_ble_eq_true rfl) ?_
  rintro ⟨G, w0, W, S, Sp⟩ hG
  cases hG
  unfold cmp_Or_int at H
  refine aw_region (es := [_]) ⟨Step.plain rfl (does_assign (.const (.int .i64 0)) (.int .i64 0) (fun _ => rfl)), ⟨trivial, trivial, rfl⟩, rfl, rfl⟩ ?_
  refine aw_cov (cov_prune (s1 := ⟨[(0, (e_s_i64 p0))], [], 0⟩) ⟨rfl, trivial⟩ trivial (Nat.le_refl _)) ?_
  refine aw_region (es := [_]) ⟨Step.plain rfl (does_assign (.const (.int .i64 0)) (.int .i64 0) (fun _ => rfl)), ⟨trivial, trivial, rfl⟩, rfl, rfl⟩ ?_
  refine aw_cov (cov_prune (s1 := ⟨[(0, (e_s_i64 p0)), (3, (.int .i64 0))], [], 0⟩) ⟨rfl, rfl, trivial⟩ trivial (Nat.le_refl _)) ?_
  refine aw_seq ?_
  refine aw_region (es := [_, _, _]) ⟨Step.plain rfl (does_move (.tmp 0) (e_s_i64 p0) trivial), ⟨⟨rfl, trivial⟩, trivial, rfl⟩, rfl,
    Step.plain rfl (does_lens 63 1 p0.length 6 (fun j => (.int .i64 (p0.getD j 0))) el63), ⟨⟨rfl, trivial⟩, trivial, rfl⟩, rfl,
    Step.plain rfl (does_move (.const (.int .i64 0)) (.int .i64 0) (fun _ => rfl)), ⟨trivial, trivial, rfl⟩, rfl, rfl⟩ ?_
  refine aw_cov (cov_prune (s1 := ⟨[(3, (.int .i64 0)), (6, (e_s_i64 p0)), (7, (.int .i64 (p0.length : Int))), (8, (.int .i64 0))], [], 0⟩) ⟨rfl, rfl, rfl, rfl, trivial⟩ trivial (Nat.le_refl _)) ?_
  obtain ⟨wn2, hwn2, Hrn2⟩ := bnd H
  refine aw_meet (fun y4 : Unit => (⟨[(3, (.int .i64 0))], [], 0⟩ : St)) (fun y4 => Fl.nx y4 = wn2) (fun y4 hy => ?_) (aw_block (aw_runs (fun x1 : Int => (⟨[(3, (.int .i64 0)), (6, (e_s_i64 p0)), (7, (.int .i64 (p0.length : Int))), (8, (.int .i64 x1))], [], 0⟩ : St)) hwn2 (cov_prune ⟨rfl, rfl, rfl, rfl, trivial⟩ trivial (Nat.le_of_ble_eq_true rfl)) (fun x1 st H hsn2 => ?_)))
  · have H := nx_of hy Hrn2
    refine nx_seq ?_
    refine aw_region (es := [_, _]) ⟨Step.plain rfl (does_move (.tmp 3) (.int .i64 0) trivial), ⟨⟨rfl, trivial⟩, trivial, rfl⟩, rfl,
      Step.plain rfl (does_assign (.tmp 17) (.int .i64 0) trivial), ⟨⟨rfl, trivial⟩, trivial, rfl⟩, rfl, rfl⟩ ?_
    refine aw_cov (cov_prune (s1 := ⟨[(2, (.int .i64 0))], [], 0⟩) ⟨rfl, trivial⟩ trivial (Nat.le_refl _)) ?_
    refine aw_ret ?_
    exact fun a w hr => ⟨_, [(.int .i64 0)], hr, ⟨⟨_, rfl, .data _ trivial⟩, trivial⟩, by decide, by cases H; rfl⟩
  · refine aw_region (es := [_]) ⟨Step.plain rfl (does_bin .lss 3 3 (.tmp 8) (.tmp 7) .i64 x1 (p0.length : Int) (.bool (decide (x1 < (p0.length : Int)))) trivial trivial (bin_lss _ _ _ _)), ⟨⟨rfl, rfl, trivial⟩, trivial, rfl⟩, rfl, rfl⟩ ?_
    refine aw_cov (cov_prune (s1 := ⟨[(3, (.int .i64 0)), (6, (e_s_i64 p0)), (7, (.int .i64 (p0.length : Int))), (8, (.int .i64 x1)), (9, (.bool (decide (x1 < (p0.length : Int)))))], [], 0⟩) ⟨rfl, rfl, rfl, rfl, rfl, trivial⟩ trivial (Nat.le_refl _)) ?_
    refine aw_seq ?_
    refine aw_cond rfl (fun hc => ?_) (fun hc => ?_)
    · replace H := ite_t hc H
      refine aw_skip ?_
      refine nx_seq ?_
      refine aw_seq ?_
      refine aw_block ?_
      obtain ⟨h3, H⟩ := ib_of H
      refine aw_region (es := [_, _, _]) ⟨Step.plain rfl (does_indexAddrs 63 1 p0.length 6 (fun j => (.int .i64 (p0.getD j 0))) (.tmp 8) .i64 x1 el63 trivial h3.1 h3.2), ⟨⟨rfl, rfl, trivial⟩, trivial, rfl⟩, rfl,
        Step.plain rfl (does_loadc 3 10 (.int .i64 (p0.getD x1.toNat 0)) ty3), ⟨⟨rfl, trivial⟩, trivial, rfl⟩, rfl,
        Step.plain rfl (does_assign (.tmp 11) (.int .i64 (p0.getD x1.toNat 0)) trivial), ⟨⟨rfl, trivial⟩, trivial, rfl⟩, rfl, rfl⟩ ?_
      refine aw_cov (cov_prune (s1 := ⟨[(3, (.int .i64 0)), (6, (e_s_i64 p0)), (7, (.int .i64 (p0.length : Int))), (8, (.int .i64 x1)), (5, (.int .i64 (p0.getD x1.toNat 0)))], [], 0⟩) ⟨rfl, rfl, rfl, rfl, rfl, trivial⟩ trivial (Nat.le_refl _)) ?_
      refine aw_region (es := [_, _, _]) ⟨Step.plain rfl (does_move (.tmp 5) (.int .i64 (p0.getD x1.toNat 0)) trivial), ⟨⟨rfl, trivial⟩, trivial, rfl⟩, rfl,
        Step.plain rfl (does_move (.tmp 3) (.int .i64 0) trivial), ⟨⟨rfl, trivial⟩, trivial, rfl⟩, rfl,
        Step.plain rfl (does_bin .neq 3 3 (.tmp 12) (.tmp 13) .i64 (p0.getD x1.toNat 0) 0 (.bool ((p0.getD x1.toNat 0) != 0)) trivial trivial (bin_neq _ _ _ _)), ⟨⟨rfl, rfl, trivial⟩, trivial, rfl⟩, rfl, rfl⟩ ?_
      refine aw_cov (cov_prune (s1 := ⟨[(3, (.int .i64 0)), (6, (e_s_i64 p0)), (7, (.int .i64 (p0.length : Int))), (8, (.int .i64 x1)), (5, (.int .i64 (p0.getD x1.toNat 0))), (14, (.bool ((p0.getD x1.toNat 0) != 0)))], [], 0⟩) ⟨rfl, rfl, rfl, rfl, rfl, rfl, trivial⟩ trivial (Nat.le_refl _)) ?_
      refine aw_cond rfl (fun hc => ?_) (fun hc => ?_)
      · replace H := ite_t hc H
        refine aw_region (es := [_, _]) ⟨Step.plain rfl (does_move (.tmp 5) (.int .i64 (p0.getD x1.toNat 0)) trivial), ⟨⟨rfl, trivial⟩, trivial, rfl⟩, rfl,
          Step.plain rfl (does_assign (.tmp 15) (.int .i64 (p0.getD x1.toNat 0)) trivial), ⟨⟨rfl, trivial⟩, trivial, rfl⟩, rfl, rfl⟩ ?_
        refine aw_cov (cov_prune (s1 := ⟨[(2, (.int .i64 (p0.getD x1.toNat 0)))], [], 0⟩) ⟨rfl, trivial⟩ trivial (Nat.le_refl _)) ?_
        refine aw_ret ?_
        replace H := rt_of H hsn2 Hrn2
        refine rt_blk ?_
        refine rt_then ?_
        refine rt_then ?_
        refine rt_blk ?_
        refine rt_then ?_
        refine rt_then ?_
        exact fun a w hr => ⟨_, [(.int .i64 (p0.getD x1.toNat 0))], hr, ⟨⟨_, rfl, .data _ trivial⟩, trivial⟩, by decide, by cases H; rfl⟩
      · replace H := ite_f hc H
        refine aw_skip ?_
        refine nx_blk ?_
        refine nx_seq ?_
        refine aw_region1 (es := [_, _]) ⟨Step.plain rfl (does_bin .add 3 3 (.tmp 8) (.const (.int .i64 1)) .i64 x1 1 (.int .i64 (IntKind.i64.wrap (x1 + 1))) trivial (fun _ => rfl) (bin_add _ _ _ _)), ⟨⟨rfl, trivial⟩, trivial, rfl⟩, rfl,
          Step.plain rfl (does_move (.tmp 16) (.int .i64 (IntKind.i64.wrap (x1 + 1))) trivial), ⟨⟨rfl, trivial⟩, trivial, rfl⟩, rfl, rfl⟩ ?_
        exact nx_loop ((IntKind.i64.wrap (x1 + 1))) H (cov_prune ⟨rfl, rfl, rfl, rfl, trivial⟩ trivial (Nat.le_of_ble_eq_true rfl))
    · replace H := ite_f hc H
      refine aw_exit ?_
      refine ex_then ?_
      refine ex_then ?_
      refine ex_here ?_
      exact nx_ljoin () H hsn2 (cov_prune ⟨rfl, trivial⟩ trivial (Nat.le_of_ble_eq_true rfl))

theorem ident_Compare_spec (p0 : api_Id) (p1 : api_Id) (r : Int) (H : ident_Compare p0 p1 = some r) : FSpec Try.prog 23 [(e_api_Id p0), (e_api_Id p1)] (.int .i64 r) := by
  refine spec_of (fn := Try.f23) (args := [(e_api_Id p0), (e_api_Id p1)]) Try.func23 rfl (Nat.le_of_ble_eq_true rfl) ?_
  rintro ⟨G, w0, W, S, Sp⟩ hG
  cases hG
  unfold ident_Compare at H
  refine aw_region (es := [_, _, _]) ⟨Step.plain rfl (does_box 27 (.tmp 0) 0 (e_api_Id p0) trivial rfl), ⟨⟨rfl, trivial⟩, trivial, rfl⟩, rfl,
    Step.plain rfl (does_box 27 (.tmp 1) 1 (e_api_Id p1) trivial rfl), ⟨⟨rfl, trivial⟩, trivial, rfl⟩, rfl,
    Step.plain rfl (does_assign (.const (.int .i64 0)) (.int .i64 0) (fun _ => rfl)), ⟨trivial, trivial, rfl⟩, rfl, rfl⟩ ?_
  refine aw_cov (cov_prune (s1 := ⟨[(2, (.ptr 0 0 [])), (3, (.ptr 1 0 []))], [(0, some (.var (e_api_Id p0))), (1, some (.var (e_api_Id p1)))], 2⟩) ⟨rfl, rfl, trivial⟩ ⟨rfl, rfl, trivial⟩ (Nat.le_refl _)) ?_
  obtain ⟨v1, h2, H⟩ := bnd H
  obtain ⟨v3, h4, H⟩ := bnd H
  obtain ⟨v5, h6, H⟩ := bnd H
  obtain ⟨v7, h8, H⟩ := bnd H
  refine aw_draw (es := [_, _, _, _, _, _, _, _, _, _, _, _, _, _, _, _, _, _]) (mixed) ⟨Step.plain rfl (does_fieldAddr 27 0 0 2 0 0 [] (.var (e_api_Id p0)) fl27_0), ⟨⟨rfl, trivial⟩, ⟨rfl, trivial⟩, rfl⟩, rfl,
    Step.plain rfl (does_load 22 5 0 (0 + 0) [0] (.var (e_api_Id p0)) (.int .u32 p0.Epoch) ⟨rfl, Nat.le_of_ble_eq_true rfl, trivial⟩ rfl rfl ty22), ⟨⟨rfl, trivial⟩, ⟨rfl, trivial⟩, rfl⟩, rfl,
    Step.plain rfl (does_fieldAddr 27 0 0 3 1 0 [] (.var (e_api_Id p1)) fl27_0), ⟨⟨rfl, trivial⟩, ⟨rfl, trivial⟩, rfl⟩, rfl,
    Step.plain rfl (does_load 22 7 1 (0 + 0) [0] (.var (e_api_Id p1)) (.int .u32 p1.Epoch) ⟨rfl, Nat.le_of_ble_eq_true rfl, trivial⟩ rfl rfl ty22), ⟨⟨rfl, trivial⟩, ⟨rfl, trivial⟩, rfl⟩, rfl,
    Step.plain rfl (does_call 37 0 (fun _ => .any) (.func 37) [(.tmp 6), (.tmp 8)] [(.int .u32 p0.Epoch), (.int .u32 p1.Epoch)] [] true [(.int .u32 p0.Epoch), (.int .u32 p1.Epoch)] (.int .i64 v1) _ _ rfl fo37 rfl ⟨trivial, trivial, trivial⟩ ⟨.data _ trivial, .data _ trivial, trivial⟩ (cmp_Compare_uint32_spec p0.Epoch p1.Epoch _ h2) trivial), ⟨⟨rfl, rfl, trivial⟩, trivial, rfl⟩, rfl,
    Step.plain rfl (does_fieldAddr 27 1 1 2 0 0 [] (.var (e_api_Id p0)) fl27_1), ⟨⟨rfl, trivial⟩, ⟨rfl, trivial⟩, rfl⟩, rfl,
    Step.plain rfl (does_load 22 10 0 (0 + 1) [1] (.var (e_api_Id p0)) (.int .u32 p0.Coord) ⟨rfl, Nat.le_of_ble_eq_true rfl, trivial⟩ rfl rfl ty22), ⟨⟨rfl, trivial⟩, ⟨rfl, trivial⟩, rfl⟩, rfl,
    Step.plain rfl (does_fieldAddr 27 1 1 3 1 0 [] (.var (e_api_Id p1)) fl27_1), ⟨⟨rfl, trivial⟩, ⟨rfl, trivial⟩, rfl⟩, rfl,
    Step.plain rfl (does_load 22 12 1 (0 + 1) [1] (.var (e_api_Id p1)) (.int .u32 p1.Coord) ⟨rfl, Nat.le_of_ble_eq_true rfl, trivial⟩ rfl rfl ty22), ⟨⟨rfl, trivial⟩, ⟨rfl, trivial⟩, rfl⟩, rfl,
    Step.plain rfl (does_call 37 0 (fun _ => .any) (.func 37) [(.tmp 11), (.tmp 13)] [(.int .u32 p0.Coord), (.int .u32 p1.Coord)] [] true [(.int .u32 p0.Coord), (.int .u32 p1.Coord)] (.int .i64 v3) _ _ rfl fo37 rfl ⟨trivial, trivial, trivial⟩ ⟨.data _ trivial, .data _ trivial, trivial⟩ (cmp_Compare_uint32_spec p0.Coord p1.Coord _ h4) trivial), ⟨⟨rfl, rfl, trivial⟩, trivial, rfl⟩, rfl,
    Step.plain rfl (does_fieldAddr 27 2 2 2 0 0 [] (.var (e_api_Id p0)) fl27_2), ⟨⟨rfl, trivial⟩, ⟨rfl, trivial⟩, rfl⟩, rfl,
    Step.plain rfl (does_load 22 15 0 (0 + 2) [2] (.var (e_api_Id p0)) (.int .u32 p0.Inc) ⟨rfl, Nat.le_of_ble_eq_true rfl, trivial⟩ rfl rfl ty22), ⟨⟨rfl, trivial⟩, ⟨rfl, trivial⟩, rfl⟩, rfl,
    Step.plain rfl (does_fieldAddr 27 2 2 3 1 0 [] (.var (e_api_Id p1)) fl27_2), ⟨⟨rfl, trivial⟩, ⟨rfl, trivial⟩, rfl⟩, rfl,
    Step.plain rfl (does_load 22 17 1 (0 + 2) [2] (.var (e_api_Id p1)) (.int .u32 p1.Inc) ⟨rfl, Nat.le_of_ble_eq_true rfl, trivial⟩ rfl rfl ty22), ⟨⟨rfl, trivial⟩, ⟨rfl, trivial⟩, rfl⟩, rfl,
    Step.plain rfl (does_call 37 0 (fun _ => .any) (.func 37) [(.tmp 16), (.tmp 18)] [(.int .u32 p0.Inc), (.int .u32 p1.Inc)] [] true [(.int .u32 p0.Inc), (.int .u32 p1.Inc)] (.int .i64 v5) _ _ rfl fo37 rfl ⟨trivial, trivial, trivial⟩ ⟨.data _ trivial, .data _ trivial, trivial⟩ (cmp_Compare_uint32_spec p0.Inc p1.Inc _ h6) trivial), ⟨⟨rfl, rfl, trivial⟩, trivial, rfl⟩, rfl,
    Step.plain rfl (does_buildSl 63 3 1 (.int .i64 0) (fun j => (.int .i64 (([v1, v3, v5] : _root_.List Int).getD j 0))) #[(0, (.tmp 9)), (1, (.tmp 14)), (2, (.tmp 19))] [(0, (.tmp 9)), (1, (.tmp 14)), (2, (.tmp 19))] [(0, (.int .i64 v1)), (1, (.int .i64 v3)), (2, (.int .i64 v5))] rfl so63 (by decide) ⟨⟨rfl, trivial⟩, ⟨rfl, trivial⟩, ⟨rfl, trivial⟩, trivial⟩ ⟨⟨Nat.le_of_ble_eq_true rfl, rfl, rfl⟩, ⟨Nat.le_of_ble_eq_true rfl, rfl, rfl⟩, ⟨Nat.le_of_ble_eq_true rfl, rfl, rfl⟩, trivial⟩ (fun j h => match j, h with | 0, _ => rfl | 1, _ => rfl | 2, _ => rfl | k + 3, h => absurd h (by omega))), ⟨⟨rfl, rfl, rfl, trivial⟩, trivial, rfl⟩, rfl,
    Step.plain rfl (does_call 36 0 (fun _ => .any) (.func 36) [(.tmp 20)] [(e_s_i64 ([v1, v3, v5] : _root_.List Int))] [] true [(e_s_i64 ([v1, v3, v5] : _root_.List Int))] (.int .i64 v7) _ _ rfl fo36 rfl ⟨trivial, trivial⟩ ⟨.data _ (d_s_i64 ([v1, v3, v5] : _root_.List Int)), trivial⟩ (cmp_Or_int_spec ([v1, v3, v5] : _root_.List Int) _ h8) trivial), ⟨⟨rfl, trivial⟩, trivial, rfl⟩, rfl,
    Step.plain rfl (does_assign (.tmp 21) (.int .i64 v7) trivial), ⟨⟨rfl, trivial⟩, trivial, rfl⟩, rfl, rfl⟩ rfl ?_
  refine aw_cov (cov_prune (s1 := ⟨[(4, (.int .i64 v7))], [], 2⟩) ⟨rfl, trivial⟩ trivial (Nat.le_refl _)) ?_
  refine aw_ret ?_
  exact fun a w hr => ⟨_, [(.int .i64 v7)], hr, ⟨⟨_, rfl, .data _ trivial⟩, trivial⟩, by decide, by cases H; rfl⟩

theorem gather_stands_spec (p0 : api_Core) (p1 : (Nat → Int)) (r : Bool) (H : gather_stands p0 p1 = some r) : FSpec Try.prog 27 [(e_api_Core p0), (e_a8_u32 p1)] (.bool r) := by
  refine spec_of (fn := Try.f27) (args := [(e_api_Core p0), (e_a8_u32 p1)]) Try.func27 rfl (Nat.le_of_ble_eq_true rfl) ?_
  rintro ⟨G, w0, W, S, Sp⟩ hG
  cases hG
  unfold gather_stands at H
  refine aw_region (es := [_, _, _]) ⟨Step.plain rfl (does_box 35 (.tmp 0) 0 (e_api_Core p0) trivial rfl), ⟨⟨rfl, trivial⟩, trivial, rfl⟩, rfl,
    Step.plain rfl (does_box 28 (.tmp 1) 1 (e_a8_u32 p1) trivial rfl), ⟨⟨rfl, trivial⟩, trivial, rfl⟩, rfl,
    Step.plain rfl (does_assign (.const (.bool false)) (.bool false) (fun _ => rfl)), ⟨trivial, trivial, rfl⟩, rfl, rfl⟩ ?_
  refine aw_cov (cov_prune (s1 := ⟨[(2, (.ptr 0 0 [])), (3, (.ptr 1 0 []))], [(0, some (.var (e_api_Core p0))), (1, some (.var (e_a8_u32 p1)))], 2⟩) ⟨rfl, rfl, trivial⟩ ⟨rfl, rfl, trivial⟩ (Nat.le_refl _)) ?_
  refine aw_seq ?_
  refine aw_region (es := [_, _, _, _, _, _, _, _, _, _, _, _, _, _, _, _, _, _, _, _, _]) ⟨Step.plain rfl (does_fieldAddr 35 8 40 2 0 0 [] (.var (e_api_Core p0)) fl35_8), ⟨⟨rfl, trivial⟩, ⟨rfl, trivial⟩, rfl⟩, rfl,
    Step.plain rfl (does_fieldAddr 27 1 1 8 0 (0 + 40) [8] (.var (e_api_Core p0)) fl27_1), ⟨⟨rfl, trivial⟩, ⟨rfl, trivial⟩, rfl⟩, rfl,
    Step.plain rfl (does_load 22 9 0 ((0 + 40) + 1) [8, 1] (.var (e_api_Core p0)) (.int .u32 p0.Promise.Coord) ⟨rfl, Nat.le_of_ble_eq_true rfl, ⟨rfl, Nat.le_of_ble_eq_true rfl, trivial⟩⟩ rfl rfl ty22), ⟨⟨rfl, trivial⟩, ⟨rfl, trivial⟩, rfl⟩, rfl,
    Step.plain rfl (does_convInt 22 2 (.tmp 10) .u32 .i64 p0.Promise.Coord trivial rfl rfl), ⟨⟨rfl, trivial⟩, trivial, rfl⟩, rfl,
    Step.plain rfl (does_fieldAddr 35 0 0 2 0 0 [] (.var (e_api_Core p0)) fl35_0), ⟨⟨rfl, trivial⟩, ⟨rfl, trivial⟩, rfl⟩, rfl,
    Step.plain rfl (does_load 3 12 0 (0 + 0) [0] (.var (e_api_Core p0)) (.int .i64 p0.Self) ⟨rfl, Nat.le_of_ble_eq_true rfl, trivial⟩ rfl rfl ty3), ⟨⟨rfl, trivial⟩, ⟨rfl, trivial⟩, rfl⟩, rfl,
    Step.plain rfl (does_bin .neq 2 2 (.tmp 11) (.tmp 13) .i64 (IntKind.i64.wrap (p0.Promise.Coord)) p0.Self (.bool ((IntKind.i64.wrap (p0.Promise.Coord)) != p0.Self)) trivial trivial (bin_neq _ _ _ _)), ⟨⟨rfl, rfl, trivial⟩, trivial, rfl⟩, rfl,
    Step.plain rfl (does_move (.tmp 14) (.bool ((IntKind.i64.wrap (p0.Promise.Coord)) != p0.Self)) trivial), ⟨⟨rfl, trivial⟩, trivial, rfl⟩, rfl,
    Step.guarded rfl rfl rfl rfl (fun hc => does_fieldAddr 35 8 40 2 0 0 [] (.var (e_api_Core p0)) fl35_8), ⟨⟨rfl, rfl, trivial⟩, ⟨rfl, trivial⟩, rfl⟩, rfl,
    Step.guarded rfl rfl rfl rfl (fun hc => Does.strip (n' := [(16, (.opt (!((IntKind.i64.wrap (p0.Promise.Coord)) != p0.Self)) (.ptr 0 (0 + 40) [8])))]) (n := [(16, (.ptr 0 (0 + 40) [8]))]) ⟨(.opt _ _ hc), trivial⟩ (does_fieldAddr 27 2 2 16 0 (0 + 40) [8] (.var (e_api_Core p0)) fl27_2)), ⟨⟨rfl, rfl, trivial⟩, ⟨rfl, trivial⟩, rfl⟩, rfl,
    Step.guarded rfl rfl rfl rfl (fun hc => Does.strip (n' := [(17, (.opt (!((IntKind.i64.wrap (p0.Promise.Coord)) != p0.Self)) (.ptr 0 ((0 + 40) + 2) [8, 2])))]) (n := [(17, (.ptr 0 ((0 + 40) + 2) [8, 2]))]) ⟨(.opt _ _ hc), trivial⟩ (does_load 22 17 0 ((0 + 40) + 2) [8, 2] (.var (e_api_Core p0)) (.int .u32 p0.Promise.Inc) ⟨rfl, Nat.le_of_ble_eq_true rfl, ⟨rfl, Nat.le_of_ble_eq_true rfl, trivial⟩⟩ rfl rfl ty22)), ⟨⟨rfl, rfl, trivial⟩, ⟨rfl, trivial⟩, rfl⟩, rfl,
    Step.guarded rfl rfl rfl rfl (fun hc => does_fieldAddr 35 2 2 2 0 0 [] (.var (e_api_Core p0)) fl35_2), ⟨⟨rfl, rfl, trivial⟩, ⟨rfl, trivial⟩, rfl⟩, rfl,
    Step.guarded rfl rfl rfl rfl (fun hc => Does.strip (n' := [(19, (.opt (!((IntKind.i64.wrap (p0.Promise.Coord)) != p0.Self)) (.ptr 0 (0 + 2) [2])))]) (n := [(19, (.ptr 0 (0 + 2) [2]))]) ⟨(.opt _ _ hc), trivial⟩ (does_load 22 19 0 (0 + 2) [2] (.var (e_api_Core p0)) (.int .u32 p0.Own) ⟨rfl, Nat.le_of_ble_eq_true rfl, trivial⟩ rfl rfl ty22)), ⟨⟨rfl, rfl, trivial⟩, ⟨rfl, trivial⟩, rfl⟩, rfl,
    Step.guarded rfl rfl rfl rfl (fun hc => Does.strip (n' := [(18, (.opt (!((IntKind.i64.wrap (p0.Promise.Coord)) != p0.Self)) (.int .u32 p0.Promise.Inc))), (20, (.opt (!((IntKind.i64.wrap (p0.Promise.Coord)) != p0.Self)) (.int .u32 p0.Own)))]) (n := [(18, (.int .u32 p0.Promise.Inc)), (20, (.int .u32 p0.Own))]) ⟨(.opt _ _ hc), (.opt _ _ hc), trivial⟩ (does_bin .neq 22 22 (.tmp 18) (.tmp 20) .u32 p0.Promise.Inc p0.Own (.bool (p0.Promise.Inc != p0.Own)) trivial trivial (bin_neq _ _ _ _))), ⟨⟨rfl, rfl, rfl, trivial⟩, trivial, rfl⟩, rfl,
    Step.plain rfl (does_or 15 21 ((IntKind.i64.wrap (p0.Promise.Coord)) != p0.Self) (p0.Promise.Inc != p0.Own)), ⟨⟨rfl, rfl, trivial⟩, trivial, rfl⟩, rfl,
    Step.plain rfl (does_move (.tmp 22) (.bool (((IntKind.i64.wrap (p0.Promise.Coord)) != p0.Self) || (p0.Promise.Inc != p0.Own))) trivial), ⟨⟨rfl, trivial⟩, trivial, rfl⟩, rfl,
    Step.guarded rfl rfl rfl rfl (fun hc => does_fieldAddr 35 9 43 2 0 0 [] (.var (e_api_Core p0)) fl35_9), ⟨⟨rfl, rfl, trivial⟩, ⟨rfl, trivial⟩, rfl⟩, rfl,
    Step.guarded rfl rfl rfl rfl (fun hc => Does.strip (n' := [(24, (.opt (!(((IntKind.i64.wrap (p0.Promise.Coord)) != p0.Self) || (p0.Promise.Inc != p0.Own))) (.ptr 0 (0 + 43) [9])))]) (n := [(24, (.ptr 0 (0 + 43) [9]))]) ⟨(.opt _ _ hc), trivial⟩ (does_load 28 24 0 (0 + 43) [9] (.var (e_api_Core p0)) (e_a8_u32 p0.Wanted) ⟨rfl, Nat.le_of_ble_eq_true rfl, trivial⟩ rfl rfl ty28)), ⟨⟨rfl, rfl, trivial⟩, ⟨rfl, trivial⟩, rfl⟩, rfl,
    Step.guarded rfl rfl rfl rfl (fun hc => does_load 28 3 1 0 [] (.var (e_a8_u32 p1)) (e_a8_u32 p1) trivial rfl rfl ty28), ⟨⟨rfl, rfl, trivial⟩, ⟨rfl, trivial⟩, rfl⟩, rfl,
    Step.guarded rfl rfl rfl rfl (fun hc => Does.strip (n' := [(25, (.opt (!(((IntKind.i64.wrap (p0.Promise.Coord)) != p0.Self) || (p0.Promise.Inc != p0.Own))) (e_a8_u32 p0.Wanted))), (26, (.opt (!(((IntKind.i64.wrap (p0.Promise.Coord)) != p0.Self) || (p0.Promise.Inc != p0.Own))) (e_a8_u32 p1)))]) (n := [(25, (e_a8_u32 p0.Wanted)), (26, (e_a8_u32 p1))]) ⟨(.opt _ _ hc), (.opt _ _ hc), trivial⟩ (does_eqT true 28 28 (.tmp 25) (.tmp 26) (e_a8_u32 p0.Wanted) (e_a8_u32 p1) (e_a8_u32 (fun _ => 0)) (b_a8_u32 p0.Wanted p1) rfl rfl trivial trivial eg28 sh28 (al_a8_u32 _ _) (al_a8_u32 _ _) (q_a8_u32 _ _))), ⟨⟨rfl, rfl, rfl, trivial⟩, trivial, rfl⟩, rfl,
    Step.plain rfl (does_or 23 27 (((IntKind.i64.wrap (p0.Promise.Coord)) != p0.Self) || (p0.Promise.Inc != p0.Own)) (!(b_a8_u32 p0.Wanted p1))), ⟨⟨rfl, rfl, trivial⟩, trivial, rfl⟩, rfl, rfl⟩ ?_
  obtain ⟨v1, hv1, H⟩ := lt_of H
  refine aw_cov (cov_prune (s1 := ⟨[(2, (.ptr 0 0 [])), (3, (.ptr 1 0 [])), (28, (.bool v1))], [(0, some (.var (e_api_Core p0))), (1, some (.var (e_a8_u32 p1)))], 2⟩) ⟨rfl, rfl, (by subst hv1; rfl), trivial⟩ ⟨rfl, rfl, trivial⟩ (Nat.le_refl _)) ?_
  refine aw_cond rfl (fun hc => ?_) (fun hc => ?_)
  · replace H := ite_t hc H
    refine aw_region (es := [_]) ⟨Step.plain rfl (does_assign (.const (.bool false)) (.bool false) (fun _ => rfl)), ⟨trivial, trivial, rfl⟩, rfl, rfl⟩ ?_
    refine aw_cov (cov_prune (s1 := ⟨[(4, (.bool false))], [], 2⟩) ⟨rfl, trivial⟩ trivial (Nat.le_refl _)) ?_
    refine aw_ret ?_
    refine rt_then ?_
    exact fun a w hr => ⟨_, [(.bool false)], hr, ⟨⟨_, rfl, .data _ trivial⟩, trivial⟩, by decide, by cases H; rfl⟩
  · replace H := ite_f hc H
    refine aw_skip ?_
    refine nx_seq ?_
    refine aw_seq ?_
    obtain ⟨v2, h3, H⟩ := bnd H
    refine aw_region (es := [_, _, _, _]) ⟨Step.plain rfl (does_load 28 3 1 0 [] (.var (e_a8_u32 p1)) (e_a8_u32 p1) trivial rfl rfl ty28), ⟨⟨rfl, trivial⟩, ⟨rfl, trivial⟩, rfl⟩, rfl,
      Step.plain rfl (does_callO 28 0 (fun _ => .any) (.func 28) [(.tmp 29)] [(e_a8_u32 p1)] [] [] true [(e_a8_u32 p1)] _ (.own 2) _ 2 1 _ _ rfl fo28 rfl ⟨trivial, trivial⟩ ⟨.ro _ _ (.data _ (d_a8_u32 p1)), trivial⟩ (ident_List_spec p1 _ h3) rfl (by simp) rfl trivial ⟨⟨Nat.le_of_ble_eq_true rfl, _, rfl, fun _ => trivial⟩, trivial⟩ (.own 0 (Nat.le_of_ble_eq_true rfl))), ⟨⟨rfl, trivial⟩, trivial, rfl⟩, rfl,
      Step.plain rfl (does_leno 63 1 v2.length 30 2 (fun j => (.int .i64 (v2.getD j 0))) el63), ⟨⟨rfl, trivial⟩, ⟨rfl, trivial⟩, rfl⟩, rfl,
      Step.plain rfl (does_move (.const (.int .i64 0)) (.int .i64 0) (fun _ => rfl)), ⟨trivial, trivial, rfl⟩, rfl, rfl⟩ ?_
    refine aw_cov (cov_prune (s1 := ⟨[(2, (.ptr 0 0 [])), (3, (.ptr 1 0 [])), (30, (.own 2)), (31, (.int .i64 (v2.length : Int))), (32, (.int .i64 0))], [(0, some (.var (e_api_Core p0))), (1, some (.var (e_a8_u32 p1))), (2, some (.arr 1 v2.length fun j => (.int .i64 (v2.getD j 0))))], 3⟩) ⟨rfl, rfl, rfl, rfl, rfl, trivial⟩ ⟨rfl, rfl, rfl, trivial⟩ (Nat.le_refl _)) ?_
    obtain ⟨wn5, hwn5, Hrn5⟩ := bnd H
    refine aw_meet (fun y12 : Unit => (⟨[], [], 3⟩ : St)) (fun y12 => Fl.nx y12 = wn5) (fun y12 hy => ?_) (aw_block (aw_runs (fun x4 : Int => (⟨[(2, (.ptr 0 0 [])), (3, (.ptr 1 0 [])), (30, (.own 2)), (31, (.int .i64 (v2.length : Int))), (32, (.int .i64 x4))], [(0, some (.var (e_api_Core p0))), (1, some (.var (e_a8_u32 p1))), (2, some (.arr 1 v2.length fun j => (.int .i64 (v2.getD j 0))))], 3⟩ : St)) hwn5 (cov_prune ⟨rfl, rfl, rfl, rfl, rfl, trivial⟩ ⟨rfl, rfl, rfl, trivial⟩ (Nat.le_of_ble_eq_true rfl)) (fun x4 st H hsn5 => ?_)))
    · have H := nx_of hy Hrn5
      refine nx_seq ?_
      refine aw_region (es := [_]) ⟨Step.plain rfl (does_assign (.const (.bool true)) (.bool true) (fun _ => rfl)), ⟨trivial, trivial, rfl⟩, rfl, rfl⟩ ?_
      refine aw_cov (cov_prune (s1 := ⟨[(4, (.bool true))], [], 3⟩) ⟨rfl, trivial⟩ trivial (Nat.le_refl _)) ?_
      refine aw_ret ?_
      exact fun a w hr => ⟨_, [(.bool true)], hr, ⟨⟨_, rfl, .data _ trivial⟩, trivial⟩, by decide, by cases H; rfl⟩
    · refine aw_region (es := [_]) ⟨Step.plain rfl (does_bin .lss 3 3 (.tmp 32) (.tmp 31) .i64 x4 (v2.length : Int) (.bool (decide (x4 < (v2.length : Int)))) trivial trivial (bin_lss _ _ _ _)), ⟨⟨rfl, rfl, trivial⟩, trivial, rfl⟩, rfl, rfl⟩ ?_
      refine aw_cov (cov_prune (s1 := ⟨[(2, (.ptr 0 0 [])), (3, (.ptr 1 0 [])), (30, (.own 2)), (31, (.int .i64 (v2.length : Int))), (32, (.int .i64 x4)), (33, (.bool (decide (x4 < (v2.length : Int)))))], [(0, some (.var (e_api_Core p0))), (1, some (.var (e_a8_u32 p1))), (2, some (.arr 1 v2.length fun j => (.int .i64 (v2.getD j 0))))], 3⟩) ⟨rfl, rfl, rfl, rfl, rfl, rfl, trivial⟩ ⟨rfl, rfl, rfl, trivial⟩ (Nat.le_refl _)) ?_
      refine aw_seq ?_
      refine aw_cond rfl (fun hc => ?_) (fun hc => ?_)
      · replace H := ite_t hc H
        refine aw_skip ?_
        refine nx_seq ?_
        refine aw_seq ?_
        refine aw_block ?_
        obtain ⟨h6, H⟩ := ib_of H
        refine aw_region (es := [_, _, _]) ⟨Step.plain rfl (does_indexAddro 63 1 v2.length 30 2 (fun j => (.int .i64 (v2.getD j 0))) (.tmp 32) .i64 x4 el63 trivial h6.1 h6.2), ⟨⟨rfl, rfl, trivial⟩, ⟨rfl, trivial⟩, rfl⟩, rfl,
          Step.plain rfl (does_load 3 34 2 (x4.toNat * 1) [x4.toNat] (.arr 1 v2.length fun j => (.int .i64 (v2.getD j 0))) (.int .i64 (v2.getD x4.toNat 0)) ⟨(ixl h6), trivial⟩ rfl rfl ty3), ⟨⟨rfl, trivial⟩, ⟨rfl, trivial⟩, rfl⟩, rfl,
          Step.plain rfl (does_assign (.tmp 35) (.int .i64 (v2.getD x4.toNat 0)) trivial), ⟨⟨rfl, trivial⟩, trivial, rfl⟩, rfl, rfl⟩ ?_
        refine aw_cov (cov_prune (s1 := ⟨[(2, (.ptr 0 0 [])), (3, (.ptr 1 0 [])), (30, (.own 2)), (31, (.int .i64 (v2.length : Int))), (32, (.int .i64 x4)), (6, (.int .i64 (v2.getD x4.toNat 0)))], [(0, some (.var (e_api_Core p0))), (1, some (.var (e_a8_u32 p1))), (2, some (.arr 1 v2.length fun j => (.int .i64 (v2.getD j 0))))], 3⟩) ⟨rfl, rfl, rfl, rfl, rfl, rfl, trivial⟩ ⟨rfl, rfl, rfl, trivial⟩ (Nat.le_refl _)) ?_
        obtain ⟨h7, H⟩ := ib_of H
        refine aw_region (es := [_, _, _, _, _, _]) ⟨Step.plain rfl (does_move (.tmp 6) (.int .i64 (v2.getD x4.toNat 0)) trivial), ⟨⟨rfl, trivial⟩, trivial, rfl⟩, rfl,
          Step.plain rfl (does_fieldAddr 35 12 60 2 0 0 [] (.var (e_api_Core p0)) fl35_12), ⟨⟨rfl, trivial⟩, ⟨rfl, trivial⟩, rfl⟩, rfl,
          Step.plain rfl (does_indexAddr 33 8 16 37 0 (0 + 60) [12] (.var (e_api_Core p0)) (.tmp 36) .i64 (v2.getD x4.toNat 0) el33 trivial h7.1 h7.2), ⟨⟨rfl, rfl, trivial⟩, ⟨rfl, trivial⟩, rfl⟩, rfl,
          Step.plain rfl (does_load 32 38 0 ((0 + 60) + (v2.getD x4.toNat 0).toNat * 16) [12, (v2.getD x4.toNat 0).toNat] (.var (e_api_Core p0)) (e_api_Peer (p0.Peers ((v2.getD x4.toNat 0).toNat))) ⟨rfl, Nat.le_of_ble_eq_true rfl, ⟨rfl, (ixl h7), trivial⟩⟩ rfl rfl ty32), ⟨⟨rfl, trivial⟩, ⟨rfl, trivial⟩, rfl⟩, rfl,
          Step.plain rfl (does_alloc 32 3 (e_api_Peer z_api_Peer) zr32), ⟨trivial, trivial, rfl⟩, rfl,
          Step.plain rfl (does_store 32 7 (.tmp 39) 3 0 [] (.var (e_api_Peer z_api_Peer)) (.var (e_api_Peer (p0.Peers ((v2.getD x4.toNat 0).toNat)))) (e_api_Peer (p0.Peers ((v2.getD x4.toNat 0).toNat))) true trivial rfl trivial rfl rfl rfl ty32), ⟨⟨rfl, rfl, trivial⟩, ⟨rfl, trivial⟩, rfl⟩, rfl, rfl⟩ ?_
        refine aw_cov (cov_prune (s1 := ⟨[(2, (.ptr 0 0 [])), (3, (.ptr 1 0 [])), (30, (.own 2)), (31, (.int .i64 (v2.length : Int))), (32, (.int .i64 x4)), (6, (.int .i64 (v2.getD x4.toNat 0))), (7, (.ptr 3 0 []))], [(0, some (.var (e_api_Core p0))), (1, some (.var (e_a8_u32 p1))), (2, some (.arr 1 v2.length fun j => (.int .i64 (v2.getD j 0)))), (3, some (.var (e_api_Peer (p0.Peers ((v2.getD x4.toNat 0).toNat)))))], 4⟩) ⟨rfl, rfl, rfl, rfl, rfl, rfl, rfl, trivial⟩ ⟨rfl, rfl, rfl, rfl, trivial⟩ (Nat.le_refl _)) ?_
        obtain ⟨h8, H⟩ := ibg_of H
        obtain ⟨v9, h10, H⟩ := whn_of H
        refine aw_draw (es := [_, _, _, _, _, _, _, _, _, _, _, _, _, _, _, _, _, _, _, _]) (mixed) ⟨Step.plain rfl (does_move (.tmp 6) (.int .i64 (v2.getD x4.toNat 0)) trivial), ⟨⟨rfl, trivial⟩, trivial, rfl⟩, rfl,
          Step.plain rfl (does_fieldAddr 35 0 0 2 0 0 [] (.var (e_api_Core p0)) fl35_0), ⟨⟨rfl, trivial⟩, ⟨rfl, trivial⟩, rfl⟩, rfl,
          Step.plain rfl (does_load 3 41 0 (0 + 0) [0] (.var (e_api_Core p0)) (.int .i64 p0.Self) ⟨rfl, Nat.le_of_ble_eq_true rfl, trivial⟩ rfl rfl ty3), ⟨⟨rfl, trivial⟩, ⟨rfl, trivial⟩, rfl⟩, rfl,
          Step.plain rfl (does_bin .neq 3 3 (.tmp 40) (.tmp 42) .i64 (v2.getD x4.toNat 0) p0.Self (.bool ((v2.getD x4.toNat 0) != p0.Self)) trivial trivial (bin_neq _ _ _ _)), ⟨⟨rfl, rfl, trivial⟩, trivial, rfl⟩, rfl,
          Step.plain rfl (does_move (.tmp 43) (.bool ((v2.getD x4.toNat 0) != p0.Self)) trivial), ⟨⟨rfl, trivial⟩, trivial, rfl⟩, rfl,
          Step.guarded rfl rfl rfl rfl (fun hc => does_fieldAddr 32 0 0 7 3 0 [] (.var (e_api_Peer (p0.Peers ((v2.getD x4.toNat 0).toNat)))) fl32_0), ⟨⟨rfl, rfl, trivial⟩, ⟨rfl, trivial⟩, rfl⟩, rfl,
          Step.guarded rfl rfl rfl rfl (fun hc => Does.strip (n' := [(45, (.opt ((v2.getD x4.toNat 0) != p0.Self) (.ptr 3 (0 + 0) [0])))]) (n := [(45, (.ptr 3 (0 + 0) [0]))]) ⟨(.opt _ _ hc), trivial⟩ (does_load 22 45 3 (0 + 0) [0] (.var (e_api_Peer (p0.Peers ((v2.getD x4.toNat 0).toNat)))) (.int .u32 ((p0.Peers ((v2.getD x4.toNat 0).toNat)).Inc)) ⟨rfl, Nat.le_of_ble_eq_true rfl, trivial⟩ rfl rfl ty22)), ⟨⟨rfl, rfl, trivial⟩, ⟨rfl, trivial⟩, rfl⟩, rfl,
          Step.guarded rfl rfl rfl rfl (fun hc => does_move (.tmp 6) (.int .i64 (v2.getD x4.toNat 0)) trivial), ⟨⟨rfl, rfl, trivial⟩, trivial, rfl⟩, rfl,
          Step.guarded rfl rfl rfl rfl (fun hc => Does.strip (n' := [(3, (.ptr 1 0 [])), (47, (.opt ((v2.getD x4.toNat 0) != p0.Self) (.int .i64 (v2.getD x4.toNat 0))))]) (n := [(3, (.ptr 1 0 [])), (47, (.int .i64 (v2.getD x4.toNat 0)))]) ⟨(.same _), (.opt _ _ hc), trivial⟩ (does_indexAddr 28 8 1 3 1 0 [] (.var (e_a8_u32 p1)) (.tmp 47) .i64 (v2.getD x4.toNat 0) el28 trivial (h8 hc).1 (h8 hc).2)), ⟨⟨rfl, rfl, rfl, trivial⟩, ⟨rfl, trivial⟩, rfl⟩, rfl,
          Step.guarded rfl rfl rfl rfl (fun hc => Does.strip (n' := [(48, (.opt ((v2.getD x4.toNat 0) != p0.Self) (.ptr 1 (0 + (v2.getD x4.toNat 0).toNat * 1) [(v2.getD x4.toNat 0).toNat])))]) (n := [(48, (.ptr 1 (0 + (v2.getD x4.toNat 0).toNat * 1) [(v2.getD x4.toNat 0).toNat]))]) ⟨(.opt _ _ hc), trivial⟩ (does_load 22 48 1 (0 + (v2.getD x4.toNat 0).toNat * 1) [(v2.getD x4.toNat 0).toNat] (.var (e_a8_u32 p1)) (.int .u32 (p1 ((v2.getD x4.toNat 0).toNat))) ⟨rfl, (ixl (h8 hc)), trivial⟩ rfl rfl ty22)), ⟨⟨rfl, rfl, trivial⟩, ⟨rfl, trivial⟩, rfl⟩, rfl,
          Step.guarded rfl rfl rfl rfl (fun hc => Does.strip (n' := [(46, (.opt ((v2.getD x4.toNat 0) != p0.Self) (.int .u32 ((p0.Peers ((v2.getD x4.toNat 0).toNat)).Inc)))), (49, (.opt ((v2.getD x4.toNat 0) != p0.Self) (.int .u32 (p1 ((v2.getD x4.toNat 0).toNat)))))]) (n := [(46, (.int .u32 ((p0.Peers ((v2.getD x4.toNat 0).toNat)).Inc))), (49, (.int .u32 (p1 ((v2.getD x4.toNat 0).toNat))))]) ⟨(.opt _ _ hc), (.opt _ _ hc), trivial⟩ (does_bin .eql 22 22 (.tmp 46) (.tmp 49) .u32 ((p0.Peers ((v2.getD x4.toNat 0).toNat)).Inc) (p1 ((v2.getD x4.toNat 0).toNat)) (.bool (((p0.Peers ((v2.getD x4.toNat 0).toNat)).Inc) == (p1 ((v2.getD x4.toNat 0).toNat)))) trivial trivial (bin_eql _ _ _ _))), ⟨⟨rfl, rfl, rfl, trivial⟩, trivial, rfl⟩, rfl,
          Step.plain rfl (does_and 44 50 ((v2.getD x4.toNat 0) != p0.Self) (((p0.Peers ((v2.getD x4.toNat 0).toNat)).Inc) == (p1 ((v2.getD x4.toNat 0).toNat)))), ⟨⟨rfl, rfl, trivial⟩, trivial, rfl⟩, rfl,
          Step.plain rfl (does_move (.tmp 51) (.bool (((v2.getD x4.toNat 0) != p0.Self) && (((p0.Peers ((v2.getD x4.toNat 0).toNat)).Inc) == (p1 ((v2.getD x4.toNat 0).toNat))))) trivial), ⟨⟨rfl, trivial⟩, trivial, rfl⟩, rfl,
          Step.guarded rfl rfl rfl rfl (fun hc => does_fieldAddr 32 2 4 7 3 0 [] (.var (e_api_Peer (p0.Peers ((v2.getD x4.toNat 0).toNat)))) fl32_2), ⟨⟨rfl, rfl, trivial⟩, ⟨rfl, trivial⟩, rfl⟩, rfl,
          Step.guarded rfl rfl rfl rfl (fun hc => Does.strip (n' := [(53, (.opt (((v2.getD x4.toNat 0) != p0.Self) && (((p0.Peers ((v2.getD x4.toNat 0).toNat)).Inc) == (p1 ((v2.getD x4.toNat 0).toNat)))) (.ptr 3 (0 + 4) [2])))]) (n := [(53, (.ptr 3 (0 + 4) [2]))]) ⟨(.opt _ _ hc), trivial⟩ (does_load 27 53 3 (0 + 4) [2] (.var (e_api_Peer (p0.Peers ((v2.getD x4.toNat 0).toNat)))) (e_api_Id ((p0.Peers ((v2.getD x4.toNat 0).toNat)).Promise)) ⟨rfl, Nat.le_of_ble_eq_true rfl, trivial⟩ rfl rfl ty27)), ⟨⟨rfl, rfl, trivial⟩, ⟨rfl, trivial⟩, rfl⟩, rfl,
          Step.guarded rfl rfl rfl rfl (fun hc => does_fieldAddr 35 8 40 2 0 0 [] (.var (e_api_Core p0)) fl35_8), ⟨⟨rfl, rfl, trivial⟩, ⟨rfl, trivial⟩, rfl⟩, rfl,
          Step.guarded rfl rfl rfl rfl (fun hc => Does.strip (n' := [(55, (.opt (((v2.getD x4.toNat 0) != p0.Self) && (((p0.Peers ((v2.getD x4.toNat 0).toNat)).Inc) == (p1 ((v2.getD x4.toNat 0).toNat)))) (.ptr 0 (0 + 40) [8])))]) (n := [(55, (.ptr 0 (0 + 40) [8]))]) ⟨(.opt _ _ hc), trivial⟩ (does_load 27 55 0 (0 + 40) [8] (.var (e_api_Core p0)) (e_api_Id p0.Promise) ⟨rfl, Nat.le_of_ble_eq_true rfl, trivial⟩ rfl rfl ty27)), ⟨⟨rfl, rfl, trivial⟩, ⟨rfl, trivial⟩, rfl⟩, rfl,
          Step.guarded rfl rfl rfl rfl (fun hc => Does.strip (n' := [(54, (.opt (((v2.getD x4.toNat 0) != p0.Self) && (((p0.Peers ((v2.getD x4.toNat 0).toNat)).Inc) == (p1 ((v2.getD x4.toNat 0).toNat)))) (e_api_Id ((p0.Peers ((v2.getD x4.toNat 0).toNat)).Promise)))), (56, (.opt (((v2.getD x4.toNat 0) != p0.Self) && (((p0.Peers ((v2.getD x4.toNat 0).toNat)).Inc) == (p1 ((v2.getD x4.toNat 0).toNat)))) (e_api_Id p0.Promise)))]) (n := [(54, (e_api_Id ((p0.Peers ((v2.getD x4.toNat 0).toNat)).Promise))), (56, (e_api_Id p0.Promise))]) ⟨(.opt _ _ hc), (.opt _ _ hc), trivial⟩ (does_call 23 0 (fun _ => .any) (.func 23) [(.tmp 54), (.tmp 56)] [(e_api_Id ((p0.Peers ((v2.getD x4.toNat 0).toNat)).Promise)), (e_api_Id p0.Promise)] [] true [(e_api_Id ((p0.Peers ((v2.getD x4.toNat 0).toNat)).Promise)), (e_api_Id p0.Promise)] (.int .i64 v9) _ _ rfl fo23 rfl ⟨trivial, trivial, trivial⟩ ⟨.data _ (d_api_Id ((p0.Peers ((v2.getD x4.toNat 0).toNat)).Promise)), .data _ (d_api_Id p0.Promise), trivial⟩ (ident_Compare_spec ((p0.Peers ((v2.getD x4.toNat 0).toNat)).Promise) p0.Promise _ (h10 hc)) trivial)), ⟨⟨rfl, rfl, rfl, trivial⟩, trivial, rfl⟩, rfl,
          Step.guarded rfl rfl rfl rfl (fun hc => Does.strip (n' := [(57, (.opt (((v2.getD x4.toNat 0) != p0.Self) && (((p0.Peers ((v2.getD x4.toNat 0).toNat)).Inc) == (p1 ((v2.getD x4.toNat 0).toNat)))) (.int .i64 v9)))]) (n := [(57, (.int .i64 v9))]) ⟨(.opt _ _ hc), trivial⟩ (does_bin .gtr 3 3 (.tmp 57) (.const (.int .i64 0)) .i64 v9 0 (.bool (decide (v9 > 0))) trivial (fun _ => rfl) (bin_gtr _ _ _ _))), ⟨⟨rfl, rfl, trivial⟩, trivial, rfl⟩, rfl,
          Step.plain rfl (does_and 52 58 (((v2.getD x4.toNat 0) != p0.Self) && (((p0.Peers ((v2.getD x4.toNat 0).toNat)).Inc) == (p1 ((v2.getD x4.toNat 0).toNat)))) (decide (v9 > 0))), ⟨⟨rfl, rfl, trivial⟩, trivial, rfl⟩, rfl, rfl⟩ rfl ?_
        obtain ⟨v11, hv11, H⟩ := lt_of H
        refine aw_cov (cov_prune (s1 := ⟨[(2, (.ptr 0 0 [])), (3, (.ptr 1 0 [])), (30, (.own 2)), (31, (.int .i64 (v2.length : Int))), (32, (.int .i64 x4)), (59, (.bool v11))], [(0, some (.var (e_api_Core p0))), (1, some (.var (e_a8_u32 p1))), (2, some (.arr 1 v2.length fun j => (.int .i64 (v2.getD j 0))))], 4⟩) ⟨rfl, rfl, rfl, rfl, rfl, (by subst hv11; rfl), trivial⟩ ⟨rfl, rfl, rfl, trivial⟩ (Nat.le_refl _)) ?_
        refine aw_cond rfl (fun hc => ?_) (fun hc => ?_)
        · replace H := ite_t hc H
          refine aw_region (es := [_]) ⟨Step.plain rfl (does_assign (.const (.bool false)) (.bool false) (fun _ => rfl)), ⟨trivial, trivial, rfl⟩, rfl, rfl⟩ ?_
          refine aw_cov (cov_prune (s1 := ⟨[(4, (.bool false))], [], 4⟩) ⟨rfl, trivial⟩ trivial (Nat.le_refl _)) ?_
          refine aw_ret ?_
          replace H := rt_of H hsn5 Hrn5
          refine rt_blk ?_
          refine rt_then ?_
          refine rt_then ?_
          refine rt_blk ?_
          refine rt_then ?_
          refine rt_then ?_
          exact fun a w hr => ⟨_, [(.bool false)], hr, ⟨⟨_, rfl, .data _ trivial⟩, trivial⟩, by decide, by cases H; rfl⟩
        · replace H := ite_f hc H
          refine aw_skip ?_
          refine nx_blk ?_
          refine nx_seq ?_
          refine aw_region1 (es := [_, _]) ⟨Step.plain rfl (does_bin .add 3 3 (.tmp 32) (.const (.int .i64 1)) .i64 x4 1 (.int .i64 (IntKind.i64.wrap (x4 + 1))) trivial (fun _ => rfl) (bin_add _ _ _ _)), ⟨⟨rfl, trivial⟩, trivial, rfl⟩, rfl,
            Step.plain rfl (does_move (.tmp 60) (.int .i64 (IntKind.i64.wrap (x4 + 1))) trivial), ⟨⟨rfl, trivial⟩, trivial, rfl⟩, rfl, rfl⟩ ?_
          exact nx_loop ((IntKind.i64.wrap (x4 + 1))) H (cov_of (fun i => match i with | 0 => 0 | 1 => 1 | 2 => 2 | k => k) ⟨⟨_, rfl, ⟨rfl, Nat.le_of_ble_eq_true rfl⟩⟩, ⟨_, rfl, ⟨rfl, Nat.le_of_ble_eq_true rfl⟩⟩, ⟨_, rfl, ⟨rfl, Nat.le_of_ble_eq_true rfl⟩⟩, ⟨_, rfl, ⟨rfl, trivial⟩⟩, ⟨_, rfl, ⟨rfl, trivial⟩⟩, trivial⟩ ⟨⟨Nat.le_of_ble_eq_true rfl, _, _, rfl, rfl, .inl ⟨rfl, (d_api_Core _).plain⟩⟩, ⟨Nat.le_of_ble_eq_true rfl, _, _, rfl, rfl, .inl ⟨rfl, (d_a8_u32 _).plain⟩⟩, ⟨Nat.le_of_ble_eq_true rfl, _, _, rfl, rfl, ⟨rfl, rfl, fun _ => ⟨rfl, trivial⟩⟩⟩, trivial⟩ rfl)
      · replace H := ite_f hc H
        refine aw_exit ?_
        refine ex_then ?_
        refine ex_then ?_
        refine ex_here ?_
        exact nx_ljoin () H hsn5 (cov_prune trivial trivial (Nat.le_of_ble_eq_true rfl))

theorem gather_Propose_spec (p0 : api_Core) (p1 : (Nat → Int)) (r : api_Id × Bool) (H : gather_Propose p0 p1 = some r) : FSpec Try.prog 11 [(e_api_Core p0), (e_a8_u32 p1)] (resV [(e_api_Id r.1), (.bool r.2)]) := by
  refine spec_of (fn := Try.f11) (args := [(e_api_Core p0), (e_a8_u32 p1)]) Try.func11 rfl (Nat.le_of_ble_eq_true rfl) ?_
  rintro ⟨G, w0, W, S, Sp⟩ hG
  cases hG
  unfold gather_Propose at H
  refine aw_region (es := [_, _, _, _]) ⟨Step.plain rfl (does_box 35 (.tmp 0) 0 (e_api_Core p0) trivial rfl), ⟨⟨rfl, trivial⟩, trivial, rfl⟩, rfl,
    Step.plain rfl (does_box 28 (.tmp 1) 1 (e_a8_u32 p1) trivial rfl), ⟨⟨rfl, trivial⟩, trivial, rfl⟩, rfl,
    Step.plain rfl (does_alloc 27 2 (e_api_Id z_api_Id) zr27), ⟨trivial, trivial, rfl⟩, rfl,
    Step.plain rfl (does_assign (.const (.bool false)) (.bool false) (fun _ => rfl)), ⟨trivial, trivial, rfl⟩, rfl, rfl⟩ ?_
  refine aw_cov (cov_prune (s1 := ⟨[(2, (.ptr 0 0 [])), (3, (.ptr 1 0 [])), (4, (.ptr 2 0 []))], [(0, some (.var (e_api_Core p0))), (1, some (.var (e_a8_u32 p1))), (2, some (.var (e_api_Id z_api_Id)))], 3⟩) ⟨rfl, rfl, rfl, trivial⟩ ⟨rfl, rfl, rfl, trivial⟩ (Nat.le_refl _)) ?_
  obtain ⟨v1, h2, H⟩ := bnd H
  refine aw_region (es := [_, _, _, _, _, _, _]) ⟨Step.plain rfl (does_load 28 3 1 0 [] (.var (e_a8_u32 p1)) (e_a8_u32 p1) trivial rfl rfl ty28), ⟨⟨rfl, trivial⟩, ⟨rfl, trivial⟩, rfl⟩, rfl,
    Step.plain rfl (does_call 26 0 (fun _ => .any) (.func 26) [(.tmp 9)] [(e_a8_u32 p1)] [] true [(e_a8_u32 p1)] (resV [(.int .i64 v1.1), (.bool v1.2)]) _ _ rfl fo26 rfl ⟨trivial, trivial⟩ ⟨.data _ (d_a8_u32 p1), trivial⟩ (ident_Least_spec p1 _ h2) (res_flat2 trivial trivial)), ⟨⟨rfl, trivial⟩, trivial, rfl⟩, rfl,
    Step.plain rfl (does_move (.tmp 10) (resV [(.int .i64 v1.1), (.bool v1.2)]) trivial), ⟨⟨rfl, trivial⟩, trivial, rfl⟩, rfl,
    Step.plain rfl (does_extract 8 0 2 (fun j => [(.int .i64 v1.1), (.bool v1.2)].getD j (.bool false)) (Nat.le_of_ble_eq_true rfl)), ⟨⟨rfl, trivial⟩, trivial, rfl⟩, rfl,
    Step.plain rfl (does_extract 8 1 2 (fun j => [(.int .i64 v1.1), (.bool v1.2)].getD j (.bool false)) (Nat.le_of_ble_eq_true rfl)), ⟨⟨rfl, trivial⟩, trivial, rfl⟩, rfl,
    Step.plain rfl (does_assign (.tmp 11) (.int .i64 v1.1) trivial), ⟨⟨rfl, trivial⟩, trivial, rfl⟩, rfl,
    Step.plain rfl (does_assign (.tmp 12) (.bool v1.2) trivial), ⟨⟨rfl, trivial⟩, trivial, rfl⟩, rfl, rfl⟩ ?_
  refine aw_cov (cov_prune (s1 := ⟨[(2, (.ptr 0 0 [])), (3, (.ptr 1 0 [])), (4, (.ptr 2 0 [])), (6, (.int .i64 v1.1)), (7, (.bool v1.2))], [(0, some (.var (e_api_Core p0))), (1, some (.var (e_a8_u32 p1))), (2, some (.var (e_api_Id z_api_Id)))], 3⟩) ⟨rfl, rfl, rfl, rfl, rfl, trivial⟩ ⟨rfl, rfl, rfl, trivial⟩ (Nat.le_refl _)) ?_
  refine aw_seq ?_
  obtain ⟨v3, h4, H⟩ := whn_of H
  refine aw_region (es := [_, _, _, _, _, _, _, _, _, _, _, _, _, _, _, _, _, _]) ⟨Step.plain rfl (does_move (.tmp 7) (.bool v1.2) trivial), ⟨⟨rfl, trivial⟩, trivial, rfl⟩, rfl,
    Step.plain rfl (does_not 4 (.tmp 13) v1.2 trivial), ⟨⟨rfl, trivial⟩, trivial, rfl⟩, rfl,
    Step.plain rfl (does_move (.tmp 14) (.bool (!v1.2)) trivial), ⟨⟨rfl, trivial⟩, trivial, rfl⟩, rfl,
    Step.guarded rfl rfl rfl rfl (fun hc => does_move (.tmp 6) (.int .i64 v1.1) trivial), ⟨⟨rfl, rfl, trivial⟩, trivial, rfl⟩, rfl,
    Step.guarded rfl rfl rfl rfl (fun hc => does_fieldAddr 35 0 0 2 0 0 [] (.var (e_api_Core p0)) fl35_0), ⟨⟨rfl, rfl, trivial⟩, ⟨rfl, trivial⟩, rfl⟩, rfl,
    Step.guarded rfl rfl rfl rfl (fun hc => Does.strip (n' := [(17, (.opt (!(!v1.2)) (.ptr 0 (0 + 0) [0])))]) (n := [(17, (.ptr 0 (0 + 0) [0]))]) ⟨(.opt _ _ hc), trivial⟩ (does_load 3 17 0 (0 + 0) [0] (.var (e_api_Core p0)) (.int .i64 p0.Self) ⟨rfl, Nat.le_of_ble_eq_true rfl, trivial⟩ rfl rfl ty3)), ⟨⟨rfl, rfl, trivial⟩, ⟨rfl, trivial⟩, rfl⟩, rfl,
    Step.guarded rfl rfl rfl rfl (fun hc => Does.strip (n' := [(16, (.opt (!(!v1.2)) (.int .i64 v1.1))), (18, (.opt (!(!v1.2)) (.int .i64 p0.Self)))]) (n := [(16, (.int .i64 v1.1)), (18, (.int .i64 p0.Self))]) ⟨(.opt _ _ hc), (.opt _ _ hc), trivial⟩ (does_bin .neq 3 3 (.tmp 16) (.tmp 18) .i64 v1.1 p0.Self (.bool (v1.1 != p0.Self)) trivial trivial (bin_neq _ _ _ _))), ⟨⟨rfl, rfl, rfl, trivial⟩, trivial, rfl⟩, rfl,
    Step.plain rfl (does_or 15 19 (!v1.2) (v1.1 != p0.Self)), ⟨⟨rfl, rfl, trivial⟩, trivial, rfl⟩, rfl,
    Step.plain rfl (does_move (.tmp 20) (.bool ((!v1.2) || (v1.1 != p0.Self))) trivial), ⟨⟨rfl, trivial⟩, trivial, rfl⟩, rfl,
    Step.guarded rfl rfl rfl rfl (fun hc => does_fieldAddr 35 13 188 2 0 0 [] (.var (e_api_Core p0)) fl35_13), ⟨⟨rfl, rfl, trivial⟩, ⟨rfl, trivial⟩, rfl⟩, rfl,
    Step.guarded rfl rfl rfl rfl (fun hc => Does.strip (n' := [(22, (.opt (!((!v1.2) || (v1.1 != p0.Self))) (.ptr 0 (0 + 188) [13])))]) (n := [(22, (.ptr 0 (0 + 188) [13]))]) ⟨(.opt _ _ hc), trivial⟩ (does_load 22 22 0 (0 + 188) [13] (.var (e_api_Core p0)) (.int .u32 p0.Epoch) ⟨rfl, Nat.le_of_ble_eq_true rfl, trivial⟩ rfl rfl ty22)), ⟨⟨rfl, rfl, trivial⟩, ⟨rfl, trivial⟩, rfl⟩, rfl,
    Step.guarded rfl rfl rfl rfl (fun hc => Does.strip (n' := [(23, (.opt (!((!v1.2) || (v1.1 != p0.Self))) (.int .u32 p0.Epoch)))]) (n := [(23, (.int .u32 p0.Epoch))]) ⟨(.opt _ _ hc), trivial⟩ (does_bin .eql 22 22 (.tmp 23) (.const (.int .u32 4294967295)) .u32 p0.Epoch 4294967295 (.bool (p0.Epoch == 4294967295)) trivial (fun _ => rfl) (bin_eql _ _ _ _))), ⟨⟨rfl, rfl, trivial⟩, trivial, rfl⟩, rfl,
    Step.plain rfl (does_or 21 24 ((!v1.2) || (v1.1 != p0.Self)) (p0.Epoch == 4294967295)), ⟨⟨rfl, rfl, trivial⟩, trivial, rfl⟩, rfl,
    Step.plain rfl (does_move (.tmp 25) (.bool (((!v1.2) || (v1.1 != p0.Self)) || (p0.Epoch == 4294967295))) trivial), ⟨⟨rfl, trivial⟩, trivial, rfl⟩, rfl,
    Step.guarded rfl rfl rfl rfl (fun hc => does_load 35 2 0 0 [] (.var (e_api_Core p0)) (e_api_Core p0) trivial rfl rfl ty35), ⟨⟨rfl, rfl, trivial⟩, ⟨rfl, trivial⟩, rfl⟩, rfl,
    Step.guarded rfl rfl rfl rfl (fun hc => does_load 28 3 1 0 [] (.var (e_a8_u32 p1)) (e_a8_u32 p1) trivial rfl rfl ty28), ⟨⟨rfl, rfl, trivial⟩, ⟨rfl, trivial⟩, rfl⟩, rfl,
    Step.guarded rfl rfl rfl rfl (fun hc => Does.strip (n' := [(27, (.opt (!(((!v1.2) || (v1.1 != p0.Self)) || (p0.Epoch == 4294967295))) (e_api_Core p0))), (28, (.opt (!(((!v1.2) || (v1.1 != p0.Self)) || (p0.Epoch == 4294967295))) (e_a8_u32 p1)))]) (n := [(27, (e_api_Core p0)), (28, (e_a8_u32 p1))]) ⟨(.opt _ _ hc), (.opt _ _ hc), trivial⟩ (does_call 27 0 (fun _ => .any) (.func 27) [(.tmp 27), (.tmp 28)] [(e_api_Core p0), (e_a8_u32 p1)] [] true [(e_api_Core p0), (e_a8_u32 p1)] (.bool v3) _ _ rfl fo27 rfl ⟨trivial, trivial, trivial⟩ ⟨.data _ (d_api_Core p0), .data _ (d_a8_u32 p1), trivial⟩ (gather_stands_spec p0 p1 _ (h4 hc)) trivial)), ⟨⟨rfl, rfl, rfl, trivial⟩, trivial, rfl⟩, rfl,
    Step.plain rfl (does_or 26 29 (((!v1.2) || (v1.1 != p0.Self)) || (p0.Epoch == 4294967295)) v3), ⟨⟨rfl, rfl, trivial⟩, trivial, rfl⟩, rfl, rfl⟩ ?_
  refine aw_cov (cov_prune (s1 := ⟨[(2, (.ptr 0 0 [])), (4, (.ptr 2 0 [])), (30, (.bool ((((!v1.2) || (v1.1 != p0.Self)) || (p0.Epoch == 4294967295)) || v3)))], [(0, some (.var (e_api_Core p0))), (2, some (.var (e_api_Id z_api_Id)))], 3⟩) ⟨rfl, rfl, rfl, trivial⟩ ⟨rfl, rfl, trivial⟩ (Nat.le_refl _)) ?_
  refine aw_cond rfl (fun hc => ?_) (fun hc => ?_)
  · replace H := ite_t hc H
    refine aw_region (es := [_, _, _]) ⟨Step.plain rfl (does_buildT 27 #[] [] [] (.st [1, 1, 1]) (c_api_Id z_api_Id) (c_api_Id ({ Epoch := 0, Coord := 0, Inc := 0 } : api_Id)) rfl bo27 trivial trivial (by funext j; match j with | 0 => rfl | 1 => rfl | 2 => rfl | _ + 3 => rfl)), ⟨trivial, trivial, rfl⟩, rfl,
      Step.plain rfl (does_store 27 4 (.tmp 31) 2 0 [] (.var (e_api_Id z_api_Id)) (.var (e_api_Id ({ Epoch := 0, Coord := 0, Inc := 0 } : api_Id))) (e_api_Id ({ Epoch := 0, Coord := 0, Inc := 0 } : api_Id)) true trivial rfl trivial rfl rfl rfl ty27), ⟨⟨rfl, rfl, trivial⟩, ⟨rfl, trivial⟩, rfl⟩, rfl,
      Step.plain rfl (does_assign (.const (.bool false)) (.bool false) (fun _ => rfl)), ⟨trivial, trivial, rfl⟩, rfl, rfl⟩ ?_
    refine aw_cov (cov_prune (s1 := ⟨[(4, (.ptr 2 0 [])), (5, (.bool false))], [(2, some (.var (e_api_Id ({ Epoch := 0, Coord := 0, Inc := 0 } : api_Id))))], 3⟩) ⟨rfl, rfl, trivial⟩ ⟨rfl, trivial⟩ (Nat.le_refl _)) ?_
    refine aw_ret ?_
    refine rt_then ?_
    exact fun a w hr => ⟨_, [(e_api_Id ({ Epoch := 0, Coord := 0, Inc := 0 } : api_Id)), (.bool false)], hr, ⟨⟨2, _, rfl, rfl, .data _ (d_api_Id ({ Epoch := 0, Coord := 0, Inc := 0 } : api_Id)), ty27⟩, ⟨_, rfl, .data _ trivial⟩, trivial⟩, by decide, by cases H; rfl⟩
  · replace H := ite_f hc H
    refine aw_skip ?_
    refine nx_seq ?_
    refine aw_region (es := [_, _, _, _, _, _, _, _, _, _, _]) ⟨Step.plain rfl (does_fieldAddr 35 13 188 2 0 0 [] (.var (e_api_Core p0)) fl35_13), ⟨⟨rfl, trivial⟩, ⟨rfl, trivial⟩, rfl⟩, rfl,
      Step.plain rfl (does_load 22 32 0 (0 + 188) [13] (.var (e_api_Core p0)) (.int .u32 p0.Epoch) ⟨rfl, Nat.le_of_ble_eq_true rfl, trivial⟩ rfl rfl ty22), ⟨⟨rfl, trivial⟩, ⟨rfl, trivial⟩, rfl⟩, rfl,
      Step.plain rfl (does_bin .add 22 22 (.tmp 33) (.const (.int .u32 1)) .u32 p0.Epoch 1 (.int .u32 (IntKind.u32.wrap (p0.Epoch + 1))) trivial (fun _ => rfl) (bin_add _ _ _ _)), ⟨⟨rfl, trivial⟩, trivial, rfl⟩, rfl,
      Step.plain rfl (does_fieldAddr 35 0 0 2 0 0 [] (.var (e_api_Core p0)) fl35_0), ⟨⟨rfl, trivial⟩, ⟨rfl, trivial⟩, rfl⟩, rfl,
      Step.plain rfl (does_load 3 35 0 (0 + 0) [0] (.var (e_api_Core p0)) (.int .i64 p0.Self) ⟨rfl, Nat.le_of_ble_eq_true rfl, trivial⟩ rfl rfl ty3), ⟨⟨rfl, trivial⟩, ⟨rfl, trivial⟩, rfl⟩, rfl,
      Step.plain rfl (does_convInt 3 22 (.tmp 36) .i64 .u32 p0.Self trivial rfl rfl), ⟨⟨rfl, trivial⟩, trivial, rfl⟩, rfl,
      Step.plain rfl (does_fieldAddr 35 2 2 2 0 0 [] (.var (e_api_Core p0)) fl35_2), ⟨⟨rfl, trivial⟩, ⟨rfl, trivial⟩, rfl⟩, rfl,
      Step.plain rfl (does_load 22 38 0 (0 + 2) [2] (.var (e_api_Core p0)) (.int .u32 p0.Own) ⟨rfl, Nat.le_of_ble_eq_true rfl, trivial⟩ rfl rfl ty22), ⟨⟨rfl, trivial⟩, ⟨rfl, trivial⟩, rfl⟩, rfl,
      Step.plain rfl (does_buildT 27 #[(0, (.tmp 34)), (1, (.tmp 37)), (2, (.tmp 39))] [(0, (.tmp 34)), (1, (.tmp 37)), (2, (.tmp 39))] [(0, (.int .u32 (IntKind.u32.wrap (p0.Epoch + 1)))), (1, (.int .u32 (IntKind.u32.wrap (p0.Self)))), (2, (.int .u32 p0.Own))] (.st [1, 1, 1]) (c_api_Id z_api_Id) (c_api_Id ({ Epoch := (IntKind.u32.wrap (p0.Epoch + 1)), Coord := (IntKind.u32.wrap (p0.Self)), Inc := p0.Own } : api_Id)) rfl bo27 ⟨⟨rfl, trivial⟩, ⟨rfl, trivial⟩, ⟨rfl, trivial⟩, trivial⟩ ⟨⟨Nat.le_of_ble_eq_true rfl, rfl, rfl⟩, ⟨Nat.le_of_ble_eq_true rfl, rfl, rfl⟩, ⟨Nat.le_of_ble_eq_true rfl, rfl, rfl⟩, trivial⟩ (by funext j; match j with | 0 => rfl | 1 => rfl | 2 => rfl | _ + 3 => rfl)), ⟨⟨rfl, rfl, rfl, trivial⟩, trivial, rfl⟩, rfl,
      Step.plain rfl (does_store 27 4 (.tmp 40) 2 0 [] (.var (e_api_Id z_api_Id)) (.var (e_api_Id ({ Epoch := (IntKind.u32.wrap (p0.Epoch + 1)), Coord := (IntKind.u32.wrap (p0.Self)), Inc := p0.Own } : api_Id))) (e_api_Id ({ Epoch := (IntKind.u32.wrap (p0.Epoch + 1)), Coord := (IntKind.u32.wrap (p0.Self)), Inc := p0.Own } : api_Id)) true trivial rfl trivial rfl rfl rfl ty27), ⟨⟨rfl, rfl, trivial⟩, ⟨rfl, trivial⟩, rfl⟩, rfl,
      Step.plain rfl (does_assign (.const (.bool true)) (.bool true) (fun _ => rfl)), ⟨trivial, trivial, rfl⟩, rfl, rfl⟩ ?_
    obtain ⟨v5, hv5, H⟩ := lt_of H
    refine aw_cov (cov_prune (s1 := ⟨[(4, (.ptr 2 0 [])), (5, (.bool true))], [(2, some (.var (e_api_Id v5)))], 3⟩) ⟨rfl, rfl, trivial⟩ ⟨(by subst hv5; rfl), trivial⟩ (Nat.le_refl _)) ?_
    refine aw_ret ?_
    exact fun a w hr => ⟨_, [(e_api_Id v5), (.bool true)], hr, ⟨⟨2, _, rfl, rfl, .data _ (d_api_Id v5), ty27⟩, ⟨_, rfl, .data _ trivial⟩, trivial⟩, by decide, by cases H; rfl⟩

theorem gather_each_spec (p0 : api_Core) (p1 : (api_Peer → Option (Bool))) (k1 n1 : Nat) (c1 : Nat → V) (o1 : FnOk Try.prog k1) (h1 : ∀ j, (c1 j).Cap) (g1 : ∀ (x0 : api_Peer) (r : Bool), p1 x0 = some r → FSpec Try.prog k1 ([(e_api_Peer x0)] ++ (List.range n1).map c1) (.bool r)) (r : Bool) (H : gather_each p0 p1 = some r) : FSpec Try.prog 32 [(e_api_Core p0), (.fn k1 n1 c1)] (.bool r) := by
  refine spec_of (fn := Try.f32) (args := [(e_api_Core p0), (.fn k1 n1 c1)]) Try.func32 rfl (Nat.le_of_ble_eq_true rfl) ?_
  rintro ⟨G, w0, W, S, Sp⟩ hG
  cases hG
  unfold gather_each at H
  refine aw_region (es := [_, _]) ⟨Step.plain rfl (does_box 35 (.tmp 0) 0 (e_api_Core p0) trivial rfl), ⟨⟨rfl, trivial⟩, trivial, rfl⟩, rfl,
    Step.plain rfl (does_assign (.const (.bool false)) (.bool false) (fun _ => rfl)), ⟨trivial, trivial, rfl⟩, rfl, rfl⟩ ?_
  refine aw_cov (cov_prune (s1 := ⟨[(1, (.fn k1 n1 c1)), (2, (.ptr 0 0 []))], [(0, some (.var (e_api_Core p0)))], 1⟩) ⟨rfl, rfl, trivial⟩ ⟨rfl, trivial⟩ (Nat.le_refl _)) ?_
  refine aw_seq ?_
  obtain ⟨v1, h2, H⟩ := bnd H
  refine aw_region (es := [_, _, _, _, _]) ⟨Step.plain rfl (does_fieldAddr 35 9 43 2 0 0 [] (.var (e_api_Core p0)) fl35_9), ⟨⟨rfl, trivial⟩, ⟨rfl, trivial⟩, rfl⟩, rfl,
    Step.plain rfl (does_load 28 7 0 (0 + 43) [9] (.var (e_api_Core p0)) (e_a8_u32 p0.Wanted) ⟨rfl, Nat.le_of_ble_eq_true rfl, trivial⟩ rfl rfl ty28), ⟨⟨rfl, trivial⟩, ⟨rfl, trivial⟩, rfl⟩, rfl,
    Step.plain rfl (does_callO 28 0 (fun _ => .any) (.func 28) [(.tmp 8)] [(e_a8_u32 p0.Wanted)] [] [] true [(e_a8_u32 p0.Wanted)] _ (.own 1) _ 1 1 _ _ rfl fo28 rfl ⟨trivial, trivial⟩ ⟨.ro _ _ (.data _ (d_a8_u32 p0.Wanted)), trivial⟩ (ident_List_spec p0.Wanted _ h2) rfl (by simp) rfl trivial ⟨⟨Nat.le_of_ble_eq_true rfl, _, rfl, fun _ => trivial⟩, trivial⟩ (.own 0 (Nat.le_of_ble_eq_true rfl))), ⟨⟨rfl, trivial⟩, trivial, rfl⟩, rfl,
    Step.plain rfl (does_leno 63 1 v1.length 9 1 (fun j => (.int .i64 (v1.getD j 0))) el63), ⟨⟨rfl, trivial⟩, ⟨rfl, trivial⟩, rfl⟩, rfl,
    Step.plain rfl (does_move (.const (.int .i64 0)) (.int .i64 0) (fun _ => rfl)), ⟨trivial, trivial, rfl⟩, rfl, rfl⟩ ?_
  refine aw_cov (cov_prune (s1 := ⟨[(1, (.fn k1 n1 c1)), (2, (.ptr 0 0 [])), (9, (.own 1)), (10, (.int .i64 (v1.length : Int))), (11, (.int .i64 0))], [(0, some (.var (e_api_Core p0))), (1, some (.arr 1 v1.length fun j => (.int .i64 (v1.getD j 0))))], 2⟩) ⟨rfl, rfl, rfl, rfl, rfl, trivial⟩ ⟨rfl, rfl, trivial⟩ (Nat.le_refl _)) ?_
  obtain ⟨wn4, hwn4, Hrn4⟩ := bnd H
  refine aw_meet (fun y12 : Unit => (⟨[], [], 2⟩ : St)) (fun y12 => Fl.nx y12 = wn4) (fun y12 hy => ?_) (aw_block (aw_runs (fun x3 : Int => (⟨[(1, (.fn k1 n1 c1)), (2, (.ptr 0 0 [])), (9, (.own 1)), (10, (.int .i64 (v1.length : Int))), (11, (.int .i64 x3))], [(0, some (.var (e_api_Core p0))), (1, some (.arr 1 v1.length fun j => (.int .i64 (v1.getD j 0))))], 2⟩ : St)) hwn4 (cov_prune ⟨rfl, rfl, rfl, rfl, rfl, trivial⟩ ⟨rfl, rfl, trivial⟩ (Nat.le_of_ble_eq_true rfl)) (fun x3 st H hsn4 => ?_)))
  · have H := nx_of hy Hrn4
    refine nx_seq ?_
    refine aw_region (es := [_]) ⟨Step.plain rfl (does_assign (.const (.bool true)) (.bool true) (fun _ => rfl)), ⟨trivial, trivial, rfl⟩, rfl, rfl⟩ ?_
    refine aw_cov (cov_prune (s1 := ⟨[(4, (.bool true))], [], 2⟩) ⟨rfl, trivial⟩ trivial (Nat.le_refl _)) ?_
    refine aw_ret ?_
    exact fun a w hr => ⟨_, [(.bool true)], hr, ⟨⟨_, rfl, .data _ trivial⟩, trivial⟩, by decide, by cases H; rfl⟩
  · refine aw_region (es := [_]) ⟨Step.plain rfl (does_bin .lss 3 3 (.tmp 11) (.tmp 10) .i64 x3 (v1.length : Int) (.bool (decide (x3 < (v1.length : Int)))) trivial trivial (bin_lss _ _ _ _)), ⟨⟨rfl, rfl, trivial⟩, trivial, rfl⟩, rfl, rfl⟩ ?_
    refine aw_cov (cov_prune (s1 := ⟨[(1, (.fn k1 n1 c1)), (2, (.ptr 0 0 [])), (9, (.own 1)), (10, (.int .i64 (v1.length : Int))), (11, (.int .i64 x3)), (12, (.bool (decide (x3 < (v1.length : Int)))))], [(0, some (.var (e_api_Core p0))), (1, some (.arr 1 v1.length fun j => (.int .i64 (v1.getD j 0))))], 2⟩) ⟨rfl, rfl, rfl, rfl, rfl, rfl, trivial⟩ ⟨rfl, rfl, trivial⟩ (Nat.le_refl _)) ?_
    refine aw_seq ?_
    refine aw_cond rfl (fun hc => ?_) (fun hc => ?_)
    · replace H := ite_t hc H
      refine aw_skip ?_
      refine nx_seq ?_
      refine aw_seq ?_
      refine aw_block ?_
      obtain ⟨h5, H⟩ := ib_of H
      refine aw_region (es := [_, _, _]) ⟨Step.plain rfl (does_indexAddro 63 1 v1.length 9 1 (fun j => (.int .i64 (v1.getD j 0))) (.tmp 11) .i64 x3 el63 trivial h5.1 h5.2), ⟨⟨rfl, rfl, trivial⟩, ⟨rfl, trivial⟩, rfl⟩, rfl,
        Step.plain rfl (does_load 3 13 1 (x3.toNat * 1) [x3.toNat] (.arr 1 v1.length fun j => (.int .i64 (v1.getD j 0))) (.int .i64 (v1.getD x3.toNat 0)) ⟨(ixl h5), trivial⟩ rfl rfl ty3), ⟨⟨rfl, trivial⟩, ⟨rfl, trivial⟩, rfl⟩, rfl,
        Step.plain rfl (does_assign (.tmp 14) (.int .i64 (v1.getD x3.toNat 0)) trivial), ⟨⟨rfl, trivial⟩, trivial, rfl⟩, rfl, rfl⟩ ?_
      refine aw_cov (cov_prune (s1 := ⟨[(1, (.fn k1 n1 c1)), (2, (.ptr 0 0 [])), (9, (.own 1)), (10, (.int .i64 (v1.length : Int))), (11, (.int .i64 x3)), (6, (.int .i64 (v1.getD x3.toNat 0)))], [(0, some (.var (e_api_Core p0))), (1, some (.arr 1 v1.length fun j => (.int .i64 (v1.getD j 0))))], 2⟩) ⟨rfl, rfl, rfl, rfl, rfl, rfl, trivial⟩ ⟨rfl, rfl, trivial⟩ (Nat.le_refl _)) ?_
      obtain ⟨h6, H⟩ := ibg_of H
      obtain ⟨h7, H⟩ := ibg_of H
      obtain ⟨h8, H⟩ := ibg_of H
      obtain ⟨v9, h10, H⟩ := whn_of H
      refine aw_draw (es := [_, _, _, _, _, _, _, _, _, _, _, _, _, _, _, _, _, _, _, _, _, _, _, _, _]) (mixed) ⟨Step.plain rfl (does_move (.tmp 6) (.int .i64 (v1.getD x3.toNat 0)) trivial), ⟨⟨rfl, trivial⟩, trivial, rfl⟩, rfl,
        Step.plain rfl (does_fieldAddr 35 0 0 2 0 0 [] (.var (e_api_Core p0)) fl35_0), ⟨⟨rfl, trivial⟩, ⟨rfl, trivial⟩, rfl⟩, rfl,
        Step.plain rfl (does_load 3 16 0 (0 + 0) [0] (.var (e_api_Core p0)) (.int .i64 p0.Self) ⟨rfl, Nat.le_of_ble_eq_true rfl, trivial⟩ rfl rfl ty3), ⟨⟨rfl, trivial⟩, ⟨rfl, trivial⟩, rfl⟩, rfl,
        Step.plain rfl (does_bin .neq 3 3 (.tmp 15) (.tmp 17) .i64 (v1.getD x3.toNat 0) p0.Self (.bool ((v1.getD x3.toNat 0) != p0.Self)) trivial trivial (bin_neq _ _ _ _)), ⟨⟨rfl, rfl, trivial⟩, trivial, rfl⟩, rfl,
        Step.plain rfl (does_move (.tmp 18) (.bool ((v1.getD x3.toNat 0) != p0.Self)) trivial), ⟨⟨rfl, trivial⟩, trivial, rfl⟩, rfl,
        Step.guarded rfl rfl rfl rfl (fun hc => does_move (.tmp 6) (.int .i64 (v1.getD x3.toNat 0)) trivial), ⟨⟨rfl, rfl, trivial⟩, trivial, rfl⟩, rfl,
        Step.guarded rfl rfl rfl rfl (fun hc => does_fieldAddr 35 12 60 2 0 0 [] (.var (e_api_Core p0)) fl35_12), ⟨⟨rfl, rfl, trivial⟩, ⟨rfl, trivial⟩, rfl⟩, rfl,
        Step.guarded rfl rfl rfl rfl (fun hc => Does.strip (n' := [(21, (.opt ((v1.getD x3.toNat 0) != p0.Self) (.ptr 0 (0 + 60) [12]))), (20, (.opt ((v1.getD x3.toNat 0) != p0.Self) (.int .i64 (v1.getD x3.toNat 0))))]) (n := [(21, (.ptr 0 (0 + 60) [12])), (20, (.int .i64 (v1.getD x3.toNat 0)))]) ⟨(.opt _ _ hc), (.opt _ _ hc), trivial⟩ (does_indexAddr 33 8 16 21 0 (0 + 60) [12] (.var (e_api_Core p0)) (.tmp 20) .i64 (v1.getD x3.toNat 0) el33 trivial (h6 hc).1 (h6 hc).2)), ⟨⟨rfl, rfl, rfl, trivial⟩, ⟨rfl, trivial⟩, rfl⟩, rfl,
        Step.guarded rfl rfl rfl rfl (fun hc => Does.strip (n' := [(22, (.opt ((v1.getD x3.toNat 0) != p0.Self) (.ptr 0 ((0 + 60) + (v1.getD x3.toNat 0).toNat * 16) [12, (v1.getD x3.toNat 0).toNat])))]) (n := [(22, (.ptr 0 ((0 + 60) + (v1.getD x3.toNat 0).toNat * 16) [12, (v1.getD x3.toNat 0).toNat]))]) ⟨(.opt _ _ hc), trivial⟩ (does_fieldAddr 32 0 0 22 0 ((0 + 60) + (v1.getD x3.toNat 0).toNat * 16) [12, (v1.getD x3.toNat 0).toNat] (.var (e_api_Core p0)) fl32_0)), ⟨⟨rfl, rfl, trivial⟩, ⟨rfl, trivial⟩, rfl⟩, rfl,
        Step.guarded rfl rfl rfl rfl (fun hc => Does.strip (n' := [(23, (.opt ((v1.getD x3.toNat 0) != p0.Self) (.ptr 0 (((0 + 60) + (v1.getD x3.toNat 0).toNat * 16) + 0) [12, (v1.getD x3.toNat 0).toNat, 0])))]) (n := [(23, (.ptr 0 (((0 + 60) + (v1.getD x3.toNat 0).toNat * 16) + 0) [12, (v1.getD x3.toNat 0).toNat, 0]))]) ⟨(.opt _ _ hc), trivial⟩ (does_load 22 23 0 (((0 + 60) + (v1.getD x3.toNat 0).toNat * 16) + 0) [12, (v1.getD x3.toNat 0).toNat, 0] (.var (e_api_Core p0)) (.int .u32 ((p0.Peers ((v1.getD x3.toNat 0).toNat)).Inc)) ⟨rfl, Nat.le_of_ble_eq_true rfl, ⟨rfl, (ixl (h6 hc)), ⟨rfl, Nat.le_of_ble_eq_true rfl, trivial⟩⟩⟩ rfl rfl ty22)), ⟨⟨rfl, rfl, trivial⟩, ⟨rfl, trivial⟩, rfl⟩, rfl,
        Step.guarded rfl rfl rfl rfl (fun hc => does_move (.tmp 6) (.int .i64 (v1.getD x3.toNat 0)) trivial), ⟨⟨rfl, rfl, trivial⟩, trivial, rfl⟩, rfl,
        Step.guarded rfl rfl rfl rfl (fun hc => does_fieldAddr 35 9 43 2 0 0 [] (.var (e_api_Core p0)) fl35_9), ⟨⟨rfl, rfl, trivial⟩, ⟨rfl, trivial⟩, rfl⟩, rfl,
        Step.guarded rfl rfl rfl rfl (fun hc => Does.strip (n' := [(26, (.opt ((v1.getD x3.toNat 0) != p0.Self) (.ptr 0 (0 + 43) [9]))), (25, (.opt ((v1.getD x3.toNat 0) != p0.Self) (.int .i64 (v1.getD x3.toNat 0))))]) (n := [(26, (.ptr 0 (0 + 43) [9])), (25, (.int .i64 (v1.getD x3.toNat 0)))]) ⟨(.opt _ _ hc), (.opt _ _ hc), trivial⟩ (does_indexAddr 28 8 1 26 0 (0 + 43) [9] (.var (e_api_Core p0)) (.tmp 25) .i64 (v1.getD x3.toNat 0) el28 trivial (h7 hc).1 (h7 hc).2)), ⟨⟨rfl, rfl, rfl, trivial⟩, ⟨rfl, trivial⟩, rfl⟩, rfl,
        Step.guarded rfl rfl rfl rfl (fun hc => Does.strip (n' := [(27, (.opt ((v1.getD x3.toNat 0) != p0.Self) (.ptr 0 ((0 + 43) + (v1.getD x3.toNat 0).toNat * 1) [9, (v1.getD x3.toNat 0).toNat])))]) (n := [(27, (.ptr 0 ((0 + 43) + (v1.getD x3.toNat 0).toNat * 1) [9, (v1.getD x3.toNat 0).toNat]))]) ⟨(.opt _ _ hc), trivial⟩ (does_load 22 27 0 ((0 + 43) + (v1.getD x3.toNat 0).toNat * 1) [9, (v1.getD x3.toNat 0).toNat] (.var (e_api_Core p0)) (.int .u32 (p0.Wanted ((v1.getD x3.toNat 0).toNat))) ⟨rfl, Nat.le_of_ble_eq_true rfl, ⟨rfl, (ixl (h7 hc)), trivial⟩⟩ rfl rfl ty22)), ⟨⟨rfl, rfl, trivial⟩, ⟨rfl, trivial⟩, rfl⟩, rfl,
        Step.guarded rfl rfl rfl rfl (fun hc => Does.strip (n' := [(24, (.opt ((v1.getD x3.toNat 0) != p0.Self) (.int .u32 ((p0.Peers ((v1.getD x3.toNat 0).toNat)).Inc)))), (28, (.opt ((v1.getD x3.toNat 0) != p0.Self) (.int .u32 (p0.Wanted ((v1.getD x3.toNat 0).toNat)))))]) (n := [(24, (.int .u32 ((p0.Peers ((v1.getD x3.toNat 0).toNat)).Inc))), (28, (.int .u32 (p0.Wanted ((v1.getD x3.toNat 0).toNat))))]) ⟨(.opt _ _ hc), (.opt _ _ hc), trivial⟩ (does_bin .neq 22 22 (.tmp 24) (.tmp 28) .u32 ((p0.Peers ((v1.getD x3.toNat 0).toNat)).Inc) (p0.Wanted ((v1.getD x3.toNat 0).toNat)) (.bool (((p0.Peers ((v1.getD x3.toNat 0).toNat)).Inc) != (p0.Wanted ((v1.getD x3.toNat 0).toNat)))) trivial trivial (bin_neq _ _ _ _))), ⟨⟨rfl, rfl, rfl, trivial⟩, trivial, rfl⟩, rfl,
        Step.guarded rfl rfl rfl rfl (fun hc => Does.strip (n' := [(29, (.opt ((v1.getD x3.toNat 0) != p0.Self) (.bool (((p0.Peers ((v1.getD x3.toNat 0).toNat)).Inc) != (p0.Wanted ((v1.getD x3.toNat 0).toNat))))))]) (n := [(29, (.bool (((p0.Peers ((v1.getD x3.toNat 0).toNat)).Inc) != (p0.Wanted ((v1.getD x3.toNat 0).toNat)))))]) ⟨(.opt _ _ hc), trivial⟩ (does_move (.tmp 29) (.bool (((p0.Peers ((v1.getD x3.toNat 0).toNat)).Inc) != (p0.Wanted ((v1.getD x3.toNat 0).toNat)))) trivial)), ⟨⟨rfl, rfl, trivial⟩, trivial, rfl⟩, rfl,
        Step.guarded rfl rfl rfl rfl (fun hc => does_move (.tmp 1) (.fn k1 n1 c1) trivial), ⟨⟨rfl, rfl, trivial⟩, trivial, rfl⟩, rfl,
        Step.guarded rfl rfl rfl rfl (fun hc => does_move (.tmp 6) (.int .i64 (v1.getD x3.toNat 0)) trivial), ⟨⟨rfl, rfl, trivial⟩, trivial, rfl⟩, rfl,
        Step.guarded rfl rfl rfl rfl (fun hc => does_fieldAddr 35 12 60 2 0 0 [] (.var (e_api_Core p0)) fl35_12), ⟨⟨rfl, rfl, trivial⟩, ⟨rfl, trivial⟩, rfl⟩, rfl,
        Step.guarded rfl rfl rfl rfl (fun hc => Does.strip (n' := [(33, (.opt (((v1.getD x3.toNat 0) != p0.Self) && (!(((p0.Peers ((v1.getD x3.toNat 0).toNat)).Inc) != (p0.Wanted ((v1.getD x3.toNat 0).toNat))))) (.ptr 0 (0 + 60) [12]))), (32, (.opt (((v1.getD x3.toNat 0) != p0.Self) && (!(((p0.Peers ((v1.getD x3.toNat 0).toNat)).Inc) != (p0.Wanted ((v1.getD x3.toNat 0).toNat))))) (.int .i64 (v1.getD x3.toNat 0))))]) (n := [(33, (.ptr 0 (0 + 60) [12])), (32, (.int .i64 (v1.getD x3.toNat 0)))]) ⟨(.opt _ _ hc), (.opt _ _ hc), trivial⟩ (does_indexAddr 33 8 16 33 0 (0 + 60) [12] (.var (e_api_Core p0)) (.tmp 32) .i64 (v1.getD x3.toNat 0) el33 trivial (h8 hc).1 (h8 hc).2)), ⟨⟨rfl, rfl, rfl, trivial⟩, ⟨rfl, trivial⟩, rfl⟩, rfl,
        Step.guarded rfl rfl rfl rfl (fun hc => Does.strip (n' := [(34, (.opt (((v1.getD x3.toNat 0) != p0.Self) && (!(((p0.Peers ((v1.getD x3.toNat 0).toNat)).Inc) != (p0.Wanted ((v1.getD x3.toNat 0).toNat))))) (.ptr 0 ((0 + 60) + (v1.getD x3.toNat 0).toNat * 16) [12, (v1.getD x3.toNat 0).toNat])))]) (n := [(34, (.ptr 0 ((0 + 60) + (v1.getD x3.toNat 0).toNat * 16) [12, (v1.getD x3.toNat 0).toNat]))]) ⟨(.opt _ _ hc), trivial⟩ (does_load 32 34 0 ((0 + 60) + (v1.getD x3.toNat 0).toNat * 16) [12, (v1.getD x3.toNat 0).toNat] (.var (e_api_Core p0)) (e_api_Peer (p0.Peers ((v1.getD x3.toNat 0).toNat))) ⟨rfl, Nat.le_of_ble_eq_true rfl, ⟨rfl, (ixl (h8 hc)), trivial⟩⟩ rfl rfl ty32)), ⟨⟨rfl, rfl, trivial⟩, ⟨rfl, trivial⟩, rfl⟩, rfl,
        Step.guarded rfl rfl rfl rfl (fun hc => Does.strip (n' := [(31, (.opt (((v1.getD x3.toNat 0) != p0.Self) && (!(((p0.Peers ((v1.getD x3.toNat 0).toNat)).Inc) != (p0.Wanted ((v1.getD x3.toNat 0).toNat))))) (.fn k1 n1 c1))), (35, (.opt (((v1.getD x3.toNat 0) != p0.Self) && (!(((p0.Peers ((v1.getD x3.toNat 0).toNat)).Inc) != (p0.Wanted ((v1.getD x3.toNat 0).toNat))))) (e_api_Peer (p0.Peers ((v1.getD x3.toNat 0).toNat)))))]) (n := [(31, (.fn k1 n1 c1)), (35, (e_api_Peer (p0.Peers ((v1.getD x3.toNat 0).toNat))))]) ⟨(.opt _ _ hc), (.opt _ _ hc), trivial⟩ (does_callf k1 n1 c1 31 [(.tmp 35)] [(e_api_Peer (p0.Peers ((v1.getD x3.toNat 0).toNat)))] [(e_api_Peer (p0.Peers ((v1.getD x3.toNat 0).toNat)))] [] true (.bool v9) _ _ rfl o1 ⟨trivial, trivial⟩ ⟨.data _ (d_api_Peer (p0.Peers ((v1.getD x3.toNat 0).toNat))), trivial⟩ h1 (g1 (p0.Peers ((v1.getD x3.toNat 0).toNat)) _ (h10 hc)) trivial)), ⟨⟨rfl, rfl, rfl, trivial⟩, trivial, rfl⟩, rfl,
        Step.guarded rfl rfl rfl rfl (fun hc => Does.strip (n' := [(36, (.opt (((v1.getD x3.toNat 0) != p0.Self) && (!(((p0.Peers ((v1.getD x3.toNat 0).toNat)).Inc) != (p0.Wanted ((v1.getD x3.toNat 0).toNat))))) (.bool v9)))]) (n := [(36, (.bool v9))]) ⟨(.opt _ _ hc), trivial⟩ (does_not 4 (.tmp 36) v9 trivial)), ⟨⟨rfl, rfl, trivial⟩, trivial, rfl⟩, rfl,
        Step.guarded rfl rfl rfl rfl (fun hc => Does.strip (n' := [(30, (.opt ((v1.getD x3.toNat 0) != p0.Self) (.bool (((p0.Peers ((v1.getD x3.toNat 0).toNat)).Inc) != (p0.Wanted ((v1.getD x3.toNat 0).toNat)))))), (37, (.opt (((v1.getD x3.toNat 0) != p0.Self) && (!(((p0.Peers ((v1.getD x3.toNat 0).toNat)).Inc) != (p0.Wanted ((v1.getD x3.toNat 0).toNat))))) (.bool (!v9))))]) (n := [(30, (.bool (((p0.Peers ((v1.getD x3.toNat 0).toNat)).Inc) != (p0.Wanted ((v1.getD x3.toNat 0).toNat))))), (37, (.opt (!(((p0.Peers ((v1.getD x3.toNat 0).toNat)).Inc) != (p0.Wanted ((v1.getD x3.toNat 0).toNat)))) (.bool (!v9))))]) ⟨(.opt _ _ hc), (.half _ _ hc), trivial⟩ (does_or 30 37 (((p0.Peers ((v1.getD x3.toNat 0).toNat)).Inc) != (p0.Wanted ((v1.getD x3.toNat 0).toNat))) (!v9))), ⟨⟨rfl, rfl, rfl, trivial⟩, trivial, rfl⟩, rfl,
        Step.plain rfl (does_and 19 38 ((v1.getD x3.toNat 0) != p0.Self) ((((p0.Peers ((v1.getD x3.toNat 0).toNat)).Inc) != (p0.Wanted ((v1.getD x3.toNat 0).toNat))) || (!v9))), ⟨⟨rfl, rfl, trivial⟩, trivial, rfl⟩, rfl, rfl⟩ rfl ?_
      obtain ⟨v11, hv11, H⟩ := lt_of H
      refine aw_cov (cov_prune (s1 := ⟨[(1, (.fn k1 n1 c1)), (2, (.ptr 0 0 [])), (9, (.own 1)), (10, (.int .i64 (v1.length : Int))), (11, (.int .i64 x3)), (39, (.bool v11))], [(0, some (.var (e_api_Core p0))), (1, some (.arr 1 v1.length fun j => (.int .i64 (v1.getD j 0))))], 2⟩) ⟨rfl, rfl, rfl, rfl, rfl, (by subst hv11; rfl), trivial⟩ ⟨rfl, rfl, trivial⟩ (Nat.le_refl _)) ?_
      refine aw_cond rfl (fun hc => ?_) (fun hc => ?_)
      · replace H := ite_t hc H
        refine aw_region (es := [_]) ⟨Step.plain rfl (does_assign (.const (.bool false)) (.bool false) (fun _ => rfl)), ⟨trivial, trivial, rfl⟩, rfl, rfl⟩ ?_
        refine aw_cov (cov_prune (s1 := ⟨[(4, (.bool false))], [], 2⟩) ⟨rfl, trivial⟩ trivial (Nat.le_refl _)) ?_
        refine aw_ret ?_
        replace H := rt_of H hsn4 Hrn4
        refine rt_blk ?_
        refine rt_then ?_
        refine rt_then ?_
        refine rt_blk ?_
        refine rt_then ?_
        refine rt_then ?_
        exact fun a w hr => ⟨_, [(.bool false)], hr, ⟨⟨_, rfl, .data _ trivial⟩, trivial⟩, by decide, by cases H; rfl⟩
      · replace H := ite_f hc H
        refine aw_skip ?_
        refine nx_blk ?_
        refine nx_seq ?_
        refine aw_region1 (es := [_, _]) ⟨Step.plain rfl (does_bin .add 3 3 (.tmp 11) (.const (.int .i64 1)) .i64 x3 1 (.int .i64 (IntKind.i64.wrap (x3 + 1))) trivial (fun _ => rfl) (bin_add _ _ _ _)), ⟨⟨rfl, trivial⟩, trivial, rfl⟩, rfl,
          Step.plain rfl (does_move (.tmp 40) (.int .i64 (IntKind.i64.wrap (x3 + 1))) trivial), ⟨⟨rfl, trivial⟩, trivial, rfl⟩, rfl, rfl⟩ ?_
        exact nx_loop ((IntKind.i64.wrap (x3 + 1))) H (cov_prune ⟨rfl, rfl, rfl, rfl, rfl, trivial⟩ ⟨rfl, rfl, trivial⟩ (Nat.le_of_ble_eq_true rfl))
    · replace H := ite_f hc H
      refine aw_exit ?_
      refine ex_then ?_
      refine ex_then ?_
      refine ex_here ?_
      exact nx_ljoin () H hsn4 (cov_prune trivial trivial (Nat.le_of_ble_eq_true rfl))

theorem gather_All_1_spec (p0 : api_Peer) (q0 : api_Core) (r : Bool) (H : gather_All_1 p0 q0 = some r) : FSpec Try.prog 33 [(e_api_Peer p0), (.cptr (e_api_Core q0))] (.bool r) := by
  refine spec_of (fn := Try.f33) (args := [(e_api_Peer p0), (.cptr (e_api_Core q0))]) Try.func33 rfl (Nat.le_of_ble_eq_true rfl) ?_
  rintro ⟨G, w0, W, S, Sp⟩ hG
  cases hG
  unfold gather_All_1 at H
  refine aw_region (es := [_, _]) ⟨Step.plain rfl (does_box 32 (.tmp 0) 0 (e_api_Peer p0) trivial rfl), ⟨⟨rfl, trivial⟩, trivial, rfl⟩, rfl,
    Step.plain rfl (does_assign (.const (.bool false)) (.bool false) (fun _ => rfl)), ⟨trivial, trivial, rfl⟩, rfl, rfl⟩ ?_
  refine aw_cov (cov_prune (s1 := ⟨[(1, (.cptr (e_api_Core q0))), (2, (.ptr 0 0 []))], [(0, some (.var (e_api_Peer p0)))], 1⟩) ⟨rfl, rfl, trivial⟩ ⟨rfl, trivial⟩ (Nat.le_refl _)) ?_
  refine aw_region (es := [_, _, _, _, _, _]) ⟨Step.plain rfl (does_fieldAddr 32 2 4 2 0 0 [] (.var (e_api_Peer p0)) fl32_2), ⟨⟨rfl, trivial⟩, ⟨rfl, trivial⟩, rfl⟩, rfl,
    Step.plain rfl (does_load 27 4 0 (0 + 4) [2] (.var (e_api_Peer p0)) (e_api_Id p0.Promise) ⟨rfl, Nat.le_of_ble_eq_true rfl, trivial⟩ rfl rfl ty27), ⟨⟨rfl, trivial⟩, ⟨rfl, trivial⟩, rfl⟩, rfl,
    Step.plain rfl (does_fieldAddrc 35 8 40 1 (e_api_Core q0) fl35_8 rfl (Nat.le_of_ble_eq_true rfl) rfl), ⟨⟨rfl, trivial⟩, trivial, rfl⟩, rfl,
    Step.plain rfl (does_loadc 27 6 (e_api_Id q0.Promise) ty27), ⟨⟨rfl, trivial⟩, trivial, rfl⟩, rfl,
    Step.plain rfl (does_eqT false 27 27 (.tmp 5) (.tmp 7) (e_api_Id p0.Promise) (e_api_Id q0.Promise) (e_api_Id z_api_Id) (b_api_Id p0.Promise q0.Promise) rfl rfl trivial trivial eg27 sh27 (al_api_Id _ _) (al_api_Id _ _) (q_api_Id _ _)), ⟨⟨rfl, rfl, trivial⟩, trivial, rfl⟩, rfl,
    Step.plain rfl (does_assign (.tmp 8) (.bool (b_api_Id p0.Promise q0.Promise)) trivial), ⟨⟨rfl, trivial⟩, trivial, rfl⟩, rfl, rfl⟩ ?_
  refine aw_cov (cov_prune (s1 := ⟨[(3, (.bool (b_api_Id p0.Promise q0.Promise)))], [], 1⟩) ⟨rfl, trivial⟩ trivial (Nat.le_refl _)) ?_
  refine aw_ret ?_
  exact fun a w hr => ⟨_, [(.bool (b_api_Id p0.Promise q0.Promise))], hr, ⟨⟨_, rfl, .data _ trivial⟩, trivial⟩, by decide, by cases H; rfl⟩

theorem gather_All_spec (p0 : api_Core) (r : Bool) (H : gather_All p0 = some r) : FSpec Try.prog 17 [(e_api_Core p0)] (.bool r) := by
  refine spec_of (fn := Try.f17) (args := [(e_api_Core p0)]) Try.func17 rfl (Nat.le_of_ble_eq_true rfl) ?_
  rintro ⟨G, w0, W, S, Sp⟩ hG
  cases hG
  unfold gather_All at H
  refine aw_region (es := [_, _]) ⟨Step.plain rfl (does_box 35 (.tmp 0) 0 (e_api_Core p0) trivial rfl), ⟨⟨rfl, trivial⟩, trivial, rfl⟩, rfl,
    Step.plain rfl (does_assign (.const (.bool false)) (.bool false) (fun _ => rfl)), ⟨trivial, trivial, rfl⟩, rfl, rfl⟩ ?_
  refine aw_cov (cov_prune (s1 := ⟨[(1, (.ptr 0 0 []))], [(0, some (.var (e_api_Core p0)))], 1⟩) ⟨rfl, trivial⟩ ⟨rfl, trivial⟩ (Nat.le_refl _)) ?_
  obtain ⟨v1, h2, H⟩ := bnd H
  refine aw_region (es := [_, _, _, _]) ⟨Step.plain rfl (does_load 35 1 0 0 [] (.var (e_api_Core p0)) (e_api_Core p0) trivial rfl rfl ty35), ⟨⟨rfl, trivial⟩, ⟨rfl, trivial⟩, rfl⟩, rfl,
    Step.plain rfl (does_makeFunc 33 [(.tmp 1)] [(.ptr 0 0 [])] #[(.tmp 1)] rfl ⟨trivial, trivial⟩), ⟨⟨rfl, trivial⟩, trivial, rfl⟩, rfl,
    Step.plain rfl (does_call 32 0 (fun _ => .any) (.func 32) [(.tmp 3), (.tmp 4)] [(e_api_Core p0), (.fn 33 1 (fun j => ([(.ptr 0 0 [])] : _root_.List V).getD j (.bool false)))] [(0, (.var (e_api_Core p0)))] true [(e_api_Core p0), (.fn 33 1 (fun j => ([.cptr (e_api_Core p0)] : _root_.List V).getD j (.bool false)))] (.bool v1) _ _ rfl fo32 rfl ⟨trivial, trivial, trivial⟩ ⟨.data _ (d_api_Core p0), .fn _ _ _ _ (fun j hj => match j, hj with | 0, _ => .ptr 0 0 [] (.var (e_api_Core p0)) (e_api_Core p0) (.head _) trivial rfl rfl (d_api_Core p0) | k + 1, hj => absurd hj (by omega)), trivial⟩ (gather_each_spec p0 (fun z0 => gather_All_1 z0 p0) 33 1 (fun j => ([.cptr (e_api_Core p0)] : _root_.List V).getD j (.bool false)) fo33 (fun j => match j with | 0 => .inr ⟨(e_api_Core p0), (d_api_Core p0), rfl⟩ | _ + 1 => .inl trivial) (fun z0 r h => gather_All_1_spec z0 p0 r h) _ h2) trivial), ⟨⟨rfl, rfl, trivial⟩, ⟨rfl, trivial⟩, rfl⟩, rfl,
    Step.plain rfl (does_assign (.tmp 5) (.bool v1) trivial), ⟨⟨rfl, trivial⟩, trivial, rfl⟩, rfl, rfl⟩ ?_
  refine aw_cov (cov_prune (s1 := ⟨[(2, (.bool v1))], [], 1⟩) ⟨rfl, trivial⟩ trivial (Nat.le_refl _)) ?_
  refine aw_ret ?_
  exact fun a w hr => ⟨_, [(.bool v1)], hr, ⟨⟨_, rfl, .data _ trivial⟩, trivial⟩, by decide, by cases H; rfl⟩

theorem gather_Done_1_spec (p0 : api_Peer) (q0 : api_Core) (r : Bool) (H : gather_Done_1 p0 q0 = some r) : FSpec Try.prog 35 [(e_api_Peer p0), (.cptr (e_api_Core q0))] (.bool r) := by
  refine spec_of (fn := Try.f35) (args := [(e_api_Peer p0), (.cptr (e_api_Core q0))]) Try.func35 rfl (Nat.le_of_ble_eq_true rfl) ?_
  rintro ⟨G, w0, W, S, Sp⟩ hG
  cases hG
  unfold gather_Done_1 at H
  refine aw_region (es := [_, _]) ⟨Step.plain rfl (does_box 32 (.tmp 0) 0 (e_api_Peer p0) trivial rfl), ⟨⟨rfl, trivial⟩, trivial, rfl⟩, rfl,
    Step.plain rfl (does_assign (.const (.bool false)) (.bool false) (fun _ => rfl)), ⟨trivial, trivial, rfl⟩, rfl, rfl⟩ ?_
  refine aw_cov (cov_prune (s1 := ⟨[(1, (.cptr (e_api_Core q0))), (2, (.ptr 0 0 []))], [(0, some (.var (e_api_Peer p0)))], 1⟩) ⟨rfl, rfl, trivial⟩ ⟨rfl, trivial⟩ (Nat.le_refl _)) ?_
  refine aw_region (es := [_, _, _, _, _, _, _, _, _, _, _, _, _, _, _, _, _]) ⟨Step.plain rfl (does_fieldAddr 32 2 4 2 0 0 [] (.var (e_api_Peer p0)) fl32_2), ⟨⟨rfl, trivial⟩, ⟨rfl, trivial⟩, rfl⟩, rfl,
    Step.plain rfl (does_load 27 4 0 (0 + 4) [2] (.var (e_api_Peer p0)) (e_api_Id p0.Promise) ⟨rfl, Nat.le_of_ble_eq_true rfl, trivial⟩ rfl rfl ty27), ⟨⟨rfl, trivial⟩, ⟨rfl, trivial⟩, rfl⟩, rfl,
    Step.plain rfl (does_fieldAddrc 35 8 40 1 (e_api_Core q0) fl35_8 rfl (Nat.le_of_ble_eq_true rfl) rfl), ⟨⟨rfl, trivial⟩, trivial, rfl⟩, rfl,
    Step.plain rfl (does_loadc 27 6 (e_api_Id q0.Promise) ty27), ⟨⟨rfl, trivial⟩, trivial, rfl⟩, rfl,
    Step.plain rfl (does_eqT false 27 27 (.tmp 5) (.tmp 7) (e_api_Id p0.Promise) (e_api_Id q0.Promise) (e_api_Id z_api_Id) (b_api_Id p0.Promise q0.Promise) rfl rfl trivial trivial eg27 sh27 (al_api_Id _ _) (al_api_Id _ _) (q_api_Id _ _)), ⟨⟨rfl, rfl, trivial⟩, trivial, rfl⟩, rfl,
    Step.plain rfl (does_move (.tmp 8) (.bool (b_api_Id p0.Promise q0.Promise)) trivial), ⟨⟨rfl, trivial⟩, trivial, rfl⟩, rfl,
    Step.guarded rfl rfl rfl rfl (fun hc => does_fieldAddr 32 4 15 2 0 0 [] (.var (e_api_Peer p0)) fl32_4), ⟨⟨rfl, rfl, trivial⟩, ⟨rfl, trivial⟩, rfl⟩, rfl,
    Step.guarded rfl rfl rfl rfl (fun hc => Does.strip (n' := [(10, (.opt (b_api_Id p0.Promise q0.Promise) (.ptr 0 (0 + 15) [4])))]) (n := [(10, (.ptr 0 (0 + 15) [4]))]) ⟨(.opt _ _ hc), trivial⟩ (does_load 4 10 0 (0 + 15) [4] (.var (e_api_Peer p0)) (.bool p0.Ready) ⟨rfl, Nat.le_of_ble_eq_true rfl, trivial⟩ rfl rfl ty4)), ⟨⟨rfl, rfl, trivial⟩, ⟨rfl, trivial⟩, rfl⟩, rfl,
    Step.plain rfl (does_and 9 11 (b_api_Id p0.Promise q0.Promise) p0.Ready), ⟨⟨rfl, rfl, trivial⟩, trivial, rfl⟩, rfl,
    Step.plain rfl (does_move (.tmp 12) (.bool ((b_api_Id p0.Promise q0.Promise) && p0.Ready)) trivial), ⟨⟨rfl, trivial⟩, trivial, rfl⟩, rfl,
    Step.guarded rfl rfl rfl rfl (fun hc => does_fieldAddr 32 1 1 2 0 0 [] (.var (e_api_Peer p0)) fl32_1), ⟨⟨rfl, rfl, trivial⟩, ⟨rfl, trivial⟩, rfl⟩, rfl,
    Step.guarded rfl rfl rfl rfl (fun hc => Does.strip (n' := [(14, (.opt (!((b_api_Id p0.Promise q0.Promise) && p0.Ready)) (.ptr 0 (0 + 1) [1])))]) (n := [(14, (.ptr 0 (0 + 1) [1]))]) ⟨(.opt _ _ hc), trivial⟩ (does_load 27 14 0 (0 + 1) [1] (.var (e_api_Peer p0)) (e_api_Id p0.Conf) ⟨rfl, Nat.le_of_ble_eq_true rfl, trivial⟩ rfl rfl ty27)), ⟨⟨rfl, rfl, trivial⟩, ⟨rfl, trivial⟩, rfl⟩, rfl,
    Step.guarded rfl rfl rfl rfl (fun hc => does_fieldAddrc 35 8 40 1 (e_api_Core q0) fl35_8 rfl (Nat.le_of_ble_eq_true rfl) rfl), ⟨⟨rfl, rfl, trivial⟩, trivial, rfl⟩, rfl,
    Step.guarded rfl rfl rfl rfl (fun hc => Does.strip (n' := [(16, (.opt (!((b_api_Id p0.Promise q0.Promise) && p0.Ready)) (.cptr (e_api_Id q0.Promise))))]) (n := [(16, (.cptr (e_api_Id q0.Promise)))]) ⟨(.opt _ _ hc), trivial⟩ (does_loadc 27 16 (e_api_Id q0.Promise) ty27)), ⟨⟨rfl, rfl, trivial⟩, trivial, rfl⟩, rfl,
    Step.guarded rfl rfl rfl rfl (fun hc => Does.strip (n' := [(15, (.opt (!((b_api_Id p0.Promise q0.Promise) && p0.Ready)) (e_api_Id p0.Conf))), (17, (.opt (!((b_api_Id p0.Promise q0.Promise) && p0.Ready)) (e_api_Id q0.Promise)))]) (n := [(15, (e_api_Id p0.Conf)), (17, (e_api_Id q0.Promise))]) ⟨(.opt _ _ hc), (.opt _ _ hc), trivial⟩ (does_eqT false 27 27 (.tmp 15) (.tmp 17) (e_api_Id p0.Conf) (e_api_Id q0.Promise) (e_api_Id z_api_Id) (b_api_Id p0.Conf q0.Promise) rfl rfl trivial trivial eg27 sh27 (al_api_Id _ _) (al_api_Id _ _) (q_api_Id _ _))), ⟨⟨rfl, rfl, rfl, trivial⟩, trivial, rfl⟩, rfl,
    Step.plain rfl (does_or 13 18 ((b_api_Id p0.Promise q0.Promise) && p0.Ready) (b_api_Id p0.Conf q0.Promise)), ⟨⟨rfl, rfl, trivial⟩, trivial, rfl⟩, rfl,
    Step.plain rfl (does_assign (.tmp 19) (.bool (((b_api_Id p0.Promise q0.Promise) && p0.Ready) || (b_api_Id p0.Conf q0.Promise))) trivial), ⟨⟨rfl, trivial⟩, trivial, rfl⟩, rfl, rfl⟩ ?_
  obtain ⟨v1, hv1, H⟩ := lt_of H
  refine aw_cov (cov_prune (s1 := ⟨[(3, (.bool v1))], [], 1⟩) ⟨(by subst hv1; rfl), trivial⟩ trivial (Nat.le_refl _)) ?_
  refine aw_ret ?_
  exact fun a w hr => ⟨_, [(.bool v1)], hr, ⟨⟨_, rfl, .data _ trivial⟩, trivial⟩, by decide, by cases H; rfl⟩

theorem gather_Done_spec (p0 : api_Core) (r : Bool) (H : gather_Done p0 = some r) : FSpec Try.prog 20 [(e_api_Core p0)] (.bool r) := by
  refine spec_of (fn := Try.f20) (args := [(e_api_Core p0)]) Try.func20 rfl (Nat.le_of_ble_eq_true rfl) ?_
  rintro ⟨G, w0, W, S, Sp⟩ hG
  cases hG
  unfold gather_Done at H
  refine aw_region (es := [_, _]) ⟨Step.plain rfl (does_box 35 (.tmp 0) 0 (e_api_Core p0) trivial rfl), ⟨⟨rfl, trivial⟩, trivial, rfl⟩, rfl,
    Step.plain rfl (does_assign (.const (.bool false)) (.bool false) (fun _ => rfl)), ⟨trivial, trivial, rfl⟩, rfl, rfl⟩ ?_
  refine aw_cov (cov_prune (s1 := ⟨[(1, (.ptr 0 0 []))], [(0, some (.var (e_api_Core p0)))], 1⟩) ⟨rfl, trivial⟩ ⟨rfl, trivial⟩ (Nat.le_refl _)) ?_
  obtain ⟨v1, h2, H⟩ := bnd H
  refine aw_region (es := [_, _, _, _]) ⟨Step.plain rfl (does_load 35 1 0 0 [] (.var (e_api_Core p0)) (e_api_Core p0) trivial rfl rfl ty35), ⟨⟨rfl, trivial⟩, ⟨rfl, trivial⟩, rfl⟩, rfl,
    Step.plain rfl (does_makeFunc 35 [(.tmp 1)] [(.ptr 0 0 [])] #[(.tmp 1)] rfl ⟨trivial, trivial⟩), ⟨⟨rfl, trivial⟩, trivial, rfl⟩, rfl,
    Step.plain rfl (does_call 32 0 (fun _ => .any) (.func 32) [(.tmp 3), (.tmp 4)] [(e_api_Core p0), (.fn 35 1 (fun j => ([(.ptr 0 0 [])] : _root_.List V).getD j (.bool false)))] [(0, (.var (e_api_Core p0)))] true [(e_api_Core p0), (.fn 35 1 (fun j => ([.cptr (e_api_Core p0)] : _root_.List V).getD j (.bool false)))] (.bool v1) _ _ rfl fo32 rfl ⟨trivial, trivial, trivial⟩ ⟨.data _ (d_api_Core p0), .fn _ _ _ _ (fun j hj => match j, hj with | 0, _ => .ptr 0 0 [] (.var (e_api_Core p0)) (e_api_Core p0) (.head _) trivial rfl rfl (d_api_Core p0) | k + 1, hj => absurd hj (by omega)), trivial⟩ (gather_each_spec p0 (fun z0 => gather_Done_1 z0 p0) 35 1 (fun j => ([.cptr (e_api_Core p0)] : _root_.List V).getD j (.bool false)) fo35 (fun j => match j with | 0 => .inr ⟨(e_api_Core p0), (d_api_Core p0), rfl⟩ | _ + 1 => .inl trivial) (fun z0 r h => gather_Done_1_spec z0 p0 r h) _ h2) trivial), ⟨⟨rfl, rfl, trivial⟩, ⟨rfl, trivial⟩, rfl⟩, rfl,
    Step.plain rfl (does_assign (.tmp 5) (.bool v1) trivial), ⟨⟨rfl, trivial⟩, trivial, rfl⟩, rfl, rfl⟩ ?_
  refine aw_cov (cov_prune (s1 := ⟨[(2, (.bool v1))], [], 1⟩) ⟨rfl, trivial⟩ trivial (Nat.le_refl _)) ?_
  refine aw_ret ?_
  exact fun a w hr => ⟨_, [(.bool v1)], hr, ⟨⟨_, rfl, .data _ trivial⟩, trivial⟩, by decide, by cases H; rfl⟩
end Go.Proofs.Yteajgbkgijaebaa
