/- Printed by gen.py. Conditions: none. -/
import Derived.Test.YtbkofjefhnnmlaaSp2
import Derived.KernelRfl
set_option linter.unusedVariables false
set_option maxRecDepth 100000
namespace Go.Proofs.Ytbkofjefhnnmlaa
open Go.Eng
set_option maxHeartbeats 1600000
theorem congresslaw10_KeptOnce_spec (p0 : (Nat → Int)) (p1 : (_root_.List api_Kept)) (r : Bool) (H : congresslaw10_KeptOnce p0 p1 = some r) : FSpec Try.prog 4 [(e_a8_u32 p0), (e_s_api_Kept p1)] (.bool r) := by
  refine spec_of (fn := Try.f4) (args := [(e_a8_u32 p0), (e_s_api_Kept p1)]) Try.func4 rfl (Nat.le_of_ble_eq_true rfl) ?_
  rintro ⟨G, w0, W, S, Sp⟩ hG
  cases hG
  unfold congresslaw10_KeptOnce at H
  refine aw_region (es := [_, _]) ⟨Step.plain rfl (does_box 26 (.tmp 0) 0 (e_a8_u32 p0) trivial rfl), ⟨⟨rfl, trivial⟩, trivial, rfl⟩, rfl,
    Step.plain rfl (does_assign (.const (.bool false)) (.bool false) (fun _ => rfl)), ⟨trivial, trivial, rfl⟩, rfl, rfl⟩ ?_
  refine aw_cov (cov_prune (s1 := ⟨[(1, (e_s_api_Kept p1)), (2, (.ptr 0 0 []))], [(0, some (.var (e_a8_u32 p0)))], 1⟩) ⟨rfl, rfl, trivial⟩ ⟨rfl, trivial⟩ (Nat.le_refl _)) ?_
  refine aw_region (es := [_, _, _, _, _]) ⟨Step.plain rfl (does_buildOwn 22 0 38 1 (e_api_Kept z_api_Kept) (fun j => (e_api_Kept (([] : _root_.List api_Kept).getD j z_api_Kept))) #[] [] [] rfl so22 (by decide) trivial trivial (fun j h => match j, h with  | k + 0, h => absurd h (by omega))), ⟨trivial, trivial, rfl⟩, rfl,
    Step.plain rfl (does_buildT 25 #[] [] [] (.ar 8 1) (fun j => (.int .u32 ((fun _ => 0) j))) (fun j => (.int .u32 ((aset (fun _ => 0) []) j))) rfl bo25 trivial trivial (setAll_map (fun z => V.int .u32 z) [] _)), ⟨trivial, trivial, rfl⟩, rfl,
    Step.plain rfl (does_alloc 25 2 (e_a8_u32 (fun _ => 0)) zr25), ⟨trivial, trivial, rfl⟩, rfl,
    Step.plain rfl (does_assign (.tmp 17) (.own 1) trivial), ⟨⟨rfl, trivial⟩, trivial, rfl⟩, rfl,
    Step.plain rfl (does_store 25 6 (.tmp 18) 2 0 [] (.var (e_a8_u32 (fun _ => 0))) (.var (e_a8_u32 (aset (fun _ => 0) []))) (e_a8_u32 (aset (fun _ => 0) [])) true trivial rfl trivial rfl rfl rfl ty25), ⟨⟨rfl, rfl, trivial⟩, ⟨rfl, trivial⟩, rfl⟩, rfl, rfl⟩ ?_
  refine aw_cov (cov_prune (s1 := ⟨[(1, (e_s_api_Kept p1)), (2, (.ptr 0 0 [])), (6, (.ptr 2 0 [])), (5, (.own 1))], [(0, some (.var (e_a8_u32 p0))), (1, some (.arr 38 ([] : _root_.List api_Kept).length fun j => (e_api_Kept (([] : _root_.List api_Kept).getD j z_api_Kept)))), (2, some (.var (e_a8_u32 (aset (fun _ => 0) []))))], 3⟩) ⟨rfl, rfl, rfl, rfl, trivial⟩ ⟨rfl, rfl, rfl, trivial⟩ (Nat.le_refl _)) ?_
  refine aw_region (es := [_, _, _]) ⟨Step.plain rfl (does_buildT 25 #[] [] [] (.ar 8 1) (fun j => (.int .u32 ((fun _ => 0) j))) (fun j => (.int .u32 ((aset (fun _ => 0) []) j))) rfl bo25 trivial trivial (setAll_map (fun z => V.int .u32 z) [] _)), ⟨trivial, trivial, rfl⟩, rfl,
    Step.plain rfl (does_alloc 25 3 (e_a8_u32 (fun _ => 0)) zr25), ⟨trivial, trivial, rfl⟩, rfl,
    Step.plain rfl (does_store 25 7 (.tmp 19) 3 0 [] (.var (e_a8_u32 (fun _ => 0))) (.var (e_a8_u32 (aset (fun _ => 0) []))) (e_a8_u32 (aset (fun _ => 0) [])) true trivial rfl trivial rfl rfl rfl ty25), ⟨⟨rfl, rfl, trivial⟩, ⟨rfl, trivial⟩, rfl⟩, rfl, rfl⟩ ?_
  refine aw_cov (cov_prune (s1 := ⟨[(1, (e_s_api_Kept p1)), (2, (.ptr 0 0 [])), (6, (.ptr 2 0 [])), (5, (.own 1)), (7, (.ptr 3 0 []))], [(0, some (.var (e_a8_u32 p0))), (1, some (.arr 38 ([] : _root_.List api_Kept).length fun j => (e_api_Kept (([] : _root_.List api_Kept).getD j z_api_Kept)))), (2, some (.var (e_a8_u32 (aset (fun _ => 0) [])))), (3, some (.var (e_a8_u32 (aset (fun _ => 0) []))))], 4⟩) ⟨rfl, rfl, rfl, rfl, rfl, trivial⟩ ⟨rfl, rfl, rfl, rfl, trivial⟩ (Nat.le_refl _)) ?_
  refine aw_seq ?_
  refine aw_region (es := [_]) ⟨Step.plain rfl (does_assign (.const (.int .i64 0)) (.int .i64 0) (fun _ => rfl)), ⟨trivial, trivial, rfl⟩, rfl, rfl⟩ ?_
  refine aw_cov (cov_prune (s1 := ⟨[(1, (e_s_api_Kept p1)), (2, (.ptr 0 0 [])), (6, (.ptr 2 0 [])), (5, (.own 1)), (7, (.ptr 3 0 [])), (8, (.int .i64 0))], [(0, some (.var (e_a8_u32 p0))), (1, some (.arr 38 ([] : _root_.List api_Kept).length fun j => (e_api_Kept (([] : _root_.List api_Kept).getD j z_api_Kept)))), (2, some (.var (e_a8_u32 (aset (fun _ => 0) [])))), (3, some (.var (e_a8_u32 (aset (fun _ => 0) []))))], 4⟩) ⟨rfl, rfl, rfl, rfl, rfl, rfl, trivial⟩ ⟨rfl, rfl, rfl, rfl, trivial⟩ (Nat.le_refl _)) ?_
  obtain ⟨wn2, hwn2, Hrn2⟩ := bnd H
  refine aw_meet (fun y25 : _root_.List api_Kept × (Nat → Int) × (Nat → Int) => (⟨[(5, (.own 1)), (6, (.ptr 2 0 [])), (7, (.ptr 3 0 []))], [(1, some (.arr 38 y25.1.length fun j => (e_api_Kept (y25.1.getD j z_api_Kept)))), (2, some (.var (e_a8_u32 y25.2.1))), (3, some (.var (e_a8_u32 y25.2.2)))], 4⟩ : St)) (fun y25 => Fl.nx y25 = wn2) (fun y25 hy => ?_) (aw_block (aw_runs (fun x1 : Int × _root_.List api_Kept × (Nat → Int) × (Nat → Int) => (⟨[(1, (e_s_api_Kept p1)), (2, (.ptr 0 0 [])), (6, (.ptr 2 0 [])), (5, (.own 1)), (7, (.ptr 3 0 [])), (8, (.int .i64 x1.1))], [(0, some (.var (e_a8_u32 p0))), (1, some (.arr 38 x1.2.1.length fun j => (e_api_Kept (x1.2.1.getD j z_api_Kept)))), (2, some (.var (e_a8_u32 x1.2.2.1))), (3, some (.var (e_a8_u32 x1.2.2.2)))], 4⟩ : St)) hwn2 (cov_prune ⟨rfl, rfl, rfl, rfl, rfl, rfl, trivial⟩ ⟨rfl, rfl, rfl, rfl, trivial⟩ (Nat.le_of_ble_eq_true rfl)) (fun x1 st H hsn2 => ?_)))
  · have H := nx_of hy Hrn2
    refine nx_seq ?_
    refine aw_seq ?_
    obtain ⟨v26, h27, H⟩ := bnd H
    refine aw_region (es := [_, _, _, _, _, _, _]) ⟨Step.plain rfl (does_call 13 0 (fun _ => .any) (.func 13) [] [] [] true [] (.bool v26) _ _ rfl fo13 rfl trivial trivial (congresslaw10_fixed_spec _ h27) trivial), ⟨trivial, trivial, rfl⟩, rfl,
      Step.plain rfl (does_not 4 (.tmp 103) v26 trivial), ⟨⟨rfl, trivial⟩, trivial, rfl⟩, rfl,
      Step.plain rfl (does_move (.tmp 104) (.bool (!v26)) trivial), ⟨⟨rfl, trivial⟩, trivial, rfl⟩, rfl,
      Step.guarded rfl rfl rfl rfl (fun hc => does_load 25 6 2 0 [] (.var (e_a8_u32 y25.2.1)) (e_a8_u32 y25.2.1) trivial rfl rfl ty25), ⟨⟨rfl, rfl, trivial⟩, ⟨rfl, trivial⟩, rfl⟩, rfl,
      Step.guarded rfl rfl rfl rfl (fun hc => does_load 25 7 3 0 [] (.var (e_a8_u32 y25.2.2)) (e_a8_u32 y25.2.2) trivial rfl rfl ty25), ⟨⟨rfl, rfl, trivial⟩, ⟨rfl, trivial⟩, rfl⟩, rfl,
      Step.guarded rfl rfl rfl rfl (fun hc => Does.strip (n' := [(106, (.opt (!(!v26)) (e_a8_u32 y25.2.1))), (107, (.opt (!(!v26)) (e_a8_u32 y25.2.2)))]) (n := [(106, (e_a8_u32 y25.2.1)), (107, (e_a8_u32 y25.2.2))]) ⟨(.opt _ _ hc), (.opt _ _ hc), trivial⟩ (does_eqT true 25 25 (.tmp 106) (.tmp 107) (e_a8_u32 y25.2.1) (e_a8_u32 y25.2.2) (e_a8_u32 (fun _ => 0)) (b_a8_u32 y25.2.1 y25.2.2) rfl rfl trivial trivial eg25 sh25 (al_a8_u32 _ _) (al_a8_u32 _ _) (q_a8_u32 _ _))), ⟨⟨rfl, rfl, rfl, trivial⟩, trivial, rfl⟩, rfl,
      Step.plain rfl (does_or 105 108 (!v26) (!(b_a8_u32 y25.2.1 y25.2.2))), ⟨⟨rfl, rfl, trivial⟩, trivial, rfl⟩, rfl, rfl⟩ ?_
    refine aw_cov (cov_prune (s1 := ⟨[(5, (.own 1)), (6, (.ptr 2 0 [])), (109, (.bool ((!v26) || (!(b_a8_u32 y25.2.1 y25.2.2)))))], [(1, some (.arr 38 y25.1.length fun j => (e_api_Kept (y25.1.getD j z_api_Kept)))), (2, some (.var (e_a8_u32 y25.2.1)))], 4⟩) ⟨rfl, rfl, rfl, trivial⟩ ⟨rfl, rfl, trivial⟩ (Nat.le_refl _)) ?_
    refine aw_cond rfl (fun hc => ?_) (fun hc => ?_)
    · replace H := ite_t hc H
      refine aw_region (es := [_]) ⟨Step.plain rfl (does_assign (.const (.bool false)) (.bool false) (fun _ => rfl)), ⟨trivial, trivial, rfl⟩, rfl, rfl⟩ ?_
      refine aw_cov (cov_prune (s1 := ⟨[(4, (.bool false))], [], 4⟩) ⟨rfl, trivial⟩ trivial (Nat.le_refl _)) ?_
      refine aw_ret ?_
      refine rt_then ?_
      exact fun a w hr => ⟨_, [(.bool false)], hr, ⟨⟨_, rfl, .data (.bool false) trivial⟩, trivial⟩, by decide, by cases H; rfl⟩
    · replace H := ite_f hc H
      refine aw_skip ?_
      refine nx_seq ?_
      refine aw_region (es := [_]) ⟨Step.plain rfl (does_assign (.const (.int .i64 0)) (.int .i64 0) (fun _ => rfl)), ⟨trivial, trivial, rfl⟩, rfl, rfl⟩ ?_
      refine aw_cov (cov_prune (s1 := ⟨[(5, (.own 1)), (6, (.ptr 2 0 [])), (12, (.int .i64 0))], [(1, some (.arr 38 y25.1.length fun j => (e_api_Kept (y25.1.getD j z_api_Kept)))), (2, some (.var (e_a8_u32 y25.2.1)))], 4⟩) ⟨rfl, rfl, rfl, trivial⟩ ⟨rfl, rfl, trivial⟩ (Nat.le_refl _)) ?_
      refine aw_seq ?_
      refine aw_region (es := [_]) ⟨Step.plain rfl (does_assign (.const (.int .i64 0)) (.int .i64 0) (fun _ => rfl)), ⟨trivial, trivial, rfl⟩, rfl, rfl⟩ ?_
      refine aw_cov (cov_prune (s1 := ⟨[(5, (.own 1)), (6, (.ptr 2 0 [])), (12, (.int .i64 0)), (13, (.int .i64 0))], [(1, some (.arr 38 y25.1.length fun j => (e_api_Kept (y25.1.getD j z_api_Kept)))), (2, some (.var (e_a8_u32 y25.2.1)))], 4⟩) ⟨rfl, rfl, rfl, rfl, trivial⟩ ⟨rfl, rfl, trivial⟩ (Nat.le_refl _)) ?_
      obtain ⟨wn29, hwn29, Hrn29⟩ := bnd H
      refine aw_meet (fun y40 : Int => (⟨[(5, (.own 1)), (12, (.int .i64 y40))], [(1, some (.arr 38 y25.1.length fun j => (e_api_Kept (y25.1.getD j z_api_Kept))))], 4⟩ : St)) (fun y40 => Fl.nx y40 = wn29) (fun y40 hy => ?_) (aw_block (aw_runs (fun x28 : Int × Int => (⟨[(5, (.own 1)), (6, (.ptr 2 0 [])), (12, (.int .i64 x28.1)), (13, (.int .i64 x28.2))], [(1, some (.arr 38 y25.1.length fun j => (e_api_Kept (y25.1.getD j z_api_Kept)))), (2, some (.var (e_a8_u32 y25.2.1)))], 4⟩ : St)) hwn29 (cov_prune ⟨rfl, rfl, rfl, rfl, trivial⟩ ⟨rfl, rfl, trivial⟩ (Nat.le_of_ble_eq_true rfl)) (fun x28 st H hsn29 => ?_)))
      · have H := nx_of hy Hrn29
        refine nx_seq ?_
        refine aw_region (es := [_, _, _, _, _]) ⟨Step.plain rfl (does_move (.tmp 12) (.int .i64 y40) trivial), ⟨⟨rfl, trivial⟩, trivial, rfl⟩, rfl,
          Step.plain rfl (does_move (.tmp 5) (.own 1) trivial), ⟨⟨rfl, trivial⟩, trivial, rfl⟩, rfl,
          Step.plain rfl (does_leno 22 38 y25.1.length 140 1 (fun j => (e_api_Kept (y25.1.getD j z_api_Kept))) el22), ⟨⟨rfl, trivial⟩, ⟨rfl, trivial⟩, rfl⟩, rfl,
          Step.plain rfl (does_bin .eql 3 3 (.tmp 139) (.tmp 141) .i64 y40 (y25.1.length : Int) (.bool (y40 == (y25.1.length : Int))) trivial trivial (bin_eql _ _ _ _)), ⟨⟨rfl, rfl, trivial⟩, trivial, rfl⟩, rfl,
          Step.plain rfl (does_assign (.tmp 142) (.bool (y40 == (y25.1.length : Int))) trivial), ⟨⟨rfl, trivial⟩, trivial, rfl⟩, rfl, rfl⟩ ?_
        refine aw_cov (cov_prune (s1 := ⟨[(4, (.bool (y40 == (y25.1.length : Int))))], [], 4⟩) ⟨rfl, trivial⟩ trivial (Nat.le_refl _)) ?_
        refine aw_ret ?_
        exact fun a w hr => ⟨_, [(.bool (y40 == (y25.1.length : Int)))], hr, ⟨⟨_, rfl, .data (.bool (y40 == (y25.1.length : Int))) trivial⟩, trivial⟩, by decide, by cases H; rfl⟩
      · refine aw_seq ?_
        refine aw_region (es := [_, _]) ⟨Step.plain rfl (does_move (.tmp 13) (.int .i64 x28.2) trivial), ⟨⟨rfl, trivial⟩, trivial, rfl⟩, rfl,
          Step.plain rfl (does_bin .lss 3 3 (.tmp 110) (.const (.int .i64 8)) .i64 x28.2 8 (.bool (decide (x28.2 < 8))) trivial (fun _ => rfl) (bin_lss _ _ _ _)), ⟨⟨rfl, trivial⟩, trivial, rfl⟩, rfl, rfl⟩ ?_
        refine aw_cov (cov_prune (s1 := ⟨[(5, (.own 1)), (6, (.ptr 2 0 [])), (12, (.int .i64 x28.1)), (13, (.int .i64 x28.2)), (111, (.bool (decide (x28.2 < 8))))], [(1, some (.arr 38 y25.1.length fun j => (e_api_Kept (y25.1.getD j z_api_Kept)))), (2, some (.var (e_a8_u32 y25.2.1)))], 4⟩) ⟨rfl, rfl, rfl, rfl, rfl, trivial⟩ ⟨rfl, rfl, trivial⟩ (Nat.le_refl _)) ?_
        refine aw_cond rfl (fun hc => ?_) (fun hc => ?_)
        · replace H := ite_t hc H
          refine aw_skip ?_
          refine nx_seq ?_
          refine aw_seq ?_
          refine aw_block ?_
          refine aw_region (es := [_]) ⟨Step.plain rfl (does_assign (.const (.int .u32 1)) (.int .u32 1) (fun _ => rfl)), ⟨trivial, trivial, rfl⟩, rfl, rfl⟩ ?_
          refine aw_cov (cov_prune (s1 := ⟨[(5, (.own 1)), (6, (.ptr 2 0 [])), (12, (.int .i64 x28.1)), (13, (.int .i64 x28.2)), (14, (.int .u32 1))], [(1, some (.arr 38 y25.1.length fun j => (e_api_Kept (y25.1.getD j z_api_Kept)))), (2, some (.var (e_a8_u32 y25.2.1)))], 4⟩) ⟨rfl, rfl, rfl, rfl, rfl, trivial⟩ ⟨rfl, rfl, trivial⟩ (Nat.le_refl _)) ?_
          obtain ⟨wn31, hwn31, Hrn31⟩ := bnd H
          refine aw_meet (fun y39 : Int => (⟨[(5, (.own 1)), (6, (.ptr 2 0 [])), (12, (.int .i64 y39)), (13, (.int .i64 x28.2))], [(1, some (.arr 38 y25.1.length fun j => (e_api_Kept (y25.1.getD j z_api_Kept)))), (2, some (.var (e_a8_u32 y25.2.1)))], 4⟩ : St)) (fun y39 => Fl.nx y39 = wn31) (fun y39 hy => ?_) (aw_block (aw_runs (fun x30 : Int × Int => (⟨[(5, (.own 1)), (6, (.ptr 2 0 [])), (12, (.int .i64 x30.1)), (13, (.int .i64 x28.2)), (14, (.int .u32 x30.2))], [(1, some (.arr 38 y25.1.length fun j => (e_api_Kept (y25.1.getD j z_api_Kept)))), (2, some (.var (e_a8_u32 y25.2.1)))], 4⟩ : St)) hwn31 (cov_prune ⟨rfl, rfl, rfl, rfl, rfl, trivial⟩ ⟨rfl, rfl, trivial⟩ (Nat.le_of_ble_eq_true rfl)) (fun x30 st H hsn31 => ?_)))
          · have H := nx_of hy Hrn31
            refine nx_blk ?_
            refine nx_seq ?_
            refine aw_region1 (es := [_, _, _]) ⟨Step.plain rfl (does_move (.tmp 13) (.int .i64 x28.2) trivial), ⟨⟨rfl, trivial⟩, trivial, rfl⟩, rfl,
              Step.plain rfl (does_bin .add 3 3 (.tmp 112) (.const (.int .i64 1)) .i64 x28.2 1 (.int .i64 (IntKind.i64.wrap (x28.2 + 1))) trivial (fun _ => rfl) (bin_add _ _ _ _)), ⟨⟨rfl, trivial⟩, trivial, rfl⟩, rfl,
              Step.plain rfl (does_assign (.tmp 113) (.int .i64 (IntKind.i64.wrap (x28.2 + 1))) trivial), ⟨⟨rfl, trivial⟩, trivial, rfl⟩, rfl, rfl⟩ ?_
            exact nx_loop (y39, (IntKind.i64.wrap (x28.2 + 1))) H (cov_prune ⟨rfl, rfl, rfl, rfl, trivial⟩ ⟨rfl, rfl, trivial⟩ (Nat.le_of_ble_eq_true rfl))
          · refine aw_seq ?_
            obtain ⟨h32, H⟩ := ib_of H
            refine aw_region (es := [_, _, _, _, _]) ⟨Step.plain rfl (does_move (.tmp 14) (.int .u32 x30.2) trivial), ⟨⟨rfl, trivial⟩, trivial, rfl⟩, rfl,
              Step.plain rfl (does_move (.tmp 13) (.int .i64 x28.2) trivial), ⟨⟨rfl, trivial⟩, trivial, rfl⟩, rfl,
              Step.plain rfl (does_indexAddr 25 8 1 6 2 0 [] (.var (e_a8_u32 y25.2.1)) (.tmp 115) .i64 x28.2 el25 trivial h32.1 h32.2), ⟨⟨rfl, rfl, trivial⟩, ⟨rfl, trivial⟩, rfl⟩, rfl,
              Step.plain rfl (does_load 23 116 2 (0 + x28.2.toNat * 1) [x28.2.toNat] (.var (e_a8_u32 y25.2.1)) (.int .u32 (y25.2.1 x28.2.toNat)) ⟨rfl, (ixl h32), trivial⟩ rfl rfl ty23), ⟨⟨rfl, trivial⟩, ⟨rfl, trivial⟩, rfl⟩, rfl,
              Step.plain rfl (does_bin .leq 23 23 (.tmp 114) (.tmp 117) .u32 x30.2 (y25.2.1 x28.2.toNat) (.bool (decide (x30.2 ≤ (y25.2.1 x28.2.toNat)))) trivial trivial (bin_leq _ _ _ _)), ⟨⟨rfl, rfl, trivial⟩, trivial, rfl⟩, rfl, rfl⟩ ?_
            refine aw_cov (cov_prune (s1 := ⟨[(5, (.own 1)), (6, (.ptr 2 0 [])), (12, (.int .i64 x30.1)), (13, (.int .i64 x28.2)), (14, (.int .u32 x30.2)), (118, (.bool (decide (x30.2 ≤ (y25.2.1 x28.2.toNat)))))], [(1, some (.arr 38 y25.1.length fun j => (e_api_Kept (y25.1.getD j z_api_Kept)))), (2, some (.var (e_a8_u32 y25.2.1)))], 4⟩) ⟨rfl, rfl, rfl, rfl, rfl, rfl, trivial⟩ ⟨rfl, rfl, trivial⟩ (Nat.le_refl _)) ?_
            refine aw_cond rfl (fun hc => ?_) (fun hc => ?_)
            · replace H := ite_t hc H
              refine aw_skip ?_
              refine nx_seq ?_
              refine aw_seq ?_
              refine aw_jn (fun x38 : Int => (⟨[(5, (.own 1)), (6, (.ptr 2 0 [])), (12, (.int .i64 x38)), (13, (.int .i64 x28.2)), (14, (.int .u32 x30.2))], [(1, some (.arr 38 y25.1.length fun j => (e_api_Kept (y25.1.getD j z_api_Kept)))), (2, some (.var (e_a8_u32 y25.2.1)))], 5⟩ : St)) H (fun x38 H => ?_) (fun j33 H => ?_)
              · refine nx_seq ?_
                refine aw_region1 (es := [_, _, _]) ⟨Step.plain rfl (does_move (.tmp 14) (.int .u32 x30.2) trivial), ⟨⟨rfl, trivial⟩, trivial, rfl⟩, rfl,
                  Step.plain rfl (does_bin .add 23 23 (.tmp 119) (.const (.int .u32 1)) .u32 x30.2 1 (.int .u32 (IntKind.u32.wrap (x30.2 + 1))) trivial (fun _ => rfl) (bin_add _ _ _ _)), ⟨⟨rfl, trivial⟩, trivial, rfl⟩, rfl,
                  Step.plain rfl (does_assign (.tmp 120) (.int .u32 (IntKind.u32.wrap (x30.2 + 1))) trivial), ⟨⟨rfl, trivial⟩, trivial, rfl⟩, rfl, rfl⟩ ?_
                exact nx_loop (x38, (IntKind.u32.wrap (x30.2 + 1))) H (cov_of (fun i => match i with | 1 => 1 | 2 => 2 | k => k) ⟨⟨_, rfl, ⟨rfl, Nat.le_of_ble_eq_true rfl⟩⟩, ⟨_, rfl, ⟨rfl, Nat.le_of_ble_eq_true rfl⟩⟩, ⟨_, rfl, ⟨rfl, trivial⟩⟩, ⟨_, rfl, ⟨rfl, trivial⟩⟩, ⟨_, rfl, ⟨rfl, trivial⟩⟩, trivial⟩ ⟨⟨Nat.le_of_ble_eq_true rfl, _, _, rfl, rfl, ⟨rfl, rfl, fun _ => .inl ⟨rfl, (d_api_Kept _).plain⟩⟩⟩, ⟨Nat.le_of_ble_eq_true rfl, _, _, rfl, rfl, .inl ⟨rfl, (d_a8_u32 _).plain⟩⟩, trivial⟩ rfl)
              · refine aw_block ?_
                obtain ⟨v34, h35, H⟩ := bnd H
                refine aw_region (es := [_, _, _, _, _, _, _, _, _, _]) ⟨Step.plain rfl (does_move (.tmp 5) (.own 1) trivial), ⟨⟨rfl, trivial⟩, trivial, rfl⟩, rfl,
                  Step.plain rfl (does_move (.tmp 13) (.int .i64 x28.2) trivial), ⟨⟨rfl, trivial⟩, trivial, rfl⟩, rfl,
                  Step.plain rfl (does_move (.tmp 14) (.int .u32 x30.2) trivial), ⟨⟨rfl, trivial⟩, trivial, rfl⟩, rfl,
                  Step.plain rfl (does_call 9 0 (fun _ => .any) (.func 9) [(.tmp 122), (.tmp 123), (.tmp 124)] [(.own 1), (.int .i64 x28.2), (.int .u32 x30.2)] [(1, (.arr 38 y25.1.length fun j => (e_api_Kept (y25.1.getD j z_api_Kept))))] true [(e_s_api_Kept y25.1), (.int .i64 x28.2), (.int .u32 x30.2)] (resV [(e_a3_a2_api_Entry v34.1), (.bool v34.2)]) _ _ rfl fo9 rfl ⟨trivial, trivial, trivial, trivial⟩ ⟨.own 1 _ _ _ (.head _) rfl (fun _ => (d_api_Kept _)), .data _ trivial, .data _ trivial, trivial⟩ (kept_Get_spec y25.1 x28.2 x30.2 _ h35) (res_flat2 (f_a3_a2_api_Entry v34.1) trivial)), ⟨⟨rfl, rfl, rfl, trivial⟩, ⟨rfl, trivial⟩, rfl⟩, rfl,
                  Step.plain rfl (does_move (.tmp 125) (resV [(e_a3_a2_api_Entry v34.1), (.bool v34.2)]) trivial), ⟨⟨rfl, trivial⟩, trivial, rfl⟩, rfl,
                  Step.plain rfl (does_extract 121 0 2 (fun j => [(e_a3_a2_api_Entry v34.1), (.bool v34.2)].getD j (.bool false)) (Nat.le_of_ble_eq_true rfl)), ⟨⟨rfl, trivial⟩, trivial, rfl⟩, rfl,
                  Step.plain rfl (does_extract 121 1 2 (fun j => [(e_a3_a2_api_Entry v34.1), (.bool v34.2)].getD j (.bool false)) (Nat.le_of_ble_eq_true rfl)), ⟨⟨rfl, trivial⟩, trivial, rfl⟩, rfl,
                  Step.plain rfl (does_alloc 34 4 (e_a3_a2_api_Entry (fun _ => (fun _ => z_api_Entry))) zr34), ⟨trivial, trivial, rfl⟩, rfl,
                  Step.plain rfl (does_store 34 15 (.tmp 126) 4 0 [] (.var (e_a3_a2_api_Entry (fun _ => (fun _ => z_api_Entry)))) (.var (e_a3_a2_api_Entry v34.1)) (e_a3_a2_api_Entry v34.1) true trivial rfl trivial rfl rfl rfl ty34), ⟨⟨rfl, rfl, trivial⟩, ⟨rfl, trivial⟩, rfl⟩, rfl,
                  Step.plain rfl (does_assign (.tmp 127) (.bool v34.2) trivial), ⟨⟨rfl, trivial⟩, trivial, rfl⟩, rfl, rfl⟩ ?_
                refine aw_cov (cov_prune (s1 := ⟨[(5, (.own 1)), (6, (.ptr 2 0 [])), (12, (.int .i64 x30.1)), (13, (.int .i64 x28.2)), (14, (.int .u32 x30.2)), (16, (.bool v34.2))], [(1, some (.arr 38 y25.1.length fun j => (e_api_Kept (y25.1.getD j z_api_Kept)))), (2, some (.var (e_a8_u32 y25.2.1)))], 5⟩) ⟨rfl, rfl, rfl, rfl, rfl, rfl, trivial⟩ ⟨rfl, rfl, trivial⟩ (Nat.le_refl _)) ?_
                refine aw_seq ?_
                obtain ⟨h36, H⟩ := ib_of H
                refine aw_region (es := [_, _, _, _, _, _, _, _]) ⟨Step.plain rfl (does_move (.tmp 16) (.bool v34.2) trivial), ⟨⟨rfl, trivial⟩, trivial, rfl⟩, rfl,
                  Step.plain rfl (does_move (.tmp 14) (.int .u32 x30.2) trivial), ⟨⟨rfl, trivial⟩, trivial, rfl⟩, rfl,
                  Step.plain rfl (does_bin .add 23 23 (.tmp 129) (.const (.int .u32 3)) .u32 x30.2 3 (.int .u32 (IntKind.u32.wrap (x30.2 + 3))) trivial (fun _ => rfl) (bin_add _ _ _ _)), ⟨⟨rfl, trivial⟩, trivial, rfl⟩, rfl,
                  Step.plain rfl (does_move (.tmp 13) (.int .i64 x28.2) trivial), ⟨⟨rfl, trivial⟩, trivial, rfl⟩, rfl,
                  Step.plain rfl (does_indexAddr 25 8 1 6 2 0 [] (.var (e_a8_u32 y25.2.1)) (.tmp 131) .i64 x28.2 el25 trivial h36.1 h36.2), ⟨⟨rfl, rfl, trivial⟩, ⟨rfl, trivial⟩, rfl⟩, rfl,
                  Step.plain rfl (does_load 23 132 2 (0 + x28.2.toNat * 1) [x28.2.toNat] (.var (e_a8_u32 y25.2.1)) (.int .u32 (y25.2.1 x28.2.toNat)) ⟨rfl, (ixl h36), trivial⟩ rfl rfl ty23), ⟨⟨rfl, trivial⟩, ⟨rfl, trivial⟩, rfl⟩, rfl,
                  Step.plain rfl (does_bin .gtr 23 23 (.tmp 130) (.tmp 133) .u32 (IntKind.u32.wrap (x30.2 + 3)) (y25.2.1 x28.2.toNat) (.bool (decide ((IntKind.u32.wrap (x30.2 + 3)) > (y25.2.1 x28.2.toNat)))) trivial trivial (bin_gtr _ _ _ _)), ⟨⟨rfl, rfl, trivial⟩, trivial, rfl⟩, rfl,
                  Step.plain rfl (does_eqBool true 4 4 (.tmp 128) (.tmp 134) v34.2 (decide ((IntKind.u32.wrap (x30.2 + 3)) > (y25.2.1 x28.2.toNat))) trivial trivial rfl), ⟨⟨rfl, rfl, trivial⟩, trivial, rfl⟩, rfl, rfl⟩ ?_
                obtain ⟨v37, hv37, H⟩ := lt_of H
                refine aw_cov (cov_prune (s1 := ⟨[(5, (.own 1)), (6, (.ptr 2 0 [])), (12, (.int .i64 x30.1)), (13, (.int .i64 x28.2)), (14, (.int .u32 x30.2)), (16, (.bool v34.2)), (135, (.bool v37))], [(1, some (.arr 38 y25.1.length fun j => (e_api_Kept (y25.1.getD j z_api_Kept)))), (2, some (.var (e_a8_u32 y25.2.1)))], 5⟩) ⟨rfl, rfl, rfl, rfl, rfl, rfl, (by subst hv37; rfl), trivial⟩ ⟨rfl, rfl, trivial⟩ (Nat.le_refl _)) ?_
                refine aw_cond rfl (fun hc => ?_) (fun hc => ?_)
                · replace H := ite_t hc H
                  refine aw_region (es := [_]) ⟨Step.plain rfl (does_assign (.const (.bool false)) (.bool false) (fun _ => rfl)), ⟨trivial, trivial, rfl⟩, rfl, rfl⟩ ?_
                  refine aw_cov (cov_prune (s1 := ⟨[(4, (.bool false))], [], 5⟩) ⟨rfl, trivial⟩ trivial (Nat.le_refl _)) ?_
                  refine aw_ret ?_
                  replace H := rt_of H hsn31 Hrn31
                  replace H := rt_of H hsn29 Hrn29
                  refine rt_then ?_
                  refine rt_blk ?_
                  refine rt_then ?_
                  refine rt_then ?_
                  refine rt_then ?_
                  refine rt_blk ?_
                  refine rt_then ?_
                  refine rt_blk ?_
                  refine rt_then ?_
                  refine rt_then ?_
                  refine rt_blk ?_
                  refine rt_then ?_
                  refine rt_then ?_
                  exact fun a w hr => ⟨_, [(.bool false)], hr, ⟨⟨_, rfl, .data (.bool false) trivial⟩, trivial⟩, by decide, by cases H; rfl⟩
                · replace H := ite_f hc H
                  refine aw_skip ?_
                  refine nx_seq ?_
                  refine aw_region (es := [_]) ⟨Step.plain rfl (does_move (.tmp 16) (.bool v34.2) trivial), ⟨⟨rfl, trivial⟩, trivial, rfl⟩, rfl, rfl⟩ ?_
                  refine aw_cov (cov_prune (s1 := ⟨[(5, (.own 1)), (6, (.ptr 2 0 [])), (12, (.int .i64 x30.1)), (13, (.int .i64 x28.2)), (14, (.int .u32 x30.2)), (136, (.bool v34.2))], [(1, some (.arr 38 y25.1.length fun j => (e_api_Kept (y25.1.getD j z_api_Kept)))), (2, some (.var (e_a8_u32 y25.2.1)))], 5⟩) ⟨rfl, rfl, rfl, rfl, rfl, rfl, trivial⟩ ⟨rfl, rfl, trivial⟩ (Nat.le_refl _)) ?_
                  refine aw_cond rfl (fun hc => ?_) (fun hc => ?_)
                  · replace H := ite_t hc H
                    refine aw_region1 (es := [_, _, _]) ⟨Step.plain rfl (does_move (.tmp 12) (.int .i64 x30.1) trivial), ⟨⟨rfl, trivial⟩, trivial, rfl⟩, rfl,
                      Step.plain rfl (does_bin .add 3 3 (.tmp 137) (.const (.int .i64 1)) .i64 x30.1 1 (.int .i64 (IntKind.i64.wrap (x30.1 + 1))) trivial (fun _ => rfl) (bin_add _ _ _ _)), ⟨⟨rfl, trivial⟩, trivial, rfl⟩, rfl,
                      Step.plain rfl (does_assign (.tmp 138) (.int .i64 (IntKind.i64.wrap (x30.1 + 1))) trivial), ⟨⟨rfl, trivial⟩, trivial, rfl⟩, rfl, rfl⟩ ?_
                    refine nx_blk ?_
                    exact nx_join ((IntKind.i64.wrap (x30.1 + 1))) H (cov_prune ⟨rfl, rfl, rfl, rfl, rfl, trivial⟩ ⟨rfl, rfl, trivial⟩ (Nat.le_of_ble_eq_true rfl))
                  · replace H := ite_f hc H
                    refine aw_skip ?_
                    refine nx_blk ?_
                    exact nx_join (x30.1) H (cov_prune ⟨rfl, rfl, rfl, rfl, rfl, trivial⟩ ⟨rfl, rfl, trivial⟩ (Nat.le_of_ble_eq_true rfl))
            · replace H := ite_f hc H
              refine aw_exit ?_
              refine ex_then ?_
              refine ex_then ?_
              refine ex_here ?_
              exact nx_ljoin (x30.1) H hsn31 (cov_prune ⟨rfl, rfl, rfl, rfl, trivial⟩ ⟨rfl, rfl, trivial⟩ (Nat.le_of_ble_eq_true rfl))
        · replace H := ite_f hc H
          refine aw_exit ?_
          refine ex_then ?_
          refine ex_then ?_
          refine ex_here ?_
          exact nx_ljoin (x28.1) H hsn29 (cov_prune ⟨rfl, rfl, trivial⟩ ⟨rfl, trivial⟩ (Nat.le_of_ble_eq_true rfl))
  · refine aw_seq ?_
    refine aw_region (es := [_, _, _, _, _, _, _, _]) ⟨Step.plain rfl (does_move (.tmp 8) (.int .i64 x1.1) trivial), ⟨⟨rfl, trivial⟩, trivial, rfl⟩, rfl,
      Step.plain rfl (does_move (.tmp 1) (e_s_api_Kept p1) trivial), ⟨⟨rfl, trivial⟩, trivial, rfl⟩, rfl,
      Step.plain rfl (does_lens 22 38 p1.length 21 (fun j => (e_api_Kept (p1.getD j z_api_Kept))) el22), ⟨⟨rfl, trivial⟩, trivial, rfl⟩, rfl,
      Step.plain rfl (does_bin .lss 3 3 (.tmp 20) (.tmp 22) .i64 x1.1 (p1.length : Int) (.bool (decide (x1.1 < (p1.length : Int)))) trivial trivial (bin_lss _ _ _ _)), ⟨⟨rfl, rfl, trivial⟩, trivial, rfl⟩, rfl,
      Step.plain rfl (does_move (.tmp 23) (.bool (decide (x1.1 < (p1.length : Int)))) trivial), ⟨⟨rfl, trivial⟩, trivial, rfl⟩, rfl,
      Step.guarded rfl rfl rfl rfl (fun hc => does_move (.tmp 8) (.int .i64 x1.1) trivial), ⟨⟨rfl, rfl, trivial⟩, trivial, rfl⟩, rfl,
      Step.guarded rfl rfl rfl rfl (fun hc => Does.strip (n' := [(25, (.opt (decide (x1.1 < (p1.length : Int))) (.int .i64 x1.1)))]) (n := [(25, (.int .i64 x1.1))]) ⟨(.opt _ _ hc), trivial⟩ (does_bin .lss 3 3 (.tmp 25) (.const (.int .i64 200)) .i64 x1.1 200 (.bool (decide (x1.1 < 200))) trivial (fun _ => rfl) (bin_lss _ _ _ _))), ⟨⟨rfl, rfl, trivial⟩, trivial, rfl⟩, rfl,
      Step.plain rfl (does_and 24 26 (decide (x1.1 < (p1.length : Int))) (decide (x1.1 < 200))), ⟨⟨rfl, rfl, trivial⟩, trivial, rfl⟩, rfl, rfl⟩ ?_
    refine aw_cov (cov_prune (s1 := ⟨[(1, (e_s_api_Kept p1)), (2, (.ptr 0 0 [])), (6, (.ptr 2 0 [])), (5, (.own 1)), (7, (.ptr 3 0 [])), (8, (.int .i64 x1.1)), (27, (.bool ((decide (x1.1 < (p1.length : Int))) && (decide (x1.1 < 200)))))], [(0, some (.var (e_a8_u32 p0))), (1, some (.arr 38 x1.2.1.length fun j => (e_api_Kept (x1.2.1.getD j z_api_Kept)))), (2, some (.var (e_a8_u32 x1.2.2.1))), (3, some (.var (e_a8_u32 x1.2.2.2)))], 4⟩) ⟨rfl, rfl, rfl, rfl, rfl, rfl, rfl, trivial⟩ ⟨rfl, rfl, rfl, rfl, trivial⟩ (Nat.le_refl _)) ?_
    refine aw_cond rfl (fun hc => ?_) (fun hc => ?_)
    · replace H := ite_t hc H
      refine aw_skip ?_
      refine nx_seq ?_
      refine aw_seq ?_
      refine aw_block ?_
      obtain ⟨h3, H⟩ := ib_of H
      obtain ⟨v4, h5, H⟩ := bnd H
      refine aw_draw (es := [_, _, _, _, _, _, _, _, _, _, _, _, _, _, _, _]) (mixed) ⟨Step.plain rfl (does_move (.tmp 5) (.own 1) trivial), ⟨⟨rfl, trivial⟩, trivial, rfl⟩, rfl,
        Step.plain rfl (does_load 25 6 2 0 [] (.var (e_a8_u32 x1.2.2.1)) (e_a8_u32 x1.2.2.1) trivial rfl rfl ty25), ⟨⟨rfl, trivial⟩, ⟨rfl, trivial⟩, rfl⟩, rfl,
        Step.plain rfl (does_load 26 2 0 0 [] (.var (e_a8_u32 p0)) (e_a8_u32 p0) trivial rfl rfl ty26), ⟨⟨rfl, trivial⟩, ⟨rfl, trivial⟩, rfl⟩, rfl,
        Step.plain rfl (does_move (.tmp 1) (e_s_api_Kept p1) trivial), ⟨⟨rfl, trivial⟩, trivial, rfl⟩, rfl,
        Step.plain rfl (does_move (.tmp 8) (.int .i64 x1.1) trivial), ⟨⟨rfl, trivial⟩, trivial, rfl⟩, rfl,
        Step.plain rfl (does_indexAddrs 22 38 p1.length 34 (fun j => (e_api_Kept (p1.getD j z_api_Kept))) (.tmp 35) .i64 x1.1 el22 trivial h3.1 h3.2), ⟨⟨rfl, rfl, trivial⟩, trivial, rfl⟩, rfl,
        Step.plain rfl (does_loadc 36 36 (e_api_Kept (p1.getD x1.1.toNat z_api_Kept)) ty36), ⟨⟨rfl, trivial⟩, trivial, rfl⟩, rfl,
        Step.plain rfl (does_callO 7 0 (fun _ => .any) (.func 7) [(.tmp 31), (.tmp 32), (.tmp 33), (.tmp 37)] [(.own 1), (e_a8_u32 x1.2.2.1), (e_a8_u32 p0), (e_api_Kept (p1.getD x1.1.toNat z_api_Kept))] [(1, (.arr 38 x1.2.1.length fun j => (e_api_Kept (x1.2.1.getD j z_api_Kept))))] [] true [(e_s_api_Kept x1.2.1), (e_a8_u32 x1.2.2.1), (e_a8_u32 p0), (e_api_Kept (p1.getD x1.1.toNat z_api_Kept))] _ (resV [(.own 4), (e_a8_u32 v4.2.1), (.bool v4.2.2)]) _ 4 2 _ _ rfl fo7 rfl ⟨trivial, trivial, trivial, trivial, trivial⟩ ⟨.ro _ _ (.own 1 _ _ _ (.head _) rfl (fun _ => (d_api_Kept _))), .ro _ _ (.data _ (d_a8_u32 x1.2.2.1)), .ro _ _ (.data _ (d_a8_u32 p0)), .ro _ _ (.data _ (d_api_Kept (p1.getD x1.1.toNat z_api_Kept))), trivial⟩ (kept_Take_spec x1.2.1 x1.2.2.1 p0 (p1.getD x1.1.toNat z_api_Kept) _ h5) rfl (by simp) rfl trivial ⟨⟨Nat.le_of_ble_eq_true rfl, _, rfl, fun _ => (f_api_Kept _)⟩, trivial⟩ (.tup _ _ _ (fun j => match j with | 0 => .own 0 (Nat.le_of_ble_eq_true rfl) | 1 => .data _ ((f_a8_u32 v4.2.1)) | 2 => .data _ (trivial) | _ + 3 => .data _ trivial))), ⟨⟨rfl, rfl, rfl, rfl, trivial⟩, ⟨rfl, trivial⟩, rfl⟩, rfl,
        Step.plain rfl (does_move (.tmp 38) (resV [(.own 4), (e_a8_u32 v4.2.1), (.bool v4.2.2)]) trivial), ⟨⟨rfl, trivial⟩, trivial, rfl⟩, rfl,
        Step.plain rfl (does_extract 30 0 3 (fun j => [(.own 4), (e_a8_u32 v4.2.1), (.bool v4.2.2)].getD j (.bool false)) (Nat.le_of_ble_eq_true rfl)), ⟨⟨rfl, trivial⟩, trivial, rfl⟩, rfl,
        Step.plain rfl (does_extract 30 1 3 (fun j => [(.own 4), (e_a8_u32 v4.2.1), (.bool v4.2.2)].getD j (.bool false)) (Nat.le_of_ble_eq_true rfl)), ⟨⟨rfl, trivial⟩, trivial, rfl⟩, rfl,
        Step.plain rfl (does_extract 30 2 3 (fun j => [(.own 4), (e_a8_u32 v4.2.1), (.bool v4.2.2)].getD j (.bool false)) (Nat.le_of_ble_eq_true rfl)), ⟨⟨rfl, trivial⟩, trivial, rfl⟩, rfl,
        Step.plain rfl (does_alloc 25 6 (e_a8_u32 (fun _ => 0)) zr25), ⟨trivial, trivial, rfl⟩, rfl,
        Step.plain rfl (does_assign (.tmp 39) (.own 4) trivial), ⟨⟨rfl, trivial⟩, trivial, rfl⟩, rfl,
        Step.plain rfl (does_store 25 10 (.tmp 40) 6 0 [] (.var (e_a8_u32 (fun _ => 0))) (.var (e_a8_u32 v4.2.1)) (e_a8_u32 v4.2.1) true trivial rfl trivial rfl rfl rfl ty25), ⟨⟨rfl, rfl, trivial⟩, ⟨rfl, trivial⟩, rfl⟩, rfl,
        Step.plain rfl (does_assign (.tmp 41) (.bool v4.2.2) trivial), ⟨⟨rfl, trivial⟩, trivial, rfl⟩, rfl, rfl⟩ rfl ?_
      refine aw_cov (cov_prune (s1 := ⟨[(1, (e_s_api_Kept p1)), (2, (.ptr 0 0 [])), (6, (.ptr 2 0 [])), (5, (.own 1)), (7, (.ptr 3 0 [])), (8, (.int .i64 x1.1)), (10, (.ptr 6 0 [])), (9, (.own 4)), (11, (.bool v4.2.2))], [(0, some (.var (e_a8_u32 p0))), (1, some (.arr 38 x1.2.1.length fun j => (e_api_Kept (x1.2.1.getD j z_api_Kept)))), (2, some (.var (e_a8_u32 x1.2.2.1))), (3, some (.var (e_a8_u32 x1.2.2.2))), (4, some (.arr 38 v4.1.length fun j => (e_api_Kept (v4.1.getD j z_api_Kept)))), (6, some (.var (e_a8_u32 v4.2.1)))], 7⟩) ⟨rfl, rfl, rfl, rfl, rfl, rfl, rfl, rfl, rfl, trivial⟩ ⟨rfl, rfl, rfl, rfl, rfl, rfl, trivial⟩ (Nat.le_refl _)) ?_
      refine aw_seq ?_
      refine aw_region (es := [_]) ⟨Step.plain rfl (does_move (.tmp 11) (.bool v4.2.2) trivial), ⟨⟨rfl, trivial⟩, trivial, rfl⟩, rfl, rfl⟩ ?_
      refine aw_cov (cov_prune (s1 := ⟨[(1, (e_s_api_Kept p1)), (2, (.ptr 0 0 [])), (6, (.ptr 2 0 [])), (5, (.own 1)), (7, (.ptr 3 0 [])), (8, (.int .i64 x1.1)), (10, (.ptr 6 0 [])), (9, (.own 4)), (11, (.bool v4.2.2)), (42, (.bool v4.2.2))], [(0, some (.var (e_a8_u32 p0))), (1, some (.arr 38 x1.2.1.length fun j => (e_api_Kept (x1.2.1.getD j z_api_Kept)))), (2, some (.var (e_a8_u32 x1.2.2.1))), (3, some (.var (e_a8_u32 x1.2.2.2))), (4, some (.arr 38 v4.1.length fun j => (e_api_Kept (v4.1.getD j z_api_Kept)))), (6, some (.var (e_a8_u32 v4.2.1)))], 7⟩) ⟨rfl, rfl, rfl, rfl, rfl, rfl, rfl, rfl, rfl, rfl, trivial⟩ ⟨rfl, rfl, rfl, rfl, rfl, rfl, trivial⟩ (Nat.le_refl _)) ?_
      refine aw_jn (fun x18 : (Nat → Int) => (⟨[(1, (e_s_api_Kept p1)), (2, (.ptr 0 0 [])), (5, (.own 1)), (6, (.ptr 2 0 [])), (7, (.ptr 3 0 [])), (8, (.int .i64 x1.1)), (9, (.own 4)), (10, (.ptr 6 0 [])), (11, (.bool v4.2.2))], [(0, some (.var (e_a8_u32 p0))), (1, some (.arr 38 x1.2.1.length fun j => (e_api_Kept (x1.2.1.getD j z_api_Kept)))), (2, some (.var (e_a8_u32 x1.2.2.1))), (3, some (.var (e_a8_u32 x18))), (4, some (.arr 38 v4.1.length fun j => (e_api_Kept (v4.1.getD j z_api_Kept)))), (6, some (.var (e_a8_u32 v4.2.1)))], 7⟩ : St)) H (fun x18 H => ?_) (fun j6 H => ?_)
      · refine nx_seq ?_
        refine aw_seq ?_
        obtain ⟨h19, H⟩ := ib_of H
        obtain ⟨v20, h21, H⟩ := bnd H
        obtain ⟨v22, h23, H⟩ := whn_of H
        refine aw_draw (es := [_, _, _, _, _, _, _, _, _, _, _, _, _, _, _, _, _, _, _, _, _, _, _, _]) (mixed) ⟨Step.plain rfl (does_move (.tmp 11) (.bool v4.2.2) trivial), ⟨⟨rfl, trivial⟩, trivial, rfl⟩, rfl,
          Step.plain rfl (does_load 26 2 0 0 [] (.var (e_a8_u32 p0)) (e_a8_u32 p0) trivial rfl rfl ty26), ⟨⟨rfl, trivial⟩, ⟨rfl, trivial⟩, rfl⟩, rfl,
          Step.plain rfl (does_move (.tmp 1) (e_s_api_Kept p1) trivial), ⟨⟨rfl, trivial⟩, trivial, rfl⟩, rfl,
          Step.plain rfl (does_move (.tmp 8) (.int .i64 x1.1) trivial), ⟨⟨rfl, trivial⟩, trivial, rfl⟩, rfl,
          Step.plain rfl (does_indexAddrs 22 38 p1.length 79 (fun j => (e_api_Kept (p1.getD j z_api_Kept))) (.tmp 80) .i64 x1.1 el22 trivial h19.1 h19.2), ⟨⟨rfl, rfl, trivial⟩, trivial, rfl⟩, rfl,
          Step.plain rfl (does_fieldAddrc 36 0 0 81 (e_api_Kept (p1.getD x1.1.toNat z_api_Kept)) fl36_0 rfl (Nat.le_of_ble_eq_true rfl) rfl), ⟨⟨rfl, trivial⟩, trivial, rfl⟩, rfl,
          Step.plain rfl (does_loadc 3 82 (.int .i64 ((p1.getD x1.1.toNat z_api_Kept).From)) ty3), ⟨⟨rfl, trivial⟩, trivial, rfl⟩, rfl,
          Step.plain rfl (does_call 15 0 (fun _ => .any) (.func 15) [(.tmp 78), (.tmp 83)] [(e_a8_u32 p0), (.int .i64 ((p1.getD x1.1.toNat z_api_Kept).From))] [] true [(e_a8_u32 p0), (.int .i64 ((p1.getD x1.1.toNat z_api_Kept).From))] (.bool v20) _ _ rfl fo15 rfl ⟨trivial, trivial, trivial⟩ ⟨.data _ (d_a8_u32 p0), .data _ trivial, trivial⟩ (congressref10_Is_spec p0 ((p1.getD x1.1.toNat z_api_Kept).From) _ h21) trivial), ⟨⟨rfl, rfl, trivial⟩, trivial, rfl⟩, rfl,
          Step.plain rfl (does_move (.tmp 84) (.bool v20) trivial), ⟨⟨rfl, trivial⟩, trivial, rfl⟩, rfl,
          Step.guarded rfl rfl rfl rfl (fun hc => does_load 25 10 6 0 [] (.var (e_a8_u32 v4.2.1)) (e_a8_u32 v4.2.1) trivial rfl rfl ty25), ⟨⟨rfl, rfl, trivial⟩, ⟨rfl, trivial⟩, rfl⟩, rfl,
          Step.guarded rfl rfl rfl rfl (fun hc => does_load 25 6 2 0 [] (.var (e_a8_u32 x1.2.2.1)) (e_a8_u32 x1.2.2.1) trivial rfl rfl ty25), ⟨⟨rfl, rfl, trivial⟩, ⟨rfl, trivial⟩, rfl⟩, rfl,
          Step.guarded rfl rfl rfl rfl (fun hc => Does.strip (n' := [(86, (.opt v20 (e_a8_u32 v4.2.1))), (87, (.opt v20 (e_a8_u32 x1.2.2.1)))]) (n := [(86, (e_a8_u32 v4.2.1)), (87, (e_a8_u32 x1.2.2.1))]) ⟨(.opt _ _ hc), (.opt _ _ hc), trivial⟩ (does_eqT true 25 25 (.tmp 86) (.tmp 87) (e_a8_u32 v4.2.1) (e_a8_u32 x1.2.2.1) (e_a8_u32 (fun _ => 0)) (b_a8_u32 v4.2.1 x1.2.2.1) rfl rfl trivial trivial eg25 sh25 (al_a8_u32 _ _) (al_a8_u32 _ _) (q_a8_u32 _ _))), ⟨⟨rfl, rfl, rfl, trivial⟩, trivial, rfl⟩, rfl,
          Step.plain rfl (does_and 85 88 v20 (!(b_a8_u32 v4.2.1 x1.2.2.1))), ⟨⟨rfl, rfl, trivial⟩, trivial, rfl⟩, rfl,
          Step.plain rfl (does_eqBool true 4 4 (.tmp 77) (.tmp 89) v4.2.2 (v20 && (!(b_a8_u32 v4.2.1 x1.2.2.1))) trivial trivial rfl), ⟨⟨rfl, rfl, trivial⟩, trivial, rfl⟩, rfl,
          Step.plain rfl (does_move (.tmp 90) (.bool (v4.2.2 != (v20 && (!(b_a8_u32 v4.2.1 x1.2.2.1))))) trivial), ⟨⟨rfl, trivial⟩, trivial, rfl⟩, rfl,
          Step.guarded rfl rfl rfl rfl (fun hc => does_move (.tmp 11) (.bool v4.2.2) trivial), ⟨⟨rfl, rfl, trivial⟩, trivial, rfl⟩, rfl,
          Step.guarded rfl rfl rfl rfl (fun hc => Does.strip (n' := [(92, (.opt (!(v4.2.2 != (v20 && (!(b_a8_u32 v4.2.1 x1.2.2.1))))) (.bool v4.2.2)))]) (n := [(92, (.bool v4.2.2))]) ⟨(.opt _ _ hc), trivial⟩ (does_not 4 (.tmp 92) v4.2.2 trivial)), ⟨⟨rfl, rfl, trivial⟩, trivial, rfl⟩, rfl,
          Step.guarded rfl rfl rfl rfl (fun hc => Does.strip (n' := [(93, (.opt (!(v4.2.2 != (v20 && (!(b_a8_u32 v4.2.1 x1.2.2.1))))) (.bool (!v4.2.2))))]) (n := [(93, (.bool (!v4.2.2)))]) ⟨(.opt _ _ hc), trivial⟩ (does_move (.tmp 93) (.bool (!v4.2.2)) trivial)), ⟨⟨rfl, rfl, trivial⟩, trivial, rfl⟩, rfl,
          Step.guarded rfl rfl rfl rfl (fun hc => does_move (.tmp 9) (.own 4) trivial), ⟨⟨rfl, rfl, trivial⟩, trivial, rfl⟩, rfl,
          Step.guarded rfl rfl rfl rfl (fun hc => does_move (.tmp 5) (.own 1) trivial), ⟨⟨rfl, rfl, trivial⟩, trivial, rfl⟩, rfl,
          Step.guarded rfl rfl rfl rfl (fun hc => Does.strip (n' := [(95, (.opt ((!(v4.2.2 != (v20 && (!(b_a8_u32 v4.2.1 x1.2.2.1))))) && (!v4.2.2)) (.own 4))), (96, (.opt ((!(v4.2.2 != (v20 && (!(b_a8_u32 v4.2.1 x1.2.2.1))))) && (!v4.2.2)) (.own 1)))]) (n := [(95, (.own 4)), (96, (.own 1))]) ⟨(.opt _ _ hc), (.opt _ _ hc), trivial⟩ (does_call 14 0 (fun _ => .any) (.func 14) [(.tmp 95), (.tmp 96)] [(.own 4), (.own 1)] [(4, (.arr 38 v4.1.length fun j => (e_api_Kept (v4.1.getD j z_api_Kept)))), (1, (.arr 38 x1.2.1.length fun j => (e_api_Kept (x1.2.1.getD j z_api_Kept))))] true [(e_s_api_Kept v4.1), (e_s_api_Kept x1.2.1)] (.bool v22) _ _ rfl fo14 rfl ⟨trivial, trivial, trivial⟩ ⟨.own 4 _ _ _ (.head _) rfl (fun _ => (d_api_Kept _)), .own 1 _ _ _ (.tail _ (.head _)) rfl (fun _ => (d_api_Kept _)), trivial⟩ (congressref10_Same_spec v4.1 x1.2.1 _ (h23 hc)) trivial)), ⟨⟨rfl, rfl, rfl, trivial⟩, ⟨rfl, rfl, trivial⟩, rfl⟩, rfl,
          Step.guarded rfl rfl rfl rfl (fun hc => Does.strip (n' := [(97, (.opt ((!(v4.2.2 != (v20 && (!(b_a8_u32 v4.2.1 x1.2.2.1))))) && (!v4.2.2)) (.bool v22)))]) (n := [(97, (.bool v22))]) ⟨(.opt _ _ hc), trivial⟩ (does_not 4 (.tmp 97) v22 trivial)), ⟨⟨rfl, rfl, trivial⟩, trivial, rfl⟩, rfl,
          Step.guarded rfl rfl rfl rfl (fun hc => Does.strip (n' := [(94, (.opt (!(v4.2.2 != (v20 && (!(b_a8_u32 v4.2.1 x1.2.2.1))))) (.bool (!v4.2.2)))), (98, (.opt ((!(v4.2.2 != (v20 && (!(b_a8_u32 v4.2.1 x1.2.2.1))))) && (!v4.2.2)) (.bool (!v22))))]) (n := [(94, (.bool (!v4.2.2))), (98, (.opt (!v4.2.2) (.bool (!v22))))]) ⟨(.opt _ _ hc), (.half _ _ hc), trivial⟩ (does_and 94 98 (!v4.2.2) (!v22))), ⟨⟨rfl, rfl, rfl, trivial⟩, trivial, rfl⟩, rfl,
          Step.plain rfl (does_or 91 99 (v4.2.2 != (v20 && (!(b_a8_u32 v4.2.1 x1.2.2.1)))) ((!v4.2.2) && (!v22))), ⟨⟨rfl, rfl, trivial⟩, trivial, rfl⟩, rfl, rfl⟩ rfl ?_
        obtain ⟨v24, hv24, H⟩ := lt_of H
        refine aw_cov (cov_prune (s1 := ⟨[(1, (e_s_api_Kept p1)), (2, (.ptr 0 0 [])), (6, (.ptr 2 0 [])), (7, (.ptr 3 0 [])), (8, (.int .i64 x1.1)), (9, (.own 4)), (10, (.ptr 6 0 [])), (100, (.bool v24))], [(0, some (.var (e_a8_u32 p0))), (2, some (.var (e_a8_u32 x1.2.2.1))), (3, some (.var (e_a8_u32 x18))), (4, some (.arr 38 v4.1.length fun j => (e_api_Kept (v4.1.getD j z_api_Kept)))), (6, some (.var (e_a8_u32 v4.2.1)))], 7⟩) ⟨rfl, rfl, rfl, rfl, rfl, rfl, rfl, (by subst hv24; rfl), trivial⟩ ⟨rfl, rfl, rfl, rfl, rfl, trivial⟩ (Nat.le_refl _)) ?_
        refine aw_cond rfl (fun hc => ?_) (fun hc => ?_)
        · replace H := ite_t hc H
          refine aw_region (es := [_]) ⟨Step.plain rfl (does_assign (.const (.bool false)) (.bool false) (fun _ => rfl)), ⟨trivial, trivial, rfl⟩, rfl, rfl⟩ ?_
          refine aw_cov (cov_prune (s1 := ⟨[(4, (.bool false))], [], 7⟩) ⟨rfl, trivial⟩ trivial (Nat.le_refl _)) ?_
          refine aw_ret ?_
          replace H := rt_of H hsn2 Hrn2
          refine rt_then ?_
          refine rt_blk ?_
          refine rt_then ?_
          refine rt_then ?_
          refine rt_blk ?_
          refine rt_then ?_
          refine rt_then ?_
          exact fun a w hr => ⟨_, [(.bool false)], hr, ⟨⟨_, rfl, .data (.bool false) trivial⟩, trivial⟩, by decide, by cases H; rfl⟩
        · replace H := ite_f hc H
          refine aw_skip ?_
          refine nx_seq ?_
          refine aw_draw1 (es := [_, _, _, _]) (mixed) ⟨Step.plain rfl (does_move (.tmp 9) (.own 4) trivial), ⟨⟨rfl, trivial⟩, trivial, rfl⟩, rfl,
            Step.plain rfl (does_load 25 10 6 0 [] (.var (e_a8_u32 v4.2.1)) (e_a8_u32 v4.2.1) trivial rfl rfl ty25), ⟨⟨rfl, trivial⟩, ⟨rfl, trivial⟩, rfl⟩, rfl,
            Step.plain rfl (does_assign (.tmp 101) (.own 4) trivial), ⟨⟨rfl, trivial⟩, trivial, rfl⟩, rfl,
            Step.plain rfl (does_store 25 6 (.tmp 102) 2 0 [] (.var (e_a8_u32 x1.2.2.1)) (.var (e_a8_u32 v4.2.1)) (e_a8_u32 v4.2.1) true trivial rfl trivial rfl rfl rfl ty25), ⟨⟨rfl, rfl, trivial⟩, ⟨rfl, trivial⟩, rfl⟩, rfl, rfl⟩ rfl ?_
          refine nx_blk ?_
          refine nx_seq ?_
          refine aw_cov (cov_prune (s1 := ⟨[(1, (e_s_api_Kept p1)), (2, (.ptr 0 0 [])), (6, (.ptr 2 0 [])), (7, (.ptr 3 0 [])), (8, (.int .i64 x1.1)), (5, (.own 4))], [(0, some (.var (e_a8_u32 p0))), (2, some (.var (e_a8_u32 v4.2.1))), (3, some (.var (e_a8_u32 x18))), (4, some (.arr 38 v4.1.length fun j => (e_api_Kept (v4.1.getD j z_api_Kept))))], 7⟩) ⟨rfl, rfl, rfl, rfl, rfl, rfl, trivial⟩ ⟨rfl, rfl, rfl, rfl, trivial⟩ (Nat.le_refl _)) ?_
          refine aw_region1 (es := [_, _, _]) ⟨Step.plain rfl (does_move (.tmp 8) (.int .i64 x1.1) trivial), ⟨⟨rfl, trivial⟩, trivial, rfl⟩, rfl,
            Step.plain rfl (does_bin .add 3 3 (.tmp 28) (.const (.int .i64 1)) .i64 x1.1 1 (.int .i64 (IntKind.i64.wrap (x1.1 + 1))) trivial (fun _ => rfl) (bin_add _ _ _ _)), ⟨⟨rfl, trivial⟩, trivial, rfl⟩, rfl,
            Step.plain rfl (does_assign (.tmp 29) (.int .i64 (IntKind.i64.wrap (x1.1 + 1))) trivial), ⟨⟨rfl, trivial⟩, trivial, rfl⟩, rfl, rfl⟩ ?_
          exact nx_loop ((IntKind.i64.wrap (x1.1 + 1)), v4.1, v4.2.1, x18) H (cov_of (fun i => match i with | 0 => 0 | 2 => 2 | 1 => 4 | 3 => 3 | k => k) ⟨⟨_, rfl, ⟨rfl, (d_s_api_Kept _).plain⟩⟩, ⟨_, rfl, ⟨rfl, Nat.le_of_ble_eq_true rfl⟩⟩, ⟨_, rfl, ⟨rfl, Nat.le_of_ble_eq_true rfl⟩⟩, ⟨_, rfl, ⟨rfl, Nat.le_of_ble_eq_true rfl⟩⟩, ⟨_, rfl, ⟨rfl, Nat.le_of_ble_eq_true rfl⟩⟩, ⟨_, rfl, ⟨rfl, trivial⟩⟩, trivial⟩ ⟨⟨Nat.le_of_ble_eq_true rfl, _, _, rfl, rfl, .inl ⟨rfl, (d_a8_u32 _).plain⟩⟩, ⟨Nat.le_of_ble_eq_true rfl, _, _, rfl, rfl, ⟨rfl, rfl, fun _ => .inl ⟨rfl, (d_api_Kept _).plain⟩⟩⟩, ⟨Nat.le_of_ble_eq_true rfl, _, _, rfl, rfl, .inl ⟨rfl, (d_a8_u32 _).plain⟩⟩, ⟨Nat.le_of_ble_eq_true rfl, _, _, rfl, rfl, .inl ⟨rfl, (d_a8_u32 _).plain⟩⟩, trivial⟩ rfl)
      · refine aw_cond rfl (fun hc => ?_) (fun hc => ?_)
        · replace H := ite_t hc H
          obtain ⟨h7, H⟩ := ib_of H
          obtain ⟨h8, H⟩ := ib_of H
          obtain ⟨h9, H⟩ := ib_of H
          refine aw_region (es := [_, _, _, _, _, _, _, _, _, _, _]) ⟨Step.plain rfl (does_move (.tmp 1) (e_s_api_Kept p1) trivial), ⟨⟨rfl, trivial⟩, trivial, rfl⟩, rfl,
            Step.plain rfl (does_move (.tmp 8) (.int .i64 x1.1) trivial), ⟨⟨rfl, trivial⟩, trivial, rfl⟩, rfl,
            Step.plain rfl (does_indexAddrs 22 38 p1.length 43 (fun j => (e_api_Kept (p1.getD j z_api_Kept))) (.tmp 44) .i64 x1.1 el22 trivial h7.1 h7.2), ⟨⟨rfl, rfl, trivial⟩, trivial, rfl⟩, rfl,
            Step.plain rfl (does_fieldAddrc 36 0 0 45 (e_api_Kept (p1.getD x1.1.toNat z_api_Kept)) fl36_0 rfl (Nat.le_of_ble_eq_true rfl) rfl), ⟨⟨rfl, trivial⟩, trivial, rfl⟩, rfl,
            Step.plain rfl (does_loadc 3 46 (.int .i64 ((p1.getD x1.1.toNat z_api_Kept).From)) ty3), ⟨⟨rfl, trivial⟩, trivial, rfl⟩, rfl,
            Step.plain rfl (does_bin .and 3 3 (.tmp 47) (.const (.int .i64 7)) .i64 ((p1.getD x1.1.toNat z_api_Kept).From) 7 (.int .i64 (iand .i64 ((p1.getD x1.1.toNat z_api_Kept).From) 7)) trivial (fun _ => rfl) (bin_and _ _ _ _)), ⟨⟨rfl, trivial⟩, trivial, rfl⟩, rfl,
            Step.plain rfl (does_indexAddr 25 8 1 7 3 0 [] (.var (e_a8_u32 x1.2.2.2)) (.tmp 48) .i64 (iand .i64 ((p1.getD x1.1.toNat z_api_Kept).From) 7) el25 trivial h8.1 h8.2), ⟨⟨rfl, rfl, trivial⟩, ⟨rfl, trivial⟩, rfl⟩, rfl,
            Step.plain rfl (does_load 23 49 3 (0 + (iand .i64 ((p1.getD x1.1.toNat z_api_Kept).From) 7).toNat * 1) [(iand .i64 ((p1.getD x1.1.toNat z_api_Kept).From) 7).toNat] (.var (e_a8_u32 x1.2.2.2)) (.int .u32 (x1.2.2.2 ((iand .i64 ((p1.getD x1.1.toNat z_api_Kept).From) 7).toNat))) ⟨rfl, (ixl h8), trivial⟩ rfl rfl ty23), ⟨⟨rfl, trivial⟩, ⟨rfl, trivial⟩, rfl⟩, rfl,
            Step.plain rfl (does_bin .add 23 23 (.tmp 50) (.const (.int .u32 1)) .u32 (x1.2.2.2 ((iand .i64 ((p1.getD x1.1.toNat z_api_Kept).From) 7).toNat)) 1 (.int .u32 (IntKind.u32.wrap ((x1.2.2.2 ((iand .i64 ((p1.getD x1.1.toNat z_api_Kept).From) 7).toNat)) + 1))) trivial (fun _ => rfl) (bin_add _ _ _ _)), ⟨⟨rfl, trivial⟩, trivial, rfl⟩, rfl,
            Step.plain rfl (does_indexAddr 25 8 1 7 3 0 [] (.var (e_a8_u32 x1.2.2.2)) (.tmp 48) .i64 (iand .i64 ((p1.getD x1.1.toNat z_api_Kept).From) 7) el25 trivial h9.1 h9.2), ⟨⟨rfl, rfl, trivial⟩, ⟨rfl, trivial⟩, rfl⟩, rfl,
            Step.plain rfl (does_store 23 52 (.tmp 51) 3 (0 + (iand .i64 ((p1.getD x1.1.toNat z_api_Kept).From) 7).toNat * 1) [(iand .i64 ((p1.getD x1.1.toNat z_api_Kept).From) 7).toNat] (.var (e_a8_u32 x1.2.2.2)) (.var (e_a8_u32 (aupd x1.2.2.2 ((iand .i64 ((p1.getD x1.1.toNat z_api_Kept).From) 7).toNat) (IntKind.u32.wrap ((x1.2.2.2 ((iand .i64 ((p1.getD x1.1.toNat z_api_Kept).From) 7).toNat)) + 1))))) (.int .u32 (IntKind.u32.wrap ((x1.2.2.2 ((iand .i64 ((p1.getD x1.1.toNat z_api_Kept).From) 7).toNat)) + 1))) false trivial rfl ⟨rfl, (ixl h9), trivial⟩ rfl rfl (congrArg Box.var (set_cons rfl (vupd_map (fun z => V.int .u32 z) _ _ _))) ty23), ⟨⟨rfl, rfl, trivial⟩, ⟨rfl, trivial⟩, rfl⟩, rfl, rfl⟩ ?_
          obtain ⟨v10, hv10, H⟩ := lt_of H
          refine aw_cov (cov_prune (s1 := ⟨[(1, (e_s_api_Kept p1)), (2, (.ptr 0 0 [])), (6, (.ptr 2 0 [])), (5, (.own 1)), (7, (.ptr 3 0 [])), (8, (.int .i64 x1.1)), (10, (.ptr 6 0 [])), (9, (.own 4)), (11, (.bool v4.2.2))], [(0, some (.var (e_a8_u32 p0))), (1, some (.arr 38 x1.2.1.length fun j => (e_api_Kept (x1.2.1.getD j z_api_Kept)))), (2, some (.var (e_a8_u32 x1.2.2.1))), (3, some (.var (e_a8_u32 v10))), (4, some (.arr 38 v4.1.length fun j => (e_api_Kept (v4.1.getD j z_api_Kept)))), (6, some (.var (e_a8_u32 v4.2.1)))], 7⟩) ⟨rfl, rfl, rfl, rfl, rfl, rfl, rfl, rfl, rfl, trivial⟩ ⟨rfl, rfl, rfl, (by subst hv10; rfl), rfl, rfl, trivial⟩ (Nat.le_refl _)) ?_
          obtain ⟨h11, H⟩ := ib_of H
          obtain ⟨v12, h13, H⟩ := bnd H
          obtain ⟨h14, H⟩ := ibg_of H
          obtain ⟨h15, H⟩ := ibg_of H
          obtain ⟨h16, H⟩ := ibg_of H
          refine aw_draw (es := [_, _, _, _, _, _, _, _, _, _, _, _, _, _, _, _, _, _, _, _, _, _, _, _]) (mixed) ⟨Step.plain rfl (does_load 26 2 0 0 [] (.var (e_a8_u32 p0)) (e_a8_u32 p0) trivial rfl rfl ty26), ⟨⟨rfl, trivial⟩, ⟨rfl, trivial⟩, rfl⟩, rfl,
            Step.plain rfl (does_move (.tmp 1) (e_s_api_Kept p1) trivial), ⟨⟨rfl, trivial⟩, trivial, rfl⟩, rfl,
            Step.plain rfl (does_move (.tmp 8) (.int .i64 x1.1) trivial), ⟨⟨rfl, trivial⟩, trivial, rfl⟩, rfl,
            Step.plain rfl (does_indexAddrs 22 38 p1.length 54 (fun j => (e_api_Kept (p1.getD j z_api_Kept))) (.tmp 55) .i64 x1.1 el22 trivial h11.1 h11.2), ⟨⟨rfl, rfl, trivial⟩, trivial, rfl⟩, rfl,
            Step.plain rfl (does_fieldAddrc 36 0 0 56 (e_api_Kept (p1.getD x1.1.toNat z_api_Kept)) fl36_0 rfl (Nat.le_of_ble_eq_true rfl) rfl), ⟨⟨rfl, trivial⟩, trivial, rfl⟩, rfl,
            Step.plain rfl (does_loadc 3 57 (.int .i64 ((p1.getD x1.1.toNat z_api_Kept).From)) ty3), ⟨⟨rfl, trivial⟩, trivial, rfl⟩, rfl,
            Step.plain rfl (does_call 15 0 (fun _ => .any) (.func 15) [(.tmp 53), (.tmp 58)] [(e_a8_u32 p0), (.int .i64 ((p1.getD x1.1.toNat z_api_Kept).From))] [] true [(e_a8_u32 p0), (.int .i64 ((p1.getD x1.1.toNat z_api_Kept).From))] (.bool v12) _ _ rfl fo15 rfl ⟨trivial, trivial, trivial⟩ ⟨.data _ (d_a8_u32 p0), .data _ trivial, trivial⟩ (congressref10_Is_spec p0 ((p1.getD x1.1.toNat z_api_Kept).From) _ h13) trivial), ⟨⟨rfl, rfl, trivial⟩, trivial, rfl⟩, rfl,
            Step.plain rfl (does_not 4 (.tmp 59) v12 trivial), ⟨⟨rfl, trivial⟩, trivial, rfl⟩, rfl,
            Step.plain rfl (does_move (.tmp 60) (.bool (!v12)) trivial), ⟨⟨rfl, trivial⟩, trivial, rfl⟩, rfl,
            Step.guarded rfl rfl rfl rfl (fun hc => does_move (.tmp 1) (e_s_api_Kept p1) trivial), ⟨⟨rfl, rfl, trivial⟩, trivial, rfl⟩, rfl,
            Step.guarded rfl rfl rfl rfl (fun hc => does_move (.tmp 8) (.int .i64 x1.1) trivial), ⟨⟨rfl, rfl, trivial⟩, trivial, rfl⟩, rfl,
            Step.guarded rfl rfl rfl rfl (fun hc => Does.strip (n' := [(62, (.opt (!(!v12)) (e_s_api_Kept p1))), (63, (.opt (!(!v12)) (.int .i64 x1.1)))]) (n := [(62, (e_s_api_Kept p1)), (63, (.int .i64 x1.1))]) ⟨(.opt _ _ hc), (.opt _ _ hc), trivial⟩ (does_indexAddrs 22 38 p1.length 62 (fun j => (e_api_Kept (p1.getD j z_api_Kept))) (.tmp 63) .i64 x1.1 el22 trivial (h14 hc).1 (h14 hc).2)), ⟨⟨rfl, rfl, rfl, trivial⟩, trivial, rfl⟩, rfl,
            Step.guarded rfl rfl rfl rfl (fun hc => Does.strip (n' := [(64, (.opt (!(!v12)) (.cptr (e_api_Kept (p1.getD x1.1.toNat z_api_Kept)))))]) (n := [(64, (.cptr (e_api_Kept (p1.getD x1.1.toNat z_api_Kept))))]) ⟨(.opt _ _ hc), trivial⟩ (does_fieldAddrc 36 1 1 64 (e_api_Kept (p1.getD x1.1.toNat z_api_Kept)) fl36_1 rfl (Nat.le_of_ble_eq_true rfl) rfl)), ⟨⟨rfl, rfl, trivial⟩, trivial, rfl⟩, rfl,
            Step.guarded rfl rfl rfl rfl (fun hc => Does.strip (n' := [(65, (.opt (!(!v12)) (.cptr (.int .u32 ((p1.getD x1.1.toNat z_api_Kept).Round)))))]) (n := [(65, (.cptr (.int .u32 ((p1.getD x1.1.toNat z_api_Kept).Round))))]) ⟨(.opt _ _ hc), trivial⟩ (does_loadc 23 65 (.int .u32 ((p1.getD x1.1.toNat z_api_Kept).Round)) ty23)), ⟨⟨rfl, rfl, trivial⟩, trivial, rfl⟩, rfl,
            Step.guarded rfl rfl rfl rfl (fun hc => does_move (.tmp 1) (e_s_api_Kept p1) trivial), ⟨⟨rfl, rfl, trivial⟩, trivial, rfl⟩, rfl,
            Step.guarded rfl rfl rfl rfl (fun hc => does_move (.tmp 8) (.int .i64 x1.1) trivial), ⟨⟨rfl, rfl, trivial⟩, trivial, rfl⟩, rfl,
            Step.guarded rfl rfl rfl rfl (fun hc => Does.strip (n' := [(67, (.opt (!(!v12)) (e_s_api_Kept p1))), (68, (.opt (!(!v12)) (.int .i64 x1.1)))]) (n := [(67, (e_s_api_Kept p1)), (68, (.int .i64 x1.1))]) ⟨(.opt _ _ hc), (.opt _ _ hc), trivial⟩ (does_indexAddrs 22 38 p1.length 67 (fun j => (e_api_Kept (p1.getD j z_api_Kept))) (.tmp 68) .i64 x1.1 el22 trivial (h15 hc).1 (h15 hc).2)), ⟨⟨rfl, rfl, rfl, trivial⟩, trivial, rfl⟩, rfl,
            Step.guarded rfl rfl rfl rfl (fun hc => Does.strip (n' := [(69, (.opt (!(!v12)) (.cptr (e_api_Kept (p1.getD x1.1.toNat z_api_Kept)))))]) (n := [(69, (.cptr (e_api_Kept (p1.getD x1.1.toNat z_api_Kept))))]) ⟨(.opt _ _ hc), trivial⟩ (does_fieldAddrc 36 0 0 69 (e_api_Kept (p1.getD x1.1.toNat z_api_Kept)) fl36_0 rfl (Nat.le_of_ble_eq_true rfl) rfl)), ⟨⟨rfl, rfl, trivial⟩, trivial, rfl⟩, rfl,
            Step.guarded rfl rfl rfl rfl (fun hc => Does.strip (n' := [(70, (.opt (!(!v12)) (.cptr (.int .i64 ((p1.getD x1.1.toNat z_api_Kept).From)))))]) (n := [(70, (.cptr (.int .i64 ((p1.getD x1.1.toNat z_api_Kept).From))))]) ⟨(.opt _ _ hc), trivial⟩ (does_loadc 3 70 (.int .i64 ((p1.getD x1.1.toNat z_api_Kept).From)) ty3)), ⟨⟨rfl, rfl, trivial⟩, trivial, rfl⟩, rfl,
            Step.guarded rfl rfl rfl rfl (fun hc => Does.strip (n' := [(71, (.opt (!(!v12)) (.int .i64 ((p1.getD x1.1.toNat z_api_Kept).From))))]) (n := [(71, (.int .i64 ((p1.getD x1.1.toNat z_api_Kept).From)))]) ⟨(.opt _ _ hc), trivial⟩ (does_bin .and 3 3 (.tmp 71) (.const (.int .i64 7)) .i64 ((p1.getD x1.1.toNat z_api_Kept).From) 7 (.int .i64 (iand .i64 ((p1.getD x1.1.toNat z_api_Kept).From) 7)) trivial (fun _ => rfl) (bin_and _ _ _ _))), ⟨⟨rfl, rfl, trivial⟩, trivial, rfl⟩, rfl,
            Step.guarded rfl rfl rfl rfl (fun hc => Does.strip (n' := [(7, (.ptr 3 0 [])), (72, (.opt (!(!v12)) (.int .i64 (iand .i64 ((p1.getD x1.1.toNat z_api_Kept).From) 7))))]) (n := [(7, (.ptr 3 0 [])), (72, (.int .i64 (iand .i64 ((p1.getD x1.1.toNat z_api_Kept).From) 7)))]) ⟨(.same _), (.opt _ _ hc), trivial⟩ (does_indexAddr 25 8 1 7 3 0 [] (.var (e_a8_u32 v10)) (.tmp 72) .i64 (iand .i64 ((p1.getD x1.1.toNat z_api_Kept).From) 7) el25 trivial (h16 hc).1 (h16 hc).2)), ⟨⟨rfl, rfl, rfl, trivial⟩, ⟨rfl, trivial⟩, rfl⟩, rfl,
            Step.guarded rfl rfl rfl rfl (fun hc => Does.strip (n' := [(73, (.opt (!(!v12)) (.ptr 3 (0 + (iand .i64 ((p1.getD x1.1.toNat z_api_Kept).From) 7).toNat * 1) [(iand .i64 ((p1.getD x1.1.toNat z_api_Kept).From) 7).toNat])))]) (n := [(73, (.ptr 3 (0 + (iand .i64 ((p1.getD x1.1.toNat z_api_Kept).From) 7).toNat * 1) [(iand .i64 ((p1.getD x1.1.toNat z_api_Kept).From) 7).toNat]))]) ⟨(.opt _ _ hc), trivial⟩ (does_load 23 73 3 (0 + (iand .i64 ((p1.getD x1.1.toNat z_api_Kept).From) 7).toNat * 1) [(iand .i64 ((p1.getD x1.1.toNat z_api_Kept).From) 7).toNat] (.var (e_a8_u32 v10)) (.int .u32 (v10 ((iand .i64 ((p1.getD x1.1.toNat z_api_Kept).From) 7).toNat))) ⟨rfl, (ixl (h16 hc)), trivial⟩ rfl rfl ty23)), ⟨⟨rfl, rfl, trivial⟩, ⟨rfl, trivial⟩, rfl⟩, rfl,
            Step.guarded rfl rfl rfl rfl (fun hc => Does.strip (n' := [(66, (.opt (!(!v12)) (.int .u32 ((p1.getD x1.1.toNat z_api_Kept).Round)))), (74, (.opt (!(!v12)) (.int .u32 (v10 ((iand .i64 ((p1.getD x1.1.toNat z_api_Kept).From) 7).toNat)))))]) (n := [(66, (.int .u32 ((p1.getD x1.1.toNat z_api_Kept).Round))), (74, (.int .u32 (v10 ((iand .i64 ((p1.getD x1.1.toNat z_api_Kept).From) 7).toNat))))]) ⟨(.opt _ _ hc), (.opt _ _ hc), trivial⟩ (does_bin .neq 23 23 (.tmp 66) (.tmp 74) .u32 ((p1.getD x1.1.toNat z_api_Kept).Round) (v10 ((iand .i64 ((p1.getD x1.1.toNat z_api_Kept).From) 7).toNat)) (.bool (((p1.getD x1.1.toNat z_api_Kept).Round) != (v10 ((iand .i64 ((p1.getD x1.1.toNat z_api_Kept).From) 7).toNat)))) trivial trivial (bin_neq _ _ _ _))), ⟨⟨rfl, rfl, rfl, trivial⟩, trivial, rfl⟩, rfl,
            Step.plain rfl (does_or 61 75 (!v12) (((p1.getD x1.1.toNat z_api_Kept).Round) != (v10 ((iand .i64 ((p1.getD x1.1.toNat z_api_Kept).From) 7).toNat)))), ⟨⟨rfl, rfl, trivial⟩, trivial, rfl⟩, rfl, rfl⟩ rfl ?_
          obtain ⟨v17, hv17, H⟩ := lt_of H
          refine aw_cov (cov_prune (s1 := ⟨[(1, (e_s_api_Kept p1)), (2, (.ptr 0 0 [])), (6, (.ptr 2 0 [])), (5, (.own 1)), (7, (.ptr 3 0 [])), (8, (.int .i64 x1.1)), (10, (.ptr 6 0 [])), (9, (.own 4)), (11, (.bool v4.2.2)), (76, (.bool v17))], [(0, some (.var (e_a8_u32 p0))), (1, some (.arr 38 x1.2.1.length fun j => (e_api_Kept (x1.2.1.getD j z_api_Kept)))), (2, some (.var (e_a8_u32 x1.2.2.1))), (3, some (.var (e_a8_u32 v10))), (4, some (.arr 38 v4.1.length fun j => (e_api_Kept (v4.1.getD j z_api_Kept)))), (6, some (.var (e_a8_u32 v4.2.1)))], 7⟩) ⟨rfl, rfl, rfl, rfl, rfl, rfl, rfl, rfl, rfl, (by subst hv17; rfl), trivial⟩ ⟨rfl, rfl, rfl, rfl, rfl, rfl, trivial⟩ (Nat.le_refl _)) ?_
          refine aw_cond rfl (fun hc => ?_) (fun hc => ?_)
          · replace H := ite_t hc H
            refine aw_region (es := [_]) ⟨Step.plain rfl (does_assign (.const (.bool false)) (.bool false) (fun _ => rfl)), ⟨trivial, trivial, rfl⟩, rfl, rfl⟩ ?_
            refine aw_cov (cov_prune (s1 := ⟨[(4, (.bool false))], [], 7⟩) ⟨rfl, trivial⟩ trivial (Nat.le_refl _)) ?_
            refine aw_ret ?_
            replace H := rt_of H hsn2 Hrn2
            refine rt_then ?_
            refine rt_then ?_
            refine rt_blk ?_
            refine rt_then ?_
            refine rt_then ?_
            refine rt_blk ?_
            refine rt_then ?_
            refine rt_then ?_
            exact fun a w hr => ⟨_, [(.bool false)], hr, ⟨⟨_, rfl, .data (.bool false) trivial⟩, trivial⟩, by decide, by cases H; rfl⟩
          · replace H := ite_f hc H
            refine aw_skip ?_
            exact nx_join (v10) H (cov_prune ⟨rfl, rfl, rfl, rfl, rfl, rfl, rfl, rfl, rfl, trivial⟩ ⟨rfl, rfl, rfl, rfl, rfl, rfl, trivial⟩ (Nat.le_of_ble_eq_true rfl))
        · replace H := ite_f hc H
          refine aw_skip ?_
          exact nx_join (x1.2.2.2) H (cov_prune ⟨rfl, rfl, rfl, rfl, rfl, rfl, rfl, rfl, rfl, trivial⟩ ⟨rfl, rfl, rfl, rfl, rfl, rfl, trivial⟩ (Nat.le_of_ble_eq_true rfl))
    · replace H := ite_f hc H
      refine aw_exit ?_
      refine ex_then ?_
      refine ex_then ?_
      refine ex_here ?_
      exact nx_ljoin (x1.2.1, x1.2.2.1, x1.2.2.2) H hsn2 (cov_prune ⟨rfl, rfl, rfl, trivial⟩ ⟨rfl, rfl, rfl, trivial⟩ (Nat.le_of_ble_eq_true rfl))

theorem kept_offered_spec (p0 : api_Packet) (r : (_root_.List api_Kept)) (H : kept_offered p0 = some r) : FSpecO Try.prog 25 [(e_api_Packet p0)] [] 0 (.own 0) [(0, some (.arr 38 r.length fun j => (e_api_Kept (r.getD j z_api_Kept))))] 1 := by
  refine specO_of (fn := Try.f25) (args := [(e_api_Packet p0)]) Try.func25 rfl (Nat.le_of_ble_eq_true rfl) ?_
  rintro ⟨G, w0, W, S, Sp⟩ hG
  cases hG
  unfold kept_offered at H
  refine aw_region (es := [_, _]) ⟨Step.plain rfl (does_box 51 (.tmp 0) 0 (e_api_Packet p0) trivial rfl), ⟨⟨rfl, trivial⟩, trivial, rfl⟩, rfl,
    Step.plain rfl (does_nil false 1 38 (fun j => (e_api_Kept (([] : _root_.List api_Kept).getD j z_api_Kept)))), ⟨trivial, trivial, rfl⟩, rfl, rfl⟩ ?_
  refine aw_cov (cov_prune (s1 := ⟨[(1, (.ptr 0 0 []))], [(0, some (.var (e_api_Packet p0)))], 2⟩) ⟨rfl, trivial⟩ ⟨rfl, trivial⟩ (Nat.le_refl _)) ?_
  refine aw_region (es := [_]) ⟨Step.plain rfl (does_nil false 2 38 (fun j => (e_api_Kept (([] : _root_.List api_Kept).getD j z_api_Kept)))), ⟨trivial, trivial, rfl⟩, rfl, rfl⟩ ?_
  refine aw_cov (cov_prune (s1 := ⟨[(1, (.ptr 0 0 [])), (3, (.own 2))], [(0, some (.var (e_api_Packet p0))), (2, some (.arr 38 ([] : _root_.List api_Kept).length fun j => (e_api_Kept (([] : _root_.List api_Kept).getD j z_api_Kept))))], 3⟩) ⟨rfl, rfl, trivial⟩ ⟨rfl, rfl, trivial⟩ (Nat.le_refl _)) ?_
  refine aw_seq ?_
  refine aw_region (es := [_, _, _]) ⟨Step.plain rfl (does_fieldAddr 51 9 34 1 0 0 [] (.var (e_api_Packet p0)) fl51_9), ⟨⟨rfl, trivial⟩, ⟨rfl, trivial⟩, rfl⟩, rfl,
    Step.plain rfl (does_load 23 4 0 (0 + 34) [9] (.var (e_api_Packet p0)) (.int .u32 p0.Round) ⟨rfl, Nat.le_of_ble_eq_true rfl, trivial⟩ rfl rfl ty23), ⟨⟨rfl, trivial⟩, ⟨rfl, trivial⟩, rfl⟩, rfl,
    Step.plain rfl (does_bin .gtr 23 23 (.tmp 5) (.const (.int .u32 1)) .u32 p0.Round 1 (.bool (decide (p0.Round > 1))) trivial (fun _ => rfl) (bin_gtr _ _ _ _)), ⟨⟨rfl, trivial⟩, trivial, rfl⟩, rfl, rfl⟩ ?_
  refine aw_cov (cov_prune (s1 := ⟨[(1, (.ptr 0 0 [])), (3, (.own 2)), (6, (.bool (decide (p0.Round > 1))))], [(0, some (.var (e_api_Packet p0))), (2, some (.arr 38 ([] : _root_.List api_Kept).length fun j => (e_api_Kept (([] : _root_.List api_Kept).getD j z_api_Kept))))], 3⟩) ⟨rfl, rfl, rfl, trivial⟩ ⟨rfl, rfl, trivial⟩ (Nat.le_refl _)) ?_
  refine aw_jn (fun x3 : _root_.List api_Kept => (⟨[(1, (.ptr 0 0 [])), (3, (.own 2))], [(0, some (.var (e_api_Packet p0))), (2, some (.arr 38 x3.length fun j => (e_api_Kept (x3.getD j z_api_Kept))))], 4⟩ : St)) H (fun x3 H => ?_) (fun j1 H => ?_)
  · refine nx_seq ?_
    obtain ⟨h4, H⟩ := fit_of H
    refine aw_region (es := [_, _, _, _, _, _, _, _, _, _, _, _, _, _, _, _, _, _, _, _]) ⟨Step.plain rfl (does_move (.tmp 3) (.own 2) trivial), ⟨⟨rfl, trivial⟩, trivial, rfl⟩, rfl,
      Step.plain rfl (does_fieldAddr 51 0 0 1 0 0 [] (.var (e_api_Packet p0)) fl51_0), ⟨⟨rfl, trivial⟩, ⟨rfl, trivial⟩, rfl⟩, rfl,
      Step.plain rfl (does_load 23 20 0 (0 + 0) [0] (.var (e_api_Packet p0)) (.int .u32 p0.From) ⟨rfl, Nat.le_of_ble_eq_true rfl, trivial⟩ rfl rfl ty23), ⟨⟨rfl, trivial⟩, ⟨rfl, trivial⟩, rfl⟩, rfl,
      Step.plain rfl (does_convInt 23 3 (.tmp 21) .u32 .i64 p0.From trivial rfl rfl), ⟨⟨rfl, trivial⟩, trivial, rfl⟩, rfl,
      Step.plain rfl (does_fieldAddr 51 9 34 1 0 0 [] (.var (e_api_Packet p0)) fl51_9), ⟨⟨rfl, trivial⟩, ⟨rfl, trivial⟩, rfl⟩, rfl,
      Step.plain rfl (does_load 23 23 0 (0 + 34) [9] (.var (e_api_Packet p0)) (.int .u32 p0.Round) ⟨rfl, Nat.le_of_ble_eq_true rfl, trivial⟩ rfl rfl ty23), ⟨⟨rfl, trivial⟩, ⟨rfl, trivial⟩, rfl⟩, rfl,
      Step.plain rfl (does_fieldAddr 51 10 35 1 0 0 [] (.var (e_api_Packet p0)) fl51_10), ⟨⟨rfl, trivial⟩, ⟨rfl, trivial⟩, rfl⟩, rfl,
      Step.plain rfl (does_load 34 25 0 (0 + 35) [10] (.var (e_api_Packet p0)) (e_a3_a2_api_Entry p0.Newest) ⟨rfl, Nat.le_of_ble_eq_true rfl, trivial⟩ rfl rfl ty34), ⟨⟨rfl, trivial⟩, ⟨rfl, trivial⟩, rfl⟩, rfl,
      Step.plain rfl (does_buildT 36 #[(0, (.tmp 22)), (1, (.tmp 24)), (2, (.tmp 26))] [(0, (.tmp 22)), (1, (.tmp 24)), (2, (.tmp 26))] [(0, (.int .i64 (IntKind.i64.wrap (p0.From)))), (1, (.int .u32 p0.Round)), (2, (e_a3_a2_api_Entry p0.Newest))] (.st [1, 1, 36]) (c_api_Kept z_api_Kept) (c_api_Kept ({ From := (IntKind.i64.wrap (p0.From)), Round := p0.Round, Frame := p0.Newest } : api_Kept)) rfl bo36 ⟨⟨rfl, trivial⟩, ⟨rfl, trivial⟩, ⟨rfl, trivial⟩, trivial⟩ ⟨⟨Nat.le_of_ble_eq_true rfl, rfl, rfl⟩, ⟨Nat.le_of_ble_eq_true rfl, rfl, rfl⟩, ⟨Nat.le_of_ble_eq_true rfl, rfl, rfl⟩, trivial⟩ (by funext j; match j with | 0 => rfl | 1 => rfl | 2 => rfl | _ + 3 => rfl)), ⟨⟨rfl, rfl, rfl, trivial⟩, trivial, rfl⟩, rfl,
      Step.plain rfl (does_fieldAddr 51 12 107 1 0 0 [] (.var (e_api_Packet p0)) fl51_12), ⟨⟨rfl, trivial⟩, ⟨rfl, trivial⟩, rfl⟩, rfl,
      Step.plain rfl (does_load 23 28 0 (0 + 107) [12] (.var (e_api_Packet p0)) (.int .u32 p0.RelayOf) ⟨rfl, Nat.le_of_ble_eq_true rfl, trivial⟩ rfl rfl ty23), ⟨⟨rfl, trivial⟩, ⟨rfl, trivial⟩, rfl⟩, rfl,
      Step.plain rfl (does_convInt 23 3 (.tmp 29) .u32 .i64 p0.RelayOf trivial rfl rfl), ⟨⟨rfl, trivial⟩, trivial, rfl⟩, rfl,
      Step.plain rfl (does_fieldAddr 51 13 108 1 0 0 [] (.var (e_api_Packet p0)) fl51_13), ⟨⟨rfl, trivial⟩, ⟨rfl, trivial⟩, rfl⟩, rfl,
      Step.plain rfl (does_load 23 31 0 (0 + 108) [13] (.var (e_api_Packet p0)) (.int .u32 p0.RelayRound) ⟨rfl, Nat.le_of_ble_eq_true rfl, trivial⟩ rfl rfl ty23), ⟨⟨rfl, trivial⟩, ⟨rfl, trivial⟩, rfl⟩, rfl,
      Step.plain rfl (does_fieldAddr 51 14 109 1 0 0 [] (.var (e_api_Packet p0)) fl51_14), ⟨⟨rfl, trivial⟩, ⟨rfl, trivial⟩, rfl⟩, rfl,
      Step.plain rfl (does_load 34 33 0 (0 + 109) [14] (.var (e_api_Packet p0)) (e_a3_a2_api_Entry p0.Relay) ⟨rfl, Nat.le_of_ble_eq_true rfl, trivial⟩ rfl rfl ty34), ⟨⟨rfl, trivial⟩, ⟨rfl, trivial⟩, rfl⟩, rfl,
      Step.plain rfl (does_buildT 36 #[(0, (.tmp 30)), (1, (.tmp 32)), (2, (.tmp 34))] [(0, (.tmp 30)), (1, (.tmp 32)), (2, (.tmp 34))] [(0, (.int .i64 (IntKind.i64.wrap (p0.RelayOf)))), (1, (.int .u32 p0.RelayRound)), (2, (e_a3_a2_api_Entry p0.Relay))] (.st [1, 1, 36]) (c_api_Kept z_api_Kept) (c_api_Kept ({ From := (IntKind.i64.wrap (p0.RelayOf)), Round := p0.RelayRound, Frame := p0.Relay } : api_Kept)) rfl bo36 ⟨⟨rfl, trivial⟩, ⟨rfl, trivial⟩, ⟨rfl, trivial⟩, trivial⟩ ⟨⟨Nat.le_of_ble_eq_true rfl, rfl, rfl⟩, ⟨Nat.le_of_ble_eq_true rfl, rfl, rfl⟩, ⟨Nat.le_of_ble_eq_true rfl, rfl, rfl⟩, trivial⟩ (by funext j; match j with | 0 => rfl | 1 => rfl | 2 => rfl | _ + 3 => rfl)), ⟨⟨rfl, rfl, rfl, trivial⟩, trivial, rfl⟩, rfl,
      Step.plain rfl (does_buildSl 22 2 38 (e_api_Kept z_api_Kept) (fun j => (e_api_Kept (([({ From := (IntKind.i64.wrap (p0.From)), Round := p0.Round, Frame := p0.Newest } : api_Kept), ({ From := (IntKind.i64.wrap (p0.RelayOf)), Round := p0.RelayRound, Frame := p0.Relay } : api_Kept)] : _root_.List api_Kept).getD j z_api_Kept))) #[(0, (.tmp 27)), (1, (.tmp 35))] [(0, (.tmp 27)), (1, (.tmp 35))] [(0, (e_api_Kept ({ From := (IntKind.i64.wrap (p0.From)), Round := p0.Round, Frame := p0.Newest } : api_Kept))), (1, (e_api_Kept ({ From := (IntKind.i64.wrap (p0.RelayOf)), Round := p0.RelayRound, Frame := p0.Relay } : api_Kept)))] rfl so22 (by decide) ⟨⟨rfl, trivial⟩, ⟨rfl, trivial⟩, trivial⟩ ⟨⟨Nat.le_of_ble_eq_true rfl, rfl, rfl⟩, ⟨Nat.le_of_ble_eq_true rfl, rfl, rfl⟩, trivial⟩ (fun j h => match j, h with | 0, _ => rfl | 1, _ => rfl | k + 2, h => absurd h (by omega))), ⟨⟨rfl, rfl, trivial⟩, trivial, rfl⟩, rfl,
      Step.plain rfl (does_appendL e_api_Kept z_api_Kept x3 ([({ From := (IntKind.i64.wrap (p0.From)), Round := p0.Round, Frame := p0.Newest } : api_Kept), ({ From := (IntKind.i64.wrap (p0.RelayOf)), Round := p0.RelayRound, Frame := p0.Relay } : api_Kept)] : _root_.List api_Kept) 22 38 352 2 4 19 36 ap22 h4), ⟨⟨rfl, rfl, trivial⟩, ⟨rfl, trivial⟩, rfl⟩, rfl,
      Step.plain rfl (does_assign (.tmp 37) (.own 4) trivial), ⟨⟨rfl, trivial⟩, trivial, rfl⟩, rfl, rfl⟩ ?_
    obtain ⟨v5, hv5, H⟩ := lt_of H
    refine aw_cov (cov_prune (s1 := ⟨[(2, (.own 4))], [(4, some (.arr 38 v5.length fun j => (e_api_Kept (v5.getD j z_api_Kept))))], 5⟩) ⟨rfl, trivial⟩ ⟨(by subst hv5; rfl), trivial⟩ (Nat.le_refl _)) ?_
    refine aw_ret ?_
    exact fun a w hr => ⟨_, [(.own 0)], reach_of hr (cov_to (s1 := ⟨[(2, (.own 0))], [(0, some (.arr 38 v5.length fun j => (e_api_Kept (v5.getD j z_api_Kept))))], 1⟩) (fun i => match i with | 0 => 4 | k => k) [] ⟨⟨_, rfl, .own 0 _ _ (Nat.le_of_ble_eq_true rfl) rfl rfl (Box.like_refl _)⟩, trivial⟩ ⟨⟨Nat.le_of_ble_eq_true rfl, _, _, rfl, rfl, boxTo_arr (fun _ => (d_api_Kept _))⟩, trivial⟩ rfl rfl), ⟨rfl, trivial⟩, by decide, by cases H; rfl, by cases H; exact ⟨rfl, trivial⟩, Nat.le_of_ble_eq_true rfl⟩
  · refine aw_cond rfl (fun hc => ?_) (fun hc => ?_)
    · replace H := ite_t hc H
      obtain ⟨h2, H⟩ := fit_of H
      refine aw_region1 (es := [_, _, _, _, _, _, _, _, _, _, _, _, _]) ⟨Step.plain rfl (does_move (.tmp 3) (.own 2) trivial), ⟨⟨rfl, trivial⟩, trivial, rfl⟩, rfl,
        Step.plain rfl (does_fieldAddr 51 0 0 1 0 0 [] (.var (e_api_Packet p0)) fl51_0), ⟨⟨rfl, trivial⟩, ⟨rfl, trivial⟩, rfl⟩, rfl,
        Step.plain rfl (does_load 23 8 0 (0 + 0) [0] (.var (e_api_Packet p0)) (.int .u32 p0.From) ⟨rfl, Nat.le_of_ble_eq_true rfl, trivial⟩ rfl rfl ty23), ⟨⟨rfl, trivial⟩, ⟨rfl, trivial⟩, rfl⟩, rfl,
        Step.plain rfl (does_convInt 23 3 (.tmp 9) .u32 .i64 p0.From trivial rfl rfl), ⟨⟨rfl, trivial⟩, trivial, rfl⟩, rfl,
        Step.plain rfl (does_fieldAddr 51 9 34 1 0 0 [] (.var (e_api_Packet p0)) fl51_9), ⟨⟨rfl, trivial⟩, ⟨rfl, trivial⟩, rfl⟩, rfl,
        Step.plain rfl (does_load 23 11 0 (0 + 34) [9] (.var (e_api_Packet p0)) (.int .u32 p0.Round) ⟨rfl, Nat.le_of_ble_eq_true rfl, trivial⟩ rfl rfl ty23), ⟨⟨rfl, trivial⟩, ⟨rfl, trivial⟩, rfl⟩, rfl,
        Step.plain rfl (does_bin .sub 23 23 (.tmp 12) (.const (.int .u32 1)) .u32 p0.Round 1 (.int .u32 (IntKind.u32.wrap (p0.Round - 1))) trivial (fun _ => rfl) (bin_sub _ _ _ _)), ⟨⟨rfl, trivial⟩, trivial, rfl⟩, rfl,
        Step.plain rfl (does_fieldAddr 51 11 71 1 0 0 [] (.var (e_api_Packet p0)) fl51_11), ⟨⟨rfl, trivial⟩, ⟨rfl, trivial⟩, rfl⟩, rfl,
        Step.plain rfl (does_load 34 14 0 (0 + 71) [11] (.var (e_api_Packet p0)) (e_a3_a2_api_Entry p0.Older) ⟨rfl, Nat.le_of_ble_eq_true rfl, trivial⟩ rfl rfl ty34), ⟨⟨rfl, trivial⟩, ⟨rfl, trivial⟩, rfl⟩, rfl,
        Step.plain rfl (does_buildT 36 #[(0, (.tmp 10)), (1, (.tmp 13)), (2, (.tmp 15))] [(0, (.tmp 10)), (1, (.tmp 13)), (2, (.tmp 15))] [(0, (.int .i64 (IntKind.i64.wrap (p0.From)))), (1, (.int .u32 (IntKind.u32.wrap (p0.Round - 1)))), (2, (e_a3_a2_api_Entry p0.Older))] (.st [1, 1, 36]) (c_api_Kept z_api_Kept) (c_api_Kept ({ From := (IntKind.i64.wrap (p0.From)), Round := (IntKind.u32.wrap (p0.Round - 1)), Frame := p0.Older } : api_Kept)) rfl bo36 ⟨⟨rfl, trivial⟩, ⟨rfl, trivial⟩, ⟨rfl, trivial⟩, trivial⟩ ⟨⟨Nat.le_of_ble_eq_true rfl, rfl, rfl⟩, ⟨Nat.le_of_ble_eq_true rfl, rfl, rfl⟩, ⟨Nat.le_of_ble_eq_true rfl, rfl, rfl⟩, trivial⟩ (by funext j; match j with | 0 => rfl | 1 => rfl | 2 => rfl | _ + 3 => rfl)), ⟨⟨rfl, rfl, rfl, trivial⟩, trivial, rfl⟩, rfl,
        Step.plain rfl (does_buildSl 22 1 38 (e_api_Kept z_api_Kept) (fun j => (e_api_Kept (([({ From := (IntKind.i64.wrap (p0.From)), Round := (IntKind.u32.wrap (p0.Round - 1)), Frame := p0.Older } : api_Kept)] : _root_.List api_Kept).getD j z_api_Kept))) #[(0, (.tmp 16))] [(0, (.tmp 16))] [(0, (e_api_Kept ({ From := (IntKind.i64.wrap (p0.From)), Round := (IntKind.u32.wrap (p0.Round - 1)), Frame := p0.Older } : api_Kept)))] rfl so22 (by decide) ⟨⟨rfl, trivial⟩, trivial⟩ ⟨⟨Nat.le_of_ble_eq_true rfl, rfl, rfl⟩, trivial⟩ (fun j h => match j, h with | 0, _ => rfl | k + 1, h => absurd h (by omega))), ⟨⟨rfl, trivial⟩, trivial, rfl⟩, rfl,
        Step.plain rfl (does_appendL e_api_Kept z_api_Kept ([] : _root_.List api_Kept) ([({ From := (IntKind.i64.wrap (p0.From)), Round := (IntKind.u32.wrap (p0.Round - 1)), Frame := p0.Older } : api_Kept)] : _root_.List api_Kept) 22 38 352 2 3 7 17 ap22 h2), ⟨⟨rfl, rfl, trivial⟩, ⟨rfl, trivial⟩, rfl⟩, rfl,
        Step.plain rfl (does_assign (.tmp 18) (.own 3) trivial), ⟨⟨rfl, trivial⟩, trivial, rfl⟩, rfl, rfl⟩ ?_
      exact nx_join ((([] : _root_.List api_Kept) ++ ([({ From := (IntKind.i64.wrap (p0.From)), Round := (IntKind.u32.wrap (p0.Round - 1)), Frame := p0.Older } : api_Kept)] : _root_.List api_Kept))) H (cov_of (fun i => match i with | 0 => 0 | 2 => 3 | k => k) ⟨⟨_, rfl, ⟨rfl, Nat.le_of_ble_eq_true rfl⟩⟩, ⟨_, rfl, ⟨rfl, Nat.le_of_ble_eq_true rfl⟩⟩, trivial⟩ ⟨⟨Nat.le_of_ble_eq_true rfl, _, _, rfl, rfl, .inl ⟨rfl, (d_api_Packet _).plain⟩⟩, ⟨Nat.le_of_ble_eq_true rfl, _, _, rfl, rfl, ⟨rfl, rfl, fun _ => .inl ⟨rfl, (d_api_Kept _).plain⟩⟩⟩, trivial⟩ rfl)
    · replace H := ite_f hc H
      refine aw_skip ?_
      exact nx_join (([] : _root_.List api_Kept)) H (cov_of (fun i => match i with | 0 => 0 | 2 => 2 | k => k) ⟨⟨_, rfl, ⟨rfl, Nat.le_of_ble_eq_true rfl⟩⟩, ⟨_, rfl, ⟨rfl, Nat.le_of_ble_eq_true rfl⟩⟩, trivial⟩ ⟨⟨Nat.le_of_ble_eq_true rfl, _, _, rfl, rfl, .inl ⟨rfl, (d_api_Packet _).plain⟩⟩, ⟨Nat.le_of_ble_eq_true rfl, _, _, rfl, rfl, ⟨rfl, rfl, fun _ => .inl ⟨rfl, (d_api_Kept _).plain⟩⟩⟩, trivial⟩ rfl)

theorem kept_offered_data (p0 : api_Packet) (r : (_root_.List api_Kept)) (H : kept_offered p0 = some r) : FSpec Try.prog 25 [(e_api_Packet p0)] (e_s_api_Kept r) :=
  FSpecO.toData (fz := [0]) (kept_offered_spec p0 r H) (d_s_api_Kept r) (.frz 0 _ _ _ rfl (fun _ => (d_api_Kept _)) (by decide))

theorem kept_Offer_spec (p0 : (_root_.List api_Kept)) (p1 : (Nat → Int)) (p2 : (Nat → Int)) (p3 : api_Packet) (p4 : (Nat → Int)) (r : (_root_.List api_Kept) × (Nat → Int) × (_root_.List api_Kept)) (H : kept_Offer p0 p1 p2 p3 p4 = some r) : FSpecO Try.prog 16 [(e_s_api_Kept p0), (e_a8_u32 p1), (e_a8_u32 p2), (e_api_Packet p3), (e_a8_u32 p4)] [] 0 (resV [(.own 0), (e_a8_u32 r.2.1), (.own 1)]) [(0, some (.arr 38 r.1.length fun j => (e_api_Kept (r.1.getD j z_api_Kept)))), (1, some (.arr 38 r.2.2.length fun j => (e_api_Kept (r.2.2.getD j z_api_Kept))))] 3 := by
  refine specO_of (fn := Try.f16) (args := [(e_s_api_Kept p0), (e_a8_u32 p1), (e_a8_u32 p2), (e_api_Packet p3), (e_a8_u32 p4)]) Try.func16 rfl (Nat.le_of_ble_eq_true rfl) ?_
  rintro ⟨G, w0, W, S, Sp⟩ hG
  cases hG
  unfold kept_Offer at H
  refine aw_region (es := [_, _, _, _, _, _, _]) ⟨Step.plain rfl (does_box 25 (.tmp 1) 0 (e_a8_u32 p1) trivial rfl), ⟨⟨rfl, trivial⟩, trivial, rfl⟩, rfl,
    Step.plain rfl (does_box 26 (.tmp 2) 1 (e_a8_u32 p2) trivial rfl), ⟨⟨rfl, trivial⟩, trivial, rfl⟩, rfl,
    Step.plain rfl (does_box 51 (.tmp 3) 2 (e_api_Packet p3) trivial rfl), ⟨⟨rfl, trivial⟩, trivial, rfl⟩, rfl,
    Step.plain rfl (does_box 25 (.tmp 4) 3 (e_a8_u32 p4) trivial rfl), ⟨⟨rfl, trivial⟩, trivial, rfl⟩, rfl,
    Step.plain rfl (does_nil false 4 38 (fun j => (e_api_Kept (([] : _root_.List api_Kept).getD j z_api_Kept)))), ⟨trivial, trivial, rfl⟩, rfl,
    Step.plain rfl (does_alloc 25 5 (e_a8_u32 (fun _ => 0)) zr25), ⟨trivial, trivial, rfl⟩, rfl,
    Step.plain rfl (does_nil false 6 38 (fun j => (e_api_Kept (([] : _root_.List api_Kept).getD j z_api_Kept)))), ⟨trivial, trivial, rfl⟩, rfl, rfl⟩ ?_
  refine aw_cov (cov_prune (s1 := ⟨[(0, (e_s_api_Kept p0)), (6, (.ptr 0 0 [])), (7, (.ptr 1 0 [])), (8, (.ptr 2 0 [])), (9, (.ptr 3 0 [])), (11, (.ptr 5 0 []))], [(0, some (.var (e_a8_u32 p1))), (1, some (.var (e_a8_u32 p2))), (2, some (.var (e_api_Packet p3))), (3, some (.var (e_a8_u32 p4))), (5, some (.var (e_a8_u32 (fun _ => 0))))], 7⟩) ⟨rfl, rfl, rfl, rfl, rfl, rfl, trivial⟩ ⟨rfl, rfl, rfl, rfl, rfl, trivial⟩ (Nat.le_refl _)) ?_
  obtain ⟨v1, h2, H⟩ := bnd H
  refine aw_region (es := [_, _, _]) ⟨Step.plain rfl (does_move (.tmp 0) (e_s_api_Kept p0) trivial), ⟨⟨rfl, trivial⟩, trivial, rfl⟩, rfl,
    Step.plain rfl (does_callO 18 0 (fun _ => .any) (.func 18) [(.tmp 18)] [(e_s_api_Kept p0)] [] [] true [(e_s_api_Kept p0)] _ (.own 7) _ 7 1 _ _ rfl fo18 rfl ⟨trivial, trivial⟩ ⟨.ro _ _ (.data _ (d_s_api_Kept p0)), trivial⟩ (slices_Clone_api_Kept_api_Kept_spec p0 _ h2) rfl (by simp) rfl trivial ⟨⟨Nat.le_of_ble_eq_true rfl, _, rfl, fun _ => (f_api_Kept _)⟩, trivial⟩ (.own 0 (Nat.le_of_ble_eq_true rfl))), ⟨⟨rfl, trivial⟩, trivial, rfl⟩, rfl,
    Step.plain rfl (does_assign (.tmp 19) (.own 7) trivial), ⟨⟨rfl, trivial⟩, trivial, rfl⟩, rfl, rfl⟩ ?_
  refine aw_cov (cov_prune (s1 := ⟨[(6, (.ptr 0 0 [])), (7, (.ptr 1 0 [])), (8, (.ptr 2 0 [])), (9, (.ptr 3 0 [])), (11, (.ptr 5 0 [])), (13, (.own 7))], [(0, some (.var (e_a8_u32 p1))), (1, some (.var (e_a8_u32 p2))), (2, some (.var (e_api_Packet p3))), (3, some (.var (e_a8_u32 p4))), (5, some (.var (e_a8_u32 (fun _ => 0)))), (7, some (.arr 38 v1.length fun j => (e_api_Kept (v1.getD j z_api_Kept))))], 8⟩) ⟨rfl, rfl, rfl, rfl, rfl, rfl, trivial⟩ ⟨rfl, rfl, rfl, rfl, rfl, rfl, trivial⟩ (Nat.le_refl _)) ?_
  refine aw_region (es := [_]) ⟨Step.plain rfl (does_nil false 8 38 (fun j => (e_api_Kept (([] : _root_.List api_Kept).getD j z_api_Kept)))), ⟨trivial, trivial, rfl⟩, rfl, rfl⟩ ?_
  refine aw_cov (cov_prune (s1 := ⟨[(6, (.ptr 0 0 [])), (7, (.ptr 1 0 [])), (8, (.ptr 2 0 [])), (9, (.ptr 3 0 [])), (11, (.ptr 5 0 [])), (13, (.own 7)), (14, (.own 8))], [(0, some (.var (e_a8_u32 p1))), (1, some (.var (e_a8_u32 p2))), (2, some (.var (e_api_Packet p3))), (3, some (.var (e_a8_u32 p4))), (5, some (.var (e_a8_u32 (fun _ => 0)))), (7, some (.arr 38 v1.length fun j => (e_api_Kept (v1.getD j z_api_Kept)))), (8, some (.arr 38 ([] : _root_.List api_Kept).length fun j => (e_api_Kept (([] : _root_.List api_Kept).getD j z_api_Kept))))], 9⟩) ⟨rfl, rfl, rfl, rfl, rfl, rfl, rfl, trivial⟩ ⟨rfl, rfl, rfl, rfl, rfl, rfl, rfl, trivial⟩ (Nat.le_refl _)) ?_
  refine aw_seq ?_
  obtain ⟨v3, h4, H⟩ := bnd H
  refine aw_region (es := [_, _, _, _]) ⟨Step.plain rfl (does_load 51 8 2 0 [] (.var (e_api_Packet p3)) (e_api_Packet p3) trivial rfl rfl ty51), ⟨⟨rfl, trivial⟩, ⟨rfl, trivial⟩, rfl⟩, rfl,
    Step.plain rfl (does_callO 25 0 (fun _ => .any) (.func 25) [(.tmp 20)] [(e_api_Packet p3)] [] [] true [(e_api_Packet p3)] _ (.own 9) _ 9 1 _ _ rfl fo25 rfl ⟨trivial, trivial⟩ ⟨.ro _ _ (.data _ (d_api_Packet p3)), trivial⟩ (kept_offered_spec p3 _ h4) rfl (by simp) rfl trivial ⟨⟨Nat.le_of_ble_eq_true rfl, _, rfl, fun _ => (f_api_Kept _)⟩, trivial⟩ (.own 0 (Nat.le_of_ble_eq_true rfl))), ⟨⟨rfl, trivial⟩, trivial, rfl⟩, rfl,
    Step.plain rfl (does_leno 22 38 v3.length 21 9 (fun j => (e_api_Kept (v3.getD j z_api_Kept))) el22), ⟨⟨rfl, trivial⟩, ⟨rfl, trivial⟩, rfl⟩, rfl,
    Step.plain rfl (does_move (.const (.int .i64 0)) (.int .i64 0) (fun _ => rfl)), ⟨trivial, trivial, rfl⟩, rfl, rfl⟩ ?_
  refine aw_cov (cov_prune (s1 := ⟨[(6, (.ptr 0 0 [])), (7, (.ptr 1 0 [])), (9, (.ptr 3 0 [])), (11, (.ptr 5 0 [])), (13, (.own 7)), (14, (.own 8)), (21, (.own 9)), (22, (.int .i64 (v3.length : Int))), (23, (.int .i64 0))], [(0, some (.var (e_a8_u32 p1))), (1, some (.var (e_a8_u32 p2))), (3, some (.var (e_a8_u32 p4))), (5, some (.var (e_a8_u32 (fun _ => 0)))), (7, some (.arr 38 v1.length fun j => (e_api_Kept (v1.getD j z_api_Kept)))), (8, some (.arr 38 ([] : _root_.List api_Kept).length fun j => (e_api_Kept (([] : _root_.List api_Kept).getD j z_api_Kept)))), (9, some (.arr 38 v3.length fun j => (e_api_Kept (v3.getD j z_api_Kept))))], 10⟩) ⟨rfl, rfl, rfl, rfl, rfl, rfl, rfl, rfl, rfl, trivial⟩ ⟨rfl, rfl, rfl, rfl, rfl, rfl, rfl, trivial⟩ (Nat.le_refl _)) ?_
  obtain ⟨wn6, hwn6, Hrn6⟩ := bnd H
  refine aw_meet (fun y15 : (Nat → Int) × _root_.List api_Kept × _root_.List api_Kept => (⟨[(6, (.ptr 0 0 [])), (11, (.ptr 5 0 [])), (13, (.own 7)), (14, (.own 8))], [(0, some (.var (e_a8_u32 y15.1))), (5, some (.var (e_a8_u32 (fun _ => 0)))), (7, some (.arr 38 y15.2.1.length fun j => (e_api_Kept (y15.2.1.getD j z_api_Kept)))), (8, some (.arr 38 y15.2.2.length fun j => (e_api_Kept (y15.2.2.getD j z_api_Kept))))], 10⟩ : St)) (fun y15 => Fl.nx y15 = wn6) (fun y15 hy => ?_) (aw_block (aw_runs (fun x5 : Int × (Nat → Int) × _root_.List api_Kept × _root_.List api_Kept => (⟨[(6, (.ptr 0 0 [])), (7, (.ptr 1 0 [])), (9, (.ptr 3 0 [])), (11, (.ptr 5 0 [])), (13, (.own 7)), (14, (.own 8)), (21, (.own 9)), (22, (.int .i64 (v3.length : Int))), (23, (.int .i64 x5.1))], [(0, some (.var (e_a8_u32 x5.2.1))), (1, some (.var (e_a8_u32 p2))), (3, some (.var (e_a8_u32 p4))), (5, some (.var (e_a8_u32 (fun _ => 0)))), (7, some (.arr 38 x5.2.2.1.length fun j => (e_api_Kept (x5.2.2.1.getD j z_api_Kept)))), (8, some (.arr 38 x5.2.2.2.length fun j => (e_api_Kept (x5.2.2.2.getD j z_api_Kept)))), (9, some (.arr 38 v3.length fun j => (e_api_Kept (v3.getD j z_api_Kept))))], 10⟩ : St)) hwn6 (cov_prune ⟨rfl, rfl, rfl, rfl, rfl, rfl, rfl, rfl, rfl, trivial⟩ ⟨rfl, rfl, rfl, rfl, rfl, rfl, rfl, trivial⟩ (Nat.le_of_ble_eq_true rfl)) (fun x5 st H hsn6 => ?_)))
  · have H := nx_of hy Hrn6
    refine nx_seq ?_
    refine aw_draw (es := [_, _, _, _, _, _]) (mixed) ⟨Step.plain rfl (does_move (.tmp 13) (.own 7) trivial), ⟨⟨rfl, trivial⟩, trivial, rfl⟩, rfl,
      Step.plain rfl (does_load 25 6 0 0 [] (.var (e_a8_u32 y15.1)) (e_a8_u32 y15.1) trivial rfl rfl ty25), ⟨⟨rfl, trivial⟩, ⟨rfl, trivial⟩, rfl⟩, rfl,
      Step.plain rfl (does_move (.tmp 14) (.own 8) trivial), ⟨⟨rfl, trivial⟩, trivial, rfl⟩, rfl,
      Step.plain rfl (does_assign (.tmp 54) (.own 7) trivial), ⟨⟨rfl, trivial⟩, trivial, rfl⟩, rfl,
      Step.plain rfl (does_store 25 11 (.tmp 55) 5 0 [] (.var (e_a8_u32 (fun _ => 0))) (.var (e_a8_u32 y15.1)) (e_a8_u32 y15.1) true trivial rfl trivial rfl rfl rfl ty25), ⟨⟨rfl, rfl, trivial⟩, ⟨rfl, trivial⟩, rfl⟩, rfl,
      Step.plain rfl (does_assign (.tmp 56) (.own 8) trivial), ⟨⟨rfl, trivial⟩, trivial, rfl⟩, rfl, rfl⟩ rfl ?_
    refine aw_cov (cov_prune (s1 := ⟨[(11, (.ptr 5 0 [])), (10, (.own 7)), (12, (.own 8))], [(5, some (.var (e_a8_u32 y15.1))), (7, some (.arr 38 y15.2.1.length fun j => (e_api_Kept (y15.2.1.getD j z_api_Kept)))), (8, some (.arr 38 y15.2.2.length fun j => (e_api_Kept (y15.2.2.getD j z_api_Kept))))], 10⟩) ⟨rfl, rfl, rfl, trivial⟩ ⟨rfl, rfl, rfl, trivial⟩ (Nat.le_refl _)) ?_
    refine aw_ret ?_
    exact fun a w hr => ⟨_, [(.own 0), (e_a8_u32 y15.1), (.own 1)], reach_of hr (cov_to (s1 := ⟨[(10, (.own 0)), (11, (.ptr 2 0 [])), (12, (.own 1))], [(0, some (.arr 38 y15.2.1.length fun j => (e_api_Kept (y15.2.1.getD j z_api_Kept)))), (2, some (.var (e_a8_u32 y15.1))), (1, some (.arr 38 y15.2.2.length fun j => (e_api_Kept (y15.2.2.getD j z_api_Kept))))], 3⟩) (fun i => match i with | 0 => 7 | 2 => 5 | 1 => 8 | k => k) [] ⟨⟨_, rfl, .own 0 _ _ (Nat.le_of_ble_eq_true rfl) rfl rfl (Box.like_refl _)⟩, ⟨_, rfl, .ptr 2 _ _ _ _ (Nat.le_of_ble_eq_true rfl) rfl rfl⟩, ⟨_, rfl, .own 1 _ _ (Nat.le_of_ble_eq_true rfl) rfl rfl (Box.like_refl _)⟩, trivial⟩ ⟨⟨Nat.le_of_ble_eq_true rfl, _, _, rfl, rfl, boxTo_arr (fun _ => (d_api_Kept _))⟩, ⟨Nat.le_of_ble_eq_true rfl, _, _, rfl, rfl, boxTo_var ((d_a8_u32 _).plain)⟩, ⟨Nat.le_of_ble_eq_true rfl, _, _, rfl, rfl, boxTo_arr (fun _ => (d_api_Kept _))⟩, trivial⟩ rfl rfl), ⟨rfl, ⟨2, rfl, rfl, ty25⟩, rfl, trivial⟩, by decide, by cases H; rfl, by cases H; exact ⟨rfl, rfl, trivial⟩, Nat.le_of_ble_eq_true rfl⟩
  · refine aw_region (es := [_]) ⟨Step.plain rfl (does_bin .lss 3 3 (.tmp 23) (.tmp 22) .i64 x5.1 (v3.length : Int) (.bool (decide (x5.1 < (v3.length : Int)))) trivial trivial (bin_lss _ _ _ _)), ⟨⟨rfl, rfl, trivial⟩, trivial, rfl⟩, rfl, rfl⟩ ?_
    refine aw_cov (cov_prune (s1 := ⟨[(6, (.ptr 0 0 [])), (7, (.ptr 1 0 [])), (9, (.ptr 3 0 [])), (11, (.ptr 5 0 [])), (13, (.own 7)), (14, (.own 8)), (21, (.own 9)), (22, (.int .i64 (v3.length : Int))), (23, (.int .i64 x5.1)), (24, (.bool (decide (x5.1 < (v3.length : Int)))))], [(0, some (.var (e_a8_u32 x5.2.1))), (1, some (.var (e_a8_u32 p2))), (3, some (.var (e_a8_u32 p4))), (5, some (.var (e_a8_u32 (fun _ => 0)))), (7, some (.arr 38 x5.2.2.1.length fun j => (e_api_Kept (x5.2.2.1.getD j z_api_Kept)))), (8, some (.arr 38 x5.2.2.2.length fun j => (e_api_Kept (x5.2.2.2.getD j z_api_Kept)))), (9, some (.arr 38 v3.length fun j => (e_api_Kept (v3.getD j z_api_Kept))))], 10⟩) ⟨rfl, rfl, rfl, rfl, rfl, rfl, rfl, rfl, rfl, rfl, trivial⟩ ⟨rfl, rfl, rfl, rfl, rfl, rfl, rfl, trivial⟩ (Nat.le_refl _)) ?_
    refine aw_seq ?_
    refine aw_cond rfl (fun hc => ?_) (fun hc => ?_)
    · replace H := ite_t hc H
      refine aw_skip ?_
      refine nx_seq ?_
      refine aw_seq ?_
      refine aw_jn (fun x14 : (Nat → Int) × _root_.List api_Kept × _root_.List api_Kept => (⟨[(6, (.ptr 0 0 [])), (7, (.ptr 1 0 [])), (9, (.ptr 3 0 [])), (11, (.ptr 5 0 [])), (13, (.own 7)), (14, (.own 8)), (21, (.own 9)), (22, (.int .i64 (v3.length : Int))), (23, (.int .i64 x5.1))], [(0, some (.var (e_a8_u32 x14.1))), (1, some (.var (e_a8_u32 p2))), (3, some (.var (e_a8_u32 p4))), (5, some (.var (e_a8_u32 (fun _ => 0)))), (7, some (.arr 38 x14.2.1.length fun j => (e_api_Kept (x14.2.1.getD j z_api_Kept)))), (8, some (.arr 38 x14.2.2.length fun j => (e_api_Kept (x14.2.2.getD j z_api_Kept)))), (9, some (.arr 38 v3.length fun j => (e_api_Kept (v3.getD j z_api_Kept))))], 14⟩ : St)) H (fun x14 H => ?_) (fun j7 H => ?_)
      · refine nx_seq ?_
        refine aw_region1 (es := [_, _]) ⟨Step.plain rfl (does_bin .add 3 3 (.tmp 23) (.const (.int .i64 1)) .i64 x5.1 1 (.int .i64 (IntKind.i64.wrap (x5.1 + 1))) trivial (fun _ => rfl) (bin_add _ _ _ _)), ⟨⟨rfl, trivial⟩, trivial, rfl⟩, rfl,
          Step.plain rfl (does_move (.tmp 53) (.int .i64 (IntKind.i64.wrap (x5.1 + 1))) trivial), ⟨⟨rfl, trivial⟩, trivial, rfl⟩, rfl, rfl⟩ ?_
        exact nx_loop ((IntKind.i64.wrap (x5.1 + 1)), x14.1, x14.2.1, x14.2.2) H (cov_of (fun i => match i with | 0 => 0 | 1 => 1 | 3 => 3 | 5 => 5 | 7 => 7 | 8 => 8 | 9 => 9 | k => k) ⟨⟨_, rfl, ⟨rfl, Nat.le_of_ble_eq_true rfl⟩⟩, ⟨_, rfl, ⟨rfl, Nat.le_of_ble_eq_true rfl⟩⟩, ⟨_, rfl, ⟨rfl, Nat.le_of_ble_eq_true rfl⟩⟩, ⟨_, rfl, ⟨rfl, Nat.le_of_ble_eq_true rfl⟩⟩, ⟨_, rfl, ⟨rfl, Nat.le_of_ble_eq_true rfl⟩⟩, ⟨_, rfl, ⟨rfl, Nat.le_of_ble_eq_true rfl⟩⟩, ⟨_, rfl, ⟨rfl, Nat.le_of_ble_eq_true rfl⟩⟩, ⟨_, rfl, ⟨rfl, trivial⟩⟩, ⟨_, rfl, ⟨rfl, trivial⟩⟩, trivial⟩ ⟨⟨Nat.le_of_ble_eq_true rfl, _, _, rfl, rfl, .inl ⟨rfl, (d_a8_u32 _).plain⟩⟩, ⟨Nat.le_of_ble_eq_true rfl, _, _, rfl, rfl, .inl ⟨rfl, (d_a8_u32 _).plain⟩⟩, ⟨Nat.le_of_ble_eq_true rfl, _, _, rfl, rfl, .inl ⟨rfl, (d_a8_u32 _).plain⟩⟩, ⟨Nat.le_of_ble_eq_true rfl, _, _, rfl, rfl, .inl ⟨rfl, (d_a8_u32 _).plain⟩⟩, ⟨Nat.le_of_ble_eq_true rfl, _, _, rfl, rfl, ⟨rfl, rfl, fun _ => .inl ⟨rfl, (d_api_Kept _).plain⟩⟩⟩, ⟨Nat.le_of_ble_eq_true rfl, _, _, rfl, rfl, ⟨rfl, rfl, fun _ => .inl ⟨rfl, (d_api_Kept _).plain⟩⟩⟩, ⟨Nat.le_of_ble_eq_true rfl, _, _, rfl, rfl, ⟨rfl, rfl, fun _ => .inl ⟨rfl, (d_api_Kept _).plain⟩⟩⟩, trivial⟩ rfl)
      · refine aw_block ?_
        obtain ⟨h8, H⟩ := ib_of H
        refine aw_region (es := [_, _, _, _]) ⟨Step.plain rfl (does_indexAddro 22 38 v3.length 21 9 (fun j => (e_api_Kept (v3.getD j z_api_Kept))) (.tmp 23) .i64 x5.1 el22 trivial h8.1 h8.2), ⟨⟨rfl, rfl, trivial⟩, ⟨rfl, trivial⟩, rfl⟩, rfl,
          Step.plain rfl (does_load 36 25 9 (x5.1.toNat * 38) [x5.1.toNat] (.arr 38 v3.length fun j => (e_api_Kept (v3.getD j z_api_Kept))) (e_api_Kept (v3.getD x5.1.toNat z_api_Kept)) ⟨(ixl h8), trivial⟩ rfl rfl ty36), ⟨⟨rfl, trivial⟩, ⟨rfl, trivial⟩, rfl⟩, rfl,
          Step.plain rfl (does_alloc 36 10 (e_api_Kept z_api_Kept) zr36), ⟨trivial, trivial, rfl⟩, rfl,
          Step.plain rfl (does_store 36 16 (.tmp 26) 10 0 [] (.var (e_api_Kept z_api_Kept)) (.var (e_api_Kept (v3.getD x5.1.toNat z_api_Kept))) (e_api_Kept (v3.getD x5.1.toNat z_api_Kept)) true trivial rfl trivial rfl rfl rfl ty36), ⟨⟨rfl, rfl, trivial⟩, ⟨rfl, trivial⟩, rfl⟩, rfl, rfl⟩ ?_
        refine aw_cov (cov_prune (s1 := ⟨[(6, (.ptr 0 0 [])), (7, (.ptr 1 0 [])), (9, (.ptr 3 0 [])), (11, (.ptr 5 0 [])), (13, (.own 7)), (14, (.own 8)), (21, (.own 9)), (22, (.int .i64 (v3.length : Int))), (23, (.int .i64 x5.1)), (16, (.ptr 10 0 []))], [(0, some (.var (e_a8_u32 x5.2.1))), (1, some (.var (e_a8_u32 p2))), (3, some (.var (e_a8_u32 p4))), (5, some (.var (e_a8_u32 (fun _ => 0)))), (7, some (.arr 38 x5.2.2.1.length fun j => (e_api_Kept (x5.2.2.1.getD j z_api_Kept)))), (8, some (.arr 38 x5.2.2.2.length fun j => (e_api_Kept (x5.2.2.2.getD j z_api_Kept)))), (9, some (.arr 38 v3.length fun j => (e_api_Kept (v3.getD j z_api_Kept)))), (10, some (.var (e_api_Kept (v3.getD x5.1.toNat z_api_Kept))))], 11⟩) ⟨rfl, rfl, rfl, rfl, rfl, rfl, rfl, rfl, rfl, rfl, trivial⟩ ⟨rfl, rfl, rfl, rfl, rfl, rfl, rfl, rfl, trivial⟩ (Nat.le_refl _)) ?_
        refine aw_seq ?_
        obtain ⟨h9, H⟩ := ibg_of H
        refine aw_draw (es := [_, _, _, _, _, _, _, _, _, _, _, _]) (mixed) ⟨Step.plain rfl (does_fieldAddr 36 0 0 16 10 0 [] (.var (e_api_Kept (v3.getD x5.1.toNat z_api_Kept))) fl36_0), ⟨⟨rfl, trivial⟩, ⟨rfl, trivial⟩, rfl⟩, rfl,
          Step.plain rfl (does_load 3 27 10 (0 + 0) [0] (.var (e_api_Kept (v3.getD x5.1.toNat z_api_Kept))) (.int .i64 ((v3.getD x5.1.toNat z_api_Kept).From)) ⟨rfl, Nat.le_of_ble_eq_true rfl, trivial⟩ rfl rfl ty3), ⟨⟨rfl, trivial⟩, ⟨rfl, trivial⟩, rfl⟩, rfl,
          Step.plain rfl (does_bin .geq 3 3 (.tmp 28) (.const (.int .i64 8)) .i64 ((v3.getD x5.1.toNat z_api_Kept).From) 8 (.bool (decide (((v3.getD x5.1.toNat z_api_Kept).From) ≥ 8))) trivial (fun _ => rfl) (bin_geq _ _ _ _)), ⟨⟨rfl, trivial⟩, trivial, rfl⟩, rfl,
          Step.plain rfl (does_move (.tmp 29) (.bool (decide (((v3.getD x5.1.toNat z_api_Kept).From) ≥ 8))) trivial), ⟨⟨rfl, trivial⟩, trivial, rfl⟩, rfl,
          Step.guarded rfl rfl rfl rfl (fun hc => does_fieldAddr 36 1 1 16 10 0 [] (.var (e_api_Kept (v3.getD x5.1.toNat z_api_Kept))) fl36_1), ⟨⟨rfl, rfl, trivial⟩, ⟨rfl, trivial⟩, rfl⟩, rfl,
          Step.guarded rfl rfl rfl rfl (fun hc => Does.strip (n' := [(31, (.opt (!(decide (((v3.getD x5.1.toNat z_api_Kept).From) ≥ 8))) (.ptr 10 (0 + 1) [1])))]) (n := [(31, (.ptr 10 (0 + 1) [1]))]) ⟨(.opt _ _ hc), trivial⟩ (does_load 23 31 10 (0 + 1) [1] (.var (e_api_Kept (v3.getD x5.1.toNat z_api_Kept))) (.int .u32 ((v3.getD x5.1.toNat z_api_Kept).Round)) ⟨rfl, Nat.le_of_ble_eq_true rfl, trivial⟩ rfl rfl ty23)), ⟨⟨rfl, rfl, trivial⟩, ⟨rfl, trivial⟩, rfl⟩, rfl,
          Step.guarded rfl rfl rfl rfl (fun hc => does_fieldAddr 36 0 0 16 10 0 [] (.var (e_api_Kept (v3.getD x5.1.toNat z_api_Kept))) fl36_0), ⟨⟨rfl, rfl, trivial⟩, ⟨rfl, trivial⟩, rfl⟩, rfl,
          Step.guarded rfl rfl rfl rfl (fun hc => Does.strip (n' := [(33, (.opt (!(decide (((v3.getD x5.1.toNat z_api_Kept).From) ≥ 8))) (.ptr 10 (0 + 0) [0])))]) (n := [(33, (.ptr 10 (0 + 0) [0]))]) ⟨(.opt _ _ hc), trivial⟩ (does_load 3 33 10 (0 + 0) [0] (.var (e_api_Kept (v3.getD x5.1.toNat z_api_Kept))) (.int .i64 ((v3.getD x5.1.toNat z_api_Kept).From)) ⟨rfl, Nat.le_of_ble_eq_true rfl, trivial⟩ rfl rfl ty3)), ⟨⟨rfl, rfl, trivial⟩, ⟨rfl, trivial⟩, rfl⟩, rfl,
          Step.guarded rfl rfl rfl rfl (fun hc => Does.strip (n' := [(9, (.ptr 3 0 [])), (34, (.opt (!(decide (((v3.getD x5.1.toNat z_api_Kept).From) ≥ 8))) (.int .i64 ((v3.getD x5.1.toNat z_api_Kept).From))))]) (n := [(9, (.ptr 3 0 [])), (34, (.int .i64 ((v3.getD x5.1.toNat z_api_Kept).From)))]) ⟨(.same _), (.opt _ _ hc), trivial⟩ (does_indexAddr 25 8 1 9 3 0 [] (.var (e_a8_u32 p4)) (.tmp 34) .i64 ((v3.getD x5.1.toNat z_api_Kept).From) el25 trivial (h9 hc).1 (h9 hc).2)), ⟨⟨rfl, rfl, rfl, trivial⟩, ⟨rfl, trivial⟩, rfl⟩, rfl,
          Step.guarded rfl rfl rfl rfl (fun hc => Does.strip (n' := [(35, (.opt (!(decide (((v3.getD x5.1.toNat z_api_Kept).From) ≥ 8))) (.ptr 3 (0 + ((v3.getD x5.1.toNat z_api_Kept).From).toNat * 1) [((v3.getD x5.1.toNat z_api_Kept).From).toNat])))]) (n := [(35, (.ptr 3 (0 + ((v3.getD x5.1.toNat z_api_Kept).From).toNat * 1) [((v3.getD x5.1.toNat z_api_Kept).From).toNat]))]) ⟨(.opt _ _ hc), trivial⟩ (does_load 23 35 3 (0 + ((v3.getD x5.1.toNat z_api_Kept).From).toNat * 1) [((v3.getD x5.1.toNat z_api_Kept).From).toNat] (.var (e_a8_u32 p4)) (.int .u32 (p4 (((v3.getD x5.1.toNat z_api_Kept).From).toNat))) ⟨rfl, (ixl (h9 hc)), trivial⟩ rfl rfl ty23)), ⟨⟨rfl, rfl, trivial⟩, ⟨rfl, trivial⟩, rfl⟩, rfl,
          Step.guarded rfl rfl rfl rfl (fun hc => Does.strip (n' := [(32, (.opt (!(decide (((v3.getD x5.1.toNat z_api_Kept).From) ≥ 8))) (.int .u32 ((v3.getD x5.1.toNat z_api_Kept).Round)))), (36, (.opt (!(decide (((v3.getD x5.1.toNat z_api_Kept).From) ≥ 8))) (.int .u32 (p4 (((v3.getD x5.1.toNat z_api_Kept).From).toNat)))))]) (n := [(32, (.int .u32 ((v3.getD x5.1.toNat z_api_Kept).Round))), (36, (.int .u32 (p4 (((v3.getD x5.1.toNat z_api_Kept).From).toNat))))]) ⟨(.opt _ _ hc), (.opt _ _ hc), trivial⟩ (does_bin .gtr 23 23 (.tmp 32) (.tmp 36) .u32 ((v3.getD x5.1.toNat z_api_Kept).Round) (p4 (((v3.getD x5.1.toNat z_api_Kept).From).toNat)) (.bool (decide (((v3.getD x5.1.toNat z_api_Kept).Round) > (p4 (((v3.getD x5.1.toNat z_api_Kept).From).toNat))))) trivial trivial (bin_gtr _ _ _ _))), ⟨⟨rfl, rfl, rfl, trivial⟩, trivial, rfl⟩, rfl,
          Step.plain rfl (does_or 30 37 (decide (((v3.getD x5.1.toNat z_api_Kept).From) ≥ 8)) (decide (((v3.getD x5.1.toNat z_api_Kept).Round) > (p4 (((v3.getD x5.1.toNat z_api_Kept).From).toNat))))), ⟨⟨rfl, rfl, trivial⟩, trivial, rfl⟩, rfl, rfl⟩ rfl ?_
        obtain ⟨v10, hv10, H⟩ := lt_of H
        refine aw_cov (cov_prune (s1 := ⟨[(6, (.ptr 0 0 [])), (7, (.ptr 1 0 [])), (9, (.ptr 3 0 [])), (11, (.ptr 5 0 [])), (13, (.own 7)), (14, (.own 8)), (21, (.own 9)), (22, (.int .i64 (v3.length : Int))), (23, (.int .i64 x5.1)), (16, (.ptr 10 0 [])), (38, (.bool v10))], [(0, some (.var (e_a8_u32 x5.2.1))), (1, some (.var (e_a8_u32 p2))), (3, some (.var (e_a8_u32 p4))), (5, some (.var (e_a8_u32 (fun _ => 0)))), (7, some (.arr 38 x5.2.2.1.length fun j => (e_api_Kept (x5.2.2.1.getD j z_api_Kept)))), (8, some (.arr 38 x5.2.2.2.length fun j => (e_api_Kept (x5.2.2.2.getD j z_api_Kept)))), (9, some (.arr 38 v3.length fun j => (e_api_Kept (v3.getD j z_api_Kept)))), (10, some (.var (e_api_Kept (v3.getD x5.1.toNat z_api_Kept))))], 11⟩) ⟨rfl, rfl, rfl, rfl, rfl, rfl, rfl, rfl, rfl, rfl, (by subst hv10; rfl), trivial⟩ ⟨rfl, rfl, rfl, rfl, rfl, rfl, rfl, rfl, trivial⟩ (Nat.le_refl _)) ?_
        refine aw_cond rfl (fun hc => ?_) (fun hc => ?_)
        · replace H := ite_t hc H
          refine aw_exit ?_
          refine ex_then ?_
          refine ex_here ?_
          exact nx_join (x5.2.1, x5.2.2.1, x5.2.2.2) H (cov_of (fun i => match i with | 0 => 0 | 1 => 1 | 3 => 3 | 5 => 5 | 7 => 7 | 8 => 8 | 9 => 9 | k => k) ⟨⟨_, rfl, ⟨rfl, Nat.le_of_ble_eq_true rfl⟩⟩, ⟨_, rfl, ⟨rfl, Nat.le_of_ble_eq_true rfl⟩⟩, ⟨_, rfl, ⟨rfl, Nat.le_of_ble_eq_true rfl⟩⟩, ⟨_, rfl, ⟨rfl, Nat.le_of_ble_eq_true rfl⟩⟩, ⟨_, rfl, ⟨rfl, Nat.le_of_ble_eq_true rfl⟩⟩, ⟨_, rfl, ⟨rfl, Nat.le_of_ble_eq_true rfl⟩⟩, ⟨_, rfl, ⟨rfl, Nat.le_of_ble_eq_true rfl⟩⟩, ⟨_, rfl, ⟨rfl, trivial⟩⟩, ⟨_, rfl, ⟨rfl, trivial⟩⟩, trivial⟩ ⟨⟨Nat.le_of_ble_eq_true rfl, _, _, rfl, rfl, .inl ⟨rfl, (d_a8_u32 _).plain⟩⟩, ⟨Nat.le_of_ble_eq_true rfl, _, _, rfl, rfl, .inl ⟨rfl, (d_a8_u32 _).plain⟩⟩, ⟨Nat.le_of_ble_eq_true rfl, _, _, rfl, rfl, .inl ⟨rfl, (d_a8_u32 _).plain⟩⟩, ⟨Nat.le_of_ble_eq_true rfl, _, _, rfl, rfl, .inl ⟨rfl, (d_a8_u32 _).plain⟩⟩, ⟨Nat.le_of_ble_eq_true rfl, _, _, rfl, rfl, ⟨rfl, rfl, fun _ => .inl ⟨rfl, (d_api_Kept _).plain⟩⟩⟩, ⟨Nat.le_of_ble_eq_true rfl, _, _, rfl, rfl, ⟨rfl, rfl, fun _ => .inl ⟨rfl, (d_api_Kept _).plain⟩⟩⟩, ⟨Nat.le_of_ble_eq_true rfl, _, _, rfl, rfl, ⟨rfl, rfl, fun _ => .inl ⟨rfl, (d_api_Kept _).plain⟩⟩⟩, trivial⟩ rfl)
        · replace H := ite_f hc H
          refine aw_skip ?_
          refine nx_seq ?_
          refine aw_region (es := [_]) ⟨Step.plain rfl (does_assign (.const (.bool false)) (.bool false) (fun _ => rfl)), ⟨trivial, trivial, rfl⟩, rfl, rfl⟩ ?_
          refine aw_cov (cov_prune (s1 := ⟨[(6, (.ptr 0 0 [])), (7, (.ptr 1 0 [])), (9, (.ptr 3 0 [])), (11, (.ptr 5 0 [])), (13, (.own 7)), (14, (.own 8)), (21, (.own 9)), (22, (.int .i64 (v3.length : Int))), (23, (.int .i64 x5.1)), (16, (.ptr 10 0 []))], [(0, some (.var (e_a8_u32 x5.2.1))), (1, some (.var (e_a8_u32 p2))), (3, some (.var (e_a8_u32 p4))), (5, some (.var (e_a8_u32 (fun _ => 0)))), (7, some (.arr 38 x5.2.2.1.length fun j => (e_api_Kept (x5.2.2.1.getD j z_api_Kept)))), (8, some (.arr 38 x5.2.2.2.length fun j => (e_api_Kept (x5.2.2.2.getD j z_api_Kept)))), (9, some (.arr 38 v3.length fun j => (e_api_Kept (v3.getD j z_api_Kept)))), (10, some (.var (e_api_Kept (v3.getD x5.1.toNat z_api_Kept))))], 11⟩) ⟨rfl, rfl, rfl, rfl, rfl, rfl, rfl, rfl, rfl, rfl, trivial⟩ ⟨rfl, rfl, rfl, rfl, rfl, rfl, rfl, rfl, trivial⟩ (Nat.le_refl _)) ?_
          obtain ⟨v11, h12, H⟩ := bnd H
          refine aw_region (es := [_, _, _, _, _, _, _, _, _, _, _, _]) ⟨Step.plain rfl (does_move (.tmp 13) (.own 7) trivial), ⟨⟨rfl, trivial⟩, trivial, rfl⟩, rfl,
            Step.plain rfl (does_load 25 6 0 0 [] (.var (e_a8_u32 x5.2.1)) (e_a8_u32 x5.2.1) trivial rfl rfl ty25), ⟨⟨rfl, trivial⟩, ⟨rfl, trivial⟩, rfl⟩, rfl,
            Step.plain rfl (does_load 26 7 1 0 [] (.var (e_a8_u32 p2)) (e_a8_u32 p2) trivial rfl rfl ty26), ⟨⟨rfl, trivial⟩, ⟨rfl, trivial⟩, rfl⟩, rfl,
            Step.plain rfl (does_load 36 16 10 0 [] (.var (e_api_Kept (v3.getD x5.1.toNat z_api_Kept))) (e_api_Kept (v3.getD x5.1.toNat z_api_Kept)) trivial rfl rfl ty36), ⟨⟨rfl, trivial⟩, ⟨rfl, trivial⟩, rfl⟩, rfl,
            Step.plain rfl (does_callO 7 0 (fun _ => .any) (.func 7) [(.tmp 40), (.tmp 41), (.tmp 42), (.tmp 43)] [(.own 7), (e_a8_u32 x5.2.1), (e_a8_u32 p2), (e_api_Kept (v3.getD x5.1.toNat z_api_Kept))] [(7, (.arr 38 x5.2.2.1.length fun j => (e_api_Kept (x5.2.2.1.getD j z_api_Kept))))] [] true [(e_s_api_Kept x5.2.2.1), (e_a8_u32 x5.2.1), (e_a8_u32 p2), (e_api_Kept (v3.getD x5.1.toNat z_api_Kept))] _ (resV [(.own 11), (e_a8_u32 v11.2.1), (.bool v11.2.2)]) _ 11 2 _ _ rfl fo7 rfl ⟨trivial, trivial, trivial, trivial, trivial⟩ ⟨.ro _ _ (.own 7 _ _ _ (.head _) rfl (fun _ => (d_api_Kept _))), .ro _ _ (.data _ (d_a8_u32 x5.2.1)), .ro _ _ (.data _ (d_a8_u32 p2)), .ro _ _ (.data _ (d_api_Kept (v3.getD x5.1.toNat z_api_Kept))), trivial⟩ (kept_Take_spec x5.2.2.1 x5.2.1 p2 (v3.getD x5.1.toNat z_api_Kept) _ h12) rfl (by simp) rfl trivial ⟨⟨Nat.le_of_ble_eq_true rfl, _, rfl, fun _ => (f_api_Kept _)⟩, trivial⟩ (.tup _ _ _ (fun j => match j with | 0 => .own 0 (Nat.le_of_ble_eq_true rfl) | 1 => .data _ ((f_a8_u32 v11.2.1)) | 2 => .data _ (trivial) | _ + 3 => .data _ trivial))), ⟨⟨rfl, rfl, rfl, rfl, trivial⟩, ⟨rfl, trivial⟩, rfl⟩, rfl,
            Step.plain rfl (does_move (.tmp 44) (resV [(.own 11), (e_a8_u32 v11.2.1), (.bool v11.2.2)]) trivial), ⟨⟨rfl, trivial⟩, trivial, rfl⟩, rfl,
            Step.plain rfl (does_extract 39 0 3 (fun j => [(.own 11), (e_a8_u32 v11.2.1), (.bool v11.2.2)].getD j (.bool false)) (Nat.le_of_ble_eq_true rfl)), ⟨⟨rfl, trivial⟩, trivial, rfl⟩, rfl,
            Step.plain rfl (does_extract 39 1 3 (fun j => [(.own 11), (e_a8_u32 v11.2.1), (.bool v11.2.2)].getD j (.bool false)) (Nat.le_of_ble_eq_true rfl)), ⟨⟨rfl, trivial⟩, trivial, rfl⟩, rfl,
            Step.plain rfl (does_extract 39 2 3 (fun j => [(.own 11), (e_a8_u32 v11.2.1), (.bool v11.2.2)].getD j (.bool false)) (Nat.le_of_ble_eq_true rfl)), ⟨⟨rfl, trivial⟩, trivial, rfl⟩, rfl,
            Step.plain rfl (does_assign (.tmp 45) (.own 11) trivial), ⟨⟨rfl, trivial⟩, trivial, rfl⟩, rfl,
            Step.plain rfl (does_store 25 6 (.tmp 46) 0 0 [] (.var (e_a8_u32 x5.2.1)) (.var (e_a8_u32 v11.2.1)) (e_a8_u32 v11.2.1) true trivial rfl trivial rfl rfl rfl ty25), ⟨⟨rfl, rfl, trivial⟩, ⟨rfl, trivial⟩, rfl⟩, rfl,
            Step.plain rfl (does_assign (.tmp 47) (.bool v11.2.2) trivial), ⟨⟨rfl, trivial⟩, trivial, rfl⟩, rfl, rfl⟩ ?_
          refine aw_cov (cov_prune (s1 := ⟨[(6, (.ptr 0 0 [])), (7, (.ptr 1 0 [])), (9, (.ptr 3 0 [])), (11, (.ptr 5 0 [])), (14, (.own 8)), (21, (.own 9)), (22, (.int .i64 (v3.length : Int))), (23, (.int .i64 x5.1)), (16, (.ptr 10 0 [])), (13, (.own 11)), (17, (.bool v11.2.2))], [(0, some (.var (e_a8_u32 v11.2.1))), (1, some (.var (e_a8_u32 p2))), (3, some (.var (e_a8_u32 p4))), (5, some (.var (e_a8_u32 (fun _ => 0)))), (8, some (.arr 38 x5.2.2.2.length fun j => (e_api_Kept (x5.2.2.2.getD j z_api_Kept)))), (9, some (.arr 38 v3.length fun j => (e_api_Kept (v3.getD j z_api_Kept)))), (10, some (.var (e_api_Kept (v3.getD x5.1.toNat z_api_Kept)))), (11, some (.arr 38 v11.1.length fun j => (e_api_Kept (v11.1.getD j z_api_Kept))))], 13⟩) ⟨rfl, rfl, rfl, rfl, rfl, rfl, rfl, rfl, rfl, rfl, rfl, trivial⟩ ⟨rfl, rfl, rfl, rfl, rfl, rfl, rfl, rfl, trivial⟩ (Nat.le_refl _)) ?_
          refine aw_region (es := [_]) ⟨Step.plain rfl (does_move (.tmp 17) (.bool v11.2.2) trivial), ⟨⟨rfl, trivial⟩, trivial, rfl⟩, rfl, rfl⟩ ?_
          refine aw_cov (cov_prune (s1 := ⟨[(6, (.ptr 0 0 [])), (7, (.ptr 1 0 [])), (9, (.ptr 3 0 [])), (11, (.ptr 5 0 [])), (14, (.own 8)), (21, (.own 9)), (22, (.int .i64 (v3.length : Int))), (23, (.int .i64 x5.1)), (16, (.ptr 10 0 [])), (13, (.own 11)), (48, (.bool v11.2.2))], [(0, some (.var (e_a8_u32 v11.2.1))), (1, some (.var (e_a8_u32 p2))), (3, some (.var (e_a8_u32 p4))), (5, some (.var (e_a8_u32 (fun _ => 0)))), (8, some (.arr 38 x5.2.2.2.length fun j => (e_api_Kept (x5.2.2.2.getD j z_api_Kept)))), (9, some (.arr 38 v3.length fun j => (e_api_Kept (v3.getD j z_api_Kept)))), (10, some (.var (e_api_Kept (v3.getD x5.1.toNat z_api_Kept)))), (11, some (.arr 38 v11.1.length fun j => (e_api_Kept (v11.1.getD j z_api_Kept))))], 13⟩) ⟨rfl, rfl, rfl, rfl, rfl, rfl, rfl, rfl, rfl, rfl, rfl, trivial⟩ ⟨rfl, rfl, rfl, rfl, rfl, rfl, rfl, rfl, trivial⟩ (Nat.le_refl _)) ?_
          refine aw_cond rfl (fun hc => ?_) (fun hc => ?_)
          · replace H := ite_t hc H
            obtain ⟨h13, H⟩ := fit_of H
            refine aw_region1 (es := [_, _, _, _, _]) ⟨Step.plain rfl (does_move (.tmp 14) (.own 8) trivial), ⟨⟨rfl, trivial⟩, trivial, rfl⟩, rfl,
              Step.plain rfl (does_load 36 16 10 0 [] (.var (e_api_Kept (v3.getD x5.1.toNat z_api_Kept))) (e_api_Kept (v3.getD x5.1.toNat z_api_Kept)) trivial rfl rfl ty36), ⟨⟨rfl, trivial⟩, ⟨rfl, trivial⟩, rfl⟩, rfl,
              Step.plain rfl (does_buildSl 22 1 38 (e_api_Kept z_api_Kept) (fun j => (e_api_Kept (([v3.getD x5.1.toNat z_api_Kept] : _root_.List api_Kept).getD j z_api_Kept))) #[(0, (.tmp 50))] [(0, (.tmp 50))] [(0, (e_api_Kept (v3.getD x5.1.toNat z_api_Kept)))] rfl so22 (by decide) ⟨⟨rfl, trivial⟩, trivial⟩ ⟨⟨Nat.le_of_ble_eq_true rfl, rfl, rfl⟩, trivial⟩ (fun j h => match j, h with | 0, _ => rfl | k + 1, h => absurd h (by omega))), ⟨⟨rfl, trivial⟩, trivial, rfl⟩, rfl,
              Step.plain rfl (does_appendL e_api_Kept z_api_Kept x5.2.2.2 ([v3.getD x5.1.toNat z_api_Kept] : _root_.List api_Kept) 22 38 352 8 13 49 51 ap22 h13), ⟨⟨rfl, rfl, trivial⟩, ⟨rfl, trivial⟩, rfl⟩, rfl,
              Step.plain rfl (does_assign (.tmp 52) (.own 13) trivial), ⟨⟨rfl, trivial⟩, trivial, rfl⟩, rfl, rfl⟩ ?_
            refine nx_blk ?_
            exact nx_join (v11.2.1, v11.1, (x5.2.2.2 ++ ([v3.getD x5.1.toNat z_api_Kept] : _root_.List api_Kept))) H (cov_of (fun i => match i with | 0 => 0 | 1 => 1 | 3 => 3 | 5 => 5 | 7 => 11 | 8 => 13 | 9 => 9 | k => k) ⟨⟨_, rfl, ⟨rfl, Nat.le_of_ble_eq_true rfl⟩⟩, ⟨_, rfl, ⟨rfl, Nat.le_of_ble_eq_true rfl⟩⟩, ⟨_, rfl, ⟨rfl, Nat.le_of_ble_eq_true rfl⟩⟩, ⟨_, rfl, ⟨rfl, Nat.le_of_ble_eq_true rfl⟩⟩, ⟨_, rfl, ⟨rfl, Nat.le_of_ble_eq_true rfl⟩⟩, ⟨_, rfl, ⟨rfl, Nat.le_of_ble_eq_true rfl⟩⟩, ⟨_, rfl, ⟨rfl, Nat.le_of_ble_eq_true rfl⟩⟩, ⟨_, rfl, ⟨rfl, trivial⟩⟩, ⟨_, rfl, ⟨rfl, trivial⟩⟩, trivial⟩ ⟨⟨Nat.le_of_ble_eq_true rfl, _, _, rfl, rfl, .inl ⟨rfl, (d_a8_u32 _).plain⟩⟩, ⟨Nat.le_of_ble_eq_true rfl, _, _, rfl, rfl, .inl ⟨rfl, (d_a8_u32 _).plain⟩⟩, ⟨Nat.le_of_ble_eq_true rfl, _, _, rfl, rfl, .inl ⟨rfl, (d_a8_u32 _).plain⟩⟩, ⟨Nat.le_of_ble_eq_true rfl, _, _, rfl, rfl, .inl ⟨rfl, (d_a8_u32 _).plain⟩⟩, ⟨Nat.le_of_ble_eq_true rfl, _, _, rfl, rfl, ⟨rfl, rfl, fun _ => .inl ⟨rfl, (d_api_Kept _).plain⟩⟩⟩, ⟨Nat.le_of_ble_eq_true rfl, _, _, rfl, rfl, ⟨rfl, rfl, fun _ => .inl ⟨rfl, (d_api_Kept _).plain⟩⟩⟩, ⟨Nat.le_of_ble_eq_true rfl, _, _, rfl, rfl, ⟨rfl, rfl, fun _ => .inl ⟨rfl, (d_api_Kept _).plain⟩⟩⟩, trivial⟩ rfl)
          · replace H := ite_f hc H
            refine aw_skip ?_
            refine nx_blk ?_
            exact nx_join (v11.2.1, v11.1, x5.2.2.2) H (cov_of (fun i => match i with | 0 => 0 | 1 => 1 | 3 => 3 | 5 => 5 | 7 => 11 | 8 => 8 | 9 => 9 | k => k) ⟨⟨_, rfl, ⟨rfl, Nat.le_of_ble_eq_true rfl⟩⟩, ⟨_, rfl, ⟨rfl, Nat.le_of_ble_eq_true rfl⟩⟩, ⟨_, rfl, ⟨rfl, Nat.le_of_ble_eq_true rfl⟩⟩, ⟨_, rfl, ⟨rfl, Nat.le_of_ble_eq_true rfl⟩⟩, ⟨_, rfl, ⟨rfl, Nat.le_of_ble_eq_true rfl⟩⟩, ⟨_, rfl, ⟨rfl, Nat.le_of_ble_eq_true rfl⟩⟩, ⟨_, rfl, ⟨rfl, Nat.le_of_ble_eq_true rfl⟩⟩, ⟨_, rfl, ⟨rfl, trivial⟩⟩, ⟨_, rfl, ⟨rfl, trivial⟩⟩, trivial⟩ ⟨⟨Nat.le_of_ble_eq_true rfl, _, _, rfl, rfl, .inl ⟨rfl, (d_a8_u32 _).plain⟩⟩, ⟨Nat.le_of_ble_eq_true rfl, _, _, rfl, rfl, .inl ⟨rfl, (d_a8_u32 _).plain⟩⟩, ⟨Nat.le_of_ble_eq_true rfl, _, _, rfl, rfl, .inl ⟨rfl, (d_a8_u32 _).plain⟩⟩, ⟨Nat.le_of_ble_eq_true rfl, _, _, rfl, rfl, .inl ⟨rfl, (d_a8_u32 _).plain⟩⟩, ⟨Nat.le_of_ble_eq_true rfl, _, _, rfl, rfl, ⟨rfl, rfl, fun _ => .inl ⟨rfl, (d_api_Kept _).plain⟩⟩⟩, ⟨Nat.le_of_ble_eq_true rfl, _, _, rfl, rfl, ⟨rfl, rfl, fun _ => .inl ⟨rfl, (d_api_Kept _).plain⟩⟩⟩, ⟨Nat.le_of_ble_eq_true rfl, _, _, rfl, rfl, ⟨rfl, rfl, fun _ => .inl ⟨rfl, (d_api_Kept _).plain⟩⟩⟩, trivial⟩ rfl)
    · replace H := ite_f hc H
      refine aw_exit ?_
      refine ex_then ?_
      refine ex_then ?_
      refine ex_here ?_
      exact nx_ljoin (x5.2.1, x5.2.2.1, x5.2.2.2) H hsn6 (cov_prune ⟨rfl, rfl, rfl, rfl, trivial⟩ ⟨rfl, rfl, rfl, rfl, trivial⟩ (Nat.le_of_ble_eq_true rfl))

theorem kept_Offer_data (p0 : (_root_.List api_Kept)) (p1 : (Nat → Int)) (p2 : (Nat → Int)) (p3 : api_Packet) (p4 : (Nat → Int)) (r : (_root_.List api_Kept) × (Nat → Int) × (_root_.List api_Kept)) (H : kept_Offer p0 p1 p2 p3 p4 = some r) : FSpec Try.prog 16 [(e_s_api_Kept p0), (e_a8_u32 p1), (e_a8_u32 p2), (e_api_Packet p3), (e_a8_u32 p4)] (resV [(e_s_api_Kept r.1), (e_a8_u32 r.2.1), (e_s_api_Kept r.2.2)]) :=
  FSpecO.toData (fz := [0, 1]) (kept_Offer_spec p0 p1 p2 p3 p4 r H) (res_data3 (d_s_api_Kept r.1) (d_a8_u32 r.2.1) (d_s_api_Kept r.2.2)) (.tup _ _ _ (fun j => match j with | 0 => .frz 0 _ _ _ rfl (fun _ => (d_api_Kept _)) (by decide) | 1 => .plain _ ((d_a8_u32 r.2.1).plain) | 2 => .frz 1 _ _ _ rfl (fun _ => (d_api_Kept _)) (by decide) | _ + 3 => .plain _ trivial))
end Go.Proofs.Ytbkofjefhnnmlaa
