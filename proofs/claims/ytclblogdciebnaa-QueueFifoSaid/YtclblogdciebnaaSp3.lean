/- Printed by gen.py. Conditions: none. -/
import Derived.Test.YtclblogdciebnaaSp2
import Derived.KernelRfl
set_option linter.unusedVariables false
set_option maxRecDepth 100000
namespace Go.Proofs.Ytclblogdciebnaa
open Go.Eng
set_option maxHeartbeats 1600000
theorem congresslaw22_fixed_spec (r : Bool) (H : congresslaw22_fixed = some r) : FSpec Try.prog 8 [] (.bool r) := by
  refine spec_of (fn := Try.f8) (args := []) Try.func8 rfl (Nat.le_of_ble_eq_true rfl) ?_
  rintro ⟨G, w0, W, S, Sp⟩ hG
  cases hG
  unfold congresslaw22_fixed at H
  refine aw_region (es := [_]) ⟨Step.plain rfl (does_assign (.const (.bool false)) (.bool false) (fun _ => rfl)), ⟨trivial, trivial, rfl⟩, rfl, rfl⟩ ?_
  refine aw_cov (cov_prune (s1 := ⟨[], [], 0⟩) trivial trivial (Nat.le_refl _)) ?_
  refine aw_region (es := [_, _, _]) ⟨Step.plain rfl (does_buildT 29 #[(0, (.const (.int .u32 1))), (1, (.const (.int .u32 1)))] [(0, (.const (.int .u32 1))), (1, (.const (.int .u32 1)))] [(0, (.int .u32 1)), (1, (.int .u32 1))] (.ar 8 1) (fun j => (.int .u32 ((fun _ => 0) j))) (fun j => (.int .u32 ((aset (fun _ => 0) [(0, 1), (1, 1)]) j))) rfl bo29 ⟨⟨rfl, (fun _ => rfl)⟩, ⟨rfl, (fun _ => rfl)⟩, trivial⟩ ⟨⟨Nat.le_of_ble_eq_true rfl, rfl, rfl⟩, ⟨Nat.le_of_ble_eq_true rfl, rfl, rfl⟩, trivial⟩ (setAll_map (fun z => V.int .u32 z) [(0, 1), (1, 1)] _)), ⟨trivial, trivial, rfl⟩, rfl,
    Step.plain rfl (does_alloc 29 0 (e_a8_u32 (fun _ => 0)) zr29), ⟨trivial, trivial, rfl⟩, rfl,
    Step.plain rfl (does_store 29 1 (.tmp 6) 0 0 [] (.var (e_a8_u32 (fun _ => 0))) (.var (e_a8_u32 (aset (fun _ => 0) [(0, 1), (1, 1)]))) (e_a8_u32 (aset (fun _ => 0) [(0, 1), (1, 1)])) true trivial rfl trivial rfl rfl rfl ty29), ⟨⟨rfl, rfl, trivial⟩, ⟨rfl, trivial⟩, rfl⟩, rfl, rfl⟩ ?_
  refine aw_cov (cov_prune (s1 := ⟨[(1, (.ptr 0 0 []))], [(0, some (.var (e_a8_u32 (aset (fun _ => 0) [(0, 1), (1, 1)]))))], 1⟩) ⟨rfl, trivial⟩ ⟨rfl, trivial⟩ (Nat.le_refl _)) ?_
  obtain ⟨v1, h2, H⟩ := bnd H
  obtain ⟨v3, h4, H⟩ := bnd H
  refine aw_draw (es := [_, _, _, _, _, _, _, _, _]) (mixed) ⟨Step.plain rfl (does_callO 22 0 (fun _ => .any) (.func 22) [] [] [] [] true [] _ (.own 1) _ 1 1 _ _ rfl fo22 rfl trivial trivial (congresslaw22_two_spec _ h2) rfl (by simp) rfl trivial ⟨⟨Nat.le_of_ble_eq_true rfl, _, rfl, fun _ => (f_api_Wait _)⟩, trivial⟩ (.own 0 (Nat.le_of_ble_eq_true rfl))), ⟨trivial, trivial, rfl⟩, rfl,
    Step.plain rfl (does_buildT 28 #[(0, (.const (.int .u32 2))), (1, (.const (.int .u32 2)))] [(0, (.const (.int .u32 2))), (1, (.const (.int .u32 2)))] [(0, (.int .u32 2)), (1, (.int .u32 2))] (.ar 8 1) (fun j => (.int .u32 ((fun _ => 0) j))) (fun j => (.int .u32 ((aset (fun _ => 0) [(0, 2), (1, 2)]) j))) rfl bo28 ⟨⟨rfl, (fun _ => rfl)⟩, ⟨rfl, (fun _ => rfl)⟩, trivial⟩ ⟨⟨Nat.le_of_ble_eq_true rfl, rfl, rfl⟩, ⟨Nat.le_of_ble_eq_true rfl, rfl, rfl⟩, trivial⟩ (setAll_map (fun z => V.int .u32 z) [(0, 2), (1, 2)] _)), ⟨trivial, trivial, rfl⟩, rfl,
    Step.plain rfl (does_load 29 1 0 0 [] (.var (e_a8_u32 (aset (fun _ => 0) [(0, 1), (1, 1)]))) (e_a8_u32 (aset (fun _ => 0) [(0, 1), (1, 1)])) trivial rfl rfl ty29), ⟨⟨rfl, trivial⟩, ⟨rfl, trivial⟩, rfl⟩, rfl,
    Step.plain rfl (does_callO 9 0 (fun _ => .any) (.func 9) [(.tmp 8), (.tmp 9), (.tmp 10)] [(.own 1), (e_a8_u32 (aset (fun _ => 0) [(0, 2), (1, 2)])), (e_a8_u32 (aset (fun _ => 0) [(0, 1), (1, 1)]))] [(1, (.arr 9 v1.length fun j => (e_api_Wait (v1.getD j z_api_Wait))))] [] true [(e_s_api_Wait v1), (e_a8_u32 (aset (fun _ => 0) [(0, 2), (1, 2)])), (e_a8_u32 (aset (fun _ => 0) [(0, 1), (1, 1)]))] _ (resV [(.own 2), (.own 3)]) _ 2 2 _ _ rfl fo9 rfl ⟨trivial, trivial, trivial, trivial⟩ ⟨.ro _ _ (.own 1 _ _ _ (.head _) rfl (fun _ => (d_api_Wait _))), .ro _ _ (.data _ (d_a8_u32 (aset (fun _ => 0) [(0, 2), (1, 2)]))), .ro _ _ (.data _ (d_a8_u32 (aset (fun _ => 0) [(0, 1), (1, 1)]))), trivial⟩ (queue_Ready_spec v1 (aset (fun _ => 0) [(0, 2), (1, 2)]) (aset (fun _ => 0) [(0, 1), (1, 1)]) _ h4) rfl (by simp) rfl trivial ⟨⟨Nat.le_of_ble_eq_true rfl, _, rfl, fun _ => (f_api_Wait _)⟩, ⟨Nat.le_of_ble_eq_true rfl, _, rfl, fun _ => (f_api_Wait _)⟩, trivial⟩ (.tup _ _ _ (fun j => match j with | 0 => .own 0 (Nat.le_of_ble_eq_true rfl) | 1 => .own 1 (Nat.le_of_ble_eq_true rfl) | _ + 2 => .data _ trivial))), ⟨⟨rfl, rfl, rfl, trivial⟩, ⟨rfl, trivial⟩, rfl⟩, rfl,
    Step.plain rfl (does_move (.tmp 11) (resV [(.own 2), (.own 3)]) trivial), ⟨⟨rfl, trivial⟩, trivial, rfl⟩, rfl,
    Step.plain rfl (does_extract 7 0 2 (fun j => [(.own 2), (.own 3)].getD j (.bool false)) (Nat.le_of_ble_eq_true rfl)), ⟨⟨rfl, trivial⟩, trivial, rfl⟩, rfl,
    Step.plain rfl (does_extract 7 1 2 (fun j => [(.own 2), (.own 3)].getD j (.bool false)) (Nat.le_of_ble_eq_true rfl)), ⟨⟨rfl, trivial⟩, trivial, rfl⟩, rfl,
    Step.plain rfl (does_assign (.tmp 12) (.own 2) trivial), ⟨⟨rfl, trivial⟩, trivial, rfl⟩, rfl,
    Step.plain rfl (does_assign (.tmp 13) (.own 3) trivial), ⟨⟨rfl, trivial⟩, trivial, rfl⟩, rfl, rfl⟩ rfl ?_
  refine aw_cov (cov_prune (s1 := ⟨[(1, (.ptr 0 0 [])), (2, (.own 2)), (3, (.own 3))], [(0, some (.var (e_a8_u32 (aset (fun _ => 0) [(0, 1), (1, 1)])))), (2, some (.arr 9 v3.1.length fun j => (e_api_Wait (v3.1.getD j z_api_Wait)))), (3, some (.arr 9 v3.2.length fun j => (e_api_Wait (v3.2.getD j z_api_Wait))))], 4⟩) ⟨rfl, rfl, rfl, trivial⟩ ⟨rfl, rfl, rfl, trivial⟩ (Nat.le_refl _)) ?_
  obtain ⟨v5, h6, H⟩ := bnd H
  obtain ⟨v7, h8, H⟩ := bnd H
  refine aw_draw (es := [_, _, _, _, _, _, _, _, _]) (mixed) ⟨Step.plain rfl (does_callO 22 0 (fun _ => .any) (.func 22) [] [] [] [] true [] _ (.own 4) _ 4 1 _ _ rfl fo22 rfl trivial trivial (congresslaw22_two_spec _ h6) rfl (by simp) rfl trivial ⟨⟨Nat.le_of_ble_eq_true rfl, _, rfl, fun _ => (f_api_Wait _)⟩, trivial⟩ (.own 0 (Nat.le_of_ble_eq_true rfl))), ⟨trivial, trivial, rfl⟩, rfl,
    Step.plain rfl (does_buildT 28 #[(0, (.const (.int .u32 1))), (1, (.const (.int .u32 1)))] [(0, (.const (.int .u32 1))), (1, (.const (.int .u32 1)))] [(0, (.int .u32 1)), (1, (.int .u32 1))] (.ar 8 1) (fun j => (.int .u32 ((fun _ => 0) j))) (fun j => (.int .u32 ((aset (fun _ => 0) [(0, 1), (1, 1)]) j))) rfl bo28 ⟨⟨rfl, (fun _ => rfl)⟩, ⟨rfl, (fun _ => rfl)⟩, trivial⟩ ⟨⟨Nat.le_of_ble_eq_true rfl, rfl, rfl⟩, ⟨Nat.le_of_ble_eq_true rfl, rfl, rfl⟩, trivial⟩ (setAll_map (fun z => V.int .u32 z) [(0, 1), (1, 1)] _)), ⟨trivial, trivial, rfl⟩, rfl,
    Step.plain rfl (does_load 29 1 0 0 [] (.var (e_a8_u32 (aset (fun _ => 0) [(0, 1), (1, 1)]))) (e_a8_u32 (aset (fun _ => 0) [(0, 1), (1, 1)])) trivial rfl rfl ty29), ⟨⟨rfl, trivial⟩, ⟨rfl, trivial⟩, rfl⟩, rfl,
    Step.plain rfl (does_callO 9 0 (fun _ => .any) (.func 9) [(.tmp 15), (.tmp 16), (.tmp 17)] [(.own 4), (e_a8_u32 (aset (fun _ => 0) [(0, 1), (1, 1)])), (e_a8_u32 (aset (fun _ => 0) [(0, 1), (1, 1)]))] [(4, (.arr 9 v5.length fun j => (e_api_Wait (v5.getD j z_api_Wait))))] [] true [(e_s_api_Wait v5), (e_a8_u32 (aset (fun _ => 0) [(0, 1), (1, 1)])), (e_a8_u32 (aset (fun _ => 0) [(0, 1), (1, 1)]))] _ (resV [(.own 5), (.own 6)]) _ 5 2 _ _ rfl fo9 rfl ⟨trivial, trivial, trivial, trivial⟩ ⟨.ro _ _ (.own 4 _ _ _ (.head _) rfl (fun _ => (d_api_Wait _))), .ro _ _ (.data _ (d_a8_u32 (aset (fun _ => 0) [(0, 1), (1, 1)]))), .ro _ _ (.data _ (d_a8_u32 (aset (fun _ => 0) [(0, 1), (1, 1)]))), trivial⟩ (queue_Ready_spec v5 (aset (fun _ => 0) [(0, 1), (1, 1)]) (aset (fun _ => 0) [(0, 1), (1, 1)]) _ h8) rfl (by simp) rfl trivial ⟨⟨Nat.le_of_ble_eq_true rfl, _, rfl, fun _ => (f_api_Wait _)⟩, ⟨Nat.le_of_ble_eq_true rfl, _, rfl, fun _ => (f_api_Wait _)⟩, trivial⟩ (.tup _ _ _ (fun j => match j with | 0 => .own 0 (Nat.le_of_ble_eq_true rfl) | 1 => .own 1 (Nat.le_of_ble_eq_true rfl) | _ + 2 => .data _ trivial))), ⟨⟨rfl, rfl, rfl, trivial⟩, ⟨rfl, trivial⟩, rfl⟩, rfl,
    Step.plain rfl (does_move (.tmp 18) (resV [(.own 5), (.own 6)]) trivial), ⟨⟨rfl, trivial⟩, trivial, rfl⟩, rfl,
    Step.plain rfl (does_extract 14 0 2 (fun j => [(.own 5), (.own 6)].getD j (.bool false)) (Nat.le_of_ble_eq_true rfl)), ⟨⟨rfl, trivial⟩, trivial, rfl⟩, rfl,
    Step.plain rfl (does_extract 14 1 2 (fun j => [(.own 5), (.own 6)].getD j (.bool false)) (Nat.le_of_ble_eq_true rfl)), ⟨⟨rfl, trivial⟩, trivial, rfl⟩, rfl,
    Step.plain rfl (does_assign (.tmp 19) (.own 5) trivial), ⟨⟨rfl, trivial⟩, trivial, rfl⟩, rfl,
    Step.plain rfl (does_assign (.tmp 20) (.own 6) trivial), ⟨⟨rfl, trivial⟩, trivial, rfl⟩, rfl, rfl⟩ rfl ?_
  refine aw_cov (cov_prune (s1 := ⟨[(2, (.own 2)), (3, (.own 3)), (4, (.own 5)), (5, (.own 6))], [(2, some (.arr 9 v3.1.length fun j => (e_api_Wait (v3.1.getD j z_api_Wait)))), (3, some (.arr 9 v3.2.length fun j => (e_api_Wait (v3.2.getD j z_api_Wait)))), (5, some (.arr 9 v7.1.length fun j => (e_api_Wait (v7.1.getD j z_api_Wait)))), (6, some (.arr 9 v7.2.length fun j => (e_api_Wait (v7.2.getD j z_api_Wait))))], 7⟩) ⟨rfl, rfl, rfl, rfl, trivial⟩ ⟨rfl, rfl, rfl, rfl, trivial⟩ (Nat.le_refl _)) ?_
  refine aw_cov (cov_to (s1 := ⟨[(2, (.own 2)), (3, (.own 3)), (4, (.own 5)), (5, (e_s_api_Wait v7.2))], [(2, some (.arr 9 v3.1.length fun j => (e_api_Wait (v3.1.getD j z_api_Wait)))), (3, some (.arr 9 v3.2.length fun j => (e_api_Wait (v3.2.getD j z_api_Wait)))), (5, some (.arr 9 v7.1.length fun j => (e_api_Wait (v7.1.getD j z_api_Wait))))], 7⟩) (fun i => i) [6] ⟨⟨_, rfl, .own 2 _ _ (Nat.le_of_ble_eq_true rfl) rfl rfl (Box.like_refl _)⟩, ⟨_, rfl, .own 3 _ _ (Nat.le_of_ble_eq_true rfl) rfl rfl (Box.like_refl _)⟩, ⟨_, rfl, .own 5 _ _ (Nat.le_of_ble_eq_true rfl) rfl rfl (Box.like_refl _)⟩, ⟨_, rfl, .frz 6 _ _ _ rfl (fun _ => (d_api_Wait _)) (by decide)⟩, trivial⟩ ⟨⟨Nat.le_of_ble_eq_true rfl, _, _, rfl, rfl, boxTo_arr (fun _ => (d_api_Wait _))⟩, ⟨Nat.le_of_ble_eq_true rfl, _, _, rfl, rfl, boxTo_arr (fun _ => (d_api_Wait _))⟩, ⟨Nat.le_of_ble_eq_true rfl, _, _, rfl, rfl, boxTo_arr (fun _ => (d_api_Wait _))⟩, trivial⟩ rfl rfl) ?_
  obtain ⟨h9, H⟩ := ibg_of H
  obtain ⟨h10, H⟩ := ibg_of H
  obtain ⟨v11, h12, H⟩ := whn_of H
  obtain ⟨v13, h14, H⟩ := whn_of H
  refine aw_region (es := [_, _, _, _, _, _, _, _, _, _, _, _, _, _, _, _, _, _, _, _, _, _, _, _, _, _, _, _, _, _, _, _, _, _, _, _, _, _, _, _, _, _, _, _, _]) ⟨Step.plain rfl (does_move (.tmp 2) (.own 2) trivial), ⟨⟨rfl, trivial⟩, trivial, rfl⟩, rfl,
    Step.plain rfl (does_leno 22 9 v3.1.length 21 2 (fun j => (e_api_Wait (v3.1.getD j z_api_Wait))) el22), ⟨⟨rfl, trivial⟩, ⟨rfl, trivial⟩, rfl⟩, rfl,
    Step.plain rfl (does_bin .eql 3 3 (.tmp 22) (.const (.int .i64 2)) .i64 (v3.1.length : Int) 2 (.bool ((v3.1.length : Int) == 2)) trivial (fun _ => rfl) (bin_eql _ _ _ _)), ⟨⟨rfl, trivial⟩, trivial, rfl⟩, rfl,
    Step.plain rfl (does_move (.tmp 23) (.bool ((v3.1.length : Int) == 2)) trivial), ⟨⟨rfl, trivial⟩, trivial, rfl⟩, rfl,
    Step.guarded rfl rfl rfl rfl (fun hc => does_move (.tmp 2) (.own 2) trivial), ⟨⟨rfl, rfl, trivial⟩, trivial, rfl⟩, rfl,
    Step.guarded rfl rfl rfl rfl (fun hc => Does.strip (n' := [(25, (.opt ((v3.1.length : Int) == 2) (.own 2)))]) (n := [(25, (.own 2))]) ⟨(.opt _ _ hc), trivial⟩ (does_indexAddro 22 9 v3.1.length 25 2 (fun j => (e_api_Wait (v3.1.getD j z_api_Wait))) (.const (.int .i64 0)) .i64 0 el22 (fun _ => rfl) (h9 hc).1 (h9 hc).2)), ⟨⟨rfl, rfl, trivial⟩, ⟨rfl, trivial⟩, rfl⟩, rfl,
    Step.guarded rfl rfl rfl rfl (fun hc => Does.strip (n' := [(26, (.opt ((v3.1.length : Int) == 2) (.ptr 2 (0 * 9) [0])))]) (n := [(26, (.ptr 2 (0 * 9) [0]))]) ⟨(.opt _ _ hc), trivial⟩ (does_fieldAddr 47 1 3 26 2 (0 * 9) [0] (.arr 9 v3.1.length fun j => (e_api_Wait (v3.1.getD j z_api_Wait))) fl47_1)), ⟨⟨rfl, rfl, trivial⟩, ⟨rfl, trivial⟩, rfl⟩, rfl,
    Step.guarded rfl rfl rfl rfl (fun hc => Does.strip (n' := [(27, (.opt ((v3.1.length : Int) == 2) (.ptr 2 ((0 * 9) + 3) [0, 1])))]) (n := [(27, (.ptr 2 ((0 * 9) + 3) [0, 1]))]) ⟨(.opt _ _ hc), trivial⟩ (does_fieldAddr 45 5 5 27 2 ((0 * 9) + 3) [0, 1] (.arr 9 v3.1.length fun j => (e_api_Wait (v3.1.getD j z_api_Wait))) fl45_5)), ⟨⟨rfl, rfl, trivial⟩, ⟨rfl, trivial⟩, rfl⟩, rfl,
    Step.guarded rfl rfl rfl rfl (fun hc => Does.strip (n' := [(28, (.opt ((v3.1.length : Int) == 2) (.ptr 2 (((0 * 9) + 3) + 5) [0, 1, 5])))]) (n := [(28, (.ptr 2 (((0 * 9) + 3) + 5) [0, 1, 5]))]) ⟨(.opt _ _ hc), trivial⟩ (does_load 9 28 2 (((0 * 9) + 3) + 5) [0, 1, 5] (.arr 9 v3.1.length fun j => (e_api_Wait (v3.1.getD j z_api_Wait))) (.str (((v3.1.getD 0 z_api_Wait).Entry).Text)) ⟨(ixl (h9 hc)), ⟨rfl, Nat.le_of_ble_eq_true rfl, ⟨rfl, Nat.le_of_ble_eq_true rfl, trivial⟩⟩⟩ rfl rfl ty9)), ⟨⟨rfl, rfl, trivial⟩, ⟨rfl, trivial⟩, rfl⟩, rfl,
    Step.guarded rfl rfl rfl rfl (fun hc => Does.strip (n' := [(29, (.opt ((v3.1.length : Int) == 2) (.str (((v3.1.getD 0 z_api_Wait).Entry).Text))))]) (n := [(29, (.str (((v3.1.getD 0 z_api_Wait).Entry).Text)))]) ⟨(.opt _ _ hc), trivial⟩ (does_eqStr false 9 9 (.tmp 29) (.const (.string (⟨#[97]⟩ : ByteArray))) (((v3.1.getD 0 z_api_Wait).Entry).Text) (⟨#[97]⟩ : ByteArray) trivial (fun _ => rfl))), ⟨⟨rfl, rfl, trivial⟩, trivial, rfl⟩, rfl,
    Step.plain rfl (does_and 24 30 ((v3.1.length : Int) == 2) ((((v3.1.getD 0 z_api_Wait).Entry).Text) == (⟨#[97]⟩ : ByteArray))), ⟨⟨rfl, rfl, trivial⟩, trivial, rfl⟩, rfl,
    Step.plain rfl (does_move (.tmp 31) (.bool (((v3.1.length : Int) == 2) && ((((v3.1.getD 0 z_api_Wait).Entry).Text) == (⟨#[97]⟩ : ByteArray)))) trivial), ⟨⟨rfl, trivial⟩, trivial, rfl⟩, rfl,
    Step.guarded rfl rfl rfl rfl (fun hc => does_move (.tmp 2) (.own 2) trivial), ⟨⟨rfl, rfl, trivial⟩, trivial, rfl⟩, rfl,
    Step.guarded rfl rfl rfl rfl (fun hc => Does.strip (n' := [(33, (.opt (((v3.1.length : Int) == 2) && ((((v3.1.getD 0 z_api_Wait).Entry).Text) == (⟨#[97]⟩ : ByteArray))) (.own 2)))]) (n := [(33, (.own 2))]) ⟨(.opt _ _ hc), trivial⟩ (does_indexAddro 22 9 v3.1.length 33 2 (fun j => (e_api_Wait (v3.1.getD j z_api_Wait))) (.const (.int .i64 0)) .i64 0 el22 (fun _ => rfl) (h10 hc).1 (h10 hc).2)), ⟨⟨rfl, rfl, trivial⟩, ⟨rfl, trivial⟩, rfl⟩, rfl,
    Step.guarded rfl rfl rfl rfl (fun hc => Does.strip (n' := [(34, (.opt (((v3.1.length : Int) == 2) && ((((v3.1.getD 0 z_api_Wait).Entry).Text) == (⟨#[97]⟩ : ByteArray))) (.ptr 2 (0 * 9) [0])))]) (n := [(34, (.ptr 2 (0 * 9) [0]))]) ⟨(.opt _ _ hc), trivial⟩ (does_fieldAddr 47 0 0 34 2 (0 * 9) [0] (.arr 9 v3.1.length fun j => (e_api_Wait (v3.1.getD j z_api_Wait))) fl47_0)), ⟨⟨rfl, rfl, trivial⟩, ⟨rfl, trivial⟩, rfl⟩, rfl,
    Step.guarded rfl rfl rfl rfl (fun hc => Does.strip (n' := [(35, (.opt (((v3.1.length : Int) == 2) && ((((v3.1.getD 0 z_api_Wait).Entry).Text) == (⟨#[97]⟩ : ByteArray))) (.ptr 2 ((0 * 9) + 0) [0, 0])))]) (n := [(35, (.ptr 2 ((0 * 9) + 0) [0, 0]))]) ⟨(.opt _ _ hc), trivial⟩ (does_fieldAddr 42 2 2 35 2 ((0 * 9) + 0) [0, 0] (.arr 9 v3.1.length fun j => (e_api_Wait (v3.1.getD j z_api_Wait))) fl42_2)), ⟨⟨rfl, rfl, trivial⟩, ⟨rfl, trivial⟩, rfl⟩, rfl,
    Step.guarded rfl rfl rfl rfl (fun hc => Does.strip (n' := [(36, (.opt (((v3.1.length : Int) == 2) && ((((v3.1.getD 0 z_api_Wait).Entry).Text) == (⟨#[97]⟩ : ByteArray))) (.ptr 2 (((0 * 9) + 0) + 2) [0, 0, 2])))]) (n := [(36, (.ptr 2 (((0 * 9) + 0) + 2) [0, 0, 2]))]) ⟨(.opt _ _ hc), trivial⟩ (does_load 3 36 2 (((0 * 9) + 0) + 2) [0, 0, 2] (.arr 9 v3.1.length fun j => (e_api_Wait (v3.1.getD j z_api_Wait))) (.int .i64 (((v3.1.getD 0 z_api_Wait).Place).Slot)) ⟨(ixl (h10 hc)), ⟨rfl, Nat.le_of_ble_eq_true rfl, ⟨rfl, Nat.le_of_ble_eq_true rfl, trivial⟩⟩⟩ rfl rfl ty3)), ⟨⟨rfl, rfl, trivial⟩, ⟨rfl, trivial⟩, rfl⟩, rfl,
    Step.guarded rfl rfl rfl rfl (fun hc => Does.strip (n' := [(37, (.opt (((v3.1.length : Int) == 2) && ((((v3.1.getD 0 z_api_Wait).Entry).Text) == (⟨#[97]⟩ : ByteArray))) (.int .i64 (((v3.1.getD 0 z_api_Wait).Place).Slot))))]) (n := [(37, (.int .i64 (((v3.1.getD 0 z_api_Wait).Place).Slot)))]) ⟨(.opt _ _ hc), trivial⟩ (does_bin .eql 3 3 (.tmp 37) (.const (.int .i64 1)) .i64 (((v3.1.getD 0 z_api_Wait).Place).Slot) 1 (.bool ((((v3.1.getD 0 z_api_Wait).Place).Slot) == 1)) trivial (fun _ => rfl) (bin_eql _ _ _ _))), ⟨⟨rfl, rfl, trivial⟩, trivial, rfl⟩, rfl,
    Step.plain rfl (does_and 32 38 (((v3.1.length : Int) == 2) && ((((v3.1.getD 0 z_api_Wait).Entry).Text) == (⟨#[97]⟩ : ByteArray))) ((((v3.1.getD 0 z_api_Wait).Place).Slot) == 1)), ⟨⟨rfl, rfl, trivial⟩, trivial, rfl⟩, rfl,
    Step.plain rfl (does_move (.tmp 39) (.bool ((((v3.1.length : Int) == 2) && ((((v3.1.getD 0 z_api_Wait).Entry).Text) == (⟨#[97]⟩ : ByteArray))) && ((((v3.1.getD 0 z_api_Wait).Place).Slot) == 1))) trivial), ⟨⟨rfl, trivial⟩, trivial, rfl⟩, rfl,
    Step.guarded rfl rfl rfl rfl (fun hc => does_move (.tmp 3) (.own 3) trivial), ⟨⟨rfl, rfl, trivial⟩, trivial, rfl⟩, rfl,
    Step.guarded rfl rfl rfl rfl (fun hc => Does.strip (n' := [(41, (.opt ((((v3.1.length : Int) == 2) && ((((v3.1.getD 0 z_api_Wait).Entry).Text) == (⟨#[97]⟩ : ByteArray))) && ((((v3.1.getD 0 z_api_Wait).Place).Slot) == 1)) (.own 3)))]) (n := [(41, (.own 3))]) ⟨(.opt _ _ hc), trivial⟩ (does_leno 22 9 v3.2.length 41 3 (fun j => (e_api_Wait (v3.2.getD j z_api_Wait))) el22)), ⟨⟨rfl, rfl, trivial⟩, ⟨rfl, trivial⟩, rfl⟩, rfl,
    Step.guarded rfl rfl rfl rfl (fun hc => Does.strip (n' := [(42, (.opt ((((v3.1.length : Int) == 2) && ((((v3.1.getD 0 z_api_Wait).Entry).Text) == (⟨#[97]⟩ : ByteArray))) && ((((v3.1.getD 0 z_api_Wait).Place).Slot) == 1)) (.int .i64 (v3.2.length : Int))))]) (n := [(42, (.int .i64 (v3.2.length : Int)))]) ⟨(.opt _ _ hc), trivial⟩ (does_bin .eql 3 3 (.tmp 42) (.const (.int .i64 0)) .i64 (v3.2.length : Int) 0 (.bool ((v3.2.length : Int) == 0)) trivial (fun _ => rfl) (bin_eql _ _ _ _))), ⟨⟨rfl, rfl, trivial⟩, trivial, rfl⟩, rfl,
    Step.plain rfl (does_and 40 43 ((((v3.1.length : Int) == 2) && ((((v3.1.getD 0 z_api_Wait).Entry).Text) == (⟨#[97]⟩ : ByteArray))) && ((((v3.1.getD 0 z_api_Wait).Place).Slot) == 1)) ((v3.2.length : Int) == 0)), ⟨⟨rfl, rfl, trivial⟩, trivial, rfl⟩, rfl,
    Step.plain rfl (does_move (.tmp 44) (.bool (((((v3.1.length : Int) == 2) && ((((v3.1.getD 0 z_api_Wait).Entry).Text) == (⟨#[97]⟩ : ByteArray))) && ((((v3.1.getD 0 z_api_Wait).Place).Slot) == 1)) && ((v3.2.length : Int) == 0))) trivial), ⟨⟨rfl, trivial⟩, trivial, rfl⟩, rfl,
    Step.guarded rfl rfl rfl rfl (fun hc => does_move (.tmp 4) (.own 5) trivial), ⟨⟨rfl, rfl, trivial⟩, trivial, rfl⟩, rfl,
    Step.guarded rfl rfl rfl rfl (fun hc => Does.strip (n' := [(46, (.opt (((((v3.1.length : Int) == 2) && ((((v3.1.getD 0 z_api_Wait).Entry).Text) == (⟨#[97]⟩ : ByteArray))) && ((((v3.1.getD 0 z_api_Wait).Place).Slot) == 1)) && ((v3.2.length : Int) == 0)) (.own 5)))]) (n := [(46, (.own 5))]) ⟨(.opt _ _ hc), trivial⟩ (does_leno 22 9 v7.1.length 46 5 (fun j => (e_api_Wait (v7.1.getD j z_api_Wait))) el22)), ⟨⟨rfl, rfl, trivial⟩, ⟨rfl, trivial⟩, rfl⟩, rfl,
    Step.guarded rfl rfl rfl rfl (fun hc => Does.strip (n' := [(47, (.opt (((((v3.1.length : Int) == 2) && ((((v3.1.getD 0 z_api_Wait).Entry).Text) == (⟨#[97]⟩ : ByteArray))) && ((((v3.1.getD 0 z_api_Wait).Place).Slot) == 1)) && ((v3.2.length : Int) == 0)) (.int .i64 (v7.1.length : Int))))]) (n := [(47, (.int .i64 (v7.1.length : Int)))]) ⟨(.opt _ _ hc), trivial⟩ (does_bin .eql 3 3 (.tmp 47) (.const (.int .i64 0)) .i64 (v7.1.length : Int) 0 (.bool ((v7.1.length : Int) == 0)) trivial (fun _ => rfl) (bin_eql _ _ _ _))), ⟨⟨rfl, rfl, trivial⟩, trivial, rfl⟩, rfl,
    Step.plain rfl (does_and 45 48 (((((v3.1.length : Int) == 2) && ((((v3.1.getD 0 z_api_Wait).Entry).Text) == (⟨#[97]⟩ : ByteArray))) && ((((v3.1.getD 0 z_api_Wait).Place).Slot) == 1)) && ((v3.2.length : Int) == 0)) ((v7.1.length : Int) == 0)), ⟨⟨rfl, rfl, trivial⟩, trivial, rfl⟩, rfl,
    Step.plain rfl (does_move (.tmp 49) (.bool ((((((v3.1.length : Int) == 2) && ((((v3.1.getD 0 z_api_Wait).Entry).Text) == (⟨#[97]⟩ : ByteArray))) && ((((v3.1.getD 0 z_api_Wait).Place).Slot) == 1)) && ((v3.2.length : Int) == 0)) && ((v7.1.length : Int) == 0))) trivial), ⟨⟨rfl, trivial⟩, trivial, rfl⟩, rfl,
    Step.guarded rfl rfl rfl rfl (fun hc => does_move (.tmp 5) (e_s_api_Wait v7.2) trivial), ⟨⟨rfl, rfl, trivial⟩, trivial, rfl⟩, rfl,
    Step.guarded rfl rfl rfl rfl (fun hc => Does.strip (n' := [(51, (.opt ((((((v3.1.length : Int) == 2) && ((((v3.1.getD 0 z_api_Wait).Entry).Text) == (⟨#[97]⟩ : ByteArray))) && ((((v3.1.getD 0 z_api_Wait).Place).Slot) == 1)) && ((v3.2.length : Int) == 0)) && ((v7.1.length : Int) == 0)) (e_s_api_Wait v7.2)))]) (n := [(51, (e_s_api_Wait v7.2))]) ⟨(.opt _ _ hc), trivial⟩ (does_lens 22 9 v7.2.length 51 (fun j => (e_api_Wait (v7.2.getD j z_api_Wait))) el22)), ⟨⟨rfl, rfl, trivial⟩, trivial, rfl⟩, rfl,
    Step.guarded rfl rfl rfl rfl (fun hc => Does.strip (n' := [(52, (.opt ((((((v3.1.length : Int) == 2) && ((((v3.1.getD 0 z_api_Wait).Entry).Text) == (⟨#[97]⟩ : ByteArray))) && ((((v3.1.getD 0 z_api_Wait).Place).Slot) == 1)) && ((v3.2.length : Int) == 0)) && ((v7.1.length : Int) == 0)) (.int .i64 (v7.2.length : Int))))]) (n := [(52, (.int .i64 (v7.2.length : Int)))]) ⟨(.opt _ _ hc), trivial⟩ (does_bin .eql 3 3 (.tmp 52) (.const (.int .i64 2)) .i64 (v7.2.length : Int) 2 (.bool ((v7.2.length : Int) == 2)) trivial (fun _ => rfl) (bin_eql _ _ _ _))), ⟨⟨rfl, rfl, trivial⟩, trivial, rfl⟩, rfl,
    Step.plain rfl (does_and 50 53 ((((((v3.1.length : Int) == 2) && ((((v3.1.getD 0 z_api_Wait).Entry).Text) == (⟨#[97]⟩ : ByteArray))) && ((((v3.1.getD 0 z_api_Wait).Place).Slot) == 1)) && ((v3.2.length : Int) == 0)) && ((v7.1.length : Int) == 0)) ((v7.2.length : Int) == 2)), ⟨⟨rfl, rfl, trivial⟩, trivial, rfl⟩, rfl,
    Step.plain rfl (does_move (.tmp 54) (.bool (((((((v3.1.length : Int) == 2) && ((((v3.1.getD 0 z_api_Wait).Entry).Text) == (⟨#[97]⟩ : ByteArray))) && ((((v3.1.getD 0 z_api_Wait).Place).Slot) == 1)) && ((v3.2.length : Int) == 0)) && ((v7.1.length : Int) == 0)) && ((v7.2.length : Int) == 2))) trivial), ⟨⟨rfl, trivial⟩, trivial, rfl⟩, rfl,
    Step.guarded rfl rfl rfl rfl (fun hc => does_move (.tmp 5) (e_s_api_Wait v7.2) trivial), ⟨⟨rfl, rfl, trivial⟩, trivial, rfl⟩, rfl,
    Step.guarded rfl rfl rfl rfl (fun hc => Does.strip (n' := [(56, (.opt (((((((v3.1.length : Int) == 2) && ((((v3.1.getD 0 z_api_Wait).Entry).Text) == (⟨#[97]⟩ : ByteArray))) && ((((v3.1.getD 0 z_api_Wait).Place).Slot) == 1)) && ((v3.2.length : Int) == 0)) && ((v7.1.length : Int) == 0)) && ((v7.2.length : Int) == 2)) (e_s_api_Wait v7.2)))]) (n := [(56, (e_s_api_Wait v7.2))]) ⟨(.opt _ _ hc), trivial⟩ (does_call 15 0 (fun _ => .any) (.func 15) [(.tmp 56)] [(e_s_api_Wait v7.2)] [] true [(e_s_api_Wait v7.2)] (.bool v11) _ _ rfl fo15 rfl ⟨trivial, trivial⟩ ⟨.data _ (d_s_api_Wait v7.2), trivial⟩ (queue_May_spec v7.2 _ (h12 hc)) trivial)), ⟨⟨rfl, rfl, trivial⟩, trivial, rfl⟩, rfl,
    Step.plain rfl (does_and 55 57 (((((((v3.1.length : Int) == 2) && ((((v3.1.getD 0 z_api_Wait).Entry).Text) == (⟨#[97]⟩ : ByteArray))) && ((((v3.1.getD 0 z_api_Wait).Place).Slot) == 1)) && ((v3.2.length : Int) == 0)) && ((v7.1.length : Int) == 0)) && ((v7.2.length : Int) == 2)) v11), ⟨⟨rfl, rfl, trivial⟩, trivial, rfl⟩, rfl,
    Step.plain rfl (does_move (.tmp 58) (.bool ((((((((v3.1.length : Int) == 2) && ((((v3.1.getD 0 z_api_Wait).Entry).Text) == (⟨#[97]⟩ : ByteArray))) && ((((v3.1.getD 0 z_api_Wait).Place).Slot) == 1)) && ((v3.2.length : Int) == 0)) && ((v7.1.length : Int) == 0)) && ((v7.2.length : Int) == 2)) && v11)) trivial), ⟨⟨rfl, trivial⟩, trivial, rfl⟩, rfl,
    Step.guarded rfl rfl rfl rfl (fun hc => does_move (.tmp 5) (e_s_api_Wait v7.2) trivial), ⟨⟨rfl, rfl, trivial⟩, trivial, rfl⟩, rfl,
    Step.guarded rfl rfl rfl rfl (fun hc => Does.strip (n' := [(60, (.opt ((((((((v3.1.length : Int) == 2) && ((((v3.1.getD 0 z_api_Wait).Entry).Text) == (⟨#[97]⟩ : ByteArray))) && ((((v3.1.getD 0 z_api_Wait).Place).Slot) == 1)) && ((v3.2.length : Int) == 0)) && ((v7.1.length : Int) == 0)) && ((v7.2.length : Int) == 2)) && v11) (e_s_api_Wait v7.2)))]) (n := [(60, (e_s_api_Wait v7.2))]) ⟨(.opt _ _ hc), trivial⟩ (does_call 14 0 (fun _ => .any) (.func 14) [(.tmp 60)] [(e_s_api_Wait v7.2)] [] false [(e_s_api_Wait v7.2)] (e_s_api_Wait v13) _ _ rfl fo14 rfl ⟨trivial, trivial⟩ ⟨.data _ (d_s_api_Wait v7.2), trivial⟩ (queue_Flush_data v7.2 _ (h14 hc)) (d_s_api_Wait v13))), ⟨⟨rfl, rfl, trivial⟩, trivial, rfl⟩, rfl,
    Step.guarded rfl rfl rfl rfl (fun hc => Does.strip (n' := [(61, (.opt ((((((((v3.1.length : Int) == 2) && ((((v3.1.getD 0 z_api_Wait).Entry).Text) == (⟨#[97]⟩ : ByteArray))) && ((((v3.1.getD 0 z_api_Wait).Place).Slot) == 1)) && ((v3.2.length : Int) == 0)) && ((v7.1.length : Int) == 0)) && ((v7.2.length : Int) == 2)) && v11) (e_s_api_Wait v13)))]) (n := [(61, (e_s_api_Wait v13))]) ⟨(.opt _ _ hc), trivial⟩ (does_lens 22 9 v13.length 61 (fun j => (e_api_Wait (v13.getD j z_api_Wait))) el22)), ⟨⟨rfl, rfl, trivial⟩, trivial, rfl⟩, rfl,
    Step.guarded rfl rfl rfl rfl (fun hc => Does.strip (n' := [(62, (.opt ((((((((v3.1.length : Int) == 2) && ((((v3.1.getD 0 z_api_Wait).Entry).Text) == (⟨#[97]⟩ : ByteArray))) && ((((v3.1.getD 0 z_api_Wait).Place).Slot) == 1)) && ((v3.2.length : Int) == 0)) && ((v7.1.length : Int) == 0)) && ((v7.2.length : Int) == 2)) && v11) (.int .i64 (v13.length : Int))))]) (n := [(62, (.int .i64 (v13.length : Int)))]) ⟨(.opt _ _ hc), trivial⟩ (does_bin .eql 3 3 (.tmp 62) (.const (.int .i64 2)) .i64 (v13.length : Int) 2 (.bool ((v13.length : Int) == 2)) trivial (fun _ => rfl) (bin_eql _ _ _ _))), ⟨⟨rfl, rfl, trivial⟩, trivial, rfl⟩, rfl,
    Step.plain rfl (does_and 59 63 ((((((((v3.1.length : Int) == 2) && ((((v3.1.getD 0 z_api_Wait).Entry).Text) == (⟨#[97]⟩ : ByteArray))) && ((((v3.1.getD 0 z_api_Wait).Place).Slot) == 1)) && ((v3.2.length : Int) == 0)) && ((v7.1.length : Int) == 0)) && ((v7.2.length : Int) == 2)) && v11) ((v13.length : Int) == 2)), ⟨⟨rfl, rfl, trivial⟩, trivial, rfl⟩, rfl,
    Step.plain rfl (does_assign (.tmp 64) (.bool (((((((((v3.1.length : Int) == 2) && ((((v3.1.getD 0 z_api_Wait).Entry).Text) == (⟨#[97]⟩ : ByteArray))) && ((((v3.1.getD 0 z_api_Wait).Place).Slot) == 1)) && ((v3.2.length : Int) == 0)) && ((v7.1.length : Int) == 0)) && ((v7.2.length : Int) == 2)) && v11) && ((v13.length : Int) == 2))) trivial), ⟨⟨rfl, trivial⟩, trivial, rfl⟩, rfl, rfl⟩ ?_
  obtain ⟨v15, hv15, H⟩ := lt_of H
  refine aw_cov (cov_prune (s1 := ⟨[(0, (.bool v15))], [], 7⟩) ⟨(by subst hv15; rfl), trivial⟩ trivial (Nat.le_refl _)) ?_
  refine aw_ret ?_
  exact fun a w hr => ⟨_, [(.bool v15)], hr, ⟨⟨_, rfl, .data (.bool v15) trivial⟩, trivial⟩, by decide, by cases H; rfl⟩

theorem congressref07_List_spec (p0 : (Nat → Int)) (r : (_root_.List Int)) (H : congressref07_List p0 = some r) : FSpecO Try.prog 48 [(e_a8_u32 p0)] [] 0 (.own 0) [(0, some (.arr 1 r.length fun j => (.int .i64 (r.getD j 0))))] 1 := by
  refine specO_of (fn := Try.f48) (args := [(e_a8_u32 p0)]) Try.func48 rfl (Nat.le_of_ble_eq_true rfl) ?_
  rintro ⟨G, w0, W, S, Sp⟩ hG
  cases hG
  unfold congressref07_List at H
  refine aw_region (es := [_, _]) ⟨Step.plain rfl (does_box 29 (.tmp 0) 0 (e_a8_u32 p0) trivial rfl), ⟨⟨rfl, trivial⟩, trivial, rfl⟩, rfl,
    Step.plain rfl (does_nil false 1 1 (fun j => (.int .i64 (([] : _root_.List Int).getD j 0)))), ⟨trivial, trivial, rfl⟩, rfl, rfl⟩ ?_
  refine aw_cov (cov_prune (s1 := ⟨[(1, (.ptr 0 0 []))], [(0, some (.var (e_a8_u32 p0)))], 2⟩) ⟨rfl, trivial⟩ ⟨rfl, trivial⟩ (Nat.le_refl _)) ?_
  refine aw_region (es := [_, _]) ⟨Step.plain rfl (does_buildOwn 72 0 1 2 (.int .i64 0) (fun j => (.int .i64 (([] : _root_.List Int).getD j 0))) #[] [] [] rfl so72 (by decide) trivial trivial (fun j h => match j, h with  | k + 0, h => absurd h (by omega))), ⟨trivial, trivial, rfl⟩, rfl,
    Step.plain rfl (does_assign (.tmp 5) (.own 2) trivial), ⟨⟨rfl, trivial⟩, trivial, rfl⟩, rfl, rfl⟩ ?_
  refine aw_cov (cov_prune (s1 := ⟨[(1, (.ptr 0 0 [])), (3, (.own 2))], [(0, some (.var (e_a8_u32 p0))), (2, some (.arr 1 ([] : _root_.List Int).length fun j => (.int .i64 (([] : _root_.List Int).getD j 0))))], 3⟩) ⟨rfl, rfl, trivial⟩ ⟨rfl, rfl, trivial⟩ (Nat.le_refl _)) ?_
  refine aw_seq ?_
  refine aw_region (es := [_]) ⟨Step.plain rfl (does_assign (.const (.int .i64 0)) (.int .i64 0) (fun _ => rfl)), ⟨trivial, trivial, rfl⟩, rfl, rfl⟩ ?_
  refine aw_cov (cov_prune (s1 := ⟨[(1, (.ptr 0 0 [])), (3, (.own 2)), (4, (.int .i64 0))], [(0, some (.var (e_a8_u32 p0))), (2, some (.arr 1 ([] : _root_.List Int).length fun j => (.int .i64 (([] : _root_.List Int).getD j 0))))], 3⟩) ⟨rfl, rfl, rfl, trivial⟩ ⟨rfl, rfl, trivial⟩ (Nat.le_refl _)) ?_
  obtain ⟨wn2, hwn2, Hrn2⟩ := bnd H
  refine aw_meet (fun y7 : _root_.List Int => (⟨[(3, (.own 2))], [(2, some (.arr 1 y7.length fun j => (.int .i64 (y7.getD j 0))))], 3⟩ : St)) (fun y7 => Fl.nx y7 = wn2) (fun y7 hy => ?_) (aw_block (aw_runs (fun x1 : Int × _root_.List Int => (⟨[(1, (.ptr 0 0 [])), (3, (.own 2)), (4, (.int .i64 x1.1))], [(0, some (.var (e_a8_u32 p0))), (2, some (.arr 1 x1.2.length fun j => (.int .i64 (x1.2.getD j 0))))], 3⟩ : St)) hwn2 (cov_prune ⟨rfl, rfl, rfl, trivial⟩ ⟨rfl, rfl, trivial⟩ (Nat.le_of_ble_eq_true rfl)) (fun x1 st H hsn2 => ?_)))
  · have H := nx_of hy Hrn2
    refine nx_seq ?_
    refine aw_region (es := [_, _]) ⟨Step.plain rfl (does_move (.tmp 3) (.own 2) trivial), ⟨⟨rfl, trivial⟩, trivial, rfl⟩, rfl,
      Step.plain rfl (does_assign (.tmp 18) (.own 2) trivial), ⟨⟨rfl, trivial⟩, trivial, rfl⟩, rfl, rfl⟩ ?_
    refine aw_cov (cov_prune (s1 := ⟨[(2, (.own 2))], [(2, some (.arr 1 y7.length fun j => (.int .i64 (y7.getD j 0))))], 3⟩) ⟨rfl, trivial⟩ ⟨rfl, trivial⟩ (Nat.le_refl _)) ?_
    refine aw_ret ?_
    exact fun a w hr => ⟨_, [(.own 0)], reach_of hr (cov_to (s1 := ⟨[(2, (.own 0))], [(0, some (.arr 1 y7.length fun j => (.int .i64 (y7.getD j 0))))], 1⟩) (fun i => match i with | 0 => 2 | k => k) [] ⟨⟨_, rfl, .own 0 _ _ (Nat.le_of_ble_eq_true rfl) rfl rfl (Box.like_refl _)⟩, trivial⟩ ⟨⟨Nat.le_of_ble_eq_true rfl, _, _, rfl, rfl, boxTo_arr (fun _ => trivial)⟩, trivial⟩ rfl rfl), ⟨rfl, trivial⟩, by decide, by cases H; rfl, by cases H; exact ⟨rfl, trivial⟩, Nat.le_of_ble_eq_true rfl⟩
  · refine aw_seq ?_
    refine aw_region (es := [_, _]) ⟨Step.plain rfl (does_move (.tmp 4) (.int .i64 x1.1) trivial), ⟨⟨rfl, trivial⟩, trivial, rfl⟩, rfl,
      Step.plain rfl (does_bin .lss 3 3 (.tmp 6) (.const (.int .i64 8)) .i64 x1.1 8 (.bool (decide (x1.1 < 8))) trivial (fun _ => rfl) (bin_lss _ _ _ _)), ⟨⟨rfl, trivial⟩, trivial, rfl⟩, rfl, rfl⟩ ?_
    refine aw_cov (cov_prune (s1 := ⟨[(1, (.ptr 0 0 [])), (3, (.own 2)), (4, (.int .i64 x1.1)), (7, (.bool (decide (x1.1 < 8))))], [(0, some (.var (e_a8_u32 p0))), (2, some (.arr 1 x1.2.length fun j => (.int .i64 (x1.2.getD j 0))))], 3⟩) ⟨rfl, rfl, rfl, rfl, trivial⟩ ⟨rfl, rfl, trivial⟩ (Nat.le_refl _)) ?_
    refine aw_cond rfl (fun hc => ?_) (fun hc => ?_)
    · replace H := ite_t hc H
      refine aw_skip ?_
      refine nx_seq ?_
      refine aw_seq ?_
      refine aw_jn (fun x6 : _root_.List Int => (⟨[(1, (.ptr 0 0 [])), (3, (.own 2)), (4, (.int .i64 x1.1))], [(0, some (.var (e_a8_u32 p0))), (2, some (.arr 1 x6.length fun j => (.int .i64 (x6.getD j 0))))], 4⟩ : St)) H (fun x6 H => ?_) (fun j3 H => ?_)
      · refine nx_seq ?_
        refine aw_region1 (es := [_, _, _]) ⟨Step.plain rfl (does_move (.tmp 4) (.int .i64 x1.1) trivial), ⟨⟨rfl, trivial⟩, trivial, rfl⟩, rfl,
          Step.plain rfl (does_bin .add 3 3 (.tmp 8) (.const (.int .i64 1)) .i64 x1.1 1 (.int .i64 (IntKind.i64.wrap (x1.1 + 1))) trivial (fun _ => rfl) (bin_add _ _ _ _)), ⟨⟨rfl, trivial⟩, trivial, rfl⟩, rfl,
          Step.plain rfl (does_assign (.tmp 9) (.int .i64 (IntKind.i64.wrap (x1.1 + 1))) trivial), ⟨⟨rfl, trivial⟩, trivial, rfl⟩, rfl, rfl⟩ ?_
        exact nx_loop ((IntKind.i64.wrap (x1.1 + 1)), x6) H (cov_of (fun i => match i with | 0 => 0 | 2 => 2 | k => k) ⟨⟨_, rfl, ⟨rfl, Nat.le_of_ble_eq_true rfl⟩⟩, ⟨_, rfl, ⟨rfl, Nat.le_of_ble_eq_true rfl⟩⟩, ⟨_, rfl, ⟨rfl, trivial⟩⟩, trivial⟩ ⟨⟨Nat.le_of_ble_eq_true rfl, _, _, rfl, rfl, .inl ⟨rfl, (d_a8_u32 _).plain⟩⟩, ⟨Nat.le_of_ble_eq_true rfl, _, _, rfl, rfl, ⟨rfl, rfl, fun _ => ⟨rfl, trivial⟩⟩⟩, trivial⟩ rfl)
      · refine aw_block ?_
        obtain ⟨h4, H⟩ := ib_of H
        refine aw_region (es := [_, _, _, _]) ⟨Step.plain rfl (does_move (.tmp 4) (.int .i64 x1.1) trivial), ⟨⟨rfl, trivial⟩, trivial, rfl⟩, rfl,
          Step.plain rfl (does_indexAddr 29 8 1 1 0 0 [] (.var (e_a8_u32 p0)) (.tmp 10) .i64 x1.1 el29 trivial h4.1 h4.2), ⟨⟨rfl, rfl, trivial⟩, ⟨rfl, trivial⟩, rfl⟩, rfl,
          Step.plain rfl (does_load 23 11 0 (0 + x1.1.toNat * 1) [x1.1.toNat] (.var (e_a8_u32 p0)) (.int .u32 (p0 x1.1.toNat)) ⟨rfl, (ixl h4), trivial⟩ rfl rfl ty23), ⟨⟨rfl, trivial⟩, ⟨rfl, trivial⟩, rfl⟩, rfl,
          Step.plain rfl (does_bin .gtr 23 23 (.tmp 12) (.const (.int .u32 0)) .u32 (p0 x1.1.toNat) 0 (.bool (decide ((p0 x1.1.toNat) > 0))) trivial (fun _ => rfl) (bin_gtr _ _ _ _)), ⟨⟨rfl, trivial⟩, trivial, rfl⟩, rfl, rfl⟩ ?_
        refine aw_cov (cov_prune (s1 := ⟨[(1, (.ptr 0 0 [])), (3, (.own 2)), (4, (.int .i64 x1.1)), (13, (.bool (decide ((p0 x1.1.toNat) > 0))))], [(0, some (.var (e_a8_u32 p0))), (2, some (.arr 1 x1.2.length fun j => (.int .i64 (x1.2.getD j 0))))], 3⟩) ⟨rfl, rfl, rfl, rfl, trivial⟩ ⟨rfl, rfl, trivial⟩ (Nat.le_refl _)) ?_
        refine aw_cond rfl (fun hc => ?_) (fun hc => ?_)
        · replace H := ite_t hc H
          obtain ⟨h5, H⟩ := fit_of H
          refine aw_region1 (es := [_, _, _, _, _]) ⟨Step.plain rfl (does_move (.tmp 3) (.own 2) trivial), ⟨⟨rfl, trivial⟩, trivial, rfl⟩, rfl,
            Step.plain rfl (does_move (.tmp 4) (.int .i64 x1.1) trivial), ⟨⟨rfl, trivial⟩, trivial, rfl⟩, rfl,
            Step.plain rfl (does_buildSl 72 1 1 (.int .i64 0) (fun j => (.int .i64 (([x1.1] : _root_.List Int).getD j 0))) #[(0, (.tmp 15))] [(0, (.tmp 15))] [(0, (.int .i64 x1.1))] rfl so72 (by decide) ⟨⟨rfl, trivial⟩, trivial⟩ ⟨⟨Nat.le_of_ble_eq_true rfl, rfl, rfl⟩, trivial⟩ (fun j h => match j, h with | 0, _ => rfl | k + 1, h => absurd h (by omega))), ⟨⟨rfl, trivial⟩, trivial, rfl⟩, rfl,
            Step.plain rfl (does_appendL (fun z => V.int .i64 z) 0 x1.2 ([x1.1] : _root_.List Int) 72 1 8 2 3 14 16 ap72 h5), ⟨⟨rfl, rfl, trivial⟩, ⟨rfl, trivial⟩, rfl⟩, rfl,
            Step.plain rfl (does_assign (.tmp 17) (.own 3) trivial), ⟨⟨rfl, trivial⟩, trivial, rfl⟩, rfl, rfl⟩ ?_
          refine nx_blk ?_
          exact nx_join ((x1.2 ++ ([x1.1] : _root_.List Int))) H (cov_of (fun i => match i with | 0 => 0 | 2 => 3 | k => k) ⟨⟨_, rfl, ⟨rfl, Nat.le_of_ble_eq_true rfl⟩⟩, ⟨_, rfl, ⟨rfl, Nat.le_of_ble_eq_true rfl⟩⟩, ⟨_, rfl, ⟨rfl, trivial⟩⟩, trivial⟩ ⟨⟨Nat.le_of_ble_eq_true rfl, _, _, rfl, rfl, .inl ⟨rfl, (d_a8_u32 _).plain⟩⟩, ⟨Nat.le_of_ble_eq_true rfl, _, _, rfl, rfl, ⟨rfl, rfl, fun _ => ⟨rfl, trivial⟩⟩⟩, trivial⟩ rfl)
        · replace H := ite_f hc H
          refine aw_skip ?_
          refine nx_blk ?_
          exact nx_join (x1.2) H (cov_of (fun i => match i with | 0 => 0 | 2 => 2 | k => k) ⟨⟨_, rfl, ⟨rfl, Nat.le_of_ble_eq_true rfl⟩⟩, ⟨_, rfl, ⟨rfl, Nat.le_of_ble_eq_true rfl⟩⟩, ⟨_, rfl, ⟨rfl, trivial⟩⟩, trivial⟩ ⟨⟨Nat.le_of_ble_eq_true rfl, _, _, rfl, rfl, .inl ⟨rfl, (d_a8_u32 _).plain⟩⟩, ⟨Nat.le_of_ble_eq_true rfl, _, _, rfl, rfl, ⟨rfl, rfl, fun _ => ⟨rfl, trivial⟩⟩⟩, trivial⟩ rfl)
    · replace H := ite_f hc H
      refine aw_exit ?_
      refine ex_then ?_
      refine ex_then ?_
      refine ex_here ?_
      exact nx_ljoin (x1.2) H hsn2 (cov_prune ⟨rfl, trivial⟩ ⟨rfl, trivial⟩ (Nat.le_of_ble_eq_true rfl))

theorem congressref07_List_data (p0 : (Nat → Int)) (r : (_root_.List Int)) (H : congressref07_List p0 = some r) : FSpec Try.prog 48 [(e_a8_u32 p0)] (e_s_i64 r) :=
  FSpecO.toData (fz := [0]) (congressref07_List_spec p0 r H) (d_s_i64 r) (.frz 0 _ _ _ rfl (fun _ => trivial) (by decide))

theorem congressref09_Full_spec (p0 : (Nat → Int)) (p1 : (Nat → Int)) (p2 : Int) (r : Bool) (H : congressref09_Full p0 p1 p2 = some r) : FSpec Try.prog 43 [(e_a8_u32 p0), (e_a8_u32 p1), (.int .u64 p2)] (.bool r) := by
  refine spec_of (fn := Try.f43) (args := [(e_a8_u32 p0), (e_a8_u32 p1), (.int .u64 p2)]) Try.func43 rfl (Nat.le_of_ble_eq_true rfl) ?_
  rintro ⟨G, w0, W, S, Sp⟩ hG
  cases hG
  unfold congressref09_Full at H
  refine aw_region (es := [_, _, _]) ⟨Step.plain rfl (does_box 28 (.tmp 0) 0 (e_a8_u32 p0) trivial rfl), ⟨⟨rfl, trivial⟩, trivial, rfl⟩, rfl,
    Step.plain rfl (does_box 29 (.tmp 1) 1 (e_a8_u32 p1) trivial rfl), ⟨⟨rfl, trivial⟩, trivial, rfl⟩, rfl,
    Step.plain rfl (does_assign (.const (.bool false)) (.bool false) (fun _ => rfl)), ⟨trivial, trivial, rfl⟩, rfl, rfl⟩ ?_
  refine aw_cov (cov_prune (s1 := ⟨[(2, (.int .u64 p2)), (3, (.ptr 0 0 [])), (4, (.ptr 1 0 []))], [(0, some (.var (e_a8_u32 p0))), (1, some (.var (e_a8_u32 p1)))], 2⟩) ⟨rfl, rfl, rfl, trivial⟩ ⟨rfl, rfl, trivial⟩ (Nat.le_refl _)) ?_
  obtain ⟨v1, h2, H⟩ := bnd H
  refine aw_region (es := [_, _, _]) ⟨Step.plain rfl (does_load 29 4 1 0 [] (.var (e_a8_u32 p1)) (e_a8_u32 p1) trivial rfl rfl ty29), ⟨⟨rfl, trivial⟩, ⟨rfl, trivial⟩, rfl⟩, rfl,
    Step.plain rfl (does_callO 48 0 (fun _ => .any) (.func 48) [(.tmp 9)] [(e_a8_u32 p1)] [] [] true [(e_a8_u32 p1)] _ (.own 2) _ 2 1 _ _ rfl fo48 rfl ⟨trivial, trivial⟩ ⟨.ro _ _ (.data _ (d_a8_u32 p1)), trivial⟩ (congressref07_List_spec p1 _ h2) rfl (by simp) rfl trivial ⟨⟨Nat.le_of_ble_eq_true rfl, _, rfl, fun _ => trivial⟩, trivial⟩ (.own 0 (Nat.le_of_ble_eq_true rfl))), ⟨⟨rfl, trivial⟩, trivial, rfl⟩, rfl,
    Step.plain rfl (does_assign (.tmp 10) (.own 2) trivial), ⟨⟨rfl, trivial⟩, trivial, rfl⟩, rfl, rfl⟩ ?_
  refine aw_cov (cov_prune (s1 := ⟨[(2, (.int .u64 p2)), (3, (.ptr 0 0 [])), (7, (.own 2))], [(0, some (.var (e_a8_u32 p0))), (2, some (.arr 1 v1.length fun j => (.int .i64 (v1.getD j 0))))], 3⟩) ⟨rfl, rfl, rfl, trivial⟩ ⟨rfl, rfl, trivial⟩ (Nat.le_refl _)) ?_
  refine aw_seq ?_
  refine aw_region (es := [_]) ⟨Step.plain rfl (does_assign (.const (.int .i64 0)) (.int .i64 0) (fun _ => rfl)), ⟨trivial, trivial, rfl⟩, rfl, rfl⟩ ?_
  refine aw_cov (cov_prune (s1 := ⟨[(2, (.int .u64 p2)), (3, (.ptr 0 0 [])), (7, (.own 2)), (8, (.int .i64 0))], [(0, some (.var (e_a8_u32 p0))), (2, some (.arr 1 v1.length fun j => (.int .i64 (v1.getD j 0))))], 3⟩) ⟨rfl, rfl, rfl, rfl, trivial⟩ ⟨rfl, rfl, trivial⟩ (Nat.le_refl _)) ?_
  obtain ⟨wn4, hwn4, Hrn4⟩ := bnd H
  refine aw_meet (fun y7 : Unit => (⟨[], [], 3⟩ : St)) (fun y7 => Fl.nx y7 = wn4) (fun y7 hy => ?_) (aw_block (aw_runs (fun x3 : Int => (⟨[(2, (.int .u64 p2)), (3, (.ptr 0 0 [])), (7, (.own 2)), (8, (.int .i64 x3))], [(0, some (.var (e_a8_u32 p0))), (2, some (.arr 1 v1.length fun j => (.int .i64 (v1.getD j 0))))], 3⟩ : St)) hwn4 (cov_prune ⟨rfl, rfl, rfl, rfl, trivial⟩ ⟨rfl, rfl, trivial⟩ (Nat.le_of_ble_eq_true rfl)) (fun x3 st H hsn4 => ?_)))
  · have H := nx_of hy Hrn4
    refine nx_seq ?_
    refine aw_region (es := [_]) ⟨Step.plain rfl (does_assign (.const (.bool true)) (.bool true) (fun _ => rfl)), ⟨trivial, trivial, rfl⟩, rfl, rfl⟩ ?_
    refine aw_cov (cov_prune (s1 := ⟨[(6, (.bool true))], [], 3⟩) ⟨rfl, trivial⟩ trivial (Nat.le_refl _)) ?_
    refine aw_ret ?_
    exact fun a w hr => ⟨_, [(.bool true)], hr, ⟨⟨_, rfl, .data (.bool true) trivial⟩, trivial⟩, by decide, by cases H; rfl⟩
  · refine aw_seq ?_
    refine aw_region (es := [_, _, _, _]) ⟨Step.plain rfl (does_move (.tmp 8) (.int .i64 x3) trivial), ⟨⟨rfl, trivial⟩, trivial, rfl⟩, rfl,
      Step.plain rfl (does_move (.tmp 7) (.own 2) trivial), ⟨⟨rfl, trivial⟩, trivial, rfl⟩, rfl,
      Step.plain rfl (does_leno 72 1 v1.length 12 2 (fun j => (.int .i64 (v1.getD j 0))) el72), ⟨⟨rfl, trivial⟩, ⟨rfl, trivial⟩, rfl⟩, rfl,
      Step.plain rfl (does_bin .lss 3 3 (.tmp 11) (.tmp 13) .i64 x3 (v1.length : Int) (.bool (decide (x3 < (v1.length : Int)))) trivial trivial (bin_lss _ _ _ _)), ⟨⟨rfl, rfl, trivial⟩, trivial, rfl⟩, rfl, rfl⟩ ?_
    refine aw_cov (cov_prune (s1 := ⟨[(2, (.int .u64 p2)), (3, (.ptr 0 0 [])), (7, (.own 2)), (8, (.int .i64 x3)), (14, (.bool (decide (x3 < (v1.length : Int)))))], [(0, some (.var (e_a8_u32 p0))), (2, some (.arr 1 v1.length fun j => (.int .i64 (v1.getD j 0))))], 3⟩) ⟨rfl, rfl, rfl, rfl, rfl, trivial⟩ ⟨rfl, rfl, trivial⟩ (Nat.le_refl _)) ?_
    refine aw_cond rfl (fun hc => ?_) (fun hc => ?_)
    · replace H := ite_t hc H
      refine aw_skip ?_
      refine nx_seq ?_
      refine aw_seq ?_
      refine aw_block ?_
      obtain ⟨h5, H⟩ := ib_of H
      obtain ⟨h6, H⟩ := ib_of H
      refine aw_region (es := [_, _, _, _, _, _, _, _, _]) ⟨Step.plain rfl (does_move (.tmp 7) (.own 2) trivial), ⟨⟨rfl, trivial⟩, trivial, rfl⟩, rfl,
        Step.plain rfl (does_move (.tmp 8) (.int .i64 x3) trivial), ⟨⟨rfl, trivial⟩, trivial, rfl⟩, rfl,
        Step.plain rfl (does_indexAddro 72 1 v1.length 17 2 (fun j => (.int .i64 (v1.getD j 0))) (.tmp 18) .i64 x3 el72 trivial h5.1 h5.2), ⟨⟨rfl, rfl, trivial⟩, ⟨rfl, trivial⟩, rfl⟩, rfl,
        Step.plain rfl (does_load 3 19 2 (x3.toNat * 1) [x3.toNat] (.arr 1 v1.length fun j => (.int .i64 (v1.getD j 0))) (.int .i64 (v1.getD x3.toNat 0)) ⟨(ixl h5), trivial⟩ rfl rfl ty3), ⟨⟨rfl, trivial⟩, ⟨rfl, trivial⟩, rfl⟩, rfl,
        Step.plain rfl (does_indexAddr 28 8 1 3 0 0 [] (.var (e_a8_u32 p0)) (.tmp 20) .i64 (v1.getD x3.toNat 0) el28 trivial h6.1 h6.2), ⟨⟨rfl, rfl, trivial⟩, ⟨rfl, trivial⟩, rfl⟩, rfl,
        Step.plain rfl (does_load 23 21 0 (0 + (v1.getD x3.toNat 0).toNat * 1) [(v1.getD x3.toNat 0).toNat] (.var (e_a8_u32 p0)) (.int .u32 (p0 ((v1.getD x3.toNat 0).toNat))) ⟨rfl, (ixl h6), trivial⟩ rfl rfl ty23), ⟨⟨rfl, trivial⟩, ⟨rfl, trivial⟩, rfl⟩, rfl,
        Step.plain rfl (does_convInt 23 43 (.tmp 22) .u32 .u64 (p0 ((v1.getD x3.toNat 0).toNat)) trivial rfl rfl), ⟨⟨rfl, trivial⟩, trivial, rfl⟩, rfl,
        Step.plain rfl (does_move (.tmp 2) (.int .u64 p2) trivial), ⟨⟨rfl, trivial⟩, trivial, rfl⟩, rfl,
        Step.plain rfl (does_bin .lss 43 43 (.tmp 23) (.tmp 24) .u64 (IntKind.u64.wrap (p0 ((v1.getD x3.toNat 0).toNat))) p2 (.bool (decide ((IntKind.u64.wrap (p0 ((v1.getD x3.toNat 0).toNat))) < p2))) trivial trivial (bin_lss _ _ _ _)), ⟨⟨rfl, rfl, trivial⟩, trivial, rfl⟩, rfl, rfl⟩ ?_
      refine aw_cov (cov_prune (s1 := ⟨[(2, (.int .u64 p2)), (3, (.ptr 0 0 [])), (7, (.own 2)), (8, (.int .i64 x3)), (25, (.bool (decide ((IntKind.u64.wrap (p0 ((v1.getD x3.toNat 0).toNat))) < p2))))], [(0, some (.var (e_a8_u32 p0))), (2, some (.arr 1 v1.length fun j => (.int .i64 (v1.getD j 0))))], 3⟩) ⟨rfl, rfl, rfl, rfl, rfl, trivial⟩ ⟨rfl, rfl, trivial⟩ (Nat.le_refl _)) ?_
      refine aw_cond rfl (fun hc => ?_) (fun hc => ?_)
      · replace H := ite_t hc H
        refine aw_region (es := [_]) ⟨Step.plain rfl (does_assign (.const (.bool false)) (.bool false) (fun _ => rfl)), ⟨trivial, trivial, rfl⟩, rfl, rfl⟩ ?_
        refine aw_cov (cov_prune (s1 := ⟨[(6, (.bool false))], [], 3⟩) ⟨rfl, trivial⟩ trivial (Nat.le_refl _)) ?_
        refine aw_ret ?_
        replace H := rt_of H hsn4 Hrn4
        refine rt_blk ?_
        refine rt_then ?_
        refine rt_then ?_
        refine rt_blk ?_
        refine rt_then ?_
        refine rt_then ?_
        exact fun a w hr => ⟨_, [(.bool false)], hr, ⟨⟨_, rfl, .data (.bool false) trivial⟩, trivial⟩, by decide, by cases H; rfl⟩
      · replace H := ite_f hc H
        refine aw_skip ?_
        refine nx_blk ?_
        refine nx_seq ?_
        refine aw_region1 (es := [_, _, _]) ⟨Step.plain rfl (does_move (.tmp 8) (.int .i64 x3) trivial), ⟨⟨rfl, trivial⟩, trivial, rfl⟩, rfl,
          Step.plain rfl (does_bin .add 3 3 (.tmp 15) (.const (.int .i64 1)) .i64 x3 1 (.int .i64 (IntKind.i64.wrap (x3 + 1))) trivial (fun _ => rfl) (bin_add _ _ _ _)), ⟨⟨rfl, trivial⟩, trivial, rfl⟩, rfl,
          Step.plain rfl (does_assign (.tmp 16) (.int .i64 (IntKind.i64.wrap (x3 + 1))) trivial), ⟨⟨rfl, trivial⟩, trivial, rfl⟩, rfl, rfl⟩ ?_
        exact nx_loop ((IntKind.i64.wrap (x3 + 1))) H (cov_prune ⟨rfl, rfl, rfl, rfl, trivial⟩ ⟨rfl, rfl, trivial⟩ (Nat.le_of_ble_eq_true rfl))
    · replace H := ite_f hc H
      refine aw_exit ?_
      refine ex_then ?_
      refine ex_then ?_
      refine ex_here ?_
      exact nx_ljoin () H hsn4 (cov_prune trivial trivial (Nat.le_of_ble_eq_true rfl))

theorem congressref09_Service_spec (p0 : (Nat → Int)) (p1 : (Nat → Int)) (p2 : api_Place) (p3 : Int) (r : Bool) (H : congressref09_Service p0 p1 p2 p3 = some r) : FSpec Try.prog 33 [(e_a8_u32 p0), (e_a8_u32 p1), (e_api_Place p2), (.int .i64 p3)] (.bool r) := by
  refine spec_of (fn := Try.f33) (args := [(e_a8_u32 p0), (e_a8_u32 p1), (e_api_Place p2), (.int .i64 p3)]) Try.func33 rfl (Nat.le_of_ble_eq_true rfl) ?_
  rintro ⟨G, w0, W, S, Sp⟩ hG
  cases hG
  unfold congressref09_Service at H
  refine aw_region (es := [_, _, _, _]) ⟨Step.plain rfl (does_box 28 (.tmp 0) 0 (e_a8_u32 p0) trivial rfl), ⟨⟨rfl, trivial⟩, trivial, rfl⟩, rfl,
    Step.plain rfl (does_box 29 (.tmp 1) 1 (e_a8_u32 p1) trivial rfl), ⟨⟨rfl, trivial⟩, trivial, rfl⟩, rfl,
    Step.plain rfl (does_box 42 (.tmp 2) 2 (e_api_Place p2) trivial rfl), ⟨⟨rfl, trivial⟩, trivial, rfl⟩, rfl,
    Step.plain rfl (does_assign (.const (.bool false)) (.bool false) (fun _ => rfl)), ⟨trivial, trivial, rfl⟩, rfl, rfl⟩ ?_
  refine aw_cov (cov_prune (s1 := ⟨[(3, (.int .i64 p3)), (4, (.ptr 0 0 [])), (5, (.ptr 1 0 [])), (6, (.ptr 2 0 []))], [(0, some (.var (e_a8_u32 p0))), (1, some (.var (e_a8_u32 p1))), (2, some (.var (e_api_Place p2)))], 3⟩) ⟨rfl, rfl, rfl, rfl, trivial⟩ ⟨rfl, rfl, rfl, trivial⟩ (Nat.le_refl _)) ?_
  refine aw_seq ?_
  obtain ⟨h1, H⟩ := ibg_of H
  obtain ⟨h2, H⟩ := ibg_of H
  refine aw_draw (es := [_, _, _, _, _, _, _, _, _, _, _, _, _, _, _, _, _, _, _, _, _, _, _, _, _, _, _, _, _, _, _, _, _, _, _, _, _]) (mixed) ⟨Step.plain rfl (does_fieldAddr 42 1 1 6 2 0 [] (.var (e_api_Place p2)) fl42_1), ⟨⟨rfl, trivial⟩, ⟨rfl, trivial⟩, rfl⟩, rfl,
    Step.plain rfl (does_load 3 11 2 (0 + 1) [1] (.var (e_api_Place p2)) (.int .i64 p2.From) ⟨rfl, Nat.le_of_ble_eq_true rfl, trivial⟩ rfl rfl ty3), ⟨⟨rfl, trivial⟩, ⟨rfl, trivial⟩, rfl⟩, rfl,
    Step.plain rfl (does_bin .lss 3 3 (.tmp 12) (.const (.int .i64 0)) .i64 p2.From 0 (.bool (decide (p2.From < 0))) trivial (fun _ => rfl) (bin_lss _ _ _ _)), ⟨⟨rfl, trivial⟩, trivial, rfl⟩, rfl,
    Step.plain rfl (does_move (.tmp 13) (.bool (decide (p2.From < 0))) trivial), ⟨⟨rfl, trivial⟩, trivial, rfl⟩, rfl,
    Step.guarded rfl rfl rfl rfl (fun hc => does_fieldAddr 42 1 1 6 2 0 [] (.var (e_api_Place p2)) fl42_1), ⟨⟨rfl, rfl, trivial⟩, ⟨rfl, trivial⟩, rfl⟩, rfl,
    Step.guarded rfl rfl rfl rfl (fun hc => Does.strip (n' := [(15, (.opt (!(decide (p2.From < 0))) (.ptr 2 (0 + 1) [1])))]) (n := [(15, (.ptr 2 (0 + 1) [1]))]) ⟨(.opt _ _ hc), trivial⟩ (does_load 3 15 2 (0 + 1) [1] (.var (e_api_Place p2)) (.int .i64 p2.From) ⟨rfl, Nat.le_of_ble_eq_true rfl, trivial⟩ rfl rfl ty3)), ⟨⟨rfl, rfl, trivial⟩, ⟨rfl, trivial⟩, rfl⟩, rfl,
    Step.guarded rfl rfl rfl rfl (fun hc => Does.strip (n' := [(16, (.opt (!(decide (p2.From < 0))) (.int .i64 p2.From)))]) (n := [(16, (.int .i64 p2.From))]) ⟨(.opt _ _ hc), trivial⟩ (does_bin .gtr 3 3 (.tmp 16) (.const (.int .i64 7)) .i64 p2.From 7 (.bool (decide (p2.From > 7))) trivial (fun _ => rfl) (bin_gtr _ _ _ _))), ⟨⟨rfl, rfl, trivial⟩, trivial, rfl⟩, rfl,
    Step.plain rfl (does_or 14 17 (decide (p2.From < 0)) (decide (p2.From > 7))), ⟨⟨rfl, rfl, trivial⟩, trivial, rfl⟩, rfl,
    Step.plain rfl (does_move (.tmp 18) (.bool ((decide (p2.From < 0)) || (decide (p2.From > 7)))) trivial), ⟨⟨rfl, trivial⟩, trivial, rfl⟩, rfl,
    Step.guarded rfl rfl rfl rfl (fun hc => does_fieldAddr 42 1 1 6 2 0 [] (.var (e_api_Place p2)) fl42_1), ⟨⟨rfl, rfl, trivial⟩, ⟨rfl, trivial⟩, rfl⟩, rfl,
    Step.guarded rfl rfl rfl rfl (fun hc => Does.strip (n' := [(20, (.opt (!((decide (p2.From < 0)) || (decide (p2.From > 7)))) (.ptr 2 (0 + 1) [1])))]) (n := [(20, (.ptr 2 (0 + 1) [1]))]) ⟨(.opt _ _ hc), trivial⟩ (does_load 3 20 2 (0 + 1) [1] (.var (e_api_Place p2)) (.int .i64 p2.From) ⟨rfl, Nat.le_of_ble_eq_true rfl, trivial⟩ rfl rfl ty3)), ⟨⟨rfl, rfl, trivial⟩, ⟨rfl, trivial⟩, rfl⟩, rfl,
    Step.guarded rfl rfl rfl rfl (fun hc => Does.strip (n' := [(5, (.ptr 1 0 [])), (21, (.opt (!((decide (p2.From < 0)) || (decide (p2.From > 7)))) (.int .i64 p2.From)))]) (n := [(5, (.ptr 1 0 [])), (21, (.int .i64 p2.From))]) ⟨(.same _), (.opt _ _ hc), trivial⟩ (does_indexAddr 29 8 1 5 1 0 [] (.var (e_a8_u32 p1)) (.tmp 21) .i64 p2.From el29 trivial (h1 hc).1 (h1 hc).2)), ⟨⟨rfl, rfl, rfl, trivial⟩, ⟨rfl, trivial⟩, rfl⟩, rfl,
    Step.guarded rfl rfl rfl rfl (fun hc => Does.strip (n' := [(22, (.opt (!((decide (p2.From < 0)) || (decide (p2.From > 7)))) (.ptr 1 (0 + p2.From.toNat * 1) [p2.From.toNat])))]) (n := [(22, (.ptr 1 (0 + p2.From.toNat * 1) [p2.From.toNat]))]) ⟨(.opt _ _ hc), trivial⟩ (does_load 23 22 1 (0 + p2.From.toNat * 1) [p2.From.toNat] (.var (e_a8_u32 p1)) (.int .u32 (p1 p2.From.toNat)) ⟨rfl, (ixl (h1 hc)), trivial⟩ rfl rfl ty23)), ⟨⟨rfl, rfl, trivial⟩, ⟨rfl, trivial⟩, rfl⟩, rfl,
    Step.guarded rfl rfl rfl rfl (fun hc => Does.strip (n' := [(23, (.opt (!((decide (p2.From < 0)) || (decide (p2.From > 7)))) (.int .u32 (p1 p2.From.toNat))))]) (n := [(23, (.int .u32 (p1 p2.From.toNat)))]) ⟨(.opt _ _ hc), trivial⟩ (does_bin .eql 23 23 (.tmp 23) (.const (.int .u32 0)) .u32 (p1 p2.From.toNat) 0 (.bool ((p1 p2.From.toNat) == 0)) trivial (fun _ => rfl) (bin_eql _ _ _ _))), ⟨⟨rfl, rfl, trivial⟩, trivial, rfl⟩, rfl,
    Step.plain rfl (does_or 19 24 ((decide (p2.From < 0)) || (decide (p2.From > 7))) ((p1 p2.From.toNat) == 0)), ⟨⟨rfl, rfl, trivial⟩, trivial, rfl⟩, rfl,
    Step.plain rfl (does_move (.tmp 25) (.bool (((decide (p2.From < 0)) || (decide (p2.From > 7))) || ((p1 p2.From.toNat) == 0))) trivial), ⟨⟨rfl, trivial⟩, trivial, rfl⟩, rfl,
    Step.guarded rfl rfl rfl rfl (fun hc => does_fieldAddr 42 0 0 6 2 0 [] (.var (e_api_Place p2)) fl42_0), ⟨⟨rfl, rfl, trivial⟩, ⟨rfl, trivial⟩, rfl⟩, rfl,
    Step.guarded rfl rfl rfl rfl (fun hc => Does.strip (n' := [(27, (.opt (!(((decide (p2.From < 0)) || (decide (p2.From > 7))) || ((p1 p2.From.toNat) == 0))) (.ptr 2 (0 + 0) [0])))]) (n := [(27, (.ptr 2 (0 + 0) [0]))]) ⟨(.opt _ _ hc), trivial⟩ (does_load 23 27 2 (0 + 0) [0] (.var (e_api_Place p2)) (.int .u32 p2.Round) ⟨rfl, Nat.le_of_ble_eq_true rfl, trivial⟩ rfl rfl ty23)), ⟨⟨rfl, rfl, trivial⟩, ⟨rfl, trivial⟩, rfl⟩, rfl,
    Step.guarded rfl rfl rfl rfl (fun hc => Does.strip (n' := [(28, (.opt (!(((decide (p2.From < 0)) || (decide (p2.From > 7))) || ((p1 p2.From.toNat) == 0))) (.int .u32 p2.Round)))]) (n := [(28, (.int .u32 p2.Round))]) ⟨(.opt _ _ hc), trivial⟩ (does_bin .eql 23 23 (.tmp 28) (.const (.int .u32 0)) .u32 p2.Round 0 (.bool (p2.Round == 0)) trivial (fun _ => rfl) (bin_eql _ _ _ _))), ⟨⟨rfl, rfl, trivial⟩, trivial, rfl⟩, rfl,
    Step.plain rfl (does_or 26 29 (((decide (p2.From < 0)) || (decide (p2.From > 7))) || ((p1 p2.From.toNat) == 0)) (p2.Round == 0)), ⟨⟨rfl, rfl, trivial⟩, trivial, rfl⟩, rfl,
    Step.plain rfl (does_move (.tmp 30) (.bool ((((decide (p2.From < 0)) || (decide (p2.From > 7))) || ((p1 p2.From.toNat) == 0)) || (p2.Round == 0))) trivial), ⟨⟨rfl, trivial⟩, trivial, rfl⟩, rfl,
    Step.guarded rfl rfl rfl rfl (fun hc => does_fieldAddr 42 0 0 6 2 0 [] (.var (e_api_Place p2)) fl42_0), ⟨⟨rfl, rfl, trivial⟩, ⟨rfl, trivial⟩, rfl⟩, rfl,
    Step.guarded rfl rfl rfl rfl (fun hc => Does.strip (n' := [(32, (.opt (!((((decide (p2.From < 0)) || (decide (p2.From > 7))) || ((p1 p2.From.toNat) == 0)) || (p2.Round == 0))) (.ptr 2 (0 + 0) [0])))]) (n := [(32, (.ptr 2 (0 + 0) [0]))]) ⟨(.opt _ _ hc), trivial⟩ (does_load 23 32 2 (0 + 0) [0] (.var (e_api_Place p2)) (.int .u32 p2.Round) ⟨rfl, Nat.le_of_ble_eq_true rfl, trivial⟩ rfl rfl ty23)), ⟨⟨rfl, rfl, trivial⟩, ⟨rfl, trivial⟩, rfl⟩, rfl,
    Step.guarded rfl rfl rfl rfl (fun hc => does_fieldAddr 42 1 1 6 2 0 [] (.var (e_api_Place p2)) fl42_1), ⟨⟨rfl, rfl, trivial⟩, ⟨rfl, trivial⟩, rfl⟩, rfl,
    Step.guarded rfl rfl rfl rfl (fun hc => Does.strip (n' := [(34, (.opt (!((((decide (p2.From < 0)) || (decide (p2.From > 7))) || ((p1 p2.From.toNat) == 0)) || (p2.Round == 0))) (.ptr 2 (0 + 1) [1])))]) (n := [(34, (.ptr 2 (0 + 1) [1]))]) ⟨(.opt _ _ hc), trivial⟩ (does_load 3 34 2 (0 + 1) [1] (.var (e_api_Place p2)) (.int .i64 p2.From) ⟨rfl, Nat.le_of_ble_eq_true rfl, trivial⟩ rfl rfl ty3)), ⟨⟨rfl, rfl, trivial⟩, ⟨rfl, trivial⟩, rfl⟩, rfl,
    Step.guarded rfl rfl rfl rfl (fun hc => Does.strip (n' := [(4, (.ptr 0 0 [])), (35, (.opt (!((((decide (p2.From < 0)) || (decide (p2.From > 7))) || ((p1 p2.From.toNat) == 0)) || (p2.Round == 0))) (.int .i64 p2.From)))]) (n := [(4, (.ptr 0 0 [])), (35, (.int .i64 p2.From))]) ⟨(.same _), (.opt _ _ hc), trivial⟩ (does_indexAddr 28 8 1 4 0 0 [] (.var (e_a8_u32 p0)) (.tmp 35) .i64 p2.From el28 trivial (h2 hc).1 (h2 hc).2)), ⟨⟨rfl, rfl, rfl, trivial⟩, ⟨rfl, trivial⟩, rfl⟩, rfl,
    Step.guarded rfl rfl rfl rfl (fun hc => Does.strip (n' := [(36, (.opt (!((((decide (p2.From < 0)) || (decide (p2.From > 7))) || ((p1 p2.From.toNat) == 0)) || (p2.Round == 0))) (.ptr 0 (0 + p2.From.toNat * 1) [p2.From.toNat])))]) (n := [(36, (.ptr 0 (0 + p2.From.toNat * 1) [p2.From.toNat]))]) ⟨(.opt _ _ hc), trivial⟩ (does_load 23 36 0 (0 + p2.From.toNat * 1) [p2.From.toNat] (.var (e_a8_u32 p0)) (.int .u32 (p0 p2.From.toNat)) ⟨rfl, (ixl (h2 hc)), trivial⟩ rfl rfl ty23)), ⟨⟨rfl, rfl, trivial⟩, ⟨rfl, trivial⟩, rfl⟩, rfl,
    Step.guarded rfl rfl rfl rfl (fun hc => Does.strip (n' := [(33, (.opt (!((((decide (p2.From < 0)) || (decide (p2.From > 7))) || ((p1 p2.From.toNat) == 0)) || (p2.Round == 0))) (.int .u32 p2.Round))), (37, (.opt (!((((decide (p2.From < 0)) || (decide (p2.From > 7))) || ((p1 p2.From.toNat) == 0)) || (p2.Round == 0))) (.int .u32 (p0 p2.From.toNat))))]) (n := [(33, (.int .u32 p2.Round)), (37, (.int .u32 (p0 p2.From.toNat)))]) ⟨(.opt _ _ hc), (.opt _ _ hc), trivial⟩ (does_bin .gtr 23 23 (.tmp 33) (.tmp 37) .u32 p2.Round (p0 p2.From.toNat) (.bool (decide (p2.Round > (p0 p2.From.toNat)))) trivial trivial (bin_gtr _ _ _ _))), ⟨⟨rfl, rfl, rfl, trivial⟩, trivial, rfl⟩, rfl,
    Step.plain rfl (does_or 31 38 ((((decide (p2.From < 0)) || (decide (p2.From > 7))) || ((p1 p2.From.toNat) == 0)) || (p2.Round == 0)) (decide (p2.Round > (p0 p2.From.toNat)))), ⟨⟨rfl, rfl, trivial⟩, trivial, rfl⟩, rfl,
    Step.plain rfl (does_move (.tmp 39) (.bool (((((decide (p2.From < 0)) || (decide (p2.From > 7))) || ((p1 p2.From.toNat) == 0)) || (p2.Round == 0)) || (decide (p2.Round > (p0 p2.From.toNat))))) trivial), ⟨⟨rfl, trivial⟩, trivial, rfl⟩, rfl,
    Step.guarded rfl rfl rfl rfl (fun hc => does_move (.tmp 3) (.int .i64 p3) trivial), ⟨⟨rfl, rfl, trivial⟩, trivial, rfl⟩, rfl,
    Step.guarded rfl rfl rfl rfl (fun hc => Does.strip (n' := [(41, (.opt (!(((((decide (p2.From < 0)) || (decide (p2.From > 7))) || ((p1 p2.From.toNat) == 0)) || (p2.Round == 0)) || (decide (p2.Round > (p0 p2.From.toNat))))) (.int .i64 p3)))]) (n := [(41, (.int .i64 p3))]) ⟨(.opt _ _ hc), trivial⟩ (does_bin .lss 3 3 (.tmp 41) (.const (.int .i64 0)) .i64 p3 0 (.bool (decide (p3 < 0))) trivial (fun _ => rfl) (bin_lss _ _ _ _))), ⟨⟨rfl, rfl, trivial⟩, trivial, rfl⟩, rfl,
    Step.plain rfl (does_or 40 42 (((((decide (p2.From < 0)) || (decide (p2.From > 7))) || ((p1 p2.From.toNat) == 0)) || (p2.Round == 0)) || (decide (p2.Round > (p0 p2.From.toNat)))) (decide (p3 < 0))), ⟨⟨rfl, rfl, trivial⟩, trivial, rfl⟩, rfl,
    Step.plain rfl (does_move (.tmp 43) (.bool ((((((decide (p2.From < 0)) || (decide (p2.From > 7))) || ((p1 p2.From.toNat) == 0)) || (p2.Round == 0)) || (decide (p2.Round > (p0 p2.From.toNat)))) || (decide (p3 < 0)))) trivial), ⟨⟨rfl, trivial⟩, trivial, rfl⟩, rfl,
    Step.guarded rfl rfl rfl rfl (fun hc => does_move (.tmp 3) (.int .i64 p3) trivial), ⟨⟨rfl, rfl, trivial⟩, trivial, rfl⟩, rfl,
    Step.guarded rfl rfl rfl rfl (fun hc => Does.strip (n' := [(45, (.opt (!((((((decide (p2.From < 0)) || (decide (p2.From > 7))) || ((p1 p2.From.toNat) == 0)) || (p2.Round == 0)) || (decide (p2.Round > (p0 p2.From.toNat)))) || (decide (p3 < 0)))) (.int .i64 p3)))]) (n := [(45, (.int .i64 p3))]) ⟨(.opt _ _ hc), trivial⟩ (does_bin .gtr 3 3 (.tmp 45) (.const (.int .i64 3)) .i64 p3 3 (.bool (decide (p3 > 3))) trivial (fun _ => rfl) (bin_gtr _ _ _ _))), ⟨⟨rfl, rfl, trivial⟩, trivial, rfl⟩, rfl,
    Step.plain rfl (does_or 44 46 ((((((decide (p2.From < 0)) || (decide (p2.From > 7))) || ((p1 p2.From.toNat) == 0)) || (p2.Round == 0)) || (decide (p2.Round > (p0 p2.From.toNat)))) || (decide (p3 < 0))) (decide (p3 > 3))), ⟨⟨rfl, rfl, trivial⟩, trivial, rfl⟩, rfl, rfl⟩ rfl ?_
  obtain ⟨v3, hv3, H⟩ := lt_of H
  refine aw_cov (cov_prune (s1 := ⟨[(3, (.int .i64 p3)), (4, (.ptr 0 0 [])), (5, (.ptr 1 0 [])), (6, (.ptr 2 0 [])), (47, (.bool v3))], [(0, some (.var (e_a8_u32 p0))), (1, some (.var (e_a8_u32 p1))), (2, some (.var (e_api_Place p2)))], 3⟩) ⟨rfl, rfl, rfl, rfl, (by subst hv3; rfl), trivial⟩ ⟨rfl, rfl, rfl, trivial⟩ (Nat.le_refl _)) ?_
  refine aw_cond rfl (fun hc => ?_) (fun hc => ?_)
  · replace H := ite_t hc H
    refine aw_region (es := [_]) ⟨Step.plain rfl (does_assign (.const (.bool false)) (.bool false) (fun _ => rfl)), ⟨trivial, trivial, rfl⟩, rfl, rfl⟩ ?_
    refine aw_cov (cov_prune (s1 := ⟨[(8, (.bool false))], [], 3⟩) ⟨rfl, trivial⟩ trivial (Nat.le_refl _)) ?_
    refine aw_ret ?_
    refine rt_then ?_
    exact fun a w hr => ⟨_, [(.bool false)], hr, ⟨⟨_, rfl, .data (.bool false) trivial⟩, trivial⟩, by decide, by cases H; rfl⟩
  · replace H := ite_f hc H
    refine aw_skip ?_
    refine nx_seq ?_
    refine aw_region (es := [_, _, _, _]) ⟨Step.plain rfl (does_fieldAddr 42 0 0 6 2 0 [] (.var (e_api_Place p2)) fl42_0), ⟨⟨rfl, trivial⟩, ⟨rfl, trivial⟩, rfl⟩, rfl,
      Step.plain rfl (does_load 23 48 2 (0 + 0) [0] (.var (e_api_Place p2)) (.int .u32 p2.Round) ⟨rfl, Nat.le_of_ble_eq_true rfl, trivial⟩ rfl rfl ty23), ⟨⟨rfl, trivial⟩, ⟨rfl, trivial⟩, rfl⟩, rfl,
      Step.plain rfl (does_convInt 23 43 (.tmp 49) .u32 .u64 p2.Round trivial rfl rfl), ⟨⟨rfl, trivial⟩, trivial, rfl⟩, rfl,
      Step.plain rfl (does_assign (.tmp 50) (.int .u64 (IntKind.u64.wrap (p2.Round))) trivial), ⟨⟨rfl, trivial⟩, trivial, rfl⟩, rfl, rfl⟩ ?_
    refine aw_cov (cov_prune (s1 := ⟨[(3, (.int .i64 p3)), (4, (.ptr 0 0 [])), (5, (.ptr 1 0 [])), (6, (.ptr 2 0 [])), (9, (.int .u64 (IntKind.u64.wrap (p2.Round))))], [(0, some (.var (e_a8_u32 p0))), (1, some (.var (e_a8_u32 p1))), (2, some (.var (e_api_Place p2)))], 3⟩) ⟨rfl, rfl, rfl, rfl, rfl, trivial⟩ ⟨rfl, rfl, rfl, trivial⟩ (Nat.le_refl _)) ?_
    refine aw_seq ?_
    refine aw_region (es := [_, _]) ⟨Step.plain rfl (does_move (.tmp 3) (.int .i64 p3) trivial), ⟨⟨rfl, trivial⟩, trivial, rfl⟩, rfl,
      Step.plain rfl (does_bin .eql 3 3 (.tmp 51) (.const (.int .i64 3)) .i64 p3 3 (.bool (p3 == 3)) trivial (fun _ => rfl) (bin_eql _ _ _ _)), ⟨⟨rfl, trivial⟩, trivial, rfl⟩, rfl, rfl⟩ ?_
    refine aw_cov (cov_prune (s1 := ⟨[(3, (.int .i64 p3)), (4, (.ptr 0 0 [])), (5, (.ptr 1 0 [])), (6, (.ptr 2 0 [])), (9, (.int .u64 (IntKind.u64.wrap (p2.Round)))), (52, (.bool (p3 == 3)))], [(0, some (.var (e_a8_u32 p0))), (1, some (.var (e_a8_u32 p1))), (2, some (.var (e_api_Place p2)))], 3⟩) ⟨rfl, rfl, rfl, rfl, rfl, rfl, trivial⟩ ⟨rfl, rfl, rfl, trivial⟩ (Nat.le_refl _)) ?_
    refine aw_cond rfl (fun hc => ?_) (fun hc => ?_)
    · replace H := ite_t hc H
      obtain ⟨v4, h5, H⟩ := bnd H
      refine aw_region (es := [_, _, _, _, _, _]) ⟨Step.plain rfl (does_load 28 4 0 0 [] (.var (e_a8_u32 p0)) (e_a8_u32 p0) trivial rfl rfl ty28), ⟨⟨rfl, trivial⟩, ⟨rfl, trivial⟩, rfl⟩, rfl,
        Step.plain rfl (does_load 29 5 1 0 [] (.var (e_a8_u32 p1)) (e_a8_u32 p1) trivial rfl rfl ty29), ⟨⟨rfl, trivial⟩, ⟨rfl, trivial⟩, rfl⟩, rfl,
        Step.plain rfl (does_move (.tmp 9) (.int .u64 (IntKind.u64.wrap (p2.Round))) trivial), ⟨⟨rfl, trivial⟩, trivial, rfl⟩, rfl,
        Step.plain rfl (does_bin .add 43 43 (.tmp 55) (.const (.int .u64 1)) .u64 (IntKind.u64.wrap (p2.Round)) 1 (.int .u64 (IntKind.u64.wrap ((IntKind.u64.wrap (p2.Round)) + 1))) trivial (fun _ => rfl) (bin_add _ _ _ _)), ⟨⟨rfl, trivial⟩, trivial, rfl⟩, rfl,
        Step.plain rfl (does_call 43 0 (fun _ => .any) (.func 43) [(.tmp 53), (.tmp 54), (.tmp 56)] [(e_a8_u32 p0), (e_a8_u32 p1), (.int .u64 (IntKind.u64.wrap ((IntKind.u64.wrap (p2.Round)) + 1)))] [] true [(e_a8_u32 p0), (e_a8_u32 p1), (.int .u64 (IntKind.u64.wrap ((IntKind.u64.wrap (p2.Round)) + 1)))] (.bool v4) _ _ rfl fo43 rfl ⟨trivial, trivial, trivial, trivial⟩ ⟨.data _ (d_a8_u32 p0), .data _ (d_a8_u32 p1), .data _ trivial, trivial⟩ (congressref09_Full_spec p0 p1 (IntKind.u64.wrap ((IntKind.u64.wrap (p2.Round)) + 1)) _ h5) trivial), ⟨⟨rfl, rfl, rfl, trivial⟩, trivial, rfl⟩, rfl,
        Step.plain rfl (does_assign (.tmp 57) (.bool v4) trivial), ⟨⟨rfl, trivial⟩, trivial, rfl⟩, rfl, rfl⟩ ?_
      refine aw_cov (cov_prune (s1 := ⟨[(8, (.bool v4))], [], 3⟩) ⟨rfl, trivial⟩ trivial (Nat.le_refl _)) ?_
      refine aw_ret ?_
      refine rt_then ?_
      exact fun a w hr => ⟨_, [(.bool v4)], hr, ⟨⟨_, rfl, .data (.bool v4) trivial⟩, trivial⟩, by decide, by cases H; rfl⟩
    · replace H := ite_f hc H
      refine aw_skip ?_
      refine nx_seq ?_
      refine aw_seq ?_
      refine aw_region (es := [_, _]) ⟨Step.plain rfl (does_move (.tmp 3) (.int .i64 p3) trivial), ⟨⟨rfl, trivial⟩, trivial, rfl⟩, rfl,
        Step.plain rfl (does_bin .eql 3 3 (.tmp 58) (.const (.int .i64 0)) .i64 p3 0 (.bool (p3 == 0)) trivial (fun _ => rfl) (bin_eql _ _ _ _)), ⟨⟨rfl, trivial⟩, trivial, rfl⟩, rfl, rfl⟩ ?_
      refine aw_cov (cov_prune (s1 := ⟨[(3, (.int .i64 p3)), (4, (.ptr 0 0 [])), (5, (.ptr 1 0 [])), (6, (.ptr 2 0 [])), (9, (.int .u64 (IntKind.u64.wrap (p2.Round)))), (59, (.bool (p3 == 0)))], [(0, some (.var (e_a8_u32 p0))), (1, some (.var (e_a8_u32 p1))), (2, some (.var (e_api_Place p2)))], 3⟩) ⟨rfl, rfl, rfl, rfl, rfl, rfl, trivial⟩ ⟨rfl, rfl, rfl, trivial⟩ (Nat.le_refl _)) ?_
      refine aw_cond rfl (fun hc => ?_) (fun hc => ?_)
      · replace H := ite_t hc H
        refine aw_region (es := [_]) ⟨Step.plain rfl (does_assign (.const (.bool true)) (.bool true) (fun _ => rfl)), ⟨trivial, trivial, rfl⟩, rfl, rfl⟩ ?_
        refine aw_cov (cov_prune (s1 := ⟨[(8, (.bool true))], [], 3⟩) ⟨rfl, trivial⟩ trivial (Nat.le_refl _)) ?_
        refine aw_ret ?_
        refine rt_then ?_
        exact fun a w hr => ⟨_, [(.bool true)], hr, ⟨⟨_, rfl, .data (.bool true) trivial⟩, trivial⟩, by decide, by cases H; rfl⟩
      · replace H := ite_f hc H
        refine aw_skip ?_
        refine nx_seq ?_
        refine aw_seq ?_
        obtain ⟨v6, h7, H⟩ := bnd H
        refine aw_region (es := [_, _, _, _, _, _]) ⟨Step.plain rfl (does_load 28 4 0 0 [] (.var (e_a8_u32 p0)) (e_a8_u32 p0) trivial rfl rfl ty28), ⟨⟨rfl, trivial⟩, ⟨rfl, trivial⟩, rfl⟩, rfl,
          Step.plain rfl (does_load 29 5 1 0 [] (.var (e_a8_u32 p1)) (e_a8_u32 p1) trivial rfl rfl ty29), ⟨⟨rfl, trivial⟩, ⟨rfl, trivial⟩, rfl⟩, rfl,
          Step.plain rfl (does_move (.tmp 9) (.int .u64 (IntKind.u64.wrap (p2.Round))) trivial), ⟨⟨rfl, trivial⟩, trivial, rfl⟩, rfl,
          Step.plain rfl (does_bin .sub 43 43 (.tmp 62) (.const (.int .u64 1)) .u64 (IntKind.u64.wrap (p2.Round)) 1 (.int .u64 (IntKind.u64.wrap ((IntKind.u64.wrap (p2.Round)) - 1))) trivial (fun _ => rfl) (bin_sub _ _ _ _)), ⟨⟨rfl, trivial⟩, trivial, rfl⟩, rfl,
          Step.plain rfl (does_call 43 0 (fun _ => .any) (.func 43) [(.tmp 60), (.tmp 61), (.tmp 63)] [(e_a8_u32 p0), (e_a8_u32 p1), (.int .u64 (IntKind.u64.wrap ((IntKind.u64.wrap (p2.Round)) - 1)))] [] true [(e_a8_u32 p0), (e_a8_u32 p1), (.int .u64 (IntKind.u64.wrap ((IntKind.u64.wrap (p2.Round)) - 1)))] (.bool v6) _ _ rfl fo43 rfl ⟨trivial, trivial, trivial, trivial⟩ ⟨.data _ (d_a8_u32 p0), .data _ (d_a8_u32 p1), .data _ trivial, trivial⟩ (congressref09_Full_spec p0 p1 (IntKind.u64.wrap ((IntKind.u64.wrap (p2.Round)) - 1)) _ h7) trivial), ⟨⟨rfl, rfl, rfl, trivial⟩, trivial, rfl⟩, rfl,
          Step.plain rfl (does_not 4 (.tmp 64) v6 trivial), ⟨⟨rfl, trivial⟩, trivial, rfl⟩, rfl, rfl⟩ ?_
        refine aw_cov (cov_prune (s1 := ⟨[(3, (.int .i64 p3)), (4, (.ptr 0 0 [])), (5, (.ptr 1 0 [])), (6, (.ptr 2 0 [])), (65, (.bool (!v6)))], [(0, some (.var (e_a8_u32 p0))), (1, some (.var (e_a8_u32 p1))), (2, some (.var (e_api_Place p2)))], 3⟩) ⟨rfl, rfl, rfl, rfl, rfl, trivial⟩ ⟨rfl, rfl, rfl, trivial⟩ (Nat.le_refl _)) ?_
        refine aw_cond rfl (fun hc => ?_) (fun hc => ?_)
        · replace H := ite_t hc H
          refine aw_region (es := [_]) ⟨Step.plain rfl (does_assign (.const (.bool false)) (.bool false) (fun _ => rfl)), ⟨trivial, trivial, rfl⟩, rfl, rfl⟩ ?_
          refine aw_cov (cov_prune (s1 := ⟨[(8, (.bool false))], [], 3⟩) ⟨rfl, trivial⟩ trivial (Nat.le_refl _)) ?_
          refine aw_ret ?_
          refine rt_then ?_
          exact fun a w hr => ⟨_, [(.bool false)], hr, ⟨⟨_, rfl, .data (.bool false) trivial⟩, trivial⟩, by decide, by cases H; rfl⟩
        · replace H := ite_f hc H
          refine aw_skip ?_
          refine nx_seq ?_
          refine aw_seq ?_
          refine aw_region (es := [_]) ⟨Step.plain rfl (does_assign (.const (.int .i64 0)) (.int .i64 0) (fun _ => rfl)), ⟨trivial, trivial, rfl⟩, rfl, rfl⟩ ?_
          refine aw_cov (cov_prune (s1 := ⟨[(3, (.int .i64 p3)), (4, (.ptr 0 0 [])), (5, (.ptr 1 0 [])), (6, (.ptr 2 0 [])), (10, (.int .i64 0))], [(0, some (.var (e_a8_u32 p0))), (1, some (.var (e_a8_u32 p1))), (2, some (.var (e_api_Place p2)))], 3⟩) ⟨rfl, rfl, rfl, rfl, rfl, trivial⟩ ⟨rfl, rfl, rfl, trivial⟩ (Nat.le_refl _)) ?_
          obtain ⟨wn9, hwn9, Hrn9⟩ := bnd H
          refine aw_meet (fun y12 : Unit => (⟨[], [], 3⟩ : St)) (fun y12 => Fl.nx y12 = wn9) (fun y12 hy => ?_) (aw_block (aw_runs (fun x8 : Int => (⟨[(3, (.int .i64 p3)), (4, (.ptr 0 0 [])), (5, (.ptr 1 0 [])), (6, (.ptr 2 0 [])), (10, (.int .i64 x8))], [(0, some (.var (e_a8_u32 p0))), (1, some (.var (e_a8_u32 p1))), (2, some (.var (e_api_Place p2)))], 3⟩ : St)) hwn9 (cov_prune ⟨rfl, rfl, rfl, rfl, rfl, trivial⟩ ⟨rfl, rfl, rfl, trivial⟩ (Nat.le_of_ble_eq_true rfl)) (fun x8 st H hsn9 => ?_)))
          · have H := nx_of hy Hrn9
            refine nx_seq ?_
            refine aw_region (es := [_]) ⟨Step.plain rfl (does_assign (.const (.bool true)) (.bool true) (fun _ => rfl)), ⟨trivial, trivial, rfl⟩, rfl, rfl⟩ ?_
            refine aw_cov (cov_prune (s1 := ⟨[(8, (.bool true))], [], 3⟩) ⟨rfl, trivial⟩ trivial (Nat.le_refl _)) ?_
            refine aw_ret ?_
            exact fun a w hr => ⟨_, [(.bool true)], hr, ⟨⟨_, rfl, .data (.bool true) trivial⟩, trivial⟩, by decide, by cases H; rfl⟩
          · refine aw_seq ?_
            refine aw_region (es := [_, _, _, _, _, _, _, _]) ⟨Step.plain rfl (does_move (.tmp 10) (.int .i64 x8) trivial), ⟨⟨rfl, trivial⟩, trivial, rfl⟩, rfl,
              Step.plain rfl (does_fieldAddr 42 1 1 6 2 0 [] (.var (e_api_Place p2)) fl42_1), ⟨⟨rfl, trivial⟩, ⟨rfl, trivial⟩, rfl⟩, rfl,
              Step.plain rfl (does_load 3 67 2 (0 + 1) [1] (.var (e_api_Place p2)) (.int .i64 p2.From) ⟨rfl, Nat.le_of_ble_eq_true rfl, trivial⟩ rfl rfl ty3), ⟨⟨rfl, trivial⟩, ⟨rfl, trivial⟩, rfl⟩, rfl,
              Step.plain rfl (does_bin .lss 3 3 (.tmp 66) (.tmp 68) .i64 x8 p2.From (.bool (decide (x8 < p2.From))) trivial trivial (bin_lss _ _ _ _)), ⟨⟨rfl, rfl, trivial⟩, trivial, rfl⟩, rfl,
              Step.plain rfl (does_move (.tmp 69) (.bool (decide (x8 < p2.From))) trivial), ⟨⟨rfl, trivial⟩, trivial, rfl⟩, rfl,
              Step.guarded rfl rfl rfl rfl (fun hc => does_move (.tmp 3) (.int .i64 p3) trivial), ⟨⟨rfl, rfl, trivial⟩, trivial, rfl⟩, rfl,
              Step.guarded rfl rfl rfl rfl (fun hc => Does.strip (n' := [(71, (.opt (decide (x8 < p2.From)) (.int .i64 p3)))]) (n := [(71, (.int .i64 p3))]) ⟨(.opt _ _ hc), trivial⟩ (does_bin .eql 3 3 (.tmp 71) (.const (.int .i64 2)) .i64 p3 2 (.bool (p3 == 2)) trivial (fun _ => rfl) (bin_eql _ _ _ _))), ⟨⟨rfl, rfl, trivial⟩, trivial, rfl⟩, rfl,
              Step.plain rfl (does_and 70 72 (decide (x8 < p2.From)) (p3 == 2)), ⟨⟨rfl, rfl, trivial⟩, trivial, rfl⟩, rfl, rfl⟩ ?_
            refine aw_cov (cov_prune (s1 := ⟨[(3, (.int .i64 p3)), (4, (.ptr 0 0 [])), (5, (.ptr 1 0 [])), (6, (.ptr 2 0 [])), (10, (.int .i64 x8)), (73, (.bool ((decide (x8 < p2.From)) && (p3 == 2))))], [(0, some (.var (e_a8_u32 p0))), (1, some (.var (e_a8_u32 p1))), (2, some (.var (e_api_Place p2)))], 3⟩) ⟨rfl, rfl, rfl, rfl, rfl, rfl, trivial⟩ ⟨rfl, rfl, rfl, trivial⟩ (Nat.le_refl _)) ?_
            refine aw_cond rfl (fun hc => ?_) (fun hc => ?_)
            · replace H := ite_t hc H
              refine aw_skip ?_
              refine nx_seq ?_
              refine aw_seq ?_
              refine aw_block ?_
              obtain ⟨h10, H⟩ := ib_of H
              obtain ⟨h11, H⟩ := ibg_of H
              refine aw_draw (es := [_, _, _, _, _, _, _, _, _, _, _, _]) (mixed) ⟨Step.plain rfl (does_move (.tmp 10) (.int .i64 x8) trivial), ⟨⟨rfl, trivial⟩, trivial, rfl⟩, rfl,
                Step.plain rfl (does_indexAddr 29 8 1 5 1 0 [] (.var (e_a8_u32 p1)) (.tmp 76) .i64 x8 el29 trivial h10.1 h10.2), ⟨⟨rfl, rfl, trivial⟩, ⟨rfl, trivial⟩, rfl⟩, rfl,
                Step.plain rfl (does_load 23 77 1 (0 + x8.toNat * 1) [x8.toNat] (.var (e_a8_u32 p1)) (.int .u32 (p1 x8.toNat)) ⟨rfl, (ixl h10), trivial⟩ rfl rfl ty23), ⟨⟨rfl, trivial⟩, ⟨rfl, trivial⟩, rfl⟩, rfl,
                Step.plain rfl (does_bin .neq 23 23 (.tmp 78) (.const (.int .u32 0)) .u32 (p1 x8.toNat) 0 (.bool ((p1 x8.toNat) != 0)) trivial (fun _ => rfl) (bin_neq _ _ _ _)), ⟨⟨rfl, trivial⟩, trivial, rfl⟩, rfl,
                Step.plain rfl (does_move (.tmp 79) (.bool ((p1 x8.toNat) != 0)) trivial), ⟨⟨rfl, trivial⟩, trivial, rfl⟩, rfl,
                Step.guarded rfl rfl rfl rfl (fun hc => does_move (.tmp 10) (.int .i64 x8) trivial), ⟨⟨rfl, rfl, trivial⟩, trivial, rfl⟩, rfl,
                Step.guarded rfl rfl rfl rfl (fun hc => Does.strip (n' := [(4, (.ptr 0 0 [])), (81, (.opt ((p1 x8.toNat) != 0) (.int .i64 x8)))]) (n := [(4, (.ptr 0 0 [])), (81, (.int .i64 x8))]) ⟨(.same _), (.opt _ _ hc), trivial⟩ (does_indexAddr 28 8 1 4 0 0 [] (.var (e_a8_u32 p0)) (.tmp 81) .i64 x8 el28 trivial (h11 hc).1 (h11 hc).2)), ⟨⟨rfl, rfl, rfl, trivial⟩, ⟨rfl, trivial⟩, rfl⟩, rfl,
                Step.guarded rfl rfl rfl rfl (fun hc => Does.strip (n' := [(82, (.opt ((p1 x8.toNat) != 0) (.ptr 0 (0 + x8.toNat * 1) [x8.toNat])))]) (n := [(82, (.ptr 0 (0 + x8.toNat * 1) [x8.toNat]))]) ⟨(.opt _ _ hc), trivial⟩ (does_load 23 82 0 (0 + x8.toNat * 1) [x8.toNat] (.var (e_a8_u32 p0)) (.int .u32 (p0 x8.toNat)) ⟨rfl, (ixl (h11 hc)), trivial⟩ rfl rfl ty23)), ⟨⟨rfl, rfl, trivial⟩, ⟨rfl, trivial⟩, rfl⟩, rfl,
                Step.guarded rfl rfl rfl rfl (fun hc => does_fieldAddr 42 0 0 6 2 0 [] (.var (e_api_Place p2)) fl42_0), ⟨⟨rfl, rfl, trivial⟩, ⟨rfl, trivial⟩, rfl⟩, rfl,
                Step.guarded rfl rfl rfl rfl (fun hc => Does.strip (n' := [(84, (.opt ((p1 x8.toNat) != 0) (.ptr 2 (0 + 0) [0])))]) (n := [(84, (.ptr 2 (0 + 0) [0]))]) ⟨(.opt _ _ hc), trivial⟩ (does_load 23 84 2 (0 + 0) [0] (.var (e_api_Place p2)) (.int .u32 p2.Round) ⟨rfl, Nat.le_of_ble_eq_true rfl, trivial⟩ rfl rfl ty23)), ⟨⟨rfl, rfl, trivial⟩, ⟨rfl, trivial⟩, rfl⟩, rfl,
                Step.guarded rfl rfl rfl rfl (fun hc => Does.strip (n' := [(83, (.opt ((p1 x8.toNat) != 0) (.int .u32 (p0 x8.toNat)))), (85, (.opt ((p1 x8.toNat) != 0) (.int .u32 p2.Round)))]) (n := [(83, (.int .u32 (p0 x8.toNat))), (85, (.int .u32 p2.Round))]) ⟨(.opt _ _ hc), (.opt _ _ hc), trivial⟩ (does_bin .lss 23 23 (.tmp 83) (.tmp 85) .u32 (p0 x8.toNat) p2.Round (.bool (decide ((p0 x8.toNat) < p2.Round))) trivial trivial (bin_lss _ _ _ _))), ⟨⟨rfl, rfl, rfl, trivial⟩, trivial, rfl⟩, rfl,
                Step.plain rfl (does_and 80 86 ((p1 x8.toNat) != 0) (decide ((p0 x8.toNat) < p2.Round))), ⟨⟨rfl, rfl, trivial⟩, trivial, rfl⟩, rfl, rfl⟩ rfl ?_
              refine aw_cov (cov_prune (s1 := ⟨[(3, (.int .i64 p3)), (4, (.ptr 0 0 [])), (5, (.ptr 1 0 [])), (6, (.ptr 2 0 [])), (10, (.int .i64 x8)), (87, (.bool (((p1 x8.toNat) != 0) && (decide ((p0 x8.toNat) < p2.Round)))))], [(0, some (.var (e_a8_u32 p0))), (1, some (.var (e_a8_u32 p1))), (2, some (.var (e_api_Place p2)))], 3⟩) ⟨rfl, rfl, rfl, rfl, rfl, rfl, trivial⟩ ⟨rfl, rfl, rfl, trivial⟩ (Nat.le_refl _)) ?_
              refine aw_cond rfl (fun hc => ?_) (fun hc => ?_)
              · replace H := ite_t hc H
                refine aw_region (es := [_]) ⟨Step.plain rfl (does_assign (.const (.bool false)) (.bool false) (fun _ => rfl)), ⟨trivial, trivial, rfl⟩, rfl, rfl⟩ ?_
                refine aw_cov (cov_prune (s1 := ⟨[(8, (.bool false))], [], 3⟩) ⟨rfl, trivial⟩ trivial (Nat.le_refl _)) ?_
                refine aw_ret ?_
                replace H := rt_of H hsn9 Hrn9
                refine rt_blk ?_
                refine rt_then ?_
                refine rt_then ?_
                refine rt_blk ?_
                refine rt_then ?_
                refine rt_then ?_
                exact fun a w hr => ⟨_, [(.bool false)], hr, ⟨⟨_, rfl, .data (.bool false) trivial⟩, trivial⟩, by decide, by cases H; rfl⟩
              · replace H := ite_f hc H
                refine aw_skip ?_
                refine nx_blk ?_
                refine nx_seq ?_
                refine aw_region1 (es := [_, _, _]) ⟨Step.plain rfl (does_move (.tmp 10) (.int .i64 x8) trivial), ⟨⟨rfl, trivial⟩, trivial, rfl⟩, rfl,
                  Step.plain rfl (does_bin .add 3 3 (.tmp 74) (.const (.int .i64 1)) .i64 x8 1 (.int .i64 (IntKind.i64.wrap (x8 + 1))) trivial (fun _ => rfl) (bin_add _ _ _ _)), ⟨⟨rfl, trivial⟩, trivial, rfl⟩, rfl,
                  Step.plain rfl (does_assign (.tmp 75) (.int .i64 (IntKind.i64.wrap (x8 + 1))) trivial), ⟨⟨rfl, trivial⟩, trivial, rfl⟩, rfl, rfl⟩ ?_
                exact nx_loop ((IntKind.i64.wrap (x8 + 1))) H (cov_prune ⟨rfl, rfl, rfl, rfl, rfl, trivial⟩ ⟨rfl, rfl, rfl, trivial⟩ (Nat.le_of_ble_eq_true rfl))
            · replace H := ite_f hc H
              refine aw_exit ?_
              refine ex_then ?_
              refine ex_then ?_
              refine ex_here ?_
              exact nx_ljoin () H hsn9 (cov_prune trivial trivial (Nat.le_of_ble_eq_true rfl))

theorem congressref22_Is_spec (p0 : api_Wait) (p1 : (Nat → Int)) (p2 : (Nat → Int)) (r : Bool) (H : congressref22_Is p0 p1 p2 = some r) : FSpec Try.prog 26 [(e_api_Wait p0), (e_a8_u32 p1), (e_a8_u32 p2)] (.bool r) := by
  refine spec_of (fn := Try.f26) (args := [(e_api_Wait p0), (e_a8_u32 p1), (e_a8_u32 p2)]) Try.func26 rfl (Nat.le_of_ble_eq_true rfl) ?_
  rintro ⟨G, w0, W, S, Sp⟩ hG
  cases hG
  unfold congressref22_Is at H
  refine aw_region (es := [_, _, _, _]) ⟨Step.plain rfl (does_box 47 (.tmp 0) 0 (e_api_Wait p0) trivial rfl), ⟨⟨rfl, trivial⟩, trivial, rfl⟩, rfl,
    Step.plain rfl (does_box 28 (.tmp 1) 1 (e_a8_u32 p1) trivial rfl), ⟨⟨rfl, trivial⟩, trivial, rfl⟩, rfl,
    Step.plain rfl (does_box 29 (.tmp 2) 2 (e_a8_u32 p2) trivial rfl), ⟨⟨rfl, trivial⟩, trivial, rfl⟩, rfl,
    Step.plain rfl (does_assign (.const (.bool false)) (.bool false) (fun _ => rfl)), ⟨trivial, trivial, rfl⟩, rfl, rfl⟩ ?_
  refine aw_cov (cov_prune (s1 := ⟨[(3, (.ptr 0 0 [])), (4, (.ptr 1 0 [])), (5, (.ptr 2 0 []))], [(0, some (.var (e_api_Wait p0))), (1, some (.var (e_a8_u32 p1))), (2, some (.var (e_a8_u32 p2)))], 3⟩) ⟨rfl, rfl, rfl, trivial⟩ ⟨rfl, rfl, rfl, trivial⟩ (Nat.le_refl _)) ?_
  refine aw_region (es := [_]) ⟨Step.plain rfl (does_assign (.const (.int .i64 2)) (.int .i64 2) (fun _ => rfl)), ⟨trivial, trivial, rfl⟩, rfl, rfl⟩ ?_
  refine aw_cov (cov_prune (s1 := ⟨[(3, (.ptr 0 0 [])), (4, (.ptr 1 0 [])), (5, (.ptr 2 0 [])), (7, (.int .i64 2))], [(0, some (.var (e_api_Wait p0))), (1, some (.var (e_a8_u32 p1))), (2, some (.var (e_a8_u32 p2)))], 3⟩) ⟨rfl, rfl, rfl, rfl, trivial⟩ ⟨rfl, rfl, rfl, trivial⟩ (Nat.le_refl _)) ?_
  refine aw_seq ?_
  refine aw_region (es := [_, _, _, _]) ⟨Step.plain rfl (does_fieldAddr 47 1 3 3 0 0 [] (.var (e_api_Wait p0)) fl47_1), ⟨⟨rfl, trivial⟩, ⟨rfl, trivial⟩, rfl⟩, rfl,
    Step.plain rfl (does_fieldAddr 45 0 0 8 0 (0 + 3) [1] (.var (e_api_Wait p0)) fl45_0), ⟨⟨rfl, trivial⟩, ⟨rfl, trivial⟩, rfl⟩, rfl,
    Step.plain rfl (does_load 3 9 0 ((0 + 3) + 0) [1, 0] (.var (e_api_Wait p0)) (.int .i64 p0.Entry.Kind) ⟨rfl, Nat.le_of_ble_eq_true rfl, ⟨rfl, Nat.le_of_ble_eq_true rfl, trivial⟩⟩ rfl rfl ty3), ⟨⟨rfl, trivial⟩, ⟨rfl, trivial⟩, rfl⟩, rfl,
    Step.plain rfl (does_bin .eql 3 3 (.tmp 10) (.const (.int .i64 1)) .i64 p0.Entry.Kind 1 (.bool (p0.Entry.Kind == 1)) trivial (fun _ => rfl) (bin_eql _ _ _ _)), ⟨⟨rfl, trivial⟩, trivial, rfl⟩, rfl, rfl⟩ ?_
  refine aw_cov (cov_prune (s1 := ⟨[(3, (.ptr 0 0 [])), (4, (.ptr 1 0 [])), (5, (.ptr 2 0 [])), (7, (.int .i64 2)), (11, (.bool (p0.Entry.Kind == 1)))], [(0, some (.var (e_api_Wait p0))), (1, some (.var (e_a8_u32 p1))), (2, some (.var (e_a8_u32 p2)))], 3⟩) ⟨rfl, rfl, rfl, rfl, rfl, trivial⟩ ⟨rfl, rfl, rfl, trivial⟩ (Nat.le_refl _)) ?_
  refine aw_jn (fun x2 : Int => (⟨[(3, (.ptr 0 0 [])), (4, (.ptr 1 0 [])), (5, (.ptr 2 0 [])), (7, (.int .i64 x2))], [(0, some (.var (e_api_Wait p0))), (1, some (.var (e_a8_u32 p1))), (2, some (.var (e_a8_u32 p2)))], 3⟩ : St)) H (fun x2 H => ?_) (fun j1 H => ?_)
  · refine nx_seq ?_
    obtain ⟨v3, h4, H⟩ := bnd H
    refine aw_region (es := [_, _, _, _, _, _, _]) ⟨Step.plain rfl (does_load 28 4 1 0 [] (.var (e_a8_u32 p1)) (e_a8_u32 p1) trivial rfl rfl ty28), ⟨⟨rfl, trivial⟩, ⟨rfl, trivial⟩, rfl⟩, rfl,
      Step.plain rfl (does_load 29 5 2 0 [] (.var (e_a8_u32 p2)) (e_a8_u32 p2) trivial rfl rfl ty29), ⟨⟨rfl, trivial⟩, ⟨rfl, trivial⟩, rfl⟩, rfl,
      Step.plain rfl (does_fieldAddr 47 0 0 3 0 0 [] (.var (e_api_Wait p0)) fl47_0), ⟨⟨rfl, trivial⟩, ⟨rfl, trivial⟩, rfl⟩, rfl,
      Step.plain rfl (does_load 42 17 0 (0 + 0) [0] (.var (e_api_Wait p0)) (e_api_Place p0.Place) ⟨rfl, Nat.le_of_ble_eq_true rfl, trivial⟩ rfl rfl ty42), ⟨⟨rfl, trivial⟩, ⟨rfl, trivial⟩, rfl⟩, rfl,
      Step.plain rfl (does_move (.tmp 7) (.int .i64 x2) trivial), ⟨⟨rfl, trivial⟩, trivial, rfl⟩, rfl,
      Step.plain rfl (does_call 33 0 (fun _ => .any) (.func 33) [(.tmp 15), (.tmp 16), (.tmp 18), (.tmp 19)] [(e_a8_u32 p1), (e_a8_u32 p2), (e_api_Place p0.Place), (.int .i64 x2)] [] true [(e_a8_u32 p1), (e_a8_u32 p2), (e_api_Place p0.Place), (.int .i64 x2)] (.bool v3) _ _ rfl fo33 rfl ⟨trivial, trivial, trivial, trivial, trivial⟩ ⟨.data _ (d_a8_u32 p1), .data _ (d_a8_u32 p2), .data _ (d_api_Place p0.Place), .data _ trivial, trivial⟩ (congressref09_Service_spec p1 p2 p0.Place x2 _ h4) trivial), ⟨⟨rfl, rfl, rfl, rfl, trivial⟩, trivial, rfl⟩, rfl,
      Step.plain rfl (does_assign (.tmp 20) (.bool v3) trivial), ⟨⟨rfl, trivial⟩, trivial, rfl⟩, rfl, rfl⟩ ?_
    refine aw_cov (cov_prune (s1 := ⟨[(6, (.bool v3))], [], 3⟩) ⟨rfl, trivial⟩ trivial (Nat.le_refl _)) ?_
    refine aw_ret ?_
    exact fun a w hr => ⟨_, [(.bool v3)], hr, ⟨⟨_, rfl, .data (.bool v3) trivial⟩, trivial⟩, by decide, by cases H; rfl⟩
  · refine aw_cond rfl (fun hc => ?_) (fun hc => ?_)
    · replace H := ite_t hc H
      refine aw_region1 (es := [_, _, _, _]) ⟨Step.plain rfl (does_fieldAddr 47 1 3 3 0 0 [] (.var (e_api_Wait p0)) fl47_1), ⟨⟨rfl, trivial⟩, ⟨rfl, trivial⟩, rfl⟩, rfl,
        Step.plain rfl (does_fieldAddr 45 1 1 12 0 (0 + 3) [1] (.var (e_api_Wait p0)) fl45_1), ⟨⟨rfl, trivial⟩, ⟨rfl, trivial⟩, rfl⟩, rfl,
        Step.plain rfl (does_load 3 13 0 ((0 + 3) + 1) [1, 1] (.var (e_api_Wait p0)) (.int .i64 p0.Entry.Service) ⟨rfl, Nat.le_of_ble_eq_true rfl, ⟨rfl, Nat.le_of_ble_eq_true rfl, trivial⟩⟩ rfl rfl ty3), ⟨⟨rfl, trivial⟩, ⟨rfl, trivial⟩, rfl⟩, rfl,
        Step.plain rfl (does_assign (.tmp 14) (.int .i64 p0.Entry.Service) trivial), ⟨⟨rfl, trivial⟩, trivial, rfl⟩, rfl, rfl⟩ ?_
      exact nx_join (p0.Entry.Service) H (cov_prune ⟨rfl, rfl, rfl, rfl, trivial⟩ ⟨rfl, rfl, rfl, trivial⟩ (Nat.le_of_ble_eq_true rfl))
    · replace H := ite_f hc H
      refine aw_skip ?_
      exact nx_join (2) H (cov_prune ⟨rfl, rfl, rfl, rfl, trivial⟩ ⟨rfl, rfl, rfl, trivial⟩ (Nat.le_of_ble_eq_true rfl))

theorem congressref22_Ordered_spec (p0 : api_Entry) (r : Bool) (H : congressref22_Ordered p0 = some r) : FSpec Try.prog 20 [(e_api_Entry p0)] (.bool r) := by
  refine spec_of (fn := Try.f20) (args := [(e_api_Entry p0)]) Try.func20 rfl (Nat.le_of_ble_eq_true rfl) ?_
  rintro ⟨G, w0, W, S, Sp⟩ hG
  cases hG
  unfold congressref22_Ordered at H
  refine aw_region (es := [_, _]) ⟨Step.plain rfl (does_box 45 (.tmp 0) 0 (e_api_Entry p0) trivial rfl), ⟨⟨rfl, trivial⟩, trivial, rfl⟩, rfl,
    Step.plain rfl (does_assign (.const (.bool false)) (.bool false) (fun _ => rfl)), ⟨trivial, trivial, rfl⟩, rfl, rfl⟩ ?_
  refine aw_cov (cov_prune (s1 := ⟨[(1, (.ptr 0 0 []))], [(0, some (.var (e_api_Entry p0)))], 1⟩) ⟨rfl, trivial⟩ ⟨rfl, trivial⟩ (Nat.le_refl _)) ?_
  refine aw_region (es := [_, _, _, _, _, _, _, _, _, _, _, _, _, _]) ⟨Step.plain rfl (does_fieldAddr 45 0 0 1 0 0 [] (.var (e_api_Entry p0)) fl45_0), ⟨⟨rfl, trivial⟩, ⟨rfl, trivial⟩, rfl⟩, rfl,
    Step.plain rfl (does_load 3 3 0 (0 + 0) [0] (.var (e_api_Entry p0)) (.int .i64 p0.Kind) ⟨rfl, Nat.le_of_ble_eq_true rfl, trivial⟩ rfl rfl ty3), ⟨⟨rfl, trivial⟩, ⟨rfl, trivial⟩, rfl⟩, rfl,
    Step.plain rfl (does_bin .neq 3 3 (.tmp 4) (.const (.int .i64 1)) .i64 p0.Kind 1 (.bool (p0.Kind != 1)) trivial (fun _ => rfl) (bin_neq _ _ _ _)), ⟨⟨rfl, trivial⟩, trivial, rfl⟩, rfl,
    Step.plain rfl (does_move (.tmp 5) (.bool (p0.Kind != 1)) trivial), ⟨⟨rfl, trivial⟩, trivial, rfl⟩, rfl,
    Step.guarded rfl rfl rfl rfl (fun hc => does_fieldAddr 45 1 1 1 0 0 [] (.var (e_api_Entry p0)) fl45_1), ⟨⟨rfl, rfl, trivial⟩, ⟨rfl, trivial⟩, rfl⟩, rfl,
    Step.guarded rfl rfl rfl rfl (fun hc => Does.strip (n' := [(7, (.opt (!(p0.Kind != 1)) (.ptr 0 (0 + 1) [1])))]) (n := [(7, (.ptr 0 (0 + 1) [1]))]) ⟨(.opt _ _ hc), trivial⟩ (does_load 3 7 0 (0 + 1) [1] (.var (e_api_Entry p0)) (.int .i64 p0.Service) ⟨rfl, Nat.le_of_ble_eq_true rfl, trivial⟩ rfl rfl ty3)), ⟨⟨rfl, rfl, trivial⟩, ⟨rfl, trivial⟩, rfl⟩, rfl,
    Step.guarded rfl rfl rfl rfl (fun hc => Does.strip (n' := [(8, (.opt (!(p0.Kind != 1)) (.int .i64 p0.Service)))]) (n := [(8, (.int .i64 p0.Service))]) ⟨(.opt _ _ hc), trivial⟩ (does_bin .eql 3 3 (.tmp 8) (.const (.int .i64 2)) .i64 p0.Service 2 (.bool (p0.Service == 2)) trivial (fun _ => rfl) (bin_eql _ _ _ _))), ⟨⟨rfl, rfl, trivial⟩, trivial, rfl⟩, rfl,
    Step.plain rfl (does_or 6 9 (p0.Kind != 1) (p0.Service == 2)), ⟨⟨rfl, rfl, trivial⟩, trivial, rfl⟩, rfl,
    Step.plain rfl (does_move (.tmp 10) (.bool ((p0.Kind != 1) || (p0.Service == 2))) trivial), ⟨⟨rfl, trivial⟩, trivial, rfl⟩, rfl,
    Step.guarded rfl rfl rfl rfl (fun hc => does_fieldAddr 45 1 1 1 0 0 [] (.var (e_api_Entry p0)) fl45_1), ⟨⟨rfl, rfl, trivial⟩, ⟨rfl, trivial⟩, rfl⟩, rfl,
    Step.guarded rfl rfl rfl rfl (fun hc => Does.strip (n' := [(12, (.opt (!((p0.Kind != 1) || (p0.Service == 2))) (.ptr 0 (0 + 1) [1])))]) (n := [(12, (.ptr 0 (0 + 1) [1]))]) ⟨(.opt _ _ hc), trivial⟩ (does_load 3 12 0 (0 + 1) [1] (.var (e_api_Entry p0)) (.int .i64 p0.Service) ⟨rfl, Nat.le_of_ble_eq_true rfl, trivial⟩ rfl rfl ty3)), ⟨⟨rfl, rfl, trivial⟩, ⟨rfl, trivial⟩, rfl⟩, rfl,
    Step.guarded rfl rfl rfl rfl (fun hc => Does.strip (n' := [(13, (.opt (!((p0.Kind != 1) || (p0.Service == 2))) (.int .i64 p0.Service)))]) (n := [(13, (.int .i64 p0.Service))]) ⟨(.opt _ _ hc), trivial⟩ (does_bin .eql 3 3 (.tmp 13) (.const (.int .i64 3)) .i64 p0.Service 3 (.bool (p0.Service == 3)) trivial (fun _ => rfl) (bin_eql _ _ _ _))), ⟨⟨rfl, rfl, trivial⟩, trivial, rfl⟩, rfl,
    Step.plain rfl (does_or 11 14 ((p0.Kind != 1) || (p0.Service == 2)) (p0.Service == 3)), ⟨⟨rfl, rfl, trivial⟩, trivial, rfl⟩, rfl,
    Step.plain rfl (does_assign (.tmp 15) (.bool (((p0.Kind != 1) || (p0.Service == 2)) || (p0.Service == 3))) trivial), ⟨⟨rfl, trivial⟩, trivial, rfl⟩, rfl, rfl⟩ ?_
  refine aw_cov (cov_prune (s1 := ⟨[(2, (.bool (((p0.Kind != 1) || (p0.Service == 2)) || (p0.Service == 3))))], [], 1⟩) ⟨rfl, trivial⟩ trivial (Nat.le_refl _)) ?_
  refine aw_ret ?_
  exact fun a w hr => ⟨_, [(.bool (((p0.Kind != 1) || (p0.Service == 2)) || (p0.Service == 3)))], hr, ⟨⟨_, rfl, .data (.bool (((p0.Kind != 1) || (p0.Service == 2)) || (p0.Service == 3))) trivial⟩, trivial⟩, by decide, by cases H; rfl⟩

theorem congressref22_Ready_spec (p0 : (_root_.List api_Wait)) (p1 : (Nat → Int)) (p2 : (Nat → Int)) (r : (_root_.List api_Wait) × (_root_.List api_Wait)) (H : congressref22_Ready p0 p1 p2 = some r) : FSpecO Try.prog 10 [(e_s_api_Wait p0), (e_a8_u32 p1), (e_a8_u32 p2)] [] 0 (resV [(.own 0), (.own 1)]) [(0, some (.arr 9 r.1.length fun j => (e_api_Wait (r.1.getD j z_api_Wait)))), (1, some (.arr 9 r.2.length fun j => (e_api_Wait (r.2.getD j z_api_Wait))))] 2 := by
  refine specO_of (fn := Try.f10) (args := [(e_s_api_Wait p0), (e_a8_u32 p1), (e_a8_u32 p2)]) Try.func10 rfl (Nat.le_of_ble_eq_true rfl) ?_
  rintro ⟨G, w0, W, S, Sp⟩ hG
  cases hG
  unfold congressref22_Ready at H
  refine aw_region (es := [_, _, _, _]) ⟨Step.plain rfl (does_box 28 (.tmp 1) 0 (e_a8_u32 p1) trivial rfl), ⟨⟨rfl, trivial⟩, trivial, rfl⟩, rfl,
    Step.plain rfl (does_box 29 (.tmp 2) 1 (e_a8_u32 p2) trivial rfl), ⟨⟨rfl, trivial⟩, trivial, rfl⟩, rfl,
    Step.plain rfl (does_nil false 2 9 (fun j => (e_api_Wait (([] : _root_.List api_Wait).getD j z_api_Wait)))), ⟨trivial, trivial, rfl⟩, rfl,
    Step.plain rfl (does_nil false 3 9 (fun j => (e_api_Wait (([] : _root_.List api_Wait).getD j z_api_Wait)))), ⟨trivial, trivial, rfl⟩, rfl, rfl⟩ ?_
  refine aw_cov (cov_prune (s1 := ⟨[(0, (e_s_api_Wait p0)), (4, (.ptr 0 0 [])), (5, (.ptr 1 0 []))], [(0, some (.var (e_a8_u32 p1))), (1, some (.var (e_a8_u32 p2)))], 4⟩) ⟨rfl, rfl, rfl, trivial⟩ ⟨rfl, rfl, trivial⟩ (Nat.le_refl _)) ?_
  refine aw_region (es := [_, _, _, _]) ⟨Step.plain rfl (does_buildOwn 22 0 9 4 (e_api_Wait z_api_Wait) (fun j => (e_api_Wait (([] : _root_.List api_Wait).getD j z_api_Wait))) #[] [] [] rfl so22 (by decide) trivial trivial (fun j h => match j, h with  | k + 0, h => absurd h (by omega))), ⟨trivial, trivial, rfl⟩, rfl,
    Step.plain rfl (does_buildOwn 22 0 9 5 (e_api_Wait z_api_Wait) (fun j => (e_api_Wait (([] : _root_.List api_Wait).getD j z_api_Wait))) #[] [] [] rfl so22 (by decide) trivial trivial (fun j h => match j, h with  | k + 0, h => absurd h (by omega))), ⟨trivial, trivial, rfl⟩, rfl,
    Step.plain rfl (does_assign (.tmp 13) (.own 4) trivial), ⟨⟨rfl, trivial⟩, trivial, rfl⟩, rfl,
    Step.plain rfl (does_assign (.tmp 14) (.own 5) trivial), ⟨⟨rfl, trivial⟩, trivial, rfl⟩, rfl, rfl⟩ ?_
  refine aw_cov (cov_prune (s1 := ⟨[(0, (e_s_api_Wait p0)), (4, (.ptr 0 0 [])), (5, (.ptr 1 0 [])), (8, (.own 4)), (9, (.own 5))], [(0, some (.var (e_a8_u32 p1))), (1, some (.var (e_a8_u32 p2))), (4, some (.arr 9 ([] : _root_.List api_Wait).length fun j => (e_api_Wait (([] : _root_.List api_Wait).getD j z_api_Wait)))), (5, some (.arr 9 ([] : _root_.List api_Wait).length fun j => (e_api_Wait (([] : _root_.List api_Wait).getD j z_api_Wait))))], 6⟩) ⟨rfl, rfl, rfl, rfl, rfl, trivial⟩ ⟨rfl, rfl, rfl, rfl, trivial⟩ (Nat.le_refl _)) ?_
  refine aw_seq ?_
  refine aw_region (es := [_]) ⟨Step.plain rfl (does_assign (.const (.int .i64 0)) (.int .i64 0) (fun _ => rfl)), ⟨trivial, trivial, rfl⟩, rfl, rfl⟩ ?_
  refine aw_cov (cov_prune (s1 := ⟨[(0, (e_s_api_Wait p0)), (4, (.ptr 0 0 [])), (5, (.ptr 1 0 [])), (8, (.own 4)), (9, (.own 5)), (10, (.int .i64 0))], [(0, some (.var (e_a8_u32 p1))), (1, some (.var (e_a8_u32 p2))), (4, some (.arr 9 ([] : _root_.List api_Wait).length fun j => (e_api_Wait (([] : _root_.List api_Wait).getD j z_api_Wait)))), (5, some (.arr 9 ([] : _root_.List api_Wait).length fun j => (e_api_Wait (([] : _root_.List api_Wait).getD j z_api_Wait))))], 6⟩) ⟨rfl, rfl, rfl, rfl, rfl, rfl, trivial⟩ ⟨rfl, rfl, rfl, rfl, trivial⟩ (Nat.le_refl _)) ?_
  obtain ⟨wn2, hwn2, Hrn2⟩ := bnd H
  refine aw_meet (fun y26 : _root_.List api_Wait × _root_.List api_Wait => (⟨[(8, (.own 4)), (9, (.own 5))], [(4, some (.arr 9 y26.1.length fun j => (e_api_Wait (y26.1.getD j z_api_Wait)))), (5, some (.arr 9 y26.2.length fun j => (e_api_Wait (y26.2.getD j z_api_Wait))))], 6⟩ : St)) (fun y26 => Fl.nx y26 = wn2) (fun y26 hy => ?_) (aw_block (aw_runs (fun x1 : Int × _root_.List api_Wait × _root_.List api_Wait => (⟨[(0, (e_s_api_Wait p0)), (4, (.ptr 0 0 [])), (5, (.ptr 1 0 [])), (8, (.own 4)), (9, (.own 5)), (10, (.int .i64 x1.1))], [(0, some (.var (e_a8_u32 p1))), (1, some (.var (e_a8_u32 p2))), (4, some (.arr 9 x1.2.1.length fun j => (e_api_Wait (x1.2.1.getD j z_api_Wait)))), (5, some (.arr 9 x1.2.2.length fun j => (e_api_Wait (x1.2.2.getD j z_api_Wait))))], 6⟩ : St)) hwn2 (cov_prune ⟨rfl, rfl, rfl, rfl, rfl, rfl, trivial⟩ ⟨rfl, rfl, rfl, rfl, trivial⟩ (Nat.le_of_ble_eq_true rfl)) (fun x1 st H hsn2 => ?_)))
  · have H := nx_of hy Hrn2
    refine nx_seq ?_
    refine aw_region (es := [_, _, _, _]) ⟨Step.plain rfl (does_move (.tmp 8) (.own 4) trivial), ⟨⟨rfl, trivial⟩, trivial, rfl⟩, rfl,
      Step.plain rfl (does_move (.tmp 9) (.own 5) trivial), ⟨⟨rfl, trivial⟩, trivial, rfl⟩, rfl,
      Step.plain rfl (does_assign (.tmp 72) (.own 4) trivial), ⟨⟨rfl, trivial⟩, trivial, rfl⟩, rfl,
      Step.plain rfl (does_assign (.tmp 73) (.own 5) trivial), ⟨⟨rfl, trivial⟩, trivial, rfl⟩, rfl, rfl⟩ ?_
    refine aw_cov (cov_prune (s1 := ⟨[(6, (.own 4)), (7, (.own 5))], [(4, some (.arr 9 y26.1.length fun j => (e_api_Wait (y26.1.getD j z_api_Wait)))), (5, some (.arr 9 y26.2.length fun j => (e_api_Wait (y26.2.getD j z_api_Wait))))], 6⟩) ⟨rfl, rfl, trivial⟩ ⟨rfl, rfl, trivial⟩ (Nat.le_refl _)) ?_
    refine aw_ret ?_
    exact fun a w hr => ⟨_, [(.own 0), (.own 1)], reach_of hr (cov_to (s1 := ⟨[(6, (.own 0)), (7, (.own 1))], [(0, some (.arr 9 y26.1.length fun j => (e_api_Wait (y26.1.getD j z_api_Wait)))), (1, some (.arr 9 y26.2.length fun j => (e_api_Wait (y26.2.getD j z_api_Wait))))], 2⟩) (fun i => match i with | 0 => 4 | 1 => 5 | k => k) [] ⟨⟨_, rfl, .own 0 _ _ (Nat.le_of_ble_eq_true rfl) rfl rfl (Box.like_refl _)⟩, ⟨_, rfl, .own 1 _ _ (Nat.le_of_ble_eq_true rfl) rfl rfl (Box.like_refl _)⟩, trivial⟩ ⟨⟨Nat.le_of_ble_eq_true rfl, _, _, rfl, rfl, boxTo_arr (fun _ => (d_api_Wait _))⟩, ⟨Nat.le_of_ble_eq_true rfl, _, _, rfl, rfl, boxTo_arr (fun _ => (d_api_Wait _))⟩, trivial⟩ rfl rfl), ⟨rfl, rfl, trivial⟩, by decide, by cases H; rfl, by cases H; exact ⟨rfl, rfl, trivial⟩, Nat.le_of_ble_eq_true rfl⟩
  · refine aw_seq ?_
    refine aw_region (es := [_, _, _, _]) ⟨Step.plain rfl (does_move (.tmp 10) (.int .i64 x1.1) trivial), ⟨⟨rfl, trivial⟩, trivial, rfl⟩, rfl,
      Step.plain rfl (does_move (.tmp 0) (e_s_api_Wait p0) trivial), ⟨⟨rfl, trivial⟩, trivial, rfl⟩, rfl,
      Step.plain rfl (does_lens 22 9 p0.length 16 (fun j => (e_api_Wait (p0.getD j z_api_Wait))) el22), ⟨⟨rfl, trivial⟩, trivial, rfl⟩, rfl,
      Step.plain rfl (does_bin .lss 3 3 (.tmp 15) (.tmp 17) .i64 x1.1 (p0.length : Int) (.bool (decide (x1.1 < (p0.length : Int)))) trivial trivial (bin_lss _ _ _ _)), ⟨⟨rfl, rfl, trivial⟩, trivial, rfl⟩, rfl, rfl⟩ ?_
    refine aw_cov (cov_prune (s1 := ⟨[(0, (e_s_api_Wait p0)), (4, (.ptr 0 0 [])), (5, (.ptr 1 0 [])), (8, (.own 4)), (9, (.own 5)), (10, (.int .i64 x1.1)), (18, (.bool (decide (x1.1 < (p0.length : Int)))))], [(0, some (.var (e_a8_u32 p1))), (1, some (.var (e_a8_u32 p2))), (4, some (.arr 9 x1.2.1.length fun j => (e_api_Wait (x1.2.1.getD j z_api_Wait)))), (5, some (.arr 9 x1.2.2.length fun j => (e_api_Wait (x1.2.2.getD j z_api_Wait))))], 6⟩) ⟨rfl, rfl, rfl, rfl, rfl, rfl, rfl, trivial⟩ ⟨rfl, rfl, rfl, rfl, trivial⟩ (Nat.le_refl _)) ?_
    refine aw_cond rfl (fun hc => ?_) (fun hc => ?_)
    · replace H := ite_t hc H
      refine aw_skip ?_
      refine nx_seq ?_
      refine aw_seq ?_
      refine aw_jn (fun x25 : _root_.List api_Wait × _root_.List api_Wait => (⟨[(0, (e_s_api_Wait p0)), (4, (.ptr 0 0 [])), (5, (.ptr 1 0 [])), (8, (.own 4)), (9, (.own 5)), (10, (.int .i64 x1.1))], [(0, some (.var (e_a8_u32 p1))), (1, some (.var (e_a8_u32 p2))), (4, some (.arr 9 x25.1.length fun j => (e_api_Wait (x25.1.getD j z_api_Wait)))), (5, some (.arr 9 x25.2.length fun j => (e_api_Wait (x25.2.getD j z_api_Wait))))], 7⟩ : St)) H (fun x25 H => ?_) (fun j3 H => ?_)
      · refine nx_seq ?_
        refine aw_region1 (es := [_, _, _]) ⟨Step.plain rfl (does_move (.tmp 10) (.int .i64 x1.1) trivial), ⟨⟨rfl, trivial⟩, trivial, rfl⟩, rfl,
          Step.plain rfl (does_bin .add 3 3 (.tmp 19) (.const (.int .i64 1)) .i64 x1.1 1 (.int .i64 (IntKind.i64.wrap (x1.1 + 1))) trivial (fun _ => rfl) (bin_add _ _ _ _)), ⟨⟨rfl, trivial⟩, trivial, rfl⟩, rfl,
          Step.plain rfl (does_assign (.tmp 20) (.int .i64 (IntKind.i64.wrap (x1.1 + 1))) trivial), ⟨⟨rfl, trivial⟩, trivial, rfl⟩, rfl, rfl⟩ ?_
        exact nx_loop ((IntKind.i64.wrap (x1.1 + 1)), x25.1, x25.2) H (cov_of (fun i => match i with | 0 => 0 | 1 => 1 | 4 => 4 | 5 => 5 | k => k) ⟨⟨_, rfl, ⟨rfl, (d_s_api_Wait _).plain⟩⟩, ⟨_, rfl, ⟨rfl, Nat.le_of_ble_eq_true rfl⟩⟩, ⟨_, rfl, ⟨rfl, Nat.le_of_ble_eq_true rfl⟩⟩, ⟨_, rfl, ⟨rfl, Nat.le_of_ble_eq_true rfl⟩⟩, ⟨_, rfl, ⟨rfl, Nat.le_of_ble_eq_true rfl⟩⟩, ⟨_, rfl, ⟨rfl, trivial⟩⟩, trivial⟩ ⟨⟨Nat.le_of_ble_eq_true rfl, _, _, rfl, rfl, .inl ⟨rfl, (d_a8_u32 _).plain⟩⟩, ⟨Nat.le_of_ble_eq_true rfl, _, _, rfl, rfl, .inl ⟨rfl, (d_a8_u32 _).plain⟩⟩, ⟨Nat.le_of_ble_eq_true rfl, _, _, rfl, rfl, ⟨rfl, rfl, fun _ => .inl ⟨rfl, (d_api_Wait _).plain⟩⟩⟩, ⟨Nat.le_of_ble_eq_true rfl, _, _, rfl, rfl, ⟨rfl, rfl, fun _ => .inl ⟨rfl, (d_api_Wait _).plain⟩⟩⟩, trivial⟩ rfl)
      · refine aw_block ?_
        obtain ⟨h4, H⟩ := ib_of H
        obtain ⟨v5, h6, H⟩ := bnd H
        refine aw_draw (es := [_, _, _, _, _, _, _, _]) (mixed) ⟨Step.plain rfl (does_move (.tmp 0) (e_s_api_Wait p0) trivial), ⟨⟨rfl, trivial⟩, trivial, rfl⟩, rfl,
          Step.plain rfl (does_move (.tmp 10) (.int .i64 x1.1) trivial), ⟨⟨rfl, trivial⟩, trivial, rfl⟩, rfl,
          Step.plain rfl (does_indexAddrs 22 9 p0.length 21 (fun j => (e_api_Wait (p0.getD j z_api_Wait))) (.tmp 22) .i64 x1.1 el22 trivial h4.1 h4.2), ⟨⟨rfl, rfl, trivial⟩, trivial, rfl⟩, rfl,
          Step.plain rfl (does_loadc 47 23 (e_api_Wait (p0.getD x1.1.toNat z_api_Wait)) ty47), ⟨⟨rfl, trivial⟩, trivial, rfl⟩, rfl,
          Step.plain rfl (does_load 28 4 0 0 [] (.var (e_a8_u32 p1)) (e_a8_u32 p1) trivial rfl rfl ty28), ⟨⟨rfl, trivial⟩, ⟨rfl, trivial⟩, rfl⟩, rfl,
          Step.plain rfl (does_load 29 5 1 0 [] (.var (e_a8_u32 p2)) (e_a8_u32 p2) trivial rfl rfl ty29), ⟨⟨rfl, trivial⟩, ⟨rfl, trivial⟩, rfl⟩, rfl,
          Step.plain rfl (does_call 26 0 (fun _ => .any) (.func 26) [(.tmp 24), (.tmp 25), (.tmp 26)] [(e_api_Wait (p0.getD x1.1.toNat z_api_Wait)), (e_a8_u32 p1), (e_a8_u32 p2)] [] true [(e_api_Wait (p0.getD x1.1.toNat z_api_Wait)), (e_a8_u32 p1), (e_a8_u32 p2)] (.bool v5) _ _ rfl fo26 rfl ⟨trivial, trivial, trivial, trivial⟩ ⟨.data _ (d_api_Wait (p0.getD x1.1.toNat z_api_Wait)), .data _ (d_a8_u32 p1), .data _ (d_a8_u32 p2), trivial⟩ (congressref22_Is_spec (p0.getD x1.1.toNat z_api_Wait) p1 p2 _ h6) trivial), ⟨⟨rfl, rfl, rfl, trivial⟩, trivial, rfl⟩, rfl,
          Step.plain rfl (does_assign (.tmp 27) (.bool v5) trivial), ⟨⟨rfl, trivial⟩, trivial, rfl⟩, rfl, rfl⟩ rfl ?_
        refine aw_cov (cov_prune (s1 := ⟨[(0, (e_s_api_Wait p0)), (4, (.ptr 0 0 [])), (5, (.ptr 1 0 [])), (8, (.own 4)), (9, (.own 5)), (10, (.int .i64 x1.1)), (11, (.bool v5))], [(0, some (.var (e_a8_u32 p1))), (1, some (.var (e_a8_u32 p2))), (4, some (.arr 9 x1.2.1.length fun j => (e_api_Wait (x1.2.1.getD j z_api_Wait)))), (5, some (.arr 9 x1.2.2.length fun j => (e_api_Wait (x1.2.2.getD j z_api_Wait))))], 6⟩) ⟨rfl, rfl, rfl, rfl, rfl, rfl, rfl, trivial⟩ ⟨rfl, rfl, rfl, rfl, trivial⟩ (Nat.le_refl _)) ?_
        refine aw_seq ?_
        refine aw_region (es := [_]) ⟨Step.plain rfl (does_assign (.const (.int .i64 0)) (.int .i64 0) (fun _ => rfl)), ⟨trivial, trivial, rfl⟩, rfl, rfl⟩ ?_
        refine aw_cov (cov_prune (s1 := ⟨[(0, (e_s_api_Wait p0)), (4, (.ptr 0 0 [])), (5, (.ptr 1 0 [])), (8, (.own 4)), (9, (.own 5)), (10, (.int .i64 x1.1)), (11, (.bool v5)), (12, (.int .i64 0))], [(0, some (.var (e_a8_u32 p1))), (1, some (.var (e_a8_u32 p2))), (4, some (.arr 9 x1.2.1.length fun j => (e_api_Wait (x1.2.1.getD j z_api_Wait)))), (5, some (.arr 9 x1.2.2.length fun j => (e_api_Wait (x1.2.2.getD j z_api_Wait))))], 6⟩) ⟨rfl, rfl, rfl, rfl, rfl, rfl, rfl, rfl, trivial⟩ ⟨rfl, rfl, rfl, rfl, trivial⟩ (Nat.le_refl _)) ?_
        obtain ⟨wn8, hwn8, Hrn8⟩ := bnd H
        refine aw_meet (fun y20 : Bool => (⟨[(0, (e_s_api_Wait p0)), (4, (.ptr 0 0 [])), (5, (.ptr 1 0 [])), (8, (.own 4)), (9, (.own 5)), (10, (.int .i64 x1.1)), (11, (.bool y20))], [(0, some (.var (e_a8_u32 p1))), (1, some (.var (e_a8_u32 p2))), (4, some (.arr 9 x1.2.1.length fun j => (e_api_Wait (x1.2.1.getD j z_api_Wait)))), (5, some (.arr 9 x1.2.2.length fun j => (e_api_Wait (x1.2.2.getD j z_api_Wait))))], 6⟩ : St)) (fun y20 => Fl.nx y20 = wn8) (fun y20 hy => ?_) (aw_block (aw_runs (fun x7 : Bool × Int => (⟨[(0, (e_s_api_Wait p0)), (4, (.ptr 0 0 [])), (5, (.ptr 1 0 [])), (8, (.own 4)), (9, (.own 5)), (10, (.int .i64 x1.1)), (11, (.bool x7.1)), (12, (.int .i64 x7.2))], [(0, some (.var (e_a8_u32 p1))), (1, some (.var (e_a8_u32 p2))), (4, some (.arr 9 x1.2.1.length fun j => (e_api_Wait (x1.2.1.getD j z_api_Wait)))), (5, some (.arr 9 x1.2.2.length fun j => (e_api_Wait (x1.2.2.getD j z_api_Wait))))], 6⟩ : St)) hwn8 (cov_prune ⟨rfl, rfl, rfl, rfl, rfl, rfl, rfl, rfl, trivial⟩ ⟨rfl, rfl, rfl, rfl, trivial⟩ (Nat.le_of_ble_eq_true rfl)) (fun x7 st H hsn8 => ?_)))
        · have H := nx_of hy Hrn8
          refine nx_seq ?_
          refine aw_region (es := [_]) ⟨Step.plain rfl (does_move (.tmp 11) (.bool y20) trivial), ⟨⟨rfl, trivial⟩, trivial, rfl⟩, rfl, rfl⟩ ?_
          refine aw_cov (cov_prune (s1 := ⟨[(0, (e_s_api_Wait p0)), (4, (.ptr 0 0 [])), (5, (.ptr 1 0 [])), (8, (.own 4)), (9, (.own 5)), (10, (.int .i64 x1.1)), (57, (.bool y20))], [(0, some (.var (e_a8_u32 p1))), (1, some (.var (e_a8_u32 p2))), (4, some (.arr 9 x1.2.1.length fun j => (e_api_Wait (x1.2.1.getD j z_api_Wait)))), (5, some (.arr 9 x1.2.2.length fun j => (e_api_Wait (x1.2.2.getD j z_api_Wait))))], 6⟩) ⟨rfl, rfl, rfl, rfl, rfl, rfl, rfl, trivial⟩ ⟨rfl, rfl, rfl, rfl, trivial⟩ (Nat.le_refl _)) ?_
          refine aw_cond rfl (fun hc => ?_) (fun hc => ?_)
          · replace H := ite_t hc H
            obtain ⟨h21, H⟩ := ib_of H
            obtain ⟨h22, H⟩ := fit_of H
            refine aw_region1 (es := [_, _, _, _, _, _, _, _]) ⟨Step.plain rfl (does_move (.tmp 8) (.own 4) trivial), ⟨⟨rfl, trivial⟩, trivial, rfl⟩, rfl,
              Step.plain rfl (does_move (.tmp 0) (e_s_api_Wait p0) trivial), ⟨⟨rfl, trivial⟩, trivial, rfl⟩, rfl,
              Step.plain rfl (does_move (.tmp 10) (.int .i64 x1.1) trivial), ⟨⟨rfl, trivial⟩, trivial, rfl⟩, rfl,
              Step.plain rfl (does_indexAddrs 22 9 p0.length 59 (fun j => (e_api_Wait (p0.getD j z_api_Wait))) (.tmp 60) .i64 x1.1 el22 trivial h21.1 h21.2), ⟨⟨rfl, rfl, trivial⟩, trivial, rfl⟩, rfl,
              Step.plain rfl (does_loadc 47 61 (e_api_Wait (p0.getD x1.1.toNat z_api_Wait)) ty47), ⟨⟨rfl, trivial⟩, trivial, rfl⟩, rfl,
              Step.plain rfl (does_buildSl 22 1 9 (e_api_Wait z_api_Wait) (fun j => (e_api_Wait (([p0.getD x1.1.toNat z_api_Wait] : _root_.List api_Wait).getD j z_api_Wait))) #[(0, (.tmp 62))] [(0, (.tmp 62))] [(0, (e_api_Wait (p0.getD x1.1.toNat z_api_Wait)))] rfl so22 (by decide) ⟨⟨rfl, trivial⟩, trivial⟩ ⟨⟨Nat.le_of_ble_eq_true rfl, rfl, rfl⟩, trivial⟩ (fun j h => match j, h with | 0, _ => rfl | k + 1, h => absurd h (by omega))), ⟨⟨rfl, trivial⟩, trivial, rfl⟩, rfl,
              Step.plain rfl (does_appendL e_api_Wait z_api_Wait x1.2.1 ([p0.getD x1.1.toNat z_api_Wait] : _root_.List api_Wait) 22 9 80 4 6 58 63 ap22 h22), ⟨⟨rfl, rfl, trivial⟩, ⟨rfl, trivial⟩, rfl⟩, rfl,
              Step.plain rfl (does_assign (.tmp 64) (.own 6) trivial), ⟨⟨rfl, trivial⟩, trivial, rfl⟩, rfl, rfl⟩ ?_
            refine nx_blk ?_
            exact nx_join ((x1.2.1 ++ ([p0.getD x1.1.toNat z_api_Wait] : _root_.List api_Wait)), x1.2.2) H (cov_of (fun i => match i with | 0 => 0 | 1 => 1 | 4 => 6 | 5 => 5 | k => k) ⟨⟨_, rfl, ⟨rfl, (d_s_api_Wait _).plain⟩⟩, ⟨_, rfl, ⟨rfl, Nat.le_of_ble_eq_true rfl⟩⟩, ⟨_, rfl, ⟨rfl, Nat.le_of_ble_eq_true rfl⟩⟩, ⟨_, rfl, ⟨rfl, Nat.le_of_ble_eq_true rfl⟩⟩, ⟨_, rfl, ⟨rfl, Nat.le_of_ble_eq_true rfl⟩⟩, ⟨_, rfl, ⟨rfl, trivial⟩⟩, trivial⟩ ⟨⟨Nat.le_of_ble_eq_true rfl, _, _, rfl, rfl, .inl ⟨rfl, (d_a8_u32 _).plain⟩⟩, ⟨Nat.le_of_ble_eq_true rfl, _, _, rfl, rfl, .inl ⟨rfl, (d_a8_u32 _).plain⟩⟩, ⟨Nat.le_of_ble_eq_true rfl, _, _, rfl, rfl, ⟨rfl, rfl, fun _ => .inl ⟨rfl, (d_api_Wait _).plain⟩⟩⟩, ⟨Nat.le_of_ble_eq_true rfl, _, _, rfl, rfl, ⟨rfl, rfl, fun _ => .inl ⟨rfl, (d_api_Wait _).plain⟩⟩⟩, trivial⟩ rfl)
          · replace H := ite_f hc H
            obtain ⟨h23, H⟩ := ib_of H
            obtain ⟨h24, H⟩ := fit_of H
            refine aw_region1 (es := [_, _, _, _, _, _, _, _]) ⟨Step.plain rfl (does_move (.tmp 9) (.own 5) trivial), ⟨⟨rfl, trivial⟩, trivial, rfl⟩, rfl,
              Step.plain rfl (does_move (.tmp 0) (e_s_api_Wait p0) trivial), ⟨⟨rfl, trivial⟩, trivial, rfl⟩, rfl,
              Step.plain rfl (does_move (.tmp 10) (.int .i64 x1.1) trivial), ⟨⟨rfl, trivial⟩, trivial, rfl⟩, rfl,
              Step.plain rfl (does_indexAddrs 22 9 p0.length 66 (fun j => (e_api_Wait (p0.getD j z_api_Wait))) (.tmp 67) .i64 x1.1 el22 trivial h23.1 h23.2), ⟨⟨rfl, rfl, trivial⟩, trivial, rfl⟩, rfl,
              Step.plain rfl (does_loadc 47 68 (e_api_Wait (p0.getD x1.1.toNat z_api_Wait)) ty47), ⟨⟨rfl, trivial⟩, trivial, rfl⟩, rfl,
              Step.plain rfl (does_buildSl 22 1 9 (e_api_Wait z_api_Wait) (fun j => (e_api_Wait (([p0.getD x1.1.toNat z_api_Wait] : _root_.List api_Wait).getD j z_api_Wait))) #[(0, (.tmp 69))] [(0, (.tmp 69))] [(0, (e_api_Wait (p0.getD x1.1.toNat z_api_Wait)))] rfl so22 (by decide) ⟨⟨rfl, trivial⟩, trivial⟩ ⟨⟨Nat.le_of_ble_eq_true rfl, rfl, rfl⟩, trivial⟩ (fun j h => match j, h with | 0, _ => rfl | k + 1, h => absurd h (by omega))), ⟨⟨rfl, trivial⟩, trivial, rfl⟩, rfl,
              Step.plain rfl (does_appendL e_api_Wait z_api_Wait x1.2.2 ([p0.getD x1.1.toNat z_api_Wait] : _root_.List api_Wait) 22 9 80 5 6 65 70 ap22 h24), ⟨⟨rfl, rfl, trivial⟩, ⟨rfl, trivial⟩, rfl⟩, rfl,
              Step.plain rfl (does_assign (.tmp 71) (.own 6) trivial), ⟨⟨rfl, trivial⟩, trivial, rfl⟩, rfl, rfl⟩ ?_
            refine nx_blk ?_
            exact nx_join (x1.2.1, (x1.2.2 ++ ([p0.getD x1.1.toNat z_api_Wait] : _root_.List api_Wait))) H (cov_of (fun i => match i with | 0 => 0 | 1 => 1 | 4 => 4 | 5 => 6 | k => k) ⟨⟨_, rfl, ⟨rfl, (d_s_api_Wait _).plain⟩⟩, ⟨_, rfl, ⟨rfl, Nat.le_of_ble_eq_true rfl⟩⟩, ⟨_, rfl, ⟨rfl, Nat.le_of_ble_eq_true rfl⟩⟩, ⟨_, rfl, ⟨rfl, Nat.le_of_ble_eq_true rfl⟩⟩, ⟨_, rfl, ⟨rfl, Nat.le_of_ble_eq_true rfl⟩⟩, ⟨_, rfl, ⟨rfl, trivial⟩⟩, trivial⟩ ⟨⟨Nat.le_of_ble_eq_true rfl, _, _, rfl, rfl, .inl ⟨rfl, (d_a8_u32 _).plain⟩⟩, ⟨Nat.le_of_ble_eq_true rfl, _, _, rfl, rfl, .inl ⟨rfl, (d_a8_u32 _).plain⟩⟩, ⟨Nat.le_of_ble_eq_true rfl, _, _, rfl, rfl, ⟨rfl, rfl, fun _ => .inl ⟨rfl, (d_api_Wait _).plain⟩⟩⟩, ⟨Nat.le_of_ble_eq_true rfl, _, _, rfl, rfl, ⟨rfl, rfl, fun _ => .inl ⟨rfl, (d_api_Wait _).plain⟩⟩⟩, trivial⟩ rfl)
        · refine aw_seq ?_
          obtain ⟨h9, H⟩ := ibg_of H
          obtain ⟨v10, h11, H⟩ := whn_of H
          refine aw_region (es := [_, _, _, _, _, _, _, _, _, _, _]) ⟨Step.plain rfl (does_move (.tmp 12) (.int .i64 x7.2) trivial), ⟨⟨rfl, trivial⟩, trivial, rfl⟩, rfl,
            Step.plain rfl (does_move (.tmp 10) (.int .i64 x1.1) trivial), ⟨⟨rfl, trivial⟩, trivial, rfl⟩, rfl,
            Step.plain rfl (does_bin .lss 3 3 (.tmp 28) (.tmp 29) .i64 x7.2 x1.1 (.bool (decide (x7.2 < x1.1))) trivial trivial (bin_lss _ _ _ _)), ⟨⟨rfl, rfl, trivial⟩, trivial, rfl⟩, rfl,
            Step.plain rfl (does_move (.tmp 30) (.bool (decide (x7.2 < x1.1))) trivial), ⟨⟨rfl, trivial⟩, trivial, rfl⟩, rfl,
            Step.guarded rfl rfl rfl rfl (fun hc => does_move (.tmp 0) (e_s_api_Wait p0) trivial), ⟨⟨rfl, rfl, trivial⟩, trivial, rfl⟩, rfl,
            Step.guarded rfl rfl rfl rfl (fun hc => does_move (.tmp 10) (.int .i64 x1.1) trivial), ⟨⟨rfl, rfl, trivial⟩, trivial, rfl⟩, rfl,
            Step.guarded rfl rfl rfl rfl (fun hc => Does.strip (n' := [(32, (.opt (decide (x7.2 < x1.1)) (e_s_api_Wait p0))), (33, (.opt (decide (x7.2 < x1.1)) (.int .i64 x1.1)))]) (n := [(32, (e_s_api_Wait p0)), (33, (.int .i64 x1.1))]) ⟨(.opt _ _ hc), (.opt _ _ hc), trivial⟩ (does_indexAddrs 22 9 p0.length 32 (fun j => (e_api_Wait (p0.getD j z_api_Wait))) (.tmp 33) .i64 x1.1 el22 trivial (h9 hc).1 (h9 hc).2)), ⟨⟨rfl, rfl, rfl, trivial⟩, trivial, rfl⟩, rfl,
            Step.guarded rfl rfl rfl rfl (fun hc => Does.strip (n' := [(34, (.opt (decide (x7.2 < x1.1)) (.cptr (e_api_Wait (p0.getD x1.1.toNat z_api_Wait)))))]) (n := [(34, (.cptr (e_api_Wait (p0.getD x1.1.toNat z_api_Wait))))]) ⟨(.opt _ _ hc), trivial⟩ (does_fieldAddrc 47 1 3 34 (e_api_Wait (p0.getD x1.1.toNat z_api_Wait)) fl47_1 rfl (Nat.le_of_ble_eq_true rfl) rfl)), ⟨⟨rfl, rfl, trivial⟩, trivial, rfl⟩, rfl,
            Step.guarded rfl rfl rfl rfl (fun hc => Does.strip (n' := [(35, (.opt (decide (x7.2 < x1.1)) (.cptr (e_api_Entry ((p0.getD x1.1.toNat z_api_Wait).Entry)))))]) (n := [(35, (.cptr (e_api_Entry ((p0.getD x1.1.toNat z_api_Wait).Entry))))]) ⟨(.opt _ _ hc), trivial⟩ (does_loadc 45 35 (e_api_Entry ((p0.getD x1.1.toNat z_api_Wait).Entry)) ty45)), ⟨⟨rfl, rfl, trivial⟩, trivial, rfl⟩, rfl,
            Step.guarded rfl rfl rfl rfl (fun hc => Does.strip (n' := [(36, (.opt (decide (x7.2 < x1.1)) (e_api_Entry ((p0.getD x1.1.toNat z_api_Wait).Entry))))]) (n := [(36, (e_api_Entry ((p0.getD x1.1.toNat z_api_Wait).Entry)))]) ⟨(.opt _ _ hc), trivial⟩ (does_call 20 0 (fun _ => .any) (.func 20) [(.tmp 36)] [(e_api_Entry ((p0.getD x1.1.toNat z_api_Wait).Entry))] [] true [(e_api_Entry ((p0.getD x1.1.toNat z_api_Wait).Entry))] (.bool v10) _ _ rfl fo20 rfl ⟨trivial, trivial⟩ ⟨.data _ (d_api_Entry ((p0.getD x1.1.toNat z_api_Wait).Entry)), trivial⟩ (congressref22_Ordered_spec ((p0.getD x1.1.toNat z_api_Wait).Entry) _ (h11 hc)) trivial)), ⟨⟨rfl, rfl, trivial⟩, trivial, rfl⟩, rfl,
            Step.plain rfl (does_and 31 37 (decide (x7.2 < x1.1)) v10), ⟨⟨rfl, rfl, trivial⟩, trivial, rfl⟩, rfl, rfl⟩ ?_
          refine aw_cov (cov_prune (s1 := ⟨[(0, (e_s_api_Wait p0)), (4, (.ptr 0 0 [])), (5, (.ptr 1 0 [])), (8, (.own 4)), (9, (.own 5)), (10, (.int .i64 x1.1)), (11, (.bool x7.1)), (12, (.int .i64 x7.2)), (38, (.bool ((decide (x7.2 < x1.1)) && v10)))], [(0, some (.var (e_a8_u32 p1))), (1, some (.var (e_a8_u32 p2))), (4, some (.arr 9 x1.2.1.length fun j => (e_api_Wait (x1.2.1.getD j z_api_Wait)))), (5, some (.arr 9 x1.2.2.length fun j => (e_api_Wait (x1.2.2.getD j z_api_Wait))))], 6⟩) ⟨rfl, rfl, rfl, rfl, rfl, rfl, rfl, rfl, rfl, trivial⟩ ⟨rfl, rfl, rfl, rfl, trivial⟩ (Nat.le_refl _)) ?_
          refine aw_cond rfl (fun hc => ?_) (fun hc => ?_)
          · replace H := ite_t hc H
            refine aw_skip ?_
            refine nx_seq ?_
            refine aw_seq ?_
            refine aw_jn (fun x19 : Bool => (⟨[(0, (e_s_api_Wait p0)), (4, (.ptr 0 0 [])), (5, (.ptr 1 0 [])), (8, (.own 4)), (9, (.own 5)), (10, (.int .i64 x1.1)), (11, (.bool x19)), (12, (.int .i64 x7.2))], [(0, some (.var (e_a8_u32 p1))), (1, some (.var (e_a8_u32 p2))), (4, some (.arr 9 x1.2.1.length fun j => (e_api_Wait (x1.2.1.getD j z_api_Wait)))), (5, some (.arr 9 x1.2.2.length fun j => (e_api_Wait (x1.2.2.getD j z_api_Wait))))], 6⟩ : St)) H (fun x19 H => ?_) (fun j12 H => ?_)
            · refine nx_seq ?_
              refine aw_region1 (es := [_, _, _]) ⟨Step.plain rfl (does_move (.tmp 12) (.int .i64 x7.2) trivial), ⟨⟨rfl, trivial⟩, trivial, rfl⟩, rfl,
                Step.plain rfl (does_bin .add 3 3 (.tmp 39) (.const (.int .i64 1)) .i64 x7.2 1 (.int .i64 (IntKind.i64.wrap (x7.2 + 1))) trivial (fun _ => rfl) (bin_add _ _ _ _)), ⟨⟨rfl, trivial⟩, trivial, rfl⟩, rfl,
                Step.plain rfl (does_assign (.tmp 40) (.int .i64 (IntKind.i64.wrap (x7.2 + 1))) trivial), ⟨⟨rfl, trivial⟩, trivial, rfl⟩, rfl, rfl⟩ ?_
              exact nx_loop (x19, (IntKind.i64.wrap (x7.2 + 1))) H (cov_prune ⟨rfl, rfl, rfl, rfl, rfl, rfl, rfl, rfl, trivial⟩ ⟨rfl, rfl, rfl, rfl, trivial⟩ (Nat.le_of_ble_eq_true rfl))
            · refine aw_block ?_
              obtain ⟨h13, H⟩ := ib_of H
              obtain ⟨v14, h15, H⟩ := bnd H
              obtain ⟨h16, H⟩ := ibg_of H
              obtain ⟨v17, h18, H⟩ := whn_of H
              refine aw_draw (es := [_, _, _, _, _, _, _, _, _, _, _, _, _, _, _, _]) (mixed) ⟨Step.plain rfl (does_move (.tmp 0) (e_s_api_Wait p0) trivial), ⟨⟨rfl, trivial⟩, trivial, rfl⟩, rfl,
                Step.plain rfl (does_move (.tmp 12) (.int .i64 x7.2) trivial), ⟨⟨rfl, trivial⟩, trivial, rfl⟩, rfl,
                Step.plain rfl (does_indexAddrs 22 9 p0.length 41 (fun j => (e_api_Wait (p0.getD j z_api_Wait))) (.tmp 42) .i64 x7.2 el22 trivial h13.1 h13.2), ⟨⟨rfl, rfl, trivial⟩, trivial, rfl⟩, rfl,
                Step.plain rfl (does_fieldAddrc 47 1 3 43 (e_api_Wait (p0.getD x7.2.toNat z_api_Wait)) fl47_1 rfl (Nat.le_of_ble_eq_true rfl) rfl), ⟨⟨rfl, trivial⟩, trivial, rfl⟩, rfl,
                Step.plain rfl (does_loadc 45 44 (e_api_Entry ((p0.getD x7.2.toNat z_api_Wait).Entry)) ty45), ⟨⟨rfl, trivial⟩, trivial, rfl⟩, rfl,
                Step.plain rfl (does_call 20 0 (fun _ => .any) (.func 20) [(.tmp 45)] [(e_api_Entry ((p0.getD x7.2.toNat z_api_Wait).Entry))] [] true [(e_api_Entry ((p0.getD x7.2.toNat z_api_Wait).Entry))] (.bool v14) _ _ rfl fo20 rfl ⟨trivial, trivial⟩ ⟨.data _ (d_api_Entry ((p0.getD x7.2.toNat z_api_Wait).Entry)), trivial⟩ (congressref22_Ordered_spec ((p0.getD x7.2.toNat z_api_Wait).Entry) _ h15) trivial), ⟨⟨rfl, trivial⟩, trivial, rfl⟩, rfl,
                Step.plain rfl (does_move (.tmp 46) (.bool v14) trivial), ⟨⟨rfl, trivial⟩, trivial, rfl⟩, rfl,
                Step.guarded rfl rfl rfl rfl (fun hc => does_move (.tmp 0) (e_s_api_Wait p0) trivial), ⟨⟨rfl, rfl, trivial⟩, trivial, rfl⟩, rfl,
                Step.guarded rfl rfl rfl rfl (fun hc => does_move (.tmp 12) (.int .i64 x7.2) trivial), ⟨⟨rfl, rfl, trivial⟩, trivial, rfl⟩, rfl,
                Step.guarded rfl rfl rfl rfl (fun hc => Does.strip (n' := [(48, (.opt v14 (e_s_api_Wait p0))), (49, (.opt v14 (.int .i64 x7.2)))]) (n := [(48, (e_s_api_Wait p0)), (49, (.int .i64 x7.2))]) ⟨(.opt _ _ hc), (.opt _ _ hc), trivial⟩ (does_indexAddrs 22 9 p0.length 48 (fun j => (e_api_Wait (p0.getD j z_api_Wait))) (.tmp 49) .i64 x7.2 el22 trivial (h16 hc).1 (h16 hc).2)), ⟨⟨rfl, rfl, rfl, trivial⟩, trivial, rfl⟩, rfl,
                Step.guarded rfl rfl rfl rfl (fun hc => Does.strip (n' := [(50, (.opt v14 (.cptr (e_api_Wait (p0.getD x7.2.toNat z_api_Wait)))))]) (n := [(50, (.cptr (e_api_Wait (p0.getD x7.2.toNat z_api_Wait))))]) ⟨(.opt _ _ hc), trivial⟩ (does_loadc 47 50 (e_api_Wait (p0.getD x7.2.toNat z_api_Wait)) ty47)), ⟨⟨rfl, rfl, trivial⟩, trivial, rfl⟩, rfl,
                Step.guarded rfl rfl rfl rfl (fun hc => does_load 28 4 0 0 [] (.var (e_a8_u32 p1)) (e_a8_u32 p1) trivial rfl rfl ty28), ⟨⟨rfl, rfl, trivial⟩, ⟨rfl, trivial⟩, rfl⟩, rfl,
                Step.guarded rfl rfl rfl rfl (fun hc => does_load 29 5 1 0 [] (.var (e_a8_u32 p2)) (e_a8_u32 p2) trivial rfl rfl ty29), ⟨⟨rfl, rfl, trivial⟩, ⟨rfl, trivial⟩, rfl⟩, rfl,
                Step.guarded rfl rfl rfl rfl (fun hc => Does.strip (n' := [(51, (.opt v14 (e_api_Wait (p0.getD x7.2.toNat z_api_Wait)))), (52, (.opt v14 (e_a8_u32 p1))), (53, (.opt v14 (e_a8_u32 p2)))]) (n := [(51, (e_api_Wait (p0.getD x7.2.toNat z_api_Wait))), (52, (e_a8_u32 p1)), (53, (e_a8_u32 p2))]) ⟨(.opt _ _ hc), (.opt _ _ hc), (.opt _ _ hc), trivial⟩ (does_call 26 0 (fun _ => .any) (.func 26) [(.tmp 51), (.tmp 52), (.tmp 53)] [(e_api_Wait (p0.getD x7.2.toNat z_api_Wait)), (e_a8_u32 p1), (e_a8_u32 p2)] [] true [(e_api_Wait (p0.getD x7.2.toNat z_api_Wait)), (e_a8_u32 p1), (e_a8_u32 p2)] (.bool v17) _ _ rfl fo26 rfl ⟨trivial, trivial, trivial, trivial⟩ ⟨.data _ (d_api_Wait (p0.getD x7.2.toNat z_api_Wait)), .data _ (d_a8_u32 p1), .data _ (d_a8_u32 p2), trivial⟩ (congressref22_Is_spec (p0.getD x7.2.toNat z_api_Wait) p1 p2 _ (h18 hc)) trivial)), ⟨⟨rfl, rfl, rfl, rfl, trivial⟩, trivial, rfl⟩, rfl,
                Step.guarded rfl rfl rfl rfl (fun hc => Does.strip (n' := [(54, (.opt v14 (.bool v17)))]) (n := [(54, (.bool v17))]) ⟨(.opt _ _ hc), trivial⟩ (does_not 4 (.tmp 54) v17 trivial)), ⟨⟨rfl, rfl, trivial⟩, trivial, rfl⟩, rfl,
                Step.plain rfl (does_and 47 55 v14 (!v17)), ⟨⟨rfl, rfl, trivial⟩, trivial, rfl⟩, rfl, rfl⟩ rfl ?_
              refine aw_cov (cov_prune (s1 := ⟨[(0, (e_s_api_Wait p0)), (4, (.ptr 0 0 [])), (5, (.ptr 1 0 [])), (8, (.own 4)), (9, (.own 5)), (10, (.int .i64 x1.1)), (11, (.bool x7.1)), (12, (.int .i64 x7.2)), (56, (.bool (v14 && (!v17))))], [(0, some (.var (e_a8_u32 p1))), (1, some (.var (e_a8_u32 p2))), (4, some (.arr 9 x1.2.1.length fun j => (e_api_Wait (x1.2.1.getD j z_api_Wait)))), (5, some (.arr 9 x1.2.2.length fun j => (e_api_Wait (x1.2.2.getD j z_api_Wait))))], 6⟩) ⟨rfl, rfl, rfl, rfl, rfl, rfl, rfl, rfl, rfl, trivial⟩ ⟨rfl, rfl, rfl, rfl, trivial⟩ (Nat.le_refl _)) ?_
              refine aw_cond rfl (fun hc => ?_) (fun hc => ?_)
              · replace H := ite_t hc H
                refine aw_region1 (es := [_]) ⟨Step.plain rfl (does_assign (.const (.bool false)) (.bool false) (fun _ => rfl)), ⟨trivial, trivial, rfl⟩, rfl, rfl⟩ ?_
                refine nx_blk ?_
                exact nx_join (false) H (cov_prune ⟨rfl, rfl, rfl, rfl, rfl, rfl, rfl, rfl, trivial⟩ ⟨rfl, rfl, rfl, rfl, trivial⟩ (Nat.le_of_ble_eq_true rfl))
              · replace H := ite_f hc H
                refine aw_skip ?_
                refine nx_blk ?_
                exact nx_join (x7.1) H (cov_prune ⟨rfl, rfl, rfl, rfl, rfl, rfl, rfl, rfl, trivial⟩ ⟨rfl, rfl, rfl, rfl, trivial⟩ (Nat.le_of_ble_eq_true rfl))
          · replace H := ite_f hc H
            refine aw_exit ?_
            refine ex_then ?_
            refine ex_then ?_
            refine ex_here ?_
            exact nx_ljoin (x7.1) H hsn8 (cov_prune ⟨rfl, rfl, rfl, rfl, rfl, rfl, rfl, trivial⟩ ⟨rfl, rfl, rfl, rfl, trivial⟩ (Nat.le_of_ble_eq_true rfl))
    · replace H := ite_f hc H
      refine aw_exit ?_
      refine ex_then ?_
      refine ex_then ?_
      refine ex_here ?_
      exact nx_ljoin (x1.2.1, x1.2.2) H hsn2 (cov_prune ⟨rfl, rfl, trivial⟩ ⟨rfl, rfl, trivial⟩ (Nat.le_of_ble_eq_true rfl))

theorem congressref22_Ready_data (p0 : (_root_.List api_Wait)) (p1 : (Nat → Int)) (p2 : (Nat → Int)) (r : (_root_.List api_Wait) × (_root_.List api_Wait)) (H : congressref22_Ready p0 p1 p2 = some r) : FSpec Try.prog 10 [(e_s_api_Wait p0), (e_a8_u32 p1), (e_a8_u32 p2)] (resV [(e_s_api_Wait r.1), (e_s_api_Wait r.2)]) :=
  FSpecO.toData (fz := [0, 1]) (congressref22_Ready_spec p0 p1 p2 r H) (res_data2 (d_s_api_Wait r.1) (d_s_api_Wait r.2)) (.tup _ _ _ (fun j => match j with | 0 => .frz 0 _ _ _ rfl (fun _ => (d_api_Wait _)) (by decide) | 1 => .frz 1 _ _ _ rfl (fun _ => (d_api_Wait _)) (by decide) | _ + 2 => .plain _ trivial))
end Go.Proofs.Ytclblogdciebnaa
