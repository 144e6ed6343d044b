/- Printed by gen.py. Conditions: none. -/
import Derived.Test.YtnfjibcfnchkkaaSp1
import Derived.KernelRfl
set_option linter.unusedVariables false
set_option maxRecDepth 100000
namespace Go.Proofs.Ytnfjibcfnchkkaa
open Go.Eng
set_option maxHeartbeats 1600000
theorem congresslaw11_fixed_spec (r : Bool) (H : congresslaw11_fixed = some r) : FSpec Try.prog 8 [] (.bool r) := by
  refine spec_of (fn := Try.f8) (args := []) Try.func8 rfl (Nat.le_of_ble_eq_true rfl) ?_
  rintro ⟨G, w0, W, S, Sp⟩ hG
  cases hG
  unfold congresslaw11_fixed at H
  refine aw_region (es := [_]) ⟨Step.plain rfl (does_assign (.const (.bool false)) (.bool false) (fun _ => rfl)), ⟨trivial, trivial, rfl⟩, rfl, rfl⟩ ?_
  refine aw_cov (cov_prune (s1 := ⟨[], [], 0⟩) trivial trivial (Nat.le_refl _)) ?_
  refine aw_region (es := [_, _, _]) ⟨Step.plain rfl (does_buildT 26 #[(0, (.const (.int .u32 1))), (1, (.const (.int .u32 1)))] [(0, (.const (.int .u32 1))), (1, (.const (.int .u32 1)))] [(0, (.int .u32 1)), (1, (.int .u32 1))] (.ar 8 1) (fun j => (.int .u32 ((fun _ => 0) j))) (fun j => (.int .u32 ((aset (fun _ => 0) [(0, 1), (1, 1)]) j))) rfl bo26 ⟨⟨rfl, (fun _ => rfl)⟩, ⟨rfl, (fun _ => rfl)⟩, trivial⟩ ⟨⟨Nat.le_of_ble_eq_true rfl, rfl, rfl⟩, ⟨Nat.le_of_ble_eq_true rfl, rfl, rfl⟩, trivial⟩ (setAll_map (fun z => V.int .u32 z) [(0, 1), (1, 1)] _)), ⟨trivial, trivial, rfl⟩, rfl,
    Step.plain rfl (does_alloc 26 0 (e_a8_u32 (fun _ => 0)) zr26), ⟨trivial, trivial, rfl⟩, rfl,
    Step.plain rfl (does_store 26 1 (.tmp 3) 0 0 [] (.var (e_a8_u32 (fun _ => 0))) (.var (e_a8_u32 (aset (fun _ => 0) [(0, 1), (1, 1)]))) (e_a8_u32 (aset (fun _ => 0) [(0, 1), (1, 1)])) true trivial rfl trivial rfl rfl rfl ty26), ⟨⟨rfl, rfl, trivial⟩, ⟨rfl, trivial⟩, rfl⟩, rfl, rfl⟩ ?_
  refine aw_cov (cov_prune (s1 := ⟨[(1, (.ptr 0 0 []))], [(0, some (.var (e_a8_u32 (aset (fun _ => 0) [(0, 1), (1, 1)]))))], 1⟩) ⟨rfl, trivial⟩ ⟨rfl, trivial⟩ (Nat.le_refl _)) ?_
  obtain ⟨v1, h2, H⟩ := bnd H
  refine aw_region (es := [_, _, _, _, _]) ⟨Step.plain rfl (does_buildT 25 #[(0, (.const (.int .u32 1))), (1, (.const (.int .u32 2)))] [(0, (.const (.int .u32 1))), (1, (.const (.int .u32 2)))] [(0, (.int .u32 1)), (1, (.int .u32 2))] (.ar 8 1) (fun j => (.int .u32 ((fun _ => 0) j))) (fun j => (.int .u32 ((aset (fun _ => 0) [(0, 1), (1, 2)]) j))) rfl bo25 ⟨⟨rfl, (fun _ => rfl)⟩, ⟨rfl, (fun _ => rfl)⟩, trivial⟩ ⟨⟨Nat.le_of_ble_eq_true rfl, rfl, rfl⟩, ⟨Nat.le_of_ble_eq_true rfl, rfl, rfl⟩, trivial⟩ (setAll_map (fun z => V.int .u32 z) [(0, 1), (1, 2)] _)), ⟨trivial, trivial, rfl⟩, rfl,
    Step.plain rfl (does_buildT 25 #[(0, (.const (.int .u32 2))), (1, (.const (.int .u32 3)))] [(0, (.const (.int .u32 2))), (1, (.const (.int .u32 3)))] [(0, (.int .u32 2)), (1, (.int .u32 3))] (.ar 8 1) (fun j => (.int .u32 ((fun _ => 0) j))) (fun j => (.int .u32 ((aset (fun _ => 0) [(0, 2), (1, 3)]) j))) rfl bo25 ⟨⟨rfl, (fun _ => rfl)⟩, ⟨rfl, (fun _ => rfl)⟩, trivial⟩ ⟨⟨Nat.le_of_ble_eq_true rfl, rfl, rfl⟩, ⟨Nat.le_of_ble_eq_true rfl, rfl, rfl⟩, trivial⟩ (setAll_map (fun z => V.int .u32 z) [(0, 2), (1, 3)] _)), ⟨trivial, trivial, rfl⟩, rfl,
    Step.plain rfl (does_load 26 1 0 0 [] (.var (e_a8_u32 (aset (fun _ => 0) [(0, 1), (1, 1)]))) (e_a8_u32 (aset (fun _ => 0) [(0, 1), (1, 1)])) trivial rfl rfl ty26), ⟨⟨rfl, trivial⟩, ⟨rfl, trivial⟩, rfl⟩, rfl,
    Step.plain rfl (does_callO 14 0 (fun _ => .any) (.func 14) [(.tmp 4), (.tmp 5), (.tmp 6)] [(e_a8_u32 (aset (fun _ => 0) [(0, 1), (1, 2)])), (e_a8_u32 (aset (fun _ => 0) [(0, 2), (1, 3)])), (e_a8_u32 (aset (fun _ => 0) [(0, 1), (1, 1)]))] [] [] true [(e_a8_u32 (aset (fun _ => 0) [(0, 1), (1, 2)])), (e_a8_u32 (aset (fun _ => 0) [(0, 2), (1, 3)])), (e_a8_u32 (aset (fun _ => 0) [(0, 1), (1, 1)]))] _ (.own 1) _ 1 1 _ _ rfl fo14 rfl ⟨trivial, trivial, trivial, trivial⟩ ⟨.ro _ _ (.data _ (d_a8_u32 (aset (fun _ => 0) [(0, 1), (1, 2)]))), .ro _ _ (.data _ (d_a8_u32 (aset (fun _ => 0) [(0, 2), (1, 3)]))), .ro _ _ (.data _ (d_a8_u32 (aset (fun _ => 0) [(0, 1), (1, 1)]))), trivial⟩ (cut_Missing_spec (aset (fun _ => 0) [(0, 1), (1, 2)]) (aset (fun _ => 0) [(0, 2), (1, 3)]) (aset (fun _ => 0) [(0, 1), (1, 1)]) _ h2) rfl (by simp) rfl trivial ⟨⟨Nat.le_of_ble_eq_true rfl, _, rfl, fun _ => (f_api_Place _)⟩, trivial⟩ (.own 0 (Nat.le_of_ble_eq_true rfl))), ⟨⟨rfl, rfl, rfl, trivial⟩, trivial, rfl⟩, rfl,
    Step.plain rfl (does_assign (.tmp 7) (.own 1) trivial), ⟨⟨rfl, trivial⟩, trivial, rfl⟩, rfl, rfl⟩ ?_
  refine aw_cov (cov_prune (s1 := ⟨[(1, (.ptr 0 0 [])), (2, (.own 1))], [(0, some (.var (e_a8_u32 (aset (fun _ => 0) [(0, 1), (1, 1)])))), (1, some (.arr 3 v1.length fun j => (e_api_Place (v1.getD j z_api_Place))))], 2⟩) ⟨rfl, rfl, trivial⟩ ⟨rfl, rfl, trivial⟩ (Nat.le_refl _)) ?_
  obtain ⟨v3, h4, H⟩ := bnd H
  obtain ⟨v5, h6, H⟩ := whn_of H
  obtain ⟨v7, h8, H⟩ := whn_of H
  obtain ⟨v9, h10, H⟩ := whn_of H
  obtain ⟨v11, h12, H⟩ := whn_of H
  obtain ⟨v13, h14, H⟩ := whn_of H
  refine aw_region (es := [_, _, _, _, _, _, _, _, _, _, _, _, _, _, _, _, _, _, _, _, _, _, _, _, _, _, _, _, _, _, _, _, _, _, _, _, _, _]) ⟨Step.plain rfl (does_buildT 25 #[(0, (.const (.int .u32 1))), (1, (.const (.int .u32 3)))] [(0, (.const (.int .u32 1))), (1, (.const (.int .u32 3)))] [(0, (.int .u32 1)), (1, (.int .u32 3))] (.ar 8 1) (fun j => (.int .u32 ((fun _ => 0) j))) (fun j => (.int .u32 ((aset (fun _ => 0) [(0, 1), (1, 3)]) j))) rfl bo25 ⟨⟨rfl, (fun _ => rfl)⟩, ⟨rfl, (fun _ => rfl)⟩, trivial⟩ ⟨⟨Nat.le_of_ble_eq_true rfl, rfl, rfl⟩, ⟨Nat.le_of_ble_eq_true rfl, rfl, rfl⟩, trivial⟩ (setAll_map (fun z => V.int .u32 z) [(0, 1), (1, 3)] _)), ⟨trivial, trivial, rfl⟩, rfl,
    Step.plain rfl (does_buildT 25 #[(0, (.const (.int .u32 2))), (1, (.const (.int .u32 2)))] [(0, (.const (.int .u32 2))), (1, (.const (.int .u32 2)))] [(0, (.int .u32 2)), (1, (.int .u32 2))] (.ar 8 1) (fun j => (.int .u32 ((fun _ => 0) j))) (fun j => (.int .u32 ((aset (fun _ => 0) [(0, 2), (1, 2)]) j))) rfl bo25 ⟨⟨rfl, (fun _ => rfl)⟩, ⟨rfl, (fun _ => rfl)⟩, trivial⟩ ⟨⟨Nat.le_of_ble_eq_true rfl, rfl, rfl⟩, ⟨Nat.le_of_ble_eq_true rfl, rfl, rfl⟩, trivial⟩ (setAll_map (fun z => V.int .u32 z) [(0, 2), (1, 2)] _)), ⟨trivial, trivial, rfl⟩, rfl,
    Step.plain rfl (does_buildSl 22 2 8 (e_a8_u32 (fun _ => 0)) (fun j => (e_a8_u32 (([(aset (fun _ => 0) [(0, 1), (1, 3)]), (aset (fun _ => 0) [(0, 2), (1, 2)])] : _root_.List (Nat → Int)).getD j (fun _ => 0)))) #[(0, (.tmp 8)), (1, (.tmp 9))] [(0, (.tmp 8)), (1, (.tmp 9))] [(0, (e_a8_u32 (aset (fun _ => 0) [(0, 1), (1, 3)]))), (1, (e_a8_u32 (aset (fun _ => 0) [(0, 2), (1, 2)])))] rfl so22 (by decide) ⟨⟨rfl, trivial⟩, ⟨rfl, trivial⟩, trivial⟩ ⟨⟨Nat.le_of_ble_eq_true rfl, rfl, rfl⟩, ⟨Nat.le_of_ble_eq_true rfl, rfl, rfl⟩, trivial⟩ (fun j h => match j, h with | 0, _ => rfl | 1, _ => rfl | k + 2, h => absurd h (by omega))), ⟨⟨rfl, rfl, trivial⟩, trivial, rfl⟩, rfl,
    Step.plain rfl (does_call 9 0 (fun _ => .any) (.func 9) [(.tmp 10)] [(e_s_a8_u32 ([(aset (fun _ => 0) [(0, 1), (1, 3)]), (aset (fun _ => 0) [(0, 2), (1, 2)])] : _root_.List (Nat → Int)))] [] true [(e_s_a8_u32 ([(aset (fun _ => 0) [(0, 1), (1, 3)]), (aset (fun _ => 0) [(0, 2), (1, 2)])] : _root_.List (Nat → Int)))] (e_a8_u32 v3) _ _ rfl fo9 rfl ⟨trivial, trivial⟩ ⟨.data _ (d_s_a8_u32 ([(aset (fun _ => 0) [(0, 1), (1, 3)]), (aset (fun _ => 0) [(0, 2), (1, 2)])] : _root_.List (Nat → Int))), trivial⟩ (cut_Union_spec ([(aset (fun _ => 0) [(0, 1), (1, 3)]), (aset (fun _ => 0) [(0, 2), (1, 2)])] : _root_.List (Nat → Int)) _ h4) (f_a8_u32 v3)), ⟨⟨rfl, trivial⟩, trivial, rfl⟩, rfl,
    Step.plain rfl (does_buildT 25 #[(0, (.const (.int .u32 2))), (1, (.const (.int .u32 3)))] [(0, (.const (.int .u32 2))), (1, (.const (.int .u32 3)))] [(0, (.int .u32 2)), (1, (.int .u32 3))] (.ar 8 1) (fun j => (.int .u32 ((fun _ => 0) j))) (fun j => (.int .u32 ((aset (fun _ => 0) [(0, 2), (1, 3)]) j))) rfl bo25 ⟨⟨rfl, (fun _ => rfl)⟩, ⟨rfl, (fun _ => rfl)⟩, trivial⟩ ⟨⟨Nat.le_of_ble_eq_true rfl, rfl, rfl⟩, ⟨Nat.le_of_ble_eq_true rfl, rfl, rfl⟩, trivial⟩ (setAll_map (fun z => V.int .u32 z) [(0, 2), (1, 3)] _)), ⟨trivial, trivial, rfl⟩, rfl,
    Step.plain rfl (does_eqT false 25 25 (.tmp 11) (.tmp 12) (e_a8_u32 v3) (e_a8_u32 (aset (fun _ => 0) [(0, 2), (1, 3)])) (e_a8_u32 (fun _ => 0)) (b_a8_u32 v3 (aset (fun _ => 0) [(0, 2), (1, 3)])) rfl rfl trivial trivial eg25 sh25 (al_a8_u32 _ _) (al_a8_u32 _ _) (q_a8_u32 _ _)), ⟨⟨rfl, rfl, trivial⟩, trivial, rfl⟩, rfl,
    Step.plain rfl (does_move (.tmp 13) (.bool (b_a8_u32 v3 (aset (fun _ => 0) [(0, 2), (1, 3)]))) trivial), ⟨⟨rfl, trivial⟩, trivial, rfl⟩, rfl,
    Step.guarded rfl rfl rfl rfl (fun hc => does_call 9 0 (fun _ => .any) (.func 9) [(.const (.slice none 0 0))] [(e_s_a8_u32 [])] [] true [(e_s_a8_u32 [])] (e_a8_u32 v5) _ _ rfl fo9 rfl ⟨(fun _ => ⟨none, 0, rfl, Nat.le_refl _, .inl rfl⟩), trivial⟩ ⟨.data _ (d_s_a8_u32 []), trivial⟩ (cut_Union_spec [] _ (h6 hc)) (f_a8_u32 v5)), ⟨⟨rfl, trivial⟩, trivial, rfl⟩, rfl,
    Step.guarded rfl rfl rfl rfl (fun hc => does_buildT 25 #[] [] [] (.ar 8 1) (fun j => (.int .u32 ((fun _ => 0) j))) (fun j => (.int .u32 ((aset (fun _ => 0) []) j))) rfl bo25 trivial trivial (setAll_map (fun z => V.int .u32 z) [] _)), ⟨⟨rfl, trivial⟩, trivial, rfl⟩, rfl,
    Step.guarded rfl rfl rfl rfl (fun hc => Does.strip (n' := [(15, (.opt (b_a8_u32 v3 (aset (fun _ => 0) [(0, 2), (1, 3)])) (e_a8_u32 v5))), (16, (.opt (b_a8_u32 v3 (aset (fun _ => 0) [(0, 2), (1, 3)])) (e_a8_u32 (aset (fun _ => 0) []))))]) (n := [(15, (e_a8_u32 v5)), (16, (e_a8_u32 (aset (fun _ => 0) [])))]) ⟨(.opt _ _ hc), (.opt _ _ hc), trivial⟩ (does_eqT false 25 25 (.tmp 15) (.tmp 16) (e_a8_u32 v5) (e_a8_u32 (aset (fun _ => 0) [])) (e_a8_u32 (fun _ => 0)) (b_a8_u32 v5 (aset (fun _ => 0) [])) rfl rfl trivial trivial eg25 sh25 (al_a8_u32 _ _) (al_a8_u32 _ _) (q_a8_u32 _ _))), ⟨⟨rfl, rfl, rfl, trivial⟩, trivial, rfl⟩, rfl,
    Step.plain rfl (does_and 14 17 (b_a8_u32 v3 (aset (fun _ => 0) [(0, 2), (1, 3)])) (b_a8_u32 v5 (aset (fun _ => 0) []))), ⟨⟨rfl, rfl, trivial⟩, trivial, rfl⟩, rfl,
    Step.plain rfl (does_move (.tmp 18) (.bool ((b_a8_u32 v3 (aset (fun _ => 0) [(0, 2), (1, 3)])) && (b_a8_u32 v5 (aset (fun _ => 0) [])))) trivial), ⟨⟨rfl, trivial⟩, trivial, rfl⟩, rfl,
    Step.guarded rfl rfl rfl rfl (fun hc => does_move (.tmp 2) (.own 1) trivial), ⟨⟨rfl, rfl, trivial⟩, trivial, rfl⟩, rfl,
    Step.guarded rfl rfl rfl rfl (fun hc => does_buildT 28 #[(0, (.const (.int .u32 2)))] [(0, (.const (.int .u32 2)))] [(0, (.int .u32 2))] (.st [1, 1, 1]) (c_api_Place z_api_Place) (c_api_Place ({ Round := 2, From := 0, Slot := 0 } : api_Place)) rfl bo28 ⟨⟨rfl, (fun _ => rfl)⟩, trivial⟩ ⟨⟨Nat.le_of_ble_eq_true rfl, rfl, rfl⟩, trivial⟩ (by funext j; match j with | 0 => rfl | 1 => rfl | 2 => rfl | _ + 3 => rfl)), ⟨⟨rfl, trivial⟩, trivial, rfl⟩, rfl,
    Step.guarded rfl rfl rfl rfl (fun hc => does_buildT 28 #[(0, (.const (.int .u32 3))), (1, (.const (.int .i64 1)))] [(0, (.const (.int .u32 3))), (1, (.const (.int .i64 1)))] [(0, (.int .u32 3)), (1, (.int .i64 1))] (.st [1, 1, 1]) (c_api_Place z_api_Place) (c_api_Place ({ Round := 3, From := 1, Slot := 0 } : api_Place)) rfl bo28 ⟨⟨rfl, (fun _ => rfl)⟩, ⟨rfl, (fun _ => rfl)⟩, trivial⟩ ⟨⟨Nat.le_of_ble_eq_true rfl, rfl, rfl⟩, ⟨Nat.le_of_ble_eq_true rfl, rfl, rfl⟩, trivial⟩ (by funext j; match j with | 0 => rfl | 1 => rfl | 2 => rfl | _ + 3 => rfl)), ⟨⟨rfl, trivial⟩, trivial, rfl⟩, rfl,
    Step.guarded rfl rfl rfl rfl (fun hc => Does.strip (n' := [(21, (.opt ((b_a8_u32 v3 (aset (fun _ => 0) [(0, 2), (1, 3)])) && (b_a8_u32 v5 (aset (fun _ => 0) []))) (e_api_Place ({ Round := 2, From := 0, Slot := 0 } : api_Place)))), (22, (.opt ((b_a8_u32 v3 (aset (fun _ => 0) [(0, 2), (1, 3)])) && (b_a8_u32 v5 (aset (fun _ => 0) []))) (e_api_Place ({ Round := 3, From := 1, Slot := 0 } : api_Place))))]) (n := [(21, (e_api_Place ({ Round := 2, From := 0, Slot := 0 } : api_Place))), (22, (e_api_Place ({ Round := 3, From := 1, Slot := 0 } : api_Place)))]) ⟨(.opt _ _ hc), (.opt _ _ hc), trivial⟩ (does_buildSl 36 2 3 (e_api_Place z_api_Place) (fun j => (e_api_Place (([({ Round := 2, From := 0, Slot := 0 } : api_Place), ({ Round := 3, From := 1, Slot := 0 } : api_Place)] : _root_.List api_Place).getD j z_api_Place))) #[(0, (.tmp 21)), (1, (.tmp 22))] [(0, (.tmp 21)), (1, (.tmp 22))] [(0, (e_api_Place ({ Round := 2, From := 0, Slot := 0 } : api_Place))), (1, (e_api_Place ({ Round := 3, From := 1, Slot := 0 } : api_Place)))] rfl so36 (by decide) ⟨⟨rfl, trivial⟩, ⟨rfl, trivial⟩, trivial⟩ ⟨⟨Nat.le_of_ble_eq_true rfl, rfl, rfl⟩, ⟨Nat.le_of_ble_eq_true rfl, rfl, rfl⟩, trivial⟩ (fun j h => match j, h with | 0, _ => rfl | 1, _ => rfl | k + 2, h => absurd h (by omega)))), ⟨⟨rfl, rfl, rfl, trivial⟩, trivial, rfl⟩, rfl,
    Step.guarded rfl rfl rfl rfl (fun hc => Does.strip (n' := [(20, (.opt ((b_a8_u32 v3 (aset (fun _ => 0) [(0, 2), (1, 3)])) && (b_a8_u32 v5 (aset (fun _ => 0) []))) (.own 1))), (23, (.opt ((b_a8_u32 v3 (aset (fun _ => 0) [(0, 2), (1, 3)])) && (b_a8_u32 v5 (aset (fun _ => 0) []))) (e_s_api_Place ([({ Round := 2, From := 0, Slot := 0 } : api_Place), ({ Round := 3, From := 1, Slot := 0 } : api_Place)] : _root_.List api_Place))))]) (n := [(20, (.own 1)), (23, (e_s_api_Place ([({ Round := 2, From := 0, Slot := 0 } : api_Place), ({ Round := 3, From := 1, Slot := 0 } : api_Place)] : _root_.List api_Place)))]) ⟨(.opt _ _ hc), (.opt _ _ hc), trivial⟩ (does_call 13 0 (fun _ => .any) (.func 13) [(.tmp 20), (.tmp 23)] [(.own 1), (e_s_api_Place ([({ Round := 2, From := 0, Slot := 0 } : api_Place), ({ Round := 3, From := 1, Slot := 0 } : api_Place)] : _root_.List api_Place))] [(1, (.arr 3 v1.length fun j => (e_api_Place (v1.getD j z_api_Place))))] true [(e_s_api_Place v1), (e_s_api_Place ([({ Round := 2, From := 0, Slot := 0 } : api_Place), ({ Round := 3, From := 1, Slot := 0 } : api_Place)] : _root_.List api_Place))] (.bool v7) _ _ rfl fo13 rfl ⟨trivial, trivial, trivial⟩ ⟨.own 1 _ _ _ (.head _) rfl (fun _ => (d_api_Place _)), .data _ (d_s_api_Place ([({ Round := 2, From := 0, Slot := 0 } : api_Place), ({ Round := 3, From := 1, Slot := 0 } : api_Place)] : _root_.List api_Place)), trivial⟩ (congressref11_Places_spec v1 ([({ Round := 2, From := 0, Slot := 0 } : api_Place), ({ Round := 3, From := 1, Slot := 0 } : api_Place)] : _root_.List api_Place) _ (h8 hc)) trivial)), ⟨⟨rfl, rfl, rfl, trivial⟩, ⟨rfl, trivial⟩, rfl⟩, rfl,
    Step.plain rfl (does_and 19 24 ((b_a8_u32 v3 (aset (fun _ => 0) [(0, 2), (1, 3)])) && (b_a8_u32 v5 (aset (fun _ => 0) []))) v7), ⟨⟨rfl, rfl, trivial⟩, trivial, rfl⟩, rfl,
    Step.plain rfl (does_move (.tmp 25) (.bool (((b_a8_u32 v3 (aset (fun _ => 0) [(0, 2), (1, 3)])) && (b_a8_u32 v5 (aset (fun _ => 0) []))) && v7)) trivial), ⟨⟨rfl, trivial⟩, trivial, rfl⟩, rfl,
    Step.guarded rfl rfl rfl rfl (fun hc => does_buildT 25 #[(0, (.const (.int .u32 1)))] [(0, (.const (.int .u32 1)))] [(0, (.int .u32 1))] (.ar 8 1) (fun j => (.int .u32 ((fun _ => 0) j))) (fun j => (.int .u32 ((aset (fun _ => 0) [(0, 1)]) j))) rfl bo25 ⟨⟨rfl, (fun _ => rfl)⟩, trivial⟩ ⟨⟨Nat.le_of_ble_eq_true rfl, rfl, rfl⟩, trivial⟩ (setAll_map (fun z => V.int .u32 z) [(0, 1)] _)), ⟨⟨rfl, trivial⟩, trivial, rfl⟩, rfl,
    Step.guarded rfl rfl rfl rfl (fun hc => does_buildT 25 #[(0, (.const (.int .u32 1)))] [(0, (.const (.int .u32 1)))] [(0, (.int .u32 1))] (.ar 8 1) (fun j => (.int .u32 ((fun _ => 0) j))) (fun j => (.int .u32 ((aset (fun _ => 0) [(0, 1)]) j))) rfl bo25 ⟨⟨rfl, (fun _ => rfl)⟩, trivial⟩ ⟨⟨Nat.le_of_ble_eq_true rfl, rfl, rfl⟩, trivial⟩ (setAll_map (fun z => V.int .u32 z) [(0, 1)] _)), ⟨⟨rfl, trivial⟩, trivial, rfl⟩, rfl,
    Step.guarded rfl rfl rfl rfl (fun hc => Does.strip (n' := [(27, (.opt (((b_a8_u32 v3 (aset (fun _ => 0) [(0, 2), (1, 3)])) && (b_a8_u32 v5 (aset (fun _ => 0) []))) && v7) (e_a8_u32 (aset (fun _ => 0) [(0, 1)])))), (28, (.opt (((b_a8_u32 v3 (aset (fun _ => 0) [(0, 2), (1, 3)])) && (b_a8_u32 v5 (aset (fun _ => 0) []))) && v7) (e_a8_u32 (aset (fun _ => 0) [(0, 1)]))))]) (n := [(27, (e_a8_u32 (aset (fun _ => 0) [(0, 1)]))), (28, (e_a8_u32 (aset (fun _ => 0) [(0, 1)])))]) ⟨(.opt _ _ hc), (.opt _ _ hc), trivial⟩ (does_call 11 0 (fun _ => .any) (.func 11) [(.tmp 27), (.tmp 28)] [(e_a8_u32 (aset (fun _ => 0) [(0, 1)])), (e_a8_u32 (aset (fun _ => 0) [(0, 1)]))] [] true [(e_a8_u32 (aset (fun _ => 0) [(0, 1)])), (e_a8_u32 (aset (fun _ => 0) [(0, 1)]))] (.bool v9) _ _ rfl fo11 rfl ⟨trivial, trivial, trivial⟩ ⟨.data _ (d_a8_u32 (aset (fun _ => 0) [(0, 1)])), .data _ (d_a8_u32 (aset (fun _ => 0) [(0, 1)])), trivial⟩ (cut_Within_spec (aset (fun _ => 0) [(0, 1)]) (aset (fun _ => 0) [(0, 1)]) _ (h10 hc)) trivial)), ⟨⟨rfl, rfl, rfl, trivial⟩, trivial, rfl⟩, rfl,
    Step.plain rfl (does_and 26 29 (((b_a8_u32 v3 (aset (fun _ => 0) [(0, 2), (1, 3)])) && (b_a8_u32 v5 (aset (fun _ => 0) []))) && v7) v9), ⟨⟨rfl, rfl, trivial⟩, trivial, rfl⟩, rfl,
    Step.plain rfl (does_move (.tmp 30) (.bool ((((b_a8_u32 v3 (aset (fun _ => 0) [(0, 2), (1, 3)])) && (b_a8_u32 v5 (aset (fun _ => 0) []))) && v7) && v9)) trivial), ⟨⟨rfl, trivial⟩, trivial, rfl⟩, rfl,
    Step.guarded rfl rfl rfl rfl (fun hc => does_buildT 25 #[(0, (.const (.int .u32 2)))] [(0, (.const (.int .u32 2)))] [(0, (.int .u32 2))] (.ar 8 1) (fun j => (.int .u32 ((fun _ => 0) j))) (fun j => (.int .u32 ((aset (fun _ => 0) [(0, 2)]) j))) rfl bo25 ⟨⟨rfl, (fun _ => rfl)⟩, trivial⟩ ⟨⟨Nat.le_of_ble_eq_true rfl, rfl, rfl⟩, trivial⟩ (setAll_map (fun z => V.int .u32 z) [(0, 2)] _)), ⟨⟨rfl, trivial⟩, trivial, rfl⟩, rfl,
    Step.guarded rfl rfl rfl rfl (fun hc => does_buildT 25 #[(0, (.const (.int .u32 1)))] [(0, (.const (.int .u32 1)))] [(0, (.int .u32 1))] (.ar 8 1) (fun j => (.int .u32 ((fun _ => 0) j))) (fun j => (.int .u32 ((aset (fun _ => 0) [(0, 1)]) j))) rfl bo25 ⟨⟨rfl, (fun _ => rfl)⟩, trivial⟩ ⟨⟨Nat.le_of_ble_eq_true rfl, rfl, rfl⟩, trivial⟩ (setAll_map (fun z => V.int .u32 z) [(0, 1)] _)), ⟨⟨rfl, trivial⟩, trivial, rfl⟩, rfl,
    Step.guarded rfl rfl rfl rfl (fun hc => Does.strip (n' := [(32, (.opt ((((b_a8_u32 v3 (aset (fun _ => 0) [(0, 2), (1, 3)])) && (b_a8_u32 v5 (aset (fun _ => 0) []))) && v7) && v9) (e_a8_u32 (aset (fun _ => 0) [(0, 2)])))), (33, (.opt ((((b_a8_u32 v3 (aset (fun _ => 0) [(0, 2), (1, 3)])) && (b_a8_u32 v5 (aset (fun _ => 0) []))) && v7) && v9) (e_a8_u32 (aset (fun _ => 0) [(0, 1)]))))]) (n := [(32, (e_a8_u32 (aset (fun _ => 0) [(0, 2)]))), (33, (e_a8_u32 (aset (fun _ => 0) [(0, 1)])))]) ⟨(.opt _ _ hc), (.opt _ _ hc), trivial⟩ (does_call 11 0 (fun _ => .any) (.func 11) [(.tmp 32), (.tmp 33)] [(e_a8_u32 (aset (fun _ => 0) [(0, 2)])), (e_a8_u32 (aset (fun _ => 0) [(0, 1)]))] [] true [(e_a8_u32 (aset (fun _ => 0) [(0, 2)])), (e_a8_u32 (aset (fun _ => 0) [(0, 1)]))] (.bool v11) _ _ rfl fo11 rfl ⟨trivial, trivial, trivial⟩ ⟨.data _ (d_a8_u32 (aset (fun _ => 0) [(0, 2)])), .data _ (d_a8_u32 (aset (fun _ => 0) [(0, 1)])), trivial⟩ (cut_Within_spec (aset (fun _ => 0) [(0, 2)]) (aset (fun _ => 0) [(0, 1)]) _ (h12 hc)) trivial)), ⟨⟨rfl, rfl, rfl, trivial⟩, trivial, rfl⟩, rfl,
    Step.guarded rfl rfl rfl rfl (fun hc => Does.strip (n' := [(34, (.opt ((((b_a8_u32 v3 (aset (fun _ => 0) [(0, 2), (1, 3)])) && (b_a8_u32 v5 (aset (fun _ => 0) []))) && v7) && v9) (.bool v11)))]) (n := [(34, (.bool v11))]) ⟨(.opt _ _ hc), trivial⟩ (does_not 4 (.tmp 34) v11 trivial)), ⟨⟨rfl, rfl, trivial⟩, trivial, rfl⟩, rfl,
    Step.plain rfl (does_and 31 35 ((((b_a8_u32 v3 (aset (fun _ => 0) [(0, 2), (1, 3)])) && (b_a8_u32 v5 (aset (fun _ => 0) []))) && v7) && v9) (!v11)), ⟨⟨rfl, rfl, trivial⟩, trivial, rfl⟩, rfl,
    Step.plain rfl (does_move (.tmp 36) (.bool (((((b_a8_u32 v3 (aset (fun _ => 0) [(0, 2), (1, 3)])) && (b_a8_u32 v5 (aset (fun _ => 0) []))) && v7) && v9) && (!v11))) trivial), ⟨⟨rfl, trivial⟩, trivial, rfl⟩, rfl,
    Step.guarded rfl rfl rfl rfl (fun hc => does_buildT 28 #[] [] [] (.st [1, 1, 1]) (c_api_Place z_api_Place) (c_api_Place ({ Round := 0, From := 0, Slot := 0 } : api_Place)) rfl bo28 trivial trivial (by funext j; match j with | 0 => rfl | 1 => rfl | 2 => rfl | _ + 3 => rfl)), ⟨⟨rfl, trivial⟩, trivial, rfl⟩, rfl,
    Step.guarded rfl rfl rfl rfl (fun hc => does_buildT 25 #[(0, (.const (.int .u32 1))), (1, (.const (.int .u32 1)))] [(0, (.const (.int .u32 1))), (1, (.const (.int .u32 1)))] [(0, (.int .u32 1)), (1, (.int .u32 1))] (.ar 8 1) (fun j => (.int .u32 ((fun _ => 0) j))) (fun j => (.int .u32 ((aset (fun _ => 0) [(0, 1), (1, 1)]) j))) rfl bo25 ⟨⟨rfl, (fun _ => rfl)⟩, ⟨rfl, (fun _ => rfl)⟩, trivial⟩ ⟨⟨Nat.le_of_ble_eq_true rfl, rfl, rfl⟩, ⟨Nat.le_of_ble_eq_true rfl, rfl, rfl⟩, trivial⟩ (setAll_map (fun z => V.int .u32 z) [(0, 1), (1, 1)] _)), ⟨⟨rfl, trivial⟩, trivial, rfl⟩, rfl,
    Step.guarded rfl rfl rfl rfl (fun hc => does_load 26 1 0 0 [] (.var (e_a8_u32 (aset (fun _ => 0) [(0, 1), (1, 1)]))) (e_a8_u32 (aset (fun _ => 0) [(0, 1), (1, 1)])) trivial rfl rfl ty26), ⟨⟨rfl, rfl, trivial⟩, ⟨rfl, trivial⟩, rfl⟩, rfl,
    Step.guarded rfl rfl rfl rfl (fun hc => Does.strip (n' := [(38, (.opt (((((b_a8_u32 v3 (aset (fun _ => 0) [(0, 2), (1, 3)])) && (b_a8_u32 v5 (aset (fun _ => 0) []))) && v7) && v9) && (!v11)) (e_api_Place ({ Round := 0, From := 0, Slot := 0 } : api_Place)))), (39, (.opt (((((b_a8_u32 v3 (aset (fun _ => 0) [(0, 2), (1, 3)])) && (b_a8_u32 v5 (aset (fun _ => 0) []))) && v7) && v9) && (!v11)) (e_a8_u32 (aset (fun _ => 0) [(0, 1), (1, 1)])))), (40, (.opt (((((b_a8_u32 v3 (aset (fun _ => 0) [(0, 2), (1, 3)])) && (b_a8_u32 v5 (aset (fun _ => 0) []))) && v7) && v9) && (!v11)) (e_a8_u32 (aset (fun _ => 0) [(0, 1), (1, 1)]))))]) (n := [(38, (e_api_Place ({ Round := 0, From := 0, Slot := 0 } : api_Place))), (39, (e_a8_u32 (aset (fun _ => 0) [(0, 1), (1, 1)]))), (40, (e_a8_u32 (aset (fun _ => 0) [(0, 1), (1, 1)])))]) ⟨(.opt _ _ hc), (.opt _ _ hc), (.opt _ _ hc), trivial⟩ (does_call 16 0 (fun _ => .any) (.func 16) [(.tmp 38), (.tmp 39), (.tmp 40)] [(e_api_Place ({ Round := 0, From := 0, Slot := 0 } : api_Place)), (e_a8_u32 (aset (fun _ => 0) [(0, 1), (1, 1)])), (e_a8_u32 (aset (fun _ => 0) [(0, 1), (1, 1)]))] [] false [(e_api_Place ({ Round := 0, From := 0, Slot := 0 } : api_Place)), (e_a8_u32 (aset (fun _ => 0) [(0, 1), (1, 1)])), (e_a8_u32 (aset (fun _ => 0) [(0, 1), (1, 1)]))] (e_s_api_Place v13) _ _ rfl fo16 rfl ⟨trivial, trivial, trivial, trivial⟩ ⟨.data _ (d_api_Place ({ Round := 0, From := 0, Slot := 0 } : api_Place)), .data _ (d_a8_u32 (aset (fun _ => 0) [(0, 1), (1, 1)])), .data _ (d_a8_u32 (aset (fun _ => 0) [(0, 1), (1, 1)])), trivial⟩ (cut_Rest_data ({ Round := 0, From := 0, Slot := 0 } : api_Place) (aset (fun _ => 0) [(0, 1), (1, 1)]) (aset (fun _ => 0) [(0, 1), (1, 1)]) _ (h14 hc)) (d_s_api_Place v13))), ⟨⟨rfl, rfl, rfl, rfl, trivial⟩, trivial, rfl⟩, rfl,
    Step.guarded rfl rfl rfl rfl (fun hc => Does.strip (n' := [(41, (.opt (((((b_a8_u32 v3 (aset (fun _ => 0) [(0, 2), (1, 3)])) && (b_a8_u32 v5 (aset (fun _ => 0) []))) && v7) && v9) && (!v11)) (e_s_api_Place v13)))]) (n := [(41, (e_s_api_Place v13))]) ⟨(.opt _ _ hc), trivial⟩ (does_lens 36 3 v13.length 41 (fun j => (e_api_Place (v13.getD j z_api_Place))) el36)), ⟨⟨rfl, rfl, trivial⟩, trivial, rfl⟩, rfl,
    Step.guarded rfl rfl rfl rfl (fun hc => Does.strip (n' := [(42, (.opt (((((b_a8_u32 v3 (aset (fun _ => 0) [(0, 2), (1, 3)])) && (b_a8_u32 v5 (aset (fun _ => 0) []))) && v7) && v9) && (!v11)) (.int .i64 (v13.length : Int))))]) (n := [(42, (.int .i64 (v13.length : Int)))]) ⟨(.opt _ _ hc), trivial⟩ (does_bin .eql 3 3 (.tmp 42) (.const (.int .i64 2)) .i64 (v13.length : Int) 2 (.bool ((v13.length : Int) == 2)) trivial (fun _ => rfl) (bin_eql _ _ _ _))), ⟨⟨rfl, rfl, trivial⟩, trivial, rfl⟩, rfl,
    Step.plain rfl (does_and 37 43 (((((b_a8_u32 v3 (aset (fun _ => 0) [(0, 2), (1, 3)])) && (b_a8_u32 v5 (aset (fun _ => 0) []))) && v7) && v9) && (!v11)) ((v13.length : Int) == 2)), ⟨⟨rfl, rfl, trivial⟩, trivial, rfl⟩, rfl,
    Step.plain rfl (does_assign (.tmp 44) (.bool ((((((b_a8_u32 v3 (aset (fun _ => 0) [(0, 2), (1, 3)])) && (b_a8_u32 v5 (aset (fun _ => 0) []))) && v7) && v9) && (!v11)) && ((v13.length : Int) == 2))) trivial), ⟨⟨rfl, trivial⟩, trivial, rfl⟩, rfl, rfl⟩ ?_
  obtain ⟨v15, hv15, H⟩ := lt_of H
  refine aw_cov (cov_prune (s1 := ⟨[(0, (.bool v15))], [], 2⟩) ⟨(by subst hv15; rfl), trivial⟩ trivial (Nat.le_refl _)) ?_
  refine aw_ret ?_
  exact fun a w hr => ⟨_, [(.bool v15)], hr, ⟨⟨_, rfl, .data (.bool v15) trivial⟩, trivial⟩, by decide, by cases H; rfl⟩

theorem congressref11_Union_spec (p0 : (_root_.List (Nat → Int))) (r : (Nat → Int)) (H : congressref11_Union p0 = some r) : FSpec Try.prog 10 [(e_s_a8_u32 p0)] (e_a8_u32 r) := by
  refine spec_of (fn := Try.f10) (args := [(e_s_a8_u32 p0)]) Try.func10 rfl (Nat.le_of_ble_eq_true rfl) ?_
  rintro ⟨G, w0, W, S, Sp⟩ hG
  cases hG
  unfold congressref11_Union at H
  refine aw_region (es := [_]) ⟨Step.plain rfl (does_alloc 25 0 (e_a8_u32 (fun _ => 0)) zr25), ⟨trivial, trivial, rfl⟩, rfl, rfl⟩ ?_
  refine aw_cov (cov_prune (s1 := ⟨[(0, (e_s_a8_u32 p0)), (2, (.ptr 0 0 []))], [(0, some (.var (e_a8_u32 (fun _ => 0))))], 1⟩) ⟨rfl, rfl, trivial⟩ ⟨rfl, trivial⟩ (Nat.le_refl _)) ?_
  refine aw_region (es := [_, _, _]) ⟨Step.plain rfl (does_buildT 25 #[] [] [] (.ar 8 1) (fun j => (.int .u32 ((fun _ => 0) j))) (fun j => (.int .u32 ((aset (fun _ => 0) []) j))) rfl bo25 trivial trivial (setAll_map (fun z => V.int .u32 z) [] _)), ⟨trivial, trivial, rfl⟩, rfl,
    Step.plain rfl (does_alloc 25 1 (e_a8_u32 (fun _ => 0)) zr25), ⟨trivial, trivial, rfl⟩, rfl,
    Step.plain rfl (does_store 25 3 (.tmp 6) 1 0 [] (.var (e_a8_u32 (fun _ => 0))) (.var (e_a8_u32 (aset (fun _ => 0) []))) (e_a8_u32 (aset (fun _ => 0) [])) true trivial rfl trivial rfl rfl rfl ty25), ⟨⟨rfl, rfl, trivial⟩, ⟨rfl, trivial⟩, rfl⟩, rfl, rfl⟩ ?_
  refine aw_cov (cov_prune (s1 := ⟨[(0, (e_s_a8_u32 p0)), (2, (.ptr 0 0 [])), (3, (.ptr 1 0 []))], [(0, some (.var (e_a8_u32 (fun _ => 0)))), (1, some (.var (e_a8_u32 (aset (fun _ => 0) []))))], 2⟩) ⟨rfl, rfl, rfl, trivial⟩ ⟨rfl, rfl, trivial⟩ (Nat.le_refl _)) ?_
  refine aw_seq ?_
  refine aw_region (es := [_]) ⟨Step.plain rfl (does_assign (.const (.int .i64 0)) (.int .i64 0) (fun _ => rfl)), ⟨trivial, trivial, rfl⟩, rfl, rfl⟩ ?_
  refine aw_cov (cov_prune (s1 := ⟨[(0, (e_s_a8_u32 p0)), (2, (.ptr 0 0 [])), (3, (.ptr 1 0 [])), (4, (.int .i64 0))], [(0, some (.var (e_a8_u32 (fun _ => 0)))), (1, some (.var (e_a8_u32 (aset (fun _ => 0) []))))], 2⟩) ⟨rfl, rfl, rfl, rfl, trivial⟩ ⟨rfl, rfl, trivial⟩ (Nat.le_refl _)) ?_
  obtain ⟨wn2, hwn2, Hrn2⟩ := bnd H
  refine aw_meet (fun y15 : (Nat → Int) => (⟨[(2, (.ptr 0 0 [])), (3, (.ptr 1 0 []))], [(0, some (.var (e_a8_u32 (fun _ => 0)))), (1, some (.var (e_a8_u32 y15)))], 2⟩ : St)) (fun y15 => Fl.nx y15 = wn2) (fun y15 hy => ?_) (aw_block (aw_runs (fun x1 : Int × (Nat → Int) => (⟨[(0, (e_s_a8_u32 p0)), (2, (.ptr 0 0 [])), (3, (.ptr 1 0 [])), (4, (.int .i64 x1.1))], [(0, some (.var (e_a8_u32 (fun _ => 0)))), (1, some (.var (e_a8_u32 x1.2)))], 2⟩ : St)) hwn2 (cov_prune ⟨rfl, rfl, rfl, rfl, trivial⟩ ⟨rfl, rfl, trivial⟩ (Nat.le_of_ble_eq_true rfl)) (fun x1 st H hsn2 => ?_)))
  · have H := nx_of hy Hrn2
    refine nx_seq ?_
    refine aw_region (es := [_, _]) ⟨Step.plain rfl (does_load 25 3 1 0 [] (.var (e_a8_u32 y15)) (e_a8_u32 y15) trivial rfl rfl ty25), ⟨⟨rfl, trivial⟩, ⟨rfl, trivial⟩, rfl⟩, rfl,
      Step.plain rfl (does_store 25 2 (.tmp 35) 0 0 [] (.var (e_a8_u32 (fun _ => 0))) (.var (e_a8_u32 y15)) (e_a8_u32 y15) true trivial rfl trivial rfl rfl rfl ty25), ⟨⟨rfl, rfl, trivial⟩, ⟨rfl, trivial⟩, rfl⟩, rfl, rfl⟩ ?_
    refine aw_cov (cov_prune (s1 := ⟨[(2, (.ptr 0 0 []))], [(0, some (.var (e_a8_u32 y15)))], 2⟩) ⟨rfl, trivial⟩ ⟨rfl, trivial⟩ (Nat.le_refl _)) ?_
    refine aw_ret ?_
    exact fun a w hr => ⟨_, [(e_a8_u32 y15)], hr, ⟨⟨0, _, rfl, rfl, .data _ (d_a8_u32 y15), ty25⟩, trivial⟩, by decide, by cases H; rfl⟩
  · refine aw_seq ?_
    refine aw_region (es := [_, _, _, _]) ⟨Step.plain rfl (does_move (.tmp 4) (.int .i64 x1.1) trivial), ⟨⟨rfl, trivial⟩, trivial, rfl⟩, rfl,
      Step.plain rfl (does_move (.tmp 0) (e_s_a8_u32 p0) trivial), ⟨⟨rfl, trivial⟩, trivial, rfl⟩, rfl,
      Step.plain rfl (does_lens 22 8 p0.length 8 (fun j => (e_a8_u32 (p0.getD j (fun _ => 0)))) el22), ⟨⟨rfl, trivial⟩, trivial, rfl⟩, rfl,
      Step.plain rfl (does_bin .lss 3 3 (.tmp 7) (.tmp 9) .i64 x1.1 (p0.length : Int) (.bool (decide (x1.1 < (p0.length : Int)))) trivial trivial (bin_lss _ _ _ _)), ⟨⟨rfl, rfl, trivial⟩, trivial, rfl⟩, rfl, rfl⟩ ?_
    refine aw_cov (cov_prune (s1 := ⟨[(0, (e_s_a8_u32 p0)), (2, (.ptr 0 0 [])), (3, (.ptr 1 0 [])), (4, (.int .i64 x1.1)), (10, (.bool (decide (x1.1 < (p0.length : Int)))))], [(0, some (.var (e_a8_u32 (fun _ => 0)))), (1, some (.var (e_a8_u32 x1.2)))], 2⟩) ⟨rfl, rfl, rfl, rfl, rfl, trivial⟩ ⟨rfl, rfl, trivial⟩ (Nat.le_refl _)) ?_
    refine aw_cond rfl (fun hc => ?_) (fun hc => ?_)
    · replace H := ite_t hc H
      refine aw_skip ?_
      refine nx_seq ?_
      refine aw_seq ?_
      refine aw_block ?_
      refine aw_region (es := [_]) ⟨Step.plain rfl (does_assign (.const (.int .i64 0)) (.int .i64 0) (fun _ => rfl)), ⟨trivial, trivial, rfl⟩, rfl, rfl⟩ ?_
      refine aw_cov (cov_prune (s1 := ⟨[(0, (e_s_a8_u32 p0)), (2, (.ptr 0 0 [])), (3, (.ptr 1 0 [])), (4, (.int .i64 x1.1)), (5, (.int .i64 0))], [(0, some (.var (e_a8_u32 (fun _ => 0)))), (1, some (.var (e_a8_u32 x1.2)))], 2⟩) ⟨rfl, rfl, rfl, rfl, rfl, trivial⟩ ⟨rfl, rfl, trivial⟩ (Nat.le_refl _)) ?_
      obtain ⟨wn4, hwn4, Hrn4⟩ := bnd H
      refine aw_meet (fun y14 : (Nat → Int) => (⟨[(0, (e_s_a8_u32 p0)), (2, (.ptr 0 0 [])), (3, (.ptr 1 0 [])), (4, (.int .i64 x1.1))], [(0, some (.var (e_a8_u32 (fun _ => 0)))), (1, some (.var (e_a8_u32 y14)))], 2⟩ : St)) (fun y14 => Fl.nx y14 = wn4) (fun y14 hy => ?_) (aw_block (aw_runs (fun x3 : Int × (Nat → Int) => (⟨[(0, (e_s_a8_u32 p0)), (2, (.ptr 0 0 [])), (3, (.ptr 1 0 [])), (4, (.int .i64 x1.1)), (5, (.int .i64 x3.1))], [(0, some (.var (e_a8_u32 (fun _ => 0)))), (1, some (.var (e_a8_u32 x3.2)))], 2⟩ : St)) hwn4 (cov_prune ⟨rfl, rfl, rfl, rfl, rfl, trivial⟩ ⟨rfl, rfl, trivial⟩ (Nat.le_of_ble_eq_true rfl)) (fun x3 st H hsn4 => ?_)))
      · have H := nx_of hy Hrn4
        refine nx_blk ?_
        refine nx_seq ?_
        refine aw_region1 (es := [_, _, _]) ⟨Step.plain rfl (does_move (.tmp 4) (.int .i64 x1.1) trivial), ⟨⟨rfl, trivial⟩, trivial, rfl⟩, rfl,
          Step.plain rfl (does_bin .add 3 3 (.tmp 11) (.const (.int .i64 1)) .i64 x1.1 1 (.int .i64 (IntKind.i64.wrap (x1.1 + 1))) trivial (fun _ => rfl) (bin_add _ _ _ _)), ⟨⟨rfl, trivial⟩, trivial, rfl⟩, rfl,
          Step.plain rfl (does_assign (.tmp 12) (.int .i64 (IntKind.i64.wrap (x1.1 + 1))) trivial), ⟨⟨rfl, trivial⟩, trivial, rfl⟩, rfl, rfl⟩ ?_
        exact nx_loop ((IntKind.i64.wrap (x1.1 + 1)), y14) H (cov_prune ⟨rfl, rfl, rfl, rfl, trivial⟩ ⟨rfl, rfl, trivial⟩ (Nat.le_of_ble_eq_true rfl))
      · refine aw_seq ?_
        refine aw_region (es := [_, _]) ⟨Step.plain rfl (does_move (.tmp 5) (.int .i64 x3.1) trivial), ⟨⟨rfl, trivial⟩, trivial, rfl⟩, rfl,
          Step.plain rfl (does_bin .lss 3 3 (.tmp 13) (.const (.int .i64 8)) .i64 x3.1 8 (.bool (decide (x3.1 < 8))) trivial (fun _ => rfl) (bin_lss _ _ _ _)), ⟨⟨rfl, trivial⟩, trivial, rfl⟩, rfl, rfl⟩ ?_
        refine aw_cov (cov_prune (s1 := ⟨[(0, (e_s_a8_u32 p0)), (2, (.ptr 0 0 [])), (3, (.ptr 1 0 [])), (4, (.int .i64 x1.1)), (5, (.int .i64 x3.1)), (14, (.bool (decide (x3.1 < 8))))], [(0, some (.var (e_a8_u32 (fun _ => 0)))), (1, some (.var (e_a8_u32 x3.2)))], 2⟩) ⟨rfl, rfl, rfl, rfl, rfl, rfl, trivial⟩ ⟨rfl, rfl, trivial⟩ (Nat.le_refl _)) ?_
        refine aw_cond rfl (fun hc => ?_) (fun hc => ?_)
        · replace H := ite_t hc H
          refine aw_skip ?_
          refine nx_seq ?_
          refine aw_seq ?_
          refine aw_jn (fun x13 : (Nat → Int) => (⟨[(0, (e_s_a8_u32 p0)), (2, (.ptr 0 0 [])), (3, (.ptr 1 0 [])), (4, (.int .i64 x1.1)), (5, (.int .i64 x3.1))], [(0, some (.var (e_a8_u32 (fun _ => 0)))), (1, some (.var (e_a8_u32 x13)))], 2⟩ : St)) H (fun x13 H => ?_) (fun j5 H => ?_)
          · refine nx_seq ?_
            refine aw_region1 (es := [_, _, _]) ⟨Step.plain rfl (does_move (.tmp 5) (.int .i64 x3.1) trivial), ⟨⟨rfl, trivial⟩, trivial, rfl⟩, rfl,
              Step.plain rfl (does_bin .add 3 3 (.tmp 15) (.const (.int .i64 1)) .i64 x3.1 1 (.int .i64 (IntKind.i64.wrap (x3.1 + 1))) trivial (fun _ => rfl) (bin_add _ _ _ _)), ⟨⟨rfl, trivial⟩, trivial, rfl⟩, rfl,
              Step.plain rfl (does_assign (.tmp 16) (.int .i64 (IntKind.i64.wrap (x3.1 + 1))) trivial), ⟨⟨rfl, trivial⟩, trivial, rfl⟩, rfl, rfl⟩ ?_
            exact nx_loop ((IntKind.i64.wrap (x3.1 + 1)), x13) H (cov_prune ⟨rfl, rfl, rfl, rfl, rfl, trivial⟩ ⟨rfl, rfl, trivial⟩ (Nat.le_of_ble_eq_true rfl))
          · refine aw_block ?_
            obtain ⟨h6, H⟩ := ib_of H
            obtain ⟨h7, H⟩ := ib_of H
            obtain ⟨h8, H⟩ := ib_of H
            refine aw_draw (es := [_, _, _, _, _, _, _, _, _, _]) (mixed) ⟨Step.plain rfl (does_move (.tmp 0) (e_s_a8_u32 p0) trivial), ⟨⟨rfl, trivial⟩, trivial, rfl⟩, rfl,
              Step.plain rfl (does_move (.tmp 4) (.int .i64 x1.1) trivial), ⟨⟨rfl, trivial⟩, trivial, rfl⟩, rfl,
              Step.plain rfl (does_move (.tmp 5) (.int .i64 x3.1) trivial), ⟨⟨rfl, trivial⟩, trivial, rfl⟩, rfl,
              Step.plain rfl (does_indexAddrs 22 8 p0.length 17 (fun j => (e_a8_u32 (p0.getD j (fun _ => 0)))) (.tmp 18) .i64 x1.1 el22 trivial h6.1 h6.2), ⟨⟨rfl, rfl, trivial⟩, trivial, rfl⟩, rfl,
              Step.plain rfl (does_indexAddrc 25 8 1 20 (fun j => (.int .u32 ((p0.getD x1.1.toNat (fun _ => 0)) j))) (.tmp 19) .i64 x3.1 el25 trivial h7.1 h7.2), ⟨⟨rfl, rfl, trivial⟩, trivial, rfl⟩, rfl,
              Step.plain rfl (does_loadc 23 21 (.int .u32 ((p0.getD x1.1.toNat (fun _ => 0)) x3.1.toNat)) ty23), ⟨⟨rfl, trivial⟩, trivial, rfl⟩, rfl,
              Step.plain rfl (does_move (.tmp 5) (.int .i64 x3.1) trivial), ⟨⟨rfl, trivial⟩, trivial, rfl⟩, rfl,
              Step.plain rfl (does_indexAddr 25 8 1 3 1 0 [] (.var (e_a8_u32 x3.2)) (.tmp 23) .i64 x3.1 el25 trivial h8.1 h8.2), ⟨⟨rfl, rfl, trivial⟩, ⟨rfl, trivial⟩, rfl⟩, rfl,
              Step.plain rfl (does_load 23 24 1 (0 + x3.1.toNat * 1) [x3.1.toNat] (.var (e_a8_u32 x3.2)) (.int .u32 (x3.2 x3.1.toNat)) ⟨rfl, (ixl h8), trivial⟩ rfl rfl ty23), ⟨⟨rfl, trivial⟩, ⟨rfl, trivial⟩, rfl⟩, rfl,
              Step.plain rfl (does_bin .gtr 23 23 (.tmp 22) (.tmp 25) .u32 ((p0.getD x1.1.toNat (fun _ => 0)) x3.1.toNat) (x3.2 x3.1.toNat) (.bool (decide (((p0.getD x1.1.toNat (fun _ => 0)) x3.1.toNat) > (x3.2 x3.1.toNat)))) trivial trivial (bin_gtr _ _ _ _)), ⟨⟨rfl, rfl, trivial⟩, trivial, rfl⟩, rfl, rfl⟩ rfl ?_
            obtain ⟨v9, hv9, H⟩ := lt_of H
            refine aw_cov (cov_prune (s1 := ⟨[(0, (e_s_a8_u32 p0)), (2, (.ptr 0 0 [])), (3, (.ptr 1 0 [])), (4, (.int .i64 x1.1)), (5, (.int .i64 x3.1)), (26, (.bool v9))], [(0, some (.var (e_a8_u32 (fun _ => 0)))), (1, some (.var (e_a8_u32 x3.2)))], 2⟩) ⟨rfl, rfl, rfl, rfl, rfl, (by subst hv9; rfl), trivial⟩ ⟨rfl, rfl, trivial⟩ (Nat.le_refl _)) ?_
            refine aw_cond rfl (fun hc => ?_) (fun hc => ?_)
            · replace H := ite_t hc H
              obtain ⟨h10, H⟩ := ib_of H
              obtain ⟨h11, H⟩ := ib_of H
              obtain ⟨h12, H⟩ := ib_of H
              refine aw_region1 (es := [_, _, _, _, _, _, _, _, _]) ⟨Step.plain rfl (does_move (.tmp 5) (.int .i64 x3.1) trivial), ⟨⟨rfl, trivial⟩, trivial, rfl⟩, rfl,
                Step.plain rfl (does_move (.tmp 0) (e_s_a8_u32 p0) trivial), ⟨⟨rfl, trivial⟩, trivial, rfl⟩, rfl,
                Step.plain rfl (does_move (.tmp 4) (.int .i64 x1.1) trivial), ⟨⟨rfl, trivial⟩, trivial, rfl⟩, rfl,
                Step.plain rfl (does_move (.tmp 5) (.int .i64 x3.1) trivial), ⟨⟨rfl, trivial⟩, trivial, rfl⟩, rfl,
                Step.plain rfl (does_indexAddrs 22 8 p0.length 28 (fun j => (e_a8_u32 (p0.getD j (fun _ => 0)))) (.tmp 29) .i64 x1.1 el22 trivial h10.1 h10.2), ⟨⟨rfl, rfl, trivial⟩, trivial, rfl⟩, rfl,
                Step.plain rfl (does_indexAddrc 25 8 1 31 (fun j => (.int .u32 ((p0.getD x1.1.toNat (fun _ => 0)) j))) (.tmp 30) .i64 x3.1 el25 trivial h11.1 h11.2), ⟨⟨rfl, rfl, trivial⟩, trivial, rfl⟩, rfl,
                Step.plain rfl (does_loadc 23 32 (.int .u32 ((p0.getD x1.1.toNat (fun _ => 0)) x3.1.toNat)) ty23), ⟨⟨rfl, trivial⟩, trivial, rfl⟩, rfl,
                Step.plain rfl (does_indexAddr 25 8 1 3 1 0 [] (.var (e_a8_u32 x3.2)) (.tmp 27) .i64 x3.1 el25 trivial h12.1 h12.2), ⟨⟨rfl, rfl, trivial⟩, ⟨rfl, trivial⟩, rfl⟩, rfl,
                Step.plain rfl (does_store 23 34 (.tmp 33) 1 (0 + x3.1.toNat * 1) [x3.1.toNat] (.var (e_a8_u32 x3.2)) (.var (e_a8_u32 (aupd x3.2 x3.1.toNat ((p0.getD x1.1.toNat (fun _ => 0)) x3.1.toNat)))) (.int .u32 ((p0.getD x1.1.toNat (fun _ => 0)) x3.1.toNat)) false trivial rfl ⟨rfl, (ixl h12), trivial⟩ rfl rfl (congrArg Box.var (set_cons rfl (vupd_map (fun z => V.int .u32 z) _ _ _))) ty23), ⟨⟨rfl, rfl, trivial⟩, ⟨rfl, trivial⟩, rfl⟩, rfl, rfl⟩ ?_
              refine nx_blk ?_
              exact nx_join (aupd x3.2 x3.1.toNat ((p0.getD x1.1.toNat (fun _ => 0)) x3.1.toNat)) H (cov_prune ⟨rfl, rfl, rfl, rfl, rfl, trivial⟩ ⟨rfl, rfl, trivial⟩ (Nat.le_of_ble_eq_true rfl))
            · replace H := ite_f hc H
              refine aw_skip ?_
              refine nx_blk ?_
              exact nx_join (x3.2) H (cov_prune ⟨rfl, rfl, rfl, rfl, rfl, trivial⟩ ⟨rfl, rfl, trivial⟩ (Nat.le_of_ble_eq_true rfl))
        · replace H := ite_f hc H
          refine aw_exit ?_
          refine ex_then ?_
          refine ex_then ?_
          refine ex_here ?_
          exact nx_ljoin (x3.2) H hsn4 (cov_prune ⟨rfl, rfl, rfl, rfl, trivial⟩ ⟨rfl, rfl, trivial⟩ (Nat.le_of_ble_eq_true rfl))
    · replace H := ite_f hc H
      refine aw_exit ?_
      refine ex_then ?_
      refine ex_then ?_
      refine ex_here ?_
      exact nx_ljoin (x1.2) H hsn2 (cov_prune ⟨rfl, rfl, trivial⟩ ⟨rfl, rfl, trivial⟩ (Nat.le_of_ble_eq_true rfl))

theorem congressref11_Within_spec (p0 : (Nat → Int)) (p1 : (Nat → Int)) (r : Bool) (H : congressref11_Within p0 p1 = some r) : FSpec Try.prog 12 [(e_a8_u32 p0), (e_a8_u32 p1)] (.bool r) := by
  refine spec_of (fn := Try.f12) (args := [(e_a8_u32 p0), (e_a8_u32 p1)]) Try.func12 rfl (Nat.le_of_ble_eq_true rfl) ?_
  rintro ⟨G, w0, W, S, Sp⟩ hG
  cases hG
  unfold congressref11_Within at H
  refine aw_region (es := [_, _, _]) ⟨Step.plain rfl (does_box 25 (.tmp 0) 0 (e_a8_u32 p0) trivial rfl), ⟨⟨rfl, trivial⟩, trivial, rfl⟩, rfl,
    Step.plain rfl (does_box 25 (.tmp 1) 1 (e_a8_u32 p1) trivial rfl), ⟨⟨rfl, trivial⟩, trivial, rfl⟩, rfl,
    Step.plain rfl (does_assign (.const (.bool false)) (.bool false) (fun _ => rfl)), ⟨trivial, trivial, rfl⟩, rfl, rfl⟩ ?_
  refine aw_cov (cov_prune (s1 := ⟨[(2, (.ptr 0 0 [])), (3, (.ptr 1 0 []))], [(0, some (.var (e_a8_u32 p0))), (1, some (.var (e_a8_u32 p1)))], 2⟩) ⟨rfl, rfl, trivial⟩ ⟨rfl, rfl, trivial⟩ (Nat.le_refl _)) ?_
  refine aw_seq ?_
  refine aw_region (es := [_]) ⟨Step.plain rfl (does_assign (.const (.int .i64 0)) (.int .i64 0) (fun _ => rfl)), ⟨trivial, trivial, rfl⟩, rfl, rfl⟩ ?_
  refine aw_cov (cov_prune (s1 := ⟨[(2, (.ptr 0 0 [])), (3, (.ptr 1 0 [])), (5, (.int .i64 0))], [(0, some (.var (e_a8_u32 p0))), (1, some (.var (e_a8_u32 p1)))], 2⟩) ⟨rfl, rfl, rfl, trivial⟩ ⟨rfl, rfl, trivial⟩ (Nat.le_refl _)) ?_
  obtain ⟨wn2, hwn2, Hrn2⟩ := bnd H
  refine aw_meet (fun y5 : Unit => (⟨[], [], 2⟩ : St)) (fun y5 => Fl.nx y5 = wn2) (fun y5 hy => ?_) (aw_block (aw_runs (fun x1 : Int => (⟨[(2, (.ptr 0 0 [])), (3, (.ptr 1 0 [])), (5, (.int .i64 x1))], [(0, some (.var (e_a8_u32 p0))), (1, some (.var (e_a8_u32 p1)))], 2⟩ : St)) hwn2 (cov_prune ⟨rfl, rfl, rfl, trivial⟩ ⟨rfl, rfl, trivial⟩ (Nat.le_of_ble_eq_true rfl)) (fun x1 st H hsn2 => ?_)))
  · have H := nx_of hy Hrn2
    refine nx_seq ?_
    refine aw_region (es := [_]) ⟨Step.plain rfl (does_assign (.const (.bool true)) (.bool true) (fun _ => rfl)), ⟨trivial, trivial, rfl⟩, rfl, rfl⟩ ?_
    refine aw_cov (cov_prune (s1 := ⟨[(4, (.bool true))], [], 2⟩) ⟨rfl, trivial⟩ trivial (Nat.le_refl _)) ?_
    refine aw_ret ?_
    exact fun a w hr => ⟨_, [(.bool true)], hr, ⟨⟨_, rfl, .data (.bool true) trivial⟩, trivial⟩, by decide, by cases H; rfl⟩
  · refine aw_seq ?_
    refine aw_region (es := [_, _]) ⟨Step.plain rfl (does_move (.tmp 5) (.int .i64 x1) trivial), ⟨⟨rfl, trivial⟩, trivial, rfl⟩, rfl,
      Step.plain rfl (does_bin .lss 3 3 (.tmp 6) (.const (.int .i64 8)) .i64 x1 8 (.bool (decide (x1 < 8))) trivial (fun _ => rfl) (bin_lss _ _ _ _)), ⟨⟨rfl, trivial⟩, trivial, rfl⟩, rfl, rfl⟩ ?_
    refine aw_cov (cov_prune (s1 := ⟨[(2, (.ptr 0 0 [])), (3, (.ptr 1 0 [])), (5, (.int .i64 x1)), (7, (.bool (decide (x1 < 8))))], [(0, some (.var (e_a8_u32 p0))), (1, some (.var (e_a8_u32 p1)))], 2⟩) ⟨rfl, rfl, rfl, rfl, trivial⟩ ⟨rfl, rfl, trivial⟩ (Nat.le_refl _)) ?_
    refine aw_cond rfl (fun hc => ?_) (fun hc => ?_)
    · replace H := ite_t hc H
      refine aw_skip ?_
      refine nx_seq ?_
      refine aw_seq ?_
      refine aw_block ?_
      obtain ⟨h3, H⟩ := ib_of H
      obtain ⟨h4, H⟩ := ib_of H
      refine aw_draw (es := [_, _, _, _, _, _, _]) (mixed) ⟨Step.plain rfl (does_move (.tmp 5) (.int .i64 x1) trivial), ⟨⟨rfl, trivial⟩, trivial, rfl⟩, rfl,
        Step.plain rfl (does_indexAddr 25 8 1 2 0 0 [] (.var (e_a8_u32 p0)) (.tmp 10) .i64 x1 el25 trivial h3.1 h3.2), ⟨⟨rfl, rfl, trivial⟩, ⟨rfl, trivial⟩, rfl⟩, rfl,
        Step.plain rfl (does_load 23 11 0 (0 + x1.toNat * 1) [x1.toNat] (.var (e_a8_u32 p0)) (.int .u32 (p0 x1.toNat)) ⟨rfl, (ixl h3), trivial⟩ rfl rfl ty23), ⟨⟨rfl, trivial⟩, ⟨rfl, trivial⟩, rfl⟩, rfl,
        Step.plain rfl (does_move (.tmp 5) (.int .i64 x1) trivial), ⟨⟨rfl, trivial⟩, trivial, rfl⟩, rfl,
        Step.plain rfl (does_indexAddr 25 8 1 3 1 0 [] (.var (e_a8_u32 p1)) (.tmp 13) .i64 x1 el25 trivial h4.1 h4.2), ⟨⟨rfl, rfl, trivial⟩, ⟨rfl, trivial⟩, rfl⟩, rfl,
        Step.plain rfl (does_load 23 14 1 (0 + x1.toNat * 1) [x1.toNat] (.var (e_a8_u32 p1)) (.int .u32 (p1 x1.toNat)) ⟨rfl, (ixl h4), trivial⟩ rfl rfl ty23), ⟨⟨rfl, trivial⟩, ⟨rfl, trivial⟩, rfl⟩, rfl,
        Step.plain rfl (does_bin .gtr 23 23 (.tmp 12) (.tmp 15) .u32 (p0 x1.toNat) (p1 x1.toNat) (.bool (decide ((p0 x1.toNat) > (p1 x1.toNat)))) trivial trivial (bin_gtr _ _ _ _)), ⟨⟨rfl, rfl, trivial⟩, trivial, rfl⟩, rfl, rfl⟩ rfl ?_
      refine aw_cov (cov_prune (s1 := ⟨[(2, (.ptr 0 0 [])), (3, (.ptr 1 0 [])), (5, (.int .i64 x1)), (16, (.bool (decide ((p0 x1.toNat) > (p1 x1.toNat)))))], [(0, some (.var (e_a8_u32 p0))), (1, some (.var (e_a8_u32 p1)))], 2⟩) ⟨rfl, rfl, rfl, rfl, trivial⟩ ⟨rfl, rfl, trivial⟩ (Nat.le_refl _)) ?_
      refine aw_cond rfl (fun hc => ?_) (fun hc => ?_)
      · replace H := ite_t hc H
        refine aw_region (es := [_]) ⟨Step.plain rfl (does_assign (.const (.bool false)) (.bool false) (fun _ => rfl)), ⟨trivial, trivial, rfl⟩, rfl, rfl⟩ ?_
        refine aw_cov (cov_prune (s1 := ⟨[(4, (.bool false))], [], 2⟩) ⟨rfl, trivial⟩ trivial (Nat.le_refl _)) ?_
        refine aw_ret ?_
        replace H := rt_of H hsn2 Hrn2
        refine rt_blk ?_
        refine rt_then ?_
        refine rt_then ?_
        refine rt_blk ?_
        refine rt_then ?_
        refine rt_then ?_
        exact fun a w hr => ⟨_, [(.bool false)], hr, ⟨⟨_, rfl, .data (.bool false) trivial⟩, trivial⟩, by decide, by cases H; rfl⟩
      · replace H := ite_f hc H
        refine aw_skip ?_
        refine nx_blk ?_
        refine nx_seq ?_
        refine aw_region1 (es := [_, _, _]) ⟨Step.plain rfl (does_move (.tmp 5) (.int .i64 x1) trivial), ⟨⟨rfl, trivial⟩, trivial, rfl⟩, rfl,
          Step.plain rfl (does_bin .add 3 3 (.tmp 8) (.const (.int .i64 1)) .i64 x1 1 (.int .i64 (IntKind.i64.wrap (x1 + 1))) trivial (fun _ => rfl) (bin_add _ _ _ _)), ⟨⟨rfl, trivial⟩, trivial, rfl⟩, rfl,
          Step.plain rfl (does_assign (.tmp 9) (.int .i64 (IntKind.i64.wrap (x1 + 1))) trivial), ⟨⟨rfl, trivial⟩, trivial, rfl⟩, rfl, rfl⟩ ?_
        exact nx_loop ((IntKind.i64.wrap (x1 + 1))) H (cov_prune ⟨rfl, rfl, rfl, trivial⟩ ⟨rfl, rfl, trivial⟩ (Nat.le_of_ble_eq_true rfl))
    · replace H := ite_f hc H
      refine aw_exit ?_
      refine ex_then ?_
      refine ex_then ?_
      refine ex_here ?_
      exact nx_ljoin () H hsn2 (cov_prune trivial trivial (Nat.le_of_ble_eq_true rfl))

theorem congressref07_List_spec (p0 : (Nat → Int)) (r : (_root_.List Int)) (H : congressref07_List p0 = some r) : FSpecO Try.prog 28 [(e_a8_u32 p0)] [] 0 (.own 0) [(0, some (.arr 1 r.length fun j => (.int .i64 (r.getD j 0))))] 1 := by
  refine specO_of (fn := Try.f28) (args := [(e_a8_u32 p0)]) Try.func28 rfl (Nat.le_of_ble_eq_true rfl) ?_
  rintro ⟨G, w0, W, S, Sp⟩ hG
  cases hG
  unfold congressref07_List at H
  refine aw_region (es := [_, _]) ⟨Step.plain rfl (does_box 26 (.tmp 0) 0 (e_a8_u32 p0) trivial rfl), ⟨⟨rfl, trivial⟩, trivial, rfl⟩, rfl,
    Step.plain rfl (does_nil false 1 1 (fun j => (.int .i64 (([] : _root_.List Int).getD j 0)))), ⟨trivial, trivial, rfl⟩, rfl, rfl⟩ ?_
  refine aw_cov (cov_prune (s1 := ⟨[(1, (.ptr 0 0 []))], [(0, some (.var (e_a8_u32 p0)))], 2⟩) ⟨rfl, trivial⟩ ⟨rfl, trivial⟩ (Nat.le_refl _)) ?_
  refine aw_region (es := [_, _]) ⟨Step.plain rfl (does_buildOwn 51 0 1 2 (.int .i64 0) (fun j => (.int .i64 (([] : _root_.List Int).getD j 0))) #[] [] [] rfl so51 (by decide) trivial trivial (fun j h => match j, h with  | k + 0, h => absurd h (by omega))), ⟨trivial, trivial, rfl⟩, rfl,
    Step.plain rfl (does_assign (.tmp 5) (.own 2) trivial), ⟨⟨rfl, trivial⟩, trivial, rfl⟩, rfl, rfl⟩ ?_
  refine aw_cov (cov_prune (s1 := ⟨[(1, (.ptr 0 0 [])), (3, (.own 2))], [(0, some (.var (e_a8_u32 p0))), (2, some (.arr 1 ([] : _root_.List Int).length fun j => (.int .i64 (([] : _root_.List Int).getD j 0))))], 3⟩) ⟨rfl, rfl, trivial⟩ ⟨rfl, rfl, trivial⟩ (Nat.le_refl _)) ?_
  refine aw_seq ?_
  refine aw_region (es := [_]) ⟨Step.plain rfl (does_assign (.const (.int .i64 0)) (.int .i64 0) (fun _ => rfl)), ⟨trivial, trivial, rfl⟩, rfl, rfl⟩ ?_
  refine aw_cov (cov_prune (s1 := ⟨[(1, (.ptr 0 0 [])), (3, (.own 2)), (4, (.int .i64 0))], [(0, some (.var (e_a8_u32 p0))), (2, some (.arr 1 ([] : _root_.List Int).length fun j => (.int .i64 (([] : _root_.List Int).getD j 0))))], 3⟩) ⟨rfl, rfl, rfl, trivial⟩ ⟨rfl, rfl, trivial⟩ (Nat.le_refl _)) ?_
  obtain ⟨wn2, hwn2, Hrn2⟩ := bnd H
  refine aw_meet (fun y7 : _root_.List Int => (⟨[(3, (.own 2))], [(2, some (.arr 1 y7.length fun j => (.int .i64 (y7.getD j 0))))], 3⟩ : St)) (fun y7 => Fl.nx y7 = wn2) (fun y7 hy => ?_) (aw_block (aw_runs (fun x1 : Int × _root_.List Int => (⟨[(1, (.ptr 0 0 [])), (3, (.own 2)), (4, (.int .i64 x1.1))], [(0, some (.var (e_a8_u32 p0))), (2, some (.arr 1 x1.2.length fun j => (.int .i64 (x1.2.getD j 0))))], 3⟩ : St)) hwn2 (cov_prune ⟨rfl, rfl, rfl, trivial⟩ ⟨rfl, rfl, trivial⟩ (Nat.le_of_ble_eq_true rfl)) (fun x1 st H hsn2 => ?_)))
  · have H := nx_of hy Hrn2
    refine nx_seq ?_
    refine aw_region (es := [_, _]) ⟨Step.plain rfl (does_move (.tmp 3) (.own 2) trivial), ⟨⟨rfl, trivial⟩, trivial, rfl⟩, rfl,
      Step.plain rfl (does_assign (.tmp 18) (.own 2) trivial), ⟨⟨rfl, trivial⟩, trivial, rfl⟩, rfl, rfl⟩ ?_
    refine aw_cov (cov_prune (s1 := ⟨[(2, (.own 2))], [(2, some (.arr 1 y7.length fun j => (.int .i64 (y7.getD j 0))))], 3⟩) ⟨rfl, trivial⟩ ⟨rfl, trivial⟩ (Nat.le_refl _)) ?_
    refine aw_ret ?_
    exact fun a w hr => ⟨_, [(.own 0)], reach_of hr (cov_to (s1 := ⟨[(2, (.own 0))], [(0, some (.arr 1 y7.length fun j => (.int .i64 (y7.getD j 0))))], 1⟩) (fun i => match i with | 0 => 2 | k => k) [] ⟨⟨_, rfl, .own 0 _ _ (Nat.le_of_ble_eq_true rfl) rfl rfl (Box.like_refl _)⟩, trivial⟩ ⟨⟨Nat.le_of_ble_eq_true rfl, _, _, rfl, rfl, boxTo_arr (fun _ => trivial)⟩, trivial⟩ rfl rfl), ⟨rfl, trivial⟩, by decide, by cases H; rfl, by cases H; exact ⟨rfl, trivial⟩, Nat.le_of_ble_eq_true rfl⟩
  · refine aw_seq ?_
    refine aw_region (es := [_, _]) ⟨Step.plain rfl (does_move (.tmp 4) (.int .i64 x1.1) trivial), ⟨⟨rfl, trivial⟩, trivial, rfl⟩, rfl,
      Step.plain rfl (does_bin .lss 3 3 (.tmp 6) (.const (.int .i64 8)) .i64 x1.1 8 (.bool (decide (x1.1 < 8))) trivial (fun _ => rfl) (bin_lss _ _ _ _)), ⟨⟨rfl, trivial⟩, trivial, rfl⟩, rfl, rfl⟩ ?_
    refine aw_cov (cov_prune (s1 := ⟨[(1, (.ptr 0 0 [])), (3, (.own 2)), (4, (.int .i64 x1.1)), (7, (.bool (decide (x1.1 < 8))))], [(0, some (.var (e_a8_u32 p0))), (2, some (.arr 1 x1.2.length fun j => (.int .i64 (x1.2.getD j 0))))], 3⟩) ⟨rfl, rfl, rfl, rfl, trivial⟩ ⟨rfl, rfl, trivial⟩ (Nat.le_refl _)) ?_
    refine aw_cond rfl (fun hc => ?_) (fun hc => ?_)
    · replace H := ite_t hc H
      refine aw_skip ?_
      refine nx_seq ?_
      refine aw_seq ?_
      refine aw_jn (fun x6 : _root_.List Int => (⟨[(1, (.ptr 0 0 [])), (3, (.own 2)), (4, (.int .i64 x1.1))], [(0, some (.var (e_a8_u32 p0))), (2, some (.arr 1 x6.length fun j => (.int .i64 (x6.getD j 0))))], 4⟩ : St)) H (fun x6 H => ?_) (fun j3 H => ?_)
      · refine nx_seq ?_
        refine aw_region1 (es := [_, _, _]) ⟨Step.plain rfl (does_move (.tmp 4) (.int .i64 x1.1) trivial), ⟨⟨rfl, trivial⟩, trivial, rfl⟩, rfl,
          Step.plain rfl (does_bin .add 3 3 (.tmp 8) (.const (.int .i64 1)) .i64 x1.1 1 (.int .i64 (IntKind.i64.wrap (x1.1 + 1))) trivial (fun _ => rfl) (bin_add _ _ _ _)), ⟨⟨rfl, trivial⟩, trivial, rfl⟩, rfl,
          Step.plain rfl (does_assign (.tmp 9) (.int .i64 (IntKind.i64.wrap (x1.1 + 1))) trivial), ⟨⟨rfl, trivial⟩, trivial, rfl⟩, rfl, rfl⟩ ?_
        exact nx_loop ((IntKind.i64.wrap (x1.1 + 1)), x6) H (cov_of (fun i => match i with | 0 => 0 | 2 => 2 | k => k) ⟨⟨_, rfl, ⟨rfl, Nat.le_of_ble_eq_true rfl⟩⟩, ⟨_, rfl, ⟨rfl, Nat.le_of_ble_eq_true rfl⟩⟩, ⟨_, rfl, ⟨rfl, trivial⟩⟩, trivial⟩ ⟨⟨Nat.le_of_ble_eq_true rfl, _, _, rfl, rfl, .inl ⟨rfl, (d_a8_u32 _).plain⟩⟩, ⟨Nat.le_of_ble_eq_true rfl, _, _, rfl, rfl, ⟨rfl, rfl, fun _ => ⟨rfl, trivial⟩⟩⟩, trivial⟩ rfl)
      · refine aw_block ?_
        obtain ⟨h4, H⟩ := ib_of H
        refine aw_region (es := [_, _, _, _]) ⟨Step.plain rfl (does_move (.tmp 4) (.int .i64 x1.1) trivial), ⟨⟨rfl, trivial⟩, trivial, rfl⟩, rfl,
          Step.plain rfl (does_indexAddr 26 8 1 1 0 0 [] (.var (e_a8_u32 p0)) (.tmp 10) .i64 x1.1 el26 trivial h4.1 h4.2), ⟨⟨rfl, rfl, trivial⟩, ⟨rfl, trivial⟩, rfl⟩, rfl,
          Step.plain rfl (does_load 23 11 0 (0 + x1.1.toNat * 1) [x1.1.toNat] (.var (e_a8_u32 p0)) (.int .u32 (p0 x1.1.toNat)) ⟨rfl, (ixl h4), trivial⟩ rfl rfl ty23), ⟨⟨rfl, trivial⟩, ⟨rfl, trivial⟩, rfl⟩, rfl,
          Step.plain rfl (does_bin .gtr 23 23 (.tmp 12) (.const (.int .u32 0)) .u32 (p0 x1.1.toNat) 0 (.bool (decide ((p0 x1.1.toNat) > 0))) trivial (fun _ => rfl) (bin_gtr _ _ _ _)), ⟨⟨rfl, trivial⟩, trivial, rfl⟩, rfl, rfl⟩ ?_
        refine aw_cov (cov_prune (s1 := ⟨[(1, (.ptr 0 0 [])), (3, (.own 2)), (4, (.int .i64 x1.1)), (13, (.bool (decide ((p0 x1.1.toNat) > 0))))], [(0, some (.var (e_a8_u32 p0))), (2, some (.arr 1 x1.2.length fun j => (.int .i64 (x1.2.getD j 0))))], 3⟩) ⟨rfl, rfl, rfl, rfl, trivial⟩ ⟨rfl, rfl, trivial⟩ (Nat.le_refl _)) ?_
        refine aw_cond rfl (fun hc => ?_) (fun hc => ?_)
        · replace H := ite_t hc H
          obtain ⟨h5, H⟩ := fit_of H
          refine aw_region1 (es := [_, _, _, _, _]) ⟨Step.plain rfl (does_move (.tmp 3) (.own 2) trivial), ⟨⟨rfl, trivial⟩, trivial, rfl⟩, rfl,
            Step.plain rfl (does_move (.tmp 4) (.int .i64 x1.1) trivial), ⟨⟨rfl, trivial⟩, trivial, rfl⟩, rfl,
            Step.plain rfl (does_buildSl 51 1 1 (.int .i64 0) (fun j => (.int .i64 (([x1.1] : _root_.List Int).getD j 0))) #[(0, (.tmp 15))] [(0, (.tmp 15))] [(0, (.int .i64 x1.1))] rfl so51 (by decide) ⟨⟨rfl, trivial⟩, trivial⟩ ⟨⟨Nat.le_of_ble_eq_true rfl, rfl, rfl⟩, trivial⟩ (fun j h => match j, h with | 0, _ => rfl | k + 1, h => absurd h (by omega))), ⟨⟨rfl, trivial⟩, trivial, rfl⟩, rfl,
            Step.plain rfl (does_appendL (fun z => V.int .i64 z) 0 x1.2 ([x1.1] : _root_.List Int) 51 1 8 2 3 14 16 ap51 h5), ⟨⟨rfl, rfl, trivial⟩, ⟨rfl, trivial⟩, rfl⟩, rfl,
            Step.plain rfl (does_assign (.tmp 17) (.own 3) trivial), ⟨⟨rfl, trivial⟩, trivial, rfl⟩, rfl, rfl⟩ ?_
          refine nx_blk ?_
          exact nx_join ((x1.2 ++ ([x1.1] : _root_.List Int))) H (cov_of (fun i => match i with | 0 => 0 | 2 => 3 | k => k) ⟨⟨_, rfl, ⟨rfl, Nat.le_of_ble_eq_true rfl⟩⟩, ⟨_, rfl, ⟨rfl, Nat.le_of_ble_eq_true rfl⟩⟩, ⟨_, rfl, ⟨rfl, trivial⟩⟩, trivial⟩ ⟨⟨Nat.le_of_ble_eq_true rfl, _, _, rfl, rfl, .inl ⟨rfl, (d_a8_u32 _).plain⟩⟩, ⟨Nat.le_of_ble_eq_true rfl, _, _, rfl, rfl, ⟨rfl, rfl, fun _ => ⟨rfl, trivial⟩⟩⟩, trivial⟩ rfl)
        · replace H := ite_f hc H
          refine aw_skip ?_
          refine nx_blk ?_
          exact nx_join (x1.2) H (cov_of (fun i => match i with | 0 => 0 | 2 => 2 | k => k) ⟨⟨_, rfl, ⟨rfl, Nat.le_of_ble_eq_true rfl⟩⟩, ⟨_, rfl, ⟨rfl, Nat.le_of_ble_eq_true rfl⟩⟩, ⟨_, rfl, ⟨rfl, trivial⟩⟩, trivial⟩ ⟨⟨Nat.le_of_ble_eq_true rfl, _, _, rfl, rfl, .inl ⟨rfl, (d_a8_u32 _).plain⟩⟩, ⟨Nat.le_of_ble_eq_true rfl, _, _, rfl, rfl, ⟨rfl, rfl, fun _ => ⟨rfl, trivial⟩⟩⟩, trivial⟩ rfl)
    · replace H := ite_f hc H
      refine aw_exit ?_
      refine ex_then ?_
      refine ex_then ?_
      refine ex_here ?_
      exact nx_ljoin (x1.2) H hsn2 (cov_prune ⟨rfl, trivial⟩ ⟨rfl, trivial⟩ (Nat.le_of_ble_eq_true rfl))

theorem congressref07_List_data (p0 : (Nat → Int)) (r : (_root_.List Int)) (H : congressref07_List p0 = some r) : FSpec Try.prog 28 [(e_a8_u32 p0)] (e_s_i64 r) :=
  FSpecO.toData (fz := [0]) (congressref07_List_spec p0 r H) (d_s_i64 r) (.frz 0 _ _ _ rfl (fun _ => trivial) (by decide))

theorem congressref09_Before_spec (p0 : api_Place) (p1 : api_Place) (r : Bool) (H : congressref09_Before p0 p1 = some r) : FSpec Try.prog 19 [(e_api_Place p0), (e_api_Place p1)] (.bool r) := by
  refine spec_of (fn := Try.f19) (args := [(e_api_Place p0), (e_api_Place p1)]) Try.func19 rfl (Nat.le_of_ble_eq_true rfl) ?_
  rintro ⟨G, w0, W, S, Sp⟩ hG
  cases hG
  unfold congressref09_Before at H
  refine aw_region (es := [_, _, _]) ⟨Step.plain rfl (does_box 28 (.tmp 0) 0 (e_api_Place p0) trivial rfl), ⟨⟨rfl, trivial⟩, trivial, rfl⟩, rfl,
    Step.plain rfl (does_box 28 (.tmp 1) 1 (e_api_Place p1) trivial rfl), ⟨⟨rfl, trivial⟩, trivial, rfl⟩, rfl,
    Step.plain rfl (does_assign (.const (.bool false)) (.bool false) (fun _ => rfl)), ⟨trivial, trivial, rfl⟩, rfl, rfl⟩ ?_
  refine aw_cov (cov_prune (s1 := ⟨[(2, (.ptr 0 0 [])), (3, (.ptr 1 0 []))], [(0, some (.var (e_api_Place p0))), (1, some (.var (e_api_Place p1)))], 2⟩) ⟨rfl, rfl, trivial⟩ ⟨rfl, rfl, trivial⟩ (Nat.le_refl _)) ?_
  refine aw_seq ?_
  refine aw_region (es := [_, _, _, _, _]) ⟨Step.plain rfl (does_fieldAddr 28 0 0 2 0 0 [] (.var (e_api_Place p0)) fl28_0), ⟨⟨rfl, trivial⟩, ⟨rfl, trivial⟩, rfl⟩, rfl,
    Step.plain rfl (does_load 23 5 0 (0 + 0) [0] (.var (e_api_Place p0)) (.int .u32 p0.Round) ⟨rfl, Nat.le_of_ble_eq_true rfl, trivial⟩ rfl rfl ty23), ⟨⟨rfl, trivial⟩, ⟨rfl, trivial⟩, rfl⟩, rfl,
    Step.plain rfl (does_fieldAddr 28 0 0 3 1 0 [] (.var (e_api_Place p1)) fl28_0), ⟨⟨rfl, trivial⟩, ⟨rfl, trivial⟩, rfl⟩, rfl,
    Step.plain rfl (does_load 23 7 1 (0 + 0) [0] (.var (e_api_Place p1)) (.int .u32 p1.Round) ⟨rfl, Nat.le_of_ble_eq_true rfl, trivial⟩ rfl rfl ty23), ⟨⟨rfl, trivial⟩, ⟨rfl, trivial⟩, rfl⟩, rfl,
    Step.plain rfl (does_bin .neq 23 23 (.tmp 6) (.tmp 8) .u32 p0.Round p1.Round (.bool (p0.Round != p1.Round)) trivial trivial (bin_neq _ _ _ _)), ⟨⟨rfl, rfl, trivial⟩, trivial, rfl⟩, rfl, rfl⟩ ?_
  refine aw_cov (cov_prune (s1 := ⟨[(2, (.ptr 0 0 [])), (3, (.ptr 1 0 [])), (9, (.bool (p0.Round != p1.Round)))], [(0, some (.var (e_api_Place p0))), (1, some (.var (e_api_Place p1)))], 2⟩) ⟨rfl, rfl, rfl, trivial⟩ ⟨rfl, rfl, trivial⟩ (Nat.le_refl _)) ?_
  refine aw_cond rfl (fun hc => ?_) (fun hc => ?_)
  · replace H := ite_t hc H
    refine aw_region (es := [_, _, _, _, _, _]) ⟨Step.plain rfl (does_fieldAddr 28 0 0 2 0 0 [] (.var (e_api_Place p0)) fl28_0), ⟨⟨rfl, trivial⟩, ⟨rfl, trivial⟩, rfl⟩, rfl,
      Step.plain rfl (does_load 23 10 0 (0 + 0) [0] (.var (e_api_Place p0)) (.int .u32 p0.Round) ⟨rfl, Nat.le_of_ble_eq_true rfl, trivial⟩ rfl rfl ty23), ⟨⟨rfl, trivial⟩, ⟨rfl, trivial⟩, rfl⟩, rfl,
      Step.plain rfl (does_fieldAddr 28 0 0 3 1 0 [] (.var (e_api_Place p1)) fl28_0), ⟨⟨rfl, trivial⟩, ⟨rfl, trivial⟩, rfl⟩, rfl,
      Step.plain rfl (does_load 23 12 1 (0 + 0) [0] (.var (e_api_Place p1)) (.int .u32 p1.Round) ⟨rfl, Nat.le_of_ble_eq_true rfl, trivial⟩ rfl rfl ty23), ⟨⟨rfl, trivial⟩, ⟨rfl, trivial⟩, rfl⟩, rfl,
      Step.plain rfl (does_bin .lss 23 23 (.tmp 11) (.tmp 13) .u32 p0.Round p1.Round (.bool (decide (p0.Round < p1.Round))) trivial trivial (bin_lss _ _ _ _)), ⟨⟨rfl, rfl, trivial⟩, trivial, rfl⟩, rfl,
      Step.plain rfl (does_assign (.tmp 14) (.bool (decide (p0.Round < p1.Round))) trivial), ⟨⟨rfl, trivial⟩, trivial, rfl⟩, rfl, rfl⟩ ?_
    refine aw_cov (cov_prune (s1 := ⟨[(4, (.bool (decide (p0.Round < p1.Round))))], [], 2⟩) ⟨rfl, trivial⟩ trivial (Nat.le_refl _)) ?_
    refine aw_ret ?_
    refine rt_then ?_
    exact fun a w hr => ⟨_, [(.bool (decide (p0.Round < p1.Round)))], hr, ⟨⟨_, rfl, .data (.bool (decide (p0.Round < p1.Round))) trivial⟩, trivial⟩, by decide, by cases H; rfl⟩
  · replace H := ite_f hc H
    refine aw_skip ?_
    refine nx_seq ?_
    refine aw_seq ?_
    refine aw_region (es := [_, _, _, _, _]) ⟨Step.plain rfl (does_fieldAddr 28 1 1 2 0 0 [] (.var (e_api_Place p0)) fl28_1), ⟨⟨rfl, trivial⟩, ⟨rfl, trivial⟩, rfl⟩, rfl,
      Step.plain rfl (does_load 3 15 0 (0 + 1) [1] (.var (e_api_Place p0)) (.int .i64 p0.From) ⟨rfl, Nat.le_of_ble_eq_true rfl, trivial⟩ rfl rfl ty3), ⟨⟨rfl, trivial⟩, ⟨rfl, trivial⟩, rfl⟩, rfl,
      Step.plain rfl (does_fieldAddr 28 1 1 3 1 0 [] (.var (e_api_Place p1)) fl28_1), ⟨⟨rfl, trivial⟩, ⟨rfl, trivial⟩, rfl⟩, rfl,
      Step.plain rfl (does_load 3 17 1 (0 + 1) [1] (.var (e_api_Place p1)) (.int .i64 p1.From) ⟨rfl, Nat.le_of_ble_eq_true rfl, trivial⟩ rfl rfl ty3), ⟨⟨rfl, trivial⟩, ⟨rfl, trivial⟩, rfl⟩, rfl,
      Step.plain rfl (does_bin .neq 3 3 (.tmp 16) (.tmp 18) .i64 p0.From p1.From (.bool (p0.From != p1.From)) trivial trivial (bin_neq _ _ _ _)), ⟨⟨rfl, rfl, trivial⟩, trivial, rfl⟩, rfl, rfl⟩ ?_
    refine aw_cov (cov_prune (s1 := ⟨[(2, (.ptr 0 0 [])), (3, (.ptr 1 0 [])), (19, (.bool (p0.From != p1.From)))], [(0, some (.var (e_api_Place p0))), (1, some (.var (e_api_Place p1)))], 2⟩) ⟨rfl, rfl, rfl, trivial⟩ ⟨rfl, rfl, trivial⟩ (Nat.le_refl _)) ?_
    refine aw_cond rfl (fun hc => ?_) (fun hc => ?_)
    · replace H := ite_t hc H
      refine aw_region (es := [_, _, _, _, _, _]) ⟨Step.plain rfl (does_fieldAddr 28 1 1 2 0 0 [] (.var (e_api_Place p0)) fl28_1), ⟨⟨rfl, trivial⟩, ⟨rfl, trivial⟩, rfl⟩, rfl,
        Step.plain rfl (does_load 3 20 0 (0 + 1) [1] (.var (e_api_Place p0)) (.int .i64 p0.From) ⟨rfl, Nat.le_of_ble_eq_true rfl, trivial⟩ rfl rfl ty3), ⟨⟨rfl, trivial⟩, ⟨rfl, trivial⟩, rfl⟩, rfl,
        Step.plain rfl (does_fieldAddr 28 1 1 3 1 0 [] (.var (e_api_Place p1)) fl28_1), ⟨⟨rfl, trivial⟩, ⟨rfl, trivial⟩, rfl⟩, rfl,
        Step.plain rfl (does_load 3 22 1 (0 + 1) [1] (.var (e_api_Place p1)) (.int .i64 p1.From) ⟨rfl, Nat.le_of_ble_eq_true rfl, trivial⟩ rfl rfl ty3), ⟨⟨rfl, trivial⟩, ⟨rfl, trivial⟩, rfl⟩, rfl,
        Step.plain rfl (does_bin .lss 3 3 (.tmp 21) (.tmp 23) .i64 p0.From p1.From (.bool (decide (p0.From < p1.From))) trivial trivial (bin_lss _ _ _ _)), ⟨⟨rfl, rfl, trivial⟩, trivial, rfl⟩, rfl,
        Step.plain rfl (does_assign (.tmp 24) (.bool (decide (p0.From < p1.From))) trivial), ⟨⟨rfl, trivial⟩, trivial, rfl⟩, rfl, rfl⟩ ?_
      refine aw_cov (cov_prune (s1 := ⟨[(4, (.bool (decide (p0.From < p1.From))))], [], 2⟩) ⟨rfl, trivial⟩ trivial (Nat.le_refl _)) ?_
      refine aw_ret ?_
      refine rt_then ?_
      exact fun a w hr => ⟨_, [(.bool (decide (p0.From < p1.From)))], hr, ⟨⟨_, rfl, .data (.bool (decide (p0.From < p1.From))) trivial⟩, trivial⟩, by decide, by cases H; rfl⟩
    · replace H := ite_f hc H
      refine aw_skip ?_
      refine nx_seq ?_
      refine aw_region (es := [_, _, _, _, _, _]) ⟨Step.plain rfl (does_fieldAddr 28 2 2 2 0 0 [] (.var (e_api_Place p0)) fl28_2), ⟨⟨rfl, trivial⟩, ⟨rfl, trivial⟩, rfl⟩, rfl,
        Step.plain rfl (does_load 3 25 0 (0 + 2) [2] (.var (e_api_Place p0)) (.int .i64 p0.Slot) ⟨rfl, Nat.le_of_ble_eq_true rfl, trivial⟩ rfl rfl ty3), ⟨⟨rfl, trivial⟩, ⟨rfl, trivial⟩, rfl⟩, rfl,
        Step.plain rfl (does_fieldAddr 28 2 2 3 1 0 [] (.var (e_api_Place p1)) fl28_2), ⟨⟨rfl, trivial⟩, ⟨rfl, trivial⟩, rfl⟩, rfl,
        Step.plain rfl (does_load 3 27 1 (0 + 2) [2] (.var (e_api_Place p1)) (.int .i64 p1.Slot) ⟨rfl, Nat.le_of_ble_eq_true rfl, trivial⟩ rfl rfl ty3), ⟨⟨rfl, trivial⟩, ⟨rfl, trivial⟩, rfl⟩, rfl,
        Step.plain rfl (does_bin .lss 3 3 (.tmp 26) (.tmp 28) .i64 p0.Slot p1.Slot (.bool (decide (p0.Slot < p1.Slot))) trivial trivial (bin_lss _ _ _ _)), ⟨⟨rfl, rfl, trivial⟩, trivial, rfl⟩, rfl,
        Step.plain rfl (does_assign (.tmp 29) (.bool (decide (p0.Slot < p1.Slot))) trivial), ⟨⟨rfl, trivial⟩, trivial, rfl⟩, rfl, rfl⟩ ?_
      refine aw_cov (cov_prune (s1 := ⟨[(4, (.bool (decide (p0.Slot < p1.Slot))))], [], 2⟩) ⟨rfl, trivial⟩ trivial (Nat.le_refl _)) ?_
      refine aw_ret ?_
      exact fun a w hr => ⟨_, [(.bool (decide (p0.Slot < p1.Slot)))], hr, ⟨⟨_, rfl, .data (.bool (decide (p0.Slot < p1.Slot))) trivial⟩, trivial⟩, by decide, by cases H; rfl⟩

theorem congressref11_Next_spec (p0 : api_Place) (p1 : Bool) (p2 : (Nat → Int)) (p3 : (Nat → Int)) (p4 : (Nat → Int)) (r : api_Place × Bool) (H : congressref11_Next p0 p1 p2 p3 p4 = some r) : FSpec Try.prog 22 [(e_api_Place p0), (.bool p1), (e_a8_u32 p2), (e_a8_u32 p3), (e_a8_u32 p4)] (resV [(e_api_Place r.1), (.bool r.2)]) := by
  refine spec_of (fn := Try.f22) (args := [(e_api_Place p0), (.bool p1), (e_a8_u32 p2), (e_a8_u32 p3), (e_a8_u32 p4)]) Try.func22 rfl (Nat.le_of_ble_eq_true rfl) ?_
  rintro ⟨G, w0, W, S, Sp⟩ hG
  cases hG
  unfold congressref11_Next at H
  refine aw_region (es := [_, _, _, _, _, _]) ⟨Step.plain rfl (does_box 28 (.tmp 0) 0 (e_api_Place p0) trivial rfl), ⟨⟨rfl, trivial⟩, trivial, rfl⟩, rfl,
    Step.plain rfl (does_box 25 (.tmp 2) 1 (e_a8_u32 p2) trivial rfl), ⟨⟨rfl, trivial⟩, trivial, rfl⟩, rfl,
    Step.plain rfl (does_box 25 (.tmp 3) 2 (e_a8_u32 p3) trivial rfl), ⟨⟨rfl, trivial⟩, trivial, rfl⟩, rfl,
    Step.plain rfl (does_box 26 (.tmp 4) 3 (e_a8_u32 p4) trivial rfl), ⟨⟨rfl, trivial⟩, trivial, rfl⟩, rfl,
    Step.plain rfl (does_alloc 28 4 (e_api_Place z_api_Place) zr28), ⟨trivial, trivial, rfl⟩, rfl,
    Step.plain rfl (does_assign (.const (.bool false)) (.bool false) (fun _ => rfl)), ⟨trivial, trivial, rfl⟩, rfl, rfl⟩ ?_
  refine aw_cov (cov_prune (s1 := ⟨[(1, (.bool p1)), (5, (.ptr 0 0 [])), (7, (.ptr 1 0 [])), (8, (.ptr 2 0 [])), (9, (.ptr 3 0 [])), (10, (.ptr 4 0 []))], [(0, some (.var (e_api_Place p0))), (1, some (.var (e_a8_u32 p2))), (2, some (.var (e_a8_u32 p3))), (3, some (.var (e_a8_u32 p4))), (4, some (.var (e_api_Place z_api_Place)))], 5⟩) ⟨rfl, rfl, rfl, rfl, rfl, rfl, trivial⟩ ⟨rfl, rfl, rfl, rfl, rfl, trivial⟩ (Nat.le_refl _)) ?_
  refine aw_region (es := [_, _, _]) ⟨Step.plain rfl (does_buildT 28 #[] [] [] (.st [1, 1, 1]) (c_api_Place z_api_Place) (c_api_Place ({ Round := 0, From := 0, Slot := 0 } : api_Place)) rfl bo28 trivial trivial (by funext j; match j with | 0 => rfl | 1 => rfl | 2 => rfl | _ + 3 => rfl)), ⟨trivial, trivial, rfl⟩, rfl,
    Step.plain rfl (does_alloc 28 5 (e_api_Place z_api_Place) zr28), ⟨trivial, trivial, rfl⟩, rfl,
    Step.plain rfl (does_store 28 12 (.tmp 19) 5 0 [] (.var (e_api_Place z_api_Place)) (.var (e_api_Place ({ Round := 0, From := 0, Slot := 0 } : api_Place))) (e_api_Place ({ Round := 0, From := 0, Slot := 0 } : api_Place)) true trivial rfl trivial rfl rfl rfl ty28), ⟨⟨rfl, rfl, trivial⟩, ⟨rfl, trivial⟩, rfl⟩, rfl, rfl⟩ ?_
  refine aw_cov (cov_prune (s1 := ⟨[(1, (.bool p1)), (5, (.ptr 0 0 [])), (7, (.ptr 1 0 [])), (8, (.ptr 2 0 [])), (9, (.ptr 3 0 [])), (10, (.ptr 4 0 [])), (12, (.ptr 5 0 []))], [(0, some (.var (e_api_Place p0))), (1, some (.var (e_a8_u32 p2))), (2, some (.var (e_a8_u32 p3))), (3, some (.var (e_a8_u32 p4))), (4, some (.var (e_api_Place z_api_Place))), (5, some (.var (e_api_Place ({ Round := 0, From := 0, Slot := 0 } : api_Place))))], 6⟩) ⟨rfl, rfl, rfl, rfl, rfl, rfl, rfl, trivial⟩ ⟨rfl, rfl, rfl, rfl, rfl, rfl, trivial⟩ (Nat.le_refl _)) ?_
  refine aw_region (es := [_]) ⟨Step.plain rfl (does_assign (.const (.bool false)) (.bool false) (fun _ => rfl)), ⟨trivial, trivial, rfl⟩, rfl, rfl⟩ ?_
  refine aw_cov (cov_prune (s1 := ⟨[(1, (.bool p1)), (5, (.ptr 0 0 [])), (7, (.ptr 1 0 [])), (8, (.ptr 2 0 [])), (9, (.ptr 3 0 [])), (10, (.ptr 4 0 [])), (12, (.ptr 5 0 [])), (13, (.bool false))], [(0, some (.var (e_api_Place p0))), (1, some (.var (e_a8_u32 p2))), (2, some (.var (e_a8_u32 p3))), (3, some (.var (e_a8_u32 p4))), (4, some (.var (e_api_Place z_api_Place))), (5, some (.var (e_api_Place ({ Round := 0, From := 0, Slot := 0 } : api_Place))))], 6⟩) ⟨rfl, rfl, rfl, rfl, rfl, rfl, rfl, rfl, trivial⟩ ⟨rfl, rfl, rfl, rfl, rfl, rfl, trivial⟩ (Nat.le_refl _)) ?_
  obtain ⟨v1, h2, H⟩ := bnd H
  refine aw_region (es := [_, _, _]) ⟨Step.plain rfl (does_load 26 9 3 0 [] (.var (e_a8_u32 p4)) (e_a8_u32 p4) trivial rfl rfl ty26), ⟨⟨rfl, trivial⟩, ⟨rfl, trivial⟩, rfl⟩, rfl,
    Step.plain rfl (does_callO 28 0 (fun _ => .any) (.func 28) [(.tmp 20)] [(e_a8_u32 p4)] [] [] true [(e_a8_u32 p4)] _ (.own 6) _ 6 1 _ _ rfl fo28 rfl ⟨trivial, trivial⟩ ⟨.ro _ _ (.data _ (d_a8_u32 p4)), trivial⟩ (congressref07_List_spec p4 _ h2) rfl (by simp) rfl trivial ⟨⟨Nat.le_of_ble_eq_true rfl, _, rfl, fun _ => trivial⟩, trivial⟩ (.own 0 (Nat.le_of_ble_eq_true rfl))), ⟨⟨rfl, trivial⟩, trivial, rfl⟩, rfl,
    Step.plain rfl (does_assign (.tmp 21) (.own 6) trivial), ⟨⟨rfl, trivial⟩, trivial, rfl⟩, rfl, rfl⟩ ?_
  refine aw_cov (cov_prune (s1 := ⟨[(1, (.bool p1)), (5, (.ptr 0 0 [])), (7, (.ptr 1 0 [])), (8, (.ptr 2 0 [])), (10, (.ptr 4 0 [])), (12, (.ptr 5 0 [])), (13, (.bool false)), (14, (.own 6))], [(0, some (.var (e_api_Place p0))), (1, some (.var (e_a8_u32 p2))), (2, some (.var (e_a8_u32 p3))), (4, some (.var (e_api_Place z_api_Place))), (5, some (.var (e_api_Place ({ Round := 0, From := 0, Slot := 0 } : api_Place)))), (6, some (.arr 1 v1.length fun j => (.int .i64 (v1.getD j 0))))], 7⟩) ⟨rfl, rfl, rfl, rfl, rfl, rfl, rfl, rfl, trivial⟩ ⟨rfl, rfl, rfl, rfl, rfl, rfl, trivial⟩ (Nat.le_refl _)) ?_
  refine aw_seq ?_
  refine aw_region (es := [_]) ⟨Step.plain rfl (does_assign (.const (.int .i64 0)) (.int .i64 0) (fun _ => rfl)), ⟨trivial, trivial, rfl⟩, rfl, rfl⟩ ?_
  refine aw_cov (cov_prune (s1 := ⟨[(1, (.bool p1)), (5, (.ptr 0 0 [])), (7, (.ptr 1 0 [])), (8, (.ptr 2 0 [])), (10, (.ptr 4 0 [])), (12, (.ptr 5 0 [])), (13, (.bool false)), (14, (.own 6)), (15, (.int .i64 0))], [(0, some (.var (e_api_Place p0))), (1, some (.var (e_a8_u32 p2))), (2, some (.var (e_a8_u32 p3))), (4, some (.var (e_api_Place z_api_Place))), (5, some (.var (e_api_Place ({ Round := 0, From := 0, Slot := 0 } : api_Place)))), (6, some (.arr 1 v1.length fun j => (.int .i64 (v1.getD j 0))))], 7⟩) ⟨rfl, rfl, rfl, rfl, rfl, rfl, rfl, rfl, rfl, trivial⟩ ⟨rfl, rfl, rfl, rfl, rfl, rfl, trivial⟩ (Nat.le_refl _)) ?_
  obtain ⟨wn4, hwn4, Hrn4⟩ := bnd H
  refine aw_meet (fun y25 : Bool × api_Place => (⟨[(10, (.ptr 4 0 [])), (12, (.ptr 5 0 [])), (13, (.bool y25.1))], [(4, some (.var (e_api_Place z_api_Place))), (5, some (.var (e_api_Place y25.2)))], 7⟩ : St)) (fun y25 => Fl.nx y25 = wn4) (fun y25 hy => ?_) (aw_block (aw_runs (fun x3 : Bool × Int × api_Place => (⟨[(1, (.bool p1)), (5, (.ptr 0 0 [])), (7, (.ptr 1 0 [])), (8, (.ptr 2 0 [])), (10, (.ptr 4 0 [])), (12, (.ptr 5 0 [])), (13, (.bool x3.1)), (14, (.own 6)), (15, (.int .i64 x3.2.1))], [(0, some (.var (e_api_Place p0))), (1, some (.var (e_a8_u32 p2))), (2, some (.var (e_a8_u32 p3))), (4, some (.var (e_api_Place z_api_Place))), (5, some (.var (e_api_Place x3.2.2))), (6, some (.arr 1 v1.length fun j => (.int .i64 (v1.getD j 0))))], 7⟩ : St)) hwn4 (cov_prune ⟨rfl, rfl, rfl, rfl, rfl, rfl, rfl, rfl, rfl, trivial⟩ ⟨rfl, rfl, rfl, rfl, rfl, rfl, trivial⟩ (Nat.le_of_ble_eq_true rfl)) (fun x3 st H hsn4 => ?_)))
  · have H := nx_of hy Hrn4
    refine nx_seq ?_
    refine aw_region (es := [_, _, _, _]) ⟨Step.plain rfl (does_load 28 12 5 0 [] (.var (e_api_Place y25.2)) (e_api_Place y25.2) trivial rfl rfl ty28), ⟨⟨rfl, trivial⟩, ⟨rfl, trivial⟩, rfl⟩, rfl,
      Step.plain rfl (does_move (.tmp 13) (.bool y25.1) trivial), ⟨⟨rfl, trivial⟩, trivial, rfl⟩, rfl,
      Step.plain rfl (does_store 28 10 (.tmp 91) 4 0 [] (.var (e_api_Place z_api_Place)) (.var (e_api_Place y25.2)) (e_api_Place y25.2) true trivial rfl trivial rfl rfl rfl ty28), ⟨⟨rfl, rfl, trivial⟩, ⟨rfl, trivial⟩, rfl⟩, rfl,
      Step.plain rfl (does_assign (.tmp 92) (.bool y25.1) trivial), ⟨⟨rfl, trivial⟩, trivial, rfl⟩, rfl, rfl⟩ ?_
    refine aw_cov (cov_prune (s1 := ⟨[(10, (.ptr 4 0 [])), (11, (.bool y25.1))], [(4, some (.var (e_api_Place y25.2)))], 7⟩) ⟨rfl, rfl, trivial⟩ ⟨rfl, trivial⟩ (Nat.le_refl _)) ?_
    refine aw_ret ?_
    exact fun a w hr => ⟨_, [(e_api_Place y25.2), (.bool y25.1)], hr, ⟨⟨4, _, rfl, rfl, .data _ (d_api_Place y25.2), ty28⟩, ⟨_, rfl, .data (.bool y25.1) trivial⟩, trivial⟩, by decide, by cases H; rfl⟩
  · refine aw_seq ?_
    refine aw_region (es := [_, _, _, _]) ⟨Step.plain rfl (does_move (.tmp 15) (.int .i64 x3.2.1) trivial), ⟨⟨rfl, trivial⟩, trivial, rfl⟩, rfl,
      Step.plain rfl (does_move (.tmp 14) (.own 6) trivial), ⟨⟨rfl, trivial⟩, trivial, rfl⟩, rfl,
      Step.plain rfl (does_leno 51 1 v1.length 23 6 (fun j => (.int .i64 (v1.getD j 0))) el51), ⟨⟨rfl, trivial⟩, ⟨rfl, trivial⟩, rfl⟩, rfl,
      Step.plain rfl (does_bin .lss 3 3 (.tmp 22) (.tmp 24) .i64 x3.2.1 (v1.length : Int) (.bool (decide (x3.2.1 < (v1.length : Int)))) trivial trivial (bin_lss _ _ _ _)), ⟨⟨rfl, rfl, trivial⟩, trivial, rfl⟩, rfl, rfl⟩ ?_
    refine aw_cov (cov_prune (s1 := ⟨[(1, (.bool p1)), (5, (.ptr 0 0 [])), (7, (.ptr 1 0 [])), (8, (.ptr 2 0 [])), (10, (.ptr 4 0 [])), (12, (.ptr 5 0 [])), (13, (.bool x3.1)), (14, (.own 6)), (15, (.int .i64 x3.2.1)), (25, (.bool (decide (x3.2.1 < (v1.length : Int)))))], [(0, some (.var (e_api_Place p0))), (1, some (.var (e_a8_u32 p2))), (2, some (.var (e_a8_u32 p3))), (4, some (.var (e_api_Place z_api_Place))), (5, some (.var (e_api_Place x3.2.2))), (6, some (.arr 1 v1.length fun j => (.int .i64 (v1.getD j 0))))], 7⟩) ⟨rfl, rfl, rfl, rfl, rfl, rfl, rfl, rfl, rfl, rfl, trivial⟩ ⟨rfl, rfl, rfl, rfl, rfl, rfl, trivial⟩ (Nat.le_refl _)) ?_
    refine aw_cond rfl (fun hc => ?_) (fun hc => ?_)
    · replace H := ite_t hc H
      refine aw_skip ?_
      refine nx_seq ?_
      refine aw_seq ?_
      refine aw_jn (fun x24 : Bool × api_Place => (⟨[(1, (.bool p1)), (5, (.ptr 0 0 [])), (7, (.ptr 1 0 [])), (8, (.ptr 2 0 [])), (10, (.ptr 4 0 [])), (12, (.ptr 5 0 [])), (13, (.bool x24.1)), (14, (.own 6)), (15, (.int .i64 x3.2.1))], [(0, some (.var (e_api_Place p0))), (1, some (.var (e_a8_u32 p2))), (2, some (.var (e_a8_u32 p3))), (4, some (.var (e_api_Place z_api_Place))), (5, some (.var (e_api_Place x24.2))), (6, some (.arr 1 v1.length fun j => (.int .i64 (v1.getD j 0))))], 8⟩ : St)) H (fun x24 H => ?_) (fun j5 H => ?_)
      · refine nx_seq ?_
        refine aw_region1 (es := [_, _, _]) ⟨Step.plain rfl (does_move (.tmp 15) (.int .i64 x3.2.1) trivial), ⟨⟨rfl, trivial⟩, trivial, rfl⟩, rfl,
          Step.plain rfl (does_bin .add 3 3 (.tmp 26) (.const (.int .i64 1)) .i64 x3.2.1 1 (.int .i64 (IntKind.i64.wrap (x3.2.1 + 1))) trivial (fun _ => rfl) (bin_add _ _ _ _)), ⟨⟨rfl, trivial⟩, trivial, rfl⟩, rfl,
          Step.plain rfl (does_assign (.tmp 27) (.int .i64 (IntKind.i64.wrap (x3.2.1 + 1))) trivial), ⟨⟨rfl, trivial⟩, trivial, rfl⟩, rfl, rfl⟩ ?_
        exact nx_loop (x24.1, (IntKind.i64.wrap (x3.2.1 + 1)), x24.2) H (cov_of (fun i => match i with | 0 => 0 | 1 => 1 | 2 => 2 | 4 => 4 | 5 => 5 | 6 => 6 | k => k) ⟨⟨_, rfl, ⟨rfl, trivial⟩⟩, ⟨_, rfl, ⟨rfl, Nat.le_of_ble_eq_true rfl⟩⟩, ⟨_, rfl, ⟨rfl, Nat.le_of_ble_eq_true rfl⟩⟩, ⟨_, rfl, ⟨rfl, Nat.le_of_ble_eq_true rfl⟩⟩, ⟨_, rfl, ⟨rfl, Nat.le_of_ble_eq_true rfl⟩⟩, ⟨_, rfl, ⟨rfl, Nat.le_of_ble_eq_true rfl⟩⟩, ⟨_, rfl, ⟨rfl, trivial⟩⟩, ⟨_, rfl, ⟨rfl, Nat.le_of_ble_eq_true rfl⟩⟩, ⟨_, rfl, ⟨rfl, trivial⟩⟩, trivial⟩ ⟨⟨Nat.le_of_ble_eq_true rfl, _, _, rfl, rfl, .inl ⟨rfl, (d_api_Place _).plain⟩⟩, ⟨Nat.le_of_ble_eq_true rfl, _, _, rfl, rfl, .inl ⟨rfl, (d_a8_u32 _).plain⟩⟩, ⟨Nat.le_of_ble_eq_true rfl, _, _, rfl, rfl, .inl ⟨rfl, (d_a8_u32 _).plain⟩⟩, ⟨Nat.le_of_ble_eq_true rfl, _, _, rfl, rfl, .inl ⟨rfl, (d_api_Place _).plain⟩⟩, ⟨Nat.le_of_ble_eq_true rfl, _, _, rfl, rfl, .inl ⟨rfl, (d_api_Place _).plain⟩⟩, ⟨Nat.le_of_ble_eq_true rfl, _, _, rfl, rfl, ⟨rfl, rfl, fun _ => ⟨rfl, trivial⟩⟩⟩, trivial⟩ rfl)
      · refine aw_block ?_
        obtain ⟨h6, H⟩ := ib_of H
        refine aw_region (es := [_, _, _, _, _]) ⟨Step.plain rfl (does_move (.tmp 14) (.own 6) trivial), ⟨⟨rfl, trivial⟩, trivial, rfl⟩, rfl,
          Step.plain rfl (does_move (.tmp 15) (.int .i64 x3.2.1) trivial), ⟨⟨rfl, trivial⟩, trivial, rfl⟩, rfl,
          Step.plain rfl (does_indexAddro 51 1 v1.length 28 6 (fun j => (.int .i64 (v1.getD j 0))) (.tmp 29) .i64 x3.2.1 el51 trivial h6.1 h6.2), ⟨⟨rfl, rfl, trivial⟩, ⟨rfl, trivial⟩, rfl⟩, rfl,
          Step.plain rfl (does_load 3 30 6 (x3.2.1.toNat * 1) [x3.2.1.toNat] (.arr 1 v1.length fun j => (.int .i64 (v1.getD j 0))) (.int .i64 (v1.getD x3.2.1.toNat 0)) ⟨(ixl h6), trivial⟩ rfl rfl ty3), ⟨⟨rfl, trivial⟩, ⟨rfl, trivial⟩, rfl⟩, rfl,
          Step.plain rfl (does_assign (.tmp 31) (.int .i64 (v1.getD x3.2.1.toNat 0)) trivial), ⟨⟨rfl, trivial⟩, trivial, rfl⟩, rfl, rfl⟩ ?_
        refine aw_cov (cov_prune (s1 := ⟨[(1, (.bool p1)), (5, (.ptr 0 0 [])), (7, (.ptr 1 0 [])), (8, (.ptr 2 0 [])), (10, (.ptr 4 0 [])), (12, (.ptr 5 0 [])), (13, (.bool x3.1)), (14, (.own 6)), (15, (.int .i64 x3.2.1)), (16, (.int .i64 (v1.getD x3.2.1.toNat 0)))], [(0, some (.var (e_api_Place p0))), (1, some (.var (e_a8_u32 p2))), (2, some (.var (e_a8_u32 p3))), (4, some (.var (e_api_Place z_api_Place))), (5, some (.var (e_api_Place x3.2.2))), (6, some (.arr 1 v1.length fun j => (.int .i64 (v1.getD j 0))))], 7⟩) ⟨rfl, rfl, rfl, rfl, rfl, rfl, rfl, rfl, rfl, rfl, trivial⟩ ⟨rfl, rfl, rfl, rfl, rfl, rfl, trivial⟩ (Nat.le_refl _)) ?_
        refine aw_region (es := [_, _, _, _]) ⟨Step.plain rfl (does_fieldAddr 28 0 0 5 0 0 [] (.var (e_api_Place p0)) fl28_0), ⟨⟨rfl, trivial⟩, ⟨rfl, trivial⟩, rfl⟩, rfl,
          Step.plain rfl (does_load 23 32 0 (0 + 0) [0] (.var (e_api_Place p0)) (.int .u32 p0.Round) ⟨rfl, Nat.le_of_ble_eq_true rfl, trivial⟩ rfl rfl ty23), ⟨⟨rfl, trivial⟩, ⟨rfl, trivial⟩, rfl⟩, rfl,
          Step.plain rfl (does_convInt 23 47 (.tmp 33) .u32 .u64 p0.Round trivial rfl rfl), ⟨⟨rfl, trivial⟩, trivial, rfl⟩, rfl,
          Step.plain rfl (does_assign (.tmp 34) (.int .u64 (IntKind.u64.wrap (p0.Round))) trivial), ⟨⟨rfl, trivial⟩, trivial, rfl⟩, rfl, rfl⟩ ?_
        refine aw_cov (cov_prune (s1 := ⟨[(1, (.bool p1)), (5, (.ptr 0 0 [])), (7, (.ptr 1 0 [])), (8, (.ptr 2 0 [])), (10, (.ptr 4 0 [])), (12, (.ptr 5 0 [])), (13, (.bool x3.1)), (14, (.own 6)), (15, (.int .i64 x3.2.1)), (16, (.int .i64 (v1.getD x3.2.1.toNat 0))), (17, (.int .u64 (IntKind.u64.wrap (p0.Round))))], [(0, some (.var (e_api_Place p0))), (1, some (.var (e_a8_u32 p2))), (2, some (.var (e_a8_u32 p3))), (4, some (.var (e_api_Place z_api_Place))), (5, some (.var (e_api_Place x3.2.2))), (6, some (.arr 1 v1.length fun j => (.int .i64 (v1.getD j 0))))], 7⟩) ⟨rfl, rfl, rfl, rfl, rfl, rfl, rfl, rfl, rfl, rfl, rfl, trivial⟩ ⟨rfl, rfl, rfl, rfl, rfl, rfl, trivial⟩ (Nat.le_refl _)) ?_
        refine aw_seq ?_
        obtain ⟨h7, H⟩ := ib_of H
        refine aw_region (es := [_, _, _, _, _, _]) ⟨Step.plain rfl (does_move (.tmp 17) (.int .u64 (IntKind.u64.wrap (p0.Round))) trivial), ⟨⟨rfl, trivial⟩, trivial, rfl⟩, rfl,
          Step.plain rfl (does_move (.tmp 16) (.int .i64 (v1.getD x3.2.1.toNat 0)) trivial), ⟨⟨rfl, trivial⟩, trivial, rfl⟩, rfl,
          Step.plain rfl (does_indexAddr 25 8 1 7 1 0 [] (.var (e_a8_u32 p2)) (.tmp 36) .i64 (v1.getD x3.2.1.toNat 0) el25 trivial h7.1 h7.2), ⟨⟨rfl, rfl, trivial⟩, ⟨rfl, trivial⟩, rfl⟩, rfl,
          Step.plain rfl (does_load 23 37 1 (0 + (v1.getD x3.2.1.toNat 0).toNat * 1) [(v1.getD x3.2.1.toNat 0).toNat] (.var (e_a8_u32 p2)) (.int .u32 (p2 ((v1.getD x3.2.1.toNat 0).toNat))) ⟨rfl, (ixl h7), trivial⟩ rfl rfl ty23), ⟨⟨rfl, trivial⟩, ⟨rfl, trivial⟩, rfl⟩, rfl,
          Step.plain rfl (does_convInt 23 47 (.tmp 38) .u32 .u64 (p2 ((v1.getD x3.2.1.toNat 0).toNat)) trivial rfl rfl), ⟨⟨rfl, trivial⟩, trivial, rfl⟩, rfl,
          Step.plain rfl (does_bin .leq 47 47 (.tmp 35) (.tmp 39) .u64 (IntKind.u64.wrap (p0.Round)) (IntKind.u64.wrap (p2 ((v1.getD x3.2.1.toNat 0).toNat))) (.bool (decide ((IntKind.u64.wrap (p0.Round)) ≤ (IntKind.u64.wrap (p2 ((v1.getD x3.2.1.toNat 0).toNat)))))) trivial trivial (bin_leq _ _ _ _)), ⟨⟨rfl, rfl, trivial⟩, trivial, rfl⟩, rfl, rfl⟩ ?_
        obtain ⟨v8, hv8, H⟩ := lt_of H
        refine aw_cov (cov_prune (s1 := ⟨[(1, (.bool p1)), (5, (.ptr 0 0 [])), (7, (.ptr 1 0 [])), (8, (.ptr 2 0 [])), (10, (.ptr 4 0 [])), (12, (.ptr 5 0 [])), (13, (.bool x3.1)), (14, (.own 6)), (15, (.int .i64 x3.2.1)), (16, (.int .i64 (v1.getD x3.2.1.toNat 0))), (17, (.int .u64 (IntKind.u64.wrap (p0.Round)))), (40, (.bool v8))], [(0, some (.var (e_api_Place p0))), (1, some (.var (e_a8_u32 p2))), (2, some (.var (e_a8_u32 p3))), (4, some (.var (e_api_Place z_api_Place))), (5, some (.var (e_api_Place x3.2.2))), (6, some (.arr 1 v1.length fun j => (.int .i64 (v1.getD j 0))))], 7⟩) ⟨rfl, rfl, rfl, rfl, rfl, rfl, rfl, rfl, rfl, rfl, rfl, (by subst hv8; rfl), trivial⟩ ⟨rfl, rfl, rfl, rfl, rfl, rfl, trivial⟩ (Nat.le_refl _)) ?_
        refine aw_jn (fun x11 : Int => (⟨[(1, (.bool p1)), (5, (.ptr 0 0 [])), (7, (.ptr 1 0 [])), (8, (.ptr 2 0 [])), (10, (.ptr 4 0 [])), (12, (.ptr 5 0 [])), (13, (.bool x3.1)), (14, (.own 6)), (15, (.int .i64 x3.2.1)), (16, (.int .i64 (v1.getD x3.2.1.toNat 0))), (17, (.int .u64 x11))], [(0, some (.var (e_api_Place p0))), (1, some (.var (e_a8_u32 p2))), (2, some (.var (e_a8_u32 p3))), (4, some (.var (e_api_Place z_api_Place))), (5, some (.var (e_api_Place x3.2.2))), (6, some (.arr 1 v1.length fun j => (.int .i64 (v1.getD j 0))))], 7⟩ : St)) H (fun x11 H => ?_) (fun j9 H => ?_)
        · refine nx_seq ?_
          refine aw_region (es := [_, _, _, _, _, _]) ⟨Step.plain rfl (does_move (.tmp 17) (.int .u64 x11) trivial), ⟨⟨rfl, trivial⟩, trivial, rfl⟩, rfl,
            Step.plain rfl (does_convInt 47 23 (.tmp 46) .u64 .u32 x11 trivial rfl rfl), ⟨⟨rfl, trivial⟩, trivial, rfl⟩, rfl,
            Step.plain rfl (does_move (.tmp 16) (.int .i64 (v1.getD x3.2.1.toNat 0)) trivial), ⟨⟨rfl, trivial⟩, trivial, rfl⟩, rfl,
            Step.plain rfl (does_buildT 28 #[(0, (.tmp 47)), (1, (.tmp 48))] [(0, (.tmp 47)), (1, (.tmp 48))] [(0, (.int .u32 (IntKind.u32.wrap (x11)))), (1, (.int .i64 (v1.getD x3.2.1.toNat 0)))] (.st [1, 1, 1]) (c_api_Place z_api_Place) (c_api_Place ({ Round := (IntKind.u32.wrap (x11)), From := v1.getD x3.2.1.toNat 0, Slot := 0 } : api_Place)) rfl bo28 ⟨⟨rfl, trivial⟩, ⟨rfl, trivial⟩, trivial⟩ ⟨⟨Nat.le_of_ble_eq_true rfl, rfl, rfl⟩, ⟨Nat.le_of_ble_eq_true rfl, rfl, rfl⟩, trivial⟩ (by funext j; match j with | 0 => rfl | 1 => rfl | 2 => rfl | _ + 3 => rfl)), ⟨⟨rfl, rfl, trivial⟩, trivial, rfl⟩, rfl,
            Step.plain rfl (does_alloc 28 7 (e_api_Place z_api_Place) zr28), ⟨trivial, trivial, rfl⟩, rfl,
            Step.plain rfl (does_store 28 18 (.tmp 49) 7 0 [] (.var (e_api_Place z_api_Place)) (.var (e_api_Place ({ Round := (IntKind.u32.wrap (x11)), From := v1.getD x3.2.1.toNat 0, Slot := 0 } : api_Place))) (e_api_Place ({ Round := (IntKind.u32.wrap (x11)), From := v1.getD x3.2.1.toNat 0, Slot := 0 } : api_Place)) true trivial rfl trivial rfl rfl rfl ty28), ⟨⟨rfl, rfl, trivial⟩, ⟨rfl, trivial⟩, rfl⟩, rfl, rfl⟩ ?_
          obtain ⟨v12, hv12, H⟩ := lt_of H
          refine aw_cov (cov_prune (s1 := ⟨[(1, (.bool p1)), (5, (.ptr 0 0 [])), (7, (.ptr 1 0 [])), (8, (.ptr 2 0 [])), (10, (.ptr 4 0 [])), (12, (.ptr 5 0 [])), (13, (.bool x3.1)), (14, (.own 6)), (15, (.int .i64 x3.2.1)), (16, (.int .i64 (v1.getD x3.2.1.toNat 0))), (17, (.int .u64 x11)), (18, (.ptr 7 0 []))], [(0, some (.var (e_api_Place p0))), (1, some (.var (e_a8_u32 p2))), (2, some (.var (e_a8_u32 p3))), (4, some (.var (e_api_Place z_api_Place))), (5, some (.var (e_api_Place x3.2.2))), (6, some (.arr 1 v1.length fun j => (.int .i64 (v1.getD j 0)))), (7, some (.var (e_api_Place v12)))], 8⟩) ⟨rfl, rfl, rfl, rfl, rfl, rfl, rfl, rfl, rfl, rfl, rfl, rfl, trivial⟩ ⟨rfl, rfl, rfl, rfl, rfl, rfl, (by subst hv12; rfl), trivial⟩ (Nat.le_refl _)) ?_
          refine aw_seq ?_
          obtain ⟨wn14, hwn14, Hrn14⟩ := bnd H
          refine aw_meet (fun y19 : Int × api_Place => (⟨[(1, (.bool p1)), (5, (.ptr 0 0 [])), (7, (.ptr 1 0 [])), (8, (.ptr 2 0 [])), (10, (.ptr 4 0 [])), (12, (.ptr 5 0 [])), (13, (.bool x3.1)), (14, (.own 6)), (15, (.int .i64 x3.2.1)), (16, (.int .i64 (v1.getD x3.2.1.toNat 0))), (17, (.int .u64 y19.1)), (18, (.ptr 7 0 []))], [(0, some (.var (e_api_Place p0))), (1, some (.var (e_a8_u32 p2))), (2, some (.var (e_a8_u32 p3))), (4, some (.var (e_api_Place z_api_Place))), (5, some (.var (e_api_Place x3.2.2))), (6, some (.arr 1 v1.length fun j => (.int .i64 (v1.getD j 0)))), (7, some (.var (e_api_Place y19.2)))], 8⟩ : St)) (fun y19 => Fl.nx y19 = wn14) (fun y19 hy => ?_) (aw_block (aw_runs (fun x13 : Int × api_Place => (⟨[(1, (.bool p1)), (5, (.ptr 0 0 [])), (7, (.ptr 1 0 [])), (8, (.ptr 2 0 [])), (10, (.ptr 4 0 [])), (12, (.ptr 5 0 [])), (13, (.bool x3.1)), (14, (.own 6)), (15, (.int .i64 x3.2.1)), (16, (.int .i64 (v1.getD x3.2.1.toNat 0))), (17, (.int .u64 x13.1)), (18, (.ptr 7 0 []))], [(0, some (.var (e_api_Place p0))), (1, some (.var (e_a8_u32 p2))), (2, some (.var (e_a8_u32 p3))), (4, some (.var (e_api_Place z_api_Place))), (5, some (.var (e_api_Place x3.2.2))), (6, some (.arr 1 v1.length fun j => (.int .i64 (v1.getD j 0)))), (7, some (.var (e_api_Place x13.2)))], 8⟩ : St)) hwn14 (cov_prune ⟨rfl, rfl, rfl, rfl, rfl, rfl, rfl, rfl, rfl, rfl, rfl, rfl, trivial⟩ ⟨rfl, rfl, rfl, rfl, rfl, rfl, rfl, trivial⟩ (Nat.le_of_ble_eq_true rfl)) (fun x13 st H hsn14 => ?_)))
          · have H := nx_of hy Hrn14
            refine nx_seq ?_
            obtain ⟨h20, H⟩ := ib_of H
            obtain ⟨v21, h22, H⟩ := whn_of H
            refine aw_region (es := [_, _, _, _, _, _, _, _, _, _, _, _, _, _, _]) ⟨Step.plain rfl (does_move (.tmp 17) (.int .u64 y19.1) trivial), ⟨⟨rfl, trivial⟩, trivial, rfl⟩, rfl,
              Step.plain rfl (does_move (.tmp 16) (.int .i64 (v1.getD x3.2.1.toNat 0)) trivial), ⟨⟨rfl, trivial⟩, trivial, rfl⟩, rfl,
              Step.plain rfl (does_indexAddr 25 8 1 8 2 0 [] (.var (e_a8_u32 p3)) (.tmp 76) .i64 (v1.getD x3.2.1.toNat 0) el25 trivial h20.1 h20.2), ⟨⟨rfl, rfl, trivial⟩, ⟨rfl, trivial⟩, rfl⟩, rfl,
              Step.plain rfl (does_load 23 77 2 (0 + (v1.getD x3.2.1.toNat 0).toNat * 1) [(v1.getD x3.2.1.toNat 0).toNat] (.var (e_a8_u32 p3)) (.int .u32 (p3 ((v1.getD x3.2.1.toNat 0).toNat))) ⟨rfl, (ixl h20), trivial⟩ rfl rfl ty23), ⟨⟨rfl, trivial⟩, ⟨rfl, trivial⟩, rfl⟩, rfl,
              Step.plain rfl (does_convInt 23 47 (.tmp 78) .u32 .u64 (p3 ((v1.getD x3.2.1.toNat 0).toNat)) trivial rfl rfl), ⟨⟨rfl, trivial⟩, trivial, rfl⟩, rfl,
              Step.plain rfl (does_bin .leq 47 47 (.tmp 75) (.tmp 79) .u64 y19.1 (IntKind.u64.wrap (p3 ((v1.getD x3.2.1.toNat 0).toNat))) (.bool (decide (y19.1 ≤ (IntKind.u64.wrap (p3 ((v1.getD x3.2.1.toNat 0).toNat)))))) trivial trivial (bin_leq _ _ _ _)), ⟨⟨rfl, rfl, trivial⟩, trivial, rfl⟩, rfl,
              Step.plain rfl (does_move (.tmp 80) (.bool (decide (y19.1 ≤ (IntKind.u64.wrap (p3 ((v1.getD x3.2.1.toNat 0).toNat)))))) trivial), ⟨⟨rfl, trivial⟩, trivial, rfl⟩, rfl,
              Step.guarded rfl rfl rfl rfl (fun hc => does_move (.tmp 13) (.bool x3.1) trivial), ⟨⟨rfl, rfl, trivial⟩, trivial, rfl⟩, rfl,
              Step.guarded rfl rfl rfl rfl (fun hc => Does.strip (n' := [(82, (.opt (decide (y19.1 ≤ (IntKind.u64.wrap (p3 ((v1.getD x3.2.1.toNat 0).toNat))))) (.bool x3.1)))]) (n := [(82, (.bool x3.1))]) ⟨(.opt _ _ hc), trivial⟩ (does_not 4 (.tmp 82) x3.1 trivial)), ⟨⟨rfl, rfl, trivial⟩, trivial, rfl⟩, rfl,
              Step.guarded rfl rfl rfl rfl (fun hc => Does.strip (n' := [(83, (.opt (decide (y19.1 ≤ (IntKind.u64.wrap (p3 ((v1.getD x3.2.1.toNat 0).toNat))))) (.bool (!x3.1))))]) (n := [(83, (.bool (!x3.1)))]) ⟨(.opt _ _ hc), trivial⟩ (does_move (.tmp 83) (.bool (!x3.1)) trivial)), ⟨⟨rfl, rfl, trivial⟩, trivial, rfl⟩, rfl,
              Step.guarded rfl rfl rfl rfl (fun hc => does_load 28 18 7 0 [] (.var (e_api_Place y19.2)) (e_api_Place y19.2) trivial rfl rfl ty28), ⟨⟨rfl, rfl, trivial⟩, ⟨rfl, trivial⟩, rfl⟩, rfl,
              Step.guarded rfl rfl rfl rfl (fun hc => does_load 28 12 5 0 [] (.var (e_api_Place x3.2.2)) (e_api_Place x3.2.2) trivial rfl rfl ty28), ⟨⟨rfl, rfl, trivial⟩, ⟨rfl, trivial⟩, rfl⟩, rfl,
              Step.guarded rfl rfl rfl rfl (fun hc => Does.strip (n' := [(85, (.opt ((decide (y19.1 ≤ (IntKind.u64.wrap (p3 ((v1.getD x3.2.1.toNat 0).toNat))))) && (!(!x3.1))) (e_api_Place y19.2))), (86, (.opt ((decide (y19.1 ≤ (IntKind.u64.wrap (p3 ((v1.getD x3.2.1.toNat 0).toNat))))) && (!(!x3.1))) (e_api_Place x3.2.2)))]) (n := [(85, (e_api_Place y19.2)), (86, (e_api_Place x3.2.2))]) ⟨(.opt _ _ hc), (.opt _ _ hc), trivial⟩ (does_call 19 0 (fun _ => .any) (.func 19) [(.tmp 85), (.tmp 86)] [(e_api_Place y19.2), (e_api_Place x3.2.2)] [] true [(e_api_Place y19.2), (e_api_Place x3.2.2)] (.bool v21) _ _ rfl fo19 rfl ⟨trivial, trivial, trivial⟩ ⟨.data _ (d_api_Place y19.2), .data _ (d_api_Place x3.2.2), trivial⟩ (congressref09_Before_spec y19.2 x3.2.2 _ (h22 hc)) trivial)), ⟨⟨rfl, rfl, rfl, trivial⟩, trivial, rfl⟩, rfl,
              Step.guarded rfl rfl rfl rfl (fun hc => Does.strip (n' := [(84, (.opt (decide (y19.1 ≤ (IntKind.u64.wrap (p3 ((v1.getD x3.2.1.toNat 0).toNat))))) (.bool (!x3.1)))), (87, (.opt ((decide (y19.1 ≤ (IntKind.u64.wrap (p3 ((v1.getD x3.2.1.toNat 0).toNat))))) && (!(!x3.1))) (.bool v21)))]) (n := [(84, (.bool (!x3.1))), (87, (.opt (!(!x3.1)) (.bool v21)))]) ⟨(.opt _ _ hc), (.half _ _ hc), trivial⟩ (does_or 84 87 (!x3.1) v21)), ⟨⟨rfl, rfl, rfl, trivial⟩, trivial, rfl⟩, rfl,
              Step.plain rfl (does_and 81 88 (decide (y19.1 ≤ (IntKind.u64.wrap (p3 ((v1.getD x3.2.1.toNat 0).toNat))))) ((!x3.1) || v21)), ⟨⟨rfl, rfl, trivial⟩, trivial, rfl⟩, rfl, rfl⟩ ?_
            obtain ⟨v23, hv23, H⟩ := lt_of H
            refine aw_cov (cov_prune (s1 := ⟨[(1, (.bool p1)), (5, (.ptr 0 0 [])), (7, (.ptr 1 0 [])), (8, (.ptr 2 0 [])), (10, (.ptr 4 0 [])), (12, (.ptr 5 0 [])), (13, (.bool x3.1)), (14, (.own 6)), (15, (.int .i64 x3.2.1)), (18, (.ptr 7 0 [])), (89, (.bool v23))], [(0, some (.var (e_api_Place p0))), (1, some (.var (e_a8_u32 p2))), (2, some (.var (e_a8_u32 p3))), (4, some (.var (e_api_Place z_api_Place))), (5, some (.var (e_api_Place x3.2.2))), (6, some (.arr 1 v1.length fun j => (.int .i64 (v1.getD j 0)))), (7, some (.var (e_api_Place y19.2)))], 8⟩) ⟨rfl, rfl, rfl, rfl, rfl, rfl, rfl, rfl, rfl, rfl, (by subst hv23; rfl), trivial⟩ ⟨rfl, rfl, rfl, rfl, rfl, rfl, rfl, trivial⟩ (Nat.le_refl _)) ?_
            refine aw_cond rfl (fun hc => ?_) (fun hc => ?_)
            · replace H := ite_t hc H
              refine aw_region (es := [_, _]) ⟨Step.plain rfl (does_load 28 18 7 0 [] (.var (e_api_Place y19.2)) (e_api_Place y19.2) trivial rfl rfl ty28), ⟨⟨rfl, trivial⟩, ⟨rfl, trivial⟩, rfl⟩, rfl,
                Step.plain rfl (does_store 28 12 (.tmp 90) 5 0 [] (.var (e_api_Place x3.2.2)) (.var (e_api_Place y19.2)) (e_api_Place y19.2) true trivial rfl trivial rfl rfl rfl ty28), ⟨⟨rfl, rfl, trivial⟩, ⟨rfl, trivial⟩, rfl⟩, rfl, rfl⟩ ?_
              refine aw_cov (cov_prune (s1 := ⟨[(1, (.bool p1)), (5, (.ptr 0 0 [])), (7, (.ptr 1 0 [])), (8, (.ptr 2 0 [])), (10, (.ptr 4 0 [])), (12, (.ptr 5 0 [])), (14, (.own 6)), (15, (.int .i64 x3.2.1))], [(0, some (.var (e_api_Place p0))), (1, some (.var (e_a8_u32 p2))), (2, some (.var (e_a8_u32 p3))), (4, some (.var (e_api_Place z_api_Place))), (5, some (.var (e_api_Place y19.2))), (6, some (.arr 1 v1.length fun j => (.int .i64 (v1.getD j 0))))], 8⟩) ⟨rfl, rfl, rfl, rfl, rfl, rfl, rfl, rfl, trivial⟩ ⟨rfl, rfl, rfl, rfl, rfl, rfl, trivial⟩ (Nat.le_refl _)) ?_
              refine aw_region1 (es := [_]) ⟨Step.plain rfl (does_assign (.const (.bool true)) (.bool true) (fun _ => rfl)), ⟨trivial, trivial, rfl⟩, rfl, rfl⟩ ?_
              refine nx_blk ?_
              exact nx_join (true, y19.2) H (cov_prune ⟨rfl, rfl, rfl, rfl, rfl, rfl, rfl, rfl, rfl, trivial⟩ ⟨rfl, rfl, rfl, rfl, rfl, rfl, trivial⟩ (Nat.le_of_ble_eq_true rfl))
            · replace H := ite_f hc H
              refine aw_skip ?_
              refine nx_blk ?_
              exact nx_join (x3.1, x3.2.2) H (cov_prune ⟨rfl, rfl, rfl, rfl, rfl, rfl, rfl, rfl, rfl, trivial⟩ ⟨rfl, rfl, rfl, rfl, rfl, rfl, trivial⟩ (Nat.le_of_ble_eq_true rfl))
          · refine aw_seq ?_
            obtain ⟨h15, H⟩ := ib_of H
            obtain ⟨v16, h17, H⟩ := whn_of H
            refine aw_region (es := [_, _, _, _, _, _, _, _, _, _, _, _, _, _, _, _, _, _, _, _]) ⟨Step.plain rfl (does_move (.tmp 17) (.int .u64 x13.1) trivial), ⟨⟨rfl, trivial⟩, trivial, rfl⟩, rfl,
              Step.plain rfl (does_move (.tmp 16) (.int .i64 (v1.getD x3.2.1.toNat 0)) trivial), ⟨⟨rfl, trivial⟩, trivial, rfl⟩, rfl,
              Step.plain rfl (does_indexAddr 25 8 1 8 2 0 [] (.var (e_a8_u32 p3)) (.tmp 51) .i64 (v1.getD x3.2.1.toNat 0) el25 trivial h15.1 h15.2), ⟨⟨rfl, rfl, trivial⟩, ⟨rfl, trivial⟩, rfl⟩, rfl,
              Step.plain rfl (does_load 23 52 2 (0 + (v1.getD x3.2.1.toNat 0).toNat * 1) [(v1.getD x3.2.1.toNat 0).toNat] (.var (e_a8_u32 p3)) (.int .u32 (p3 ((v1.getD x3.2.1.toNat 0).toNat))) ⟨rfl, (ixl h15), trivial⟩ rfl rfl ty23), ⟨⟨rfl, trivial⟩, ⟨rfl, trivial⟩, rfl⟩, rfl,
              Step.plain rfl (does_convInt 23 47 (.tmp 53) .u32 .u64 (p3 ((v1.getD x3.2.1.toNat 0).toNat)) trivial rfl rfl), ⟨⟨rfl, trivial⟩, trivial, rfl⟩, rfl,
              Step.plain rfl (does_bin .leq 47 47 (.tmp 50) (.tmp 54) .u64 x13.1 (IntKind.u64.wrap (p3 ((v1.getD x3.2.1.toNat 0).toNat))) (.bool (decide (x13.1 ≤ (IntKind.u64.wrap (p3 ((v1.getD x3.2.1.toNat 0).toNat)))))) trivial trivial (bin_leq _ _ _ _)), ⟨⟨rfl, rfl, trivial⟩, trivial, rfl⟩, rfl,
              Step.plain rfl (does_move (.tmp 55) (.bool (decide (x13.1 ≤ (IntKind.u64.wrap (p3 ((v1.getD x3.2.1.toNat 0).toNat)))))) trivial), ⟨⟨rfl, trivial⟩, trivial, rfl⟩, rfl,
              Step.guarded rfl rfl rfl rfl (fun hc => does_load 28 18 7 0 [] (.var (e_api_Place x13.2)) (e_api_Place x13.2) trivial rfl rfl ty28), ⟨⟨rfl, rfl, trivial⟩, ⟨rfl, trivial⟩, rfl⟩, rfl,
              Step.guarded rfl rfl rfl rfl (fun hc => does_load 28 5 0 0 [] (.var (e_api_Place p0)) (e_api_Place p0) trivial rfl rfl ty28), ⟨⟨rfl, rfl, trivial⟩, ⟨rfl, trivial⟩, rfl⟩, rfl,
              Step.guarded rfl rfl rfl rfl (fun hc => Does.strip (n' := [(57, (.opt (decide (x13.1 ≤ (IntKind.u64.wrap (p3 ((v1.getD x3.2.1.toNat 0).toNat))))) (e_api_Place x13.2))), (58, (.opt (decide (x13.1 ≤ (IntKind.u64.wrap (p3 ((v1.getD x3.2.1.toNat 0).toNat))))) (e_api_Place p0)))]) (n := [(57, (e_api_Place x13.2)), (58, (e_api_Place p0))]) ⟨(.opt _ _ hc), (.opt _ _ hc), trivial⟩ (does_call 19 0 (fun _ => .any) (.func 19) [(.tmp 57), (.tmp 58)] [(e_api_Place x13.2), (e_api_Place p0)] [] true [(e_api_Place x13.2), (e_api_Place p0)] (.bool v16) _ _ rfl fo19 rfl ⟨trivial, trivial, trivial⟩ ⟨.data _ (d_api_Place x13.2), .data _ (d_api_Place p0), trivial⟩ (congressref09_Before_spec x13.2 p0 _ (h17 hc)) trivial)), ⟨⟨rfl, rfl, rfl, trivial⟩, trivial, rfl⟩, rfl,
              Step.guarded rfl rfl rfl rfl (fun hc => Does.strip (n' := [(59, (.opt (decide (x13.1 ≤ (IntKind.u64.wrap (p3 ((v1.getD x3.2.1.toNat 0).toNat))))) (.bool v16)))]) (n := [(59, (.bool v16))]) ⟨(.opt _ _ hc), trivial⟩ (does_move (.tmp 59) (.bool v16) trivial)), ⟨⟨rfl, rfl, trivial⟩, trivial, rfl⟩, rfl,
              Step.guarded rfl rfl rfl rfl (fun hc => does_load 28 18 7 0 [] (.var (e_api_Place x13.2)) (e_api_Place x13.2) trivial rfl rfl ty28), ⟨⟨rfl, rfl, trivial⟩, ⟨rfl, trivial⟩, rfl⟩, rfl,
              Step.guarded rfl rfl rfl rfl (fun hc => does_load 28 5 0 0 [] (.var (e_api_Place p0)) (e_api_Place p0) trivial rfl rfl ty28), ⟨⟨rfl, rfl, trivial⟩, ⟨rfl, trivial⟩, rfl⟩, rfl,
              Step.guarded rfl rfl rfl rfl (fun hc => Does.strip (n' := [(61, (.opt ((decide (x13.1 ≤ (IntKind.u64.wrap (p3 ((v1.getD x3.2.1.toNat 0).toNat))))) && (!v16)) (e_api_Place x13.2))), (62, (.opt ((decide (x13.1 ≤ (IntKind.u64.wrap (p3 ((v1.getD x3.2.1.toNat 0).toNat))))) && (!v16)) (e_api_Place p0)))]) (n := [(61, (e_api_Place x13.2)), (62, (e_api_Place p0))]) ⟨(.opt _ _ hc), (.opt _ _ hc), trivial⟩ (does_eqT false 28 28 (.tmp 61) (.tmp 62) (e_api_Place x13.2) (e_api_Place p0) (e_api_Place z_api_Place) (b_api_Place x13.2 p0) rfl rfl trivial trivial eg28 sh28 (al_api_Place _ _) (al_api_Place _ _) (q_api_Place _ _))), ⟨⟨rfl, rfl, rfl, trivial⟩, trivial, rfl⟩, rfl,
              Step.guarded rfl rfl rfl rfl (fun hc => Does.strip (n' := [(63, (.opt ((decide (x13.1 ≤ (IntKind.u64.wrap (p3 ((v1.getD x3.2.1.toNat 0).toNat))))) && (!v16)) (.bool (b_api_Place x13.2 p0))))]) (n := [(63, (.bool (b_api_Place x13.2 p0)))]) ⟨(.opt _ _ hc), trivial⟩ (does_move (.tmp 63) (.bool (b_api_Place x13.2 p0)) trivial)), ⟨⟨rfl, rfl, trivial⟩, trivial, rfl⟩, rfl,
              Step.guarded rfl rfl rfl rfl (fun hc => does_move (.tmp 1) (.bool p1) trivial), ⟨⟨rfl, rfl, trivial⟩, trivial, rfl⟩, rfl,
              Step.guarded rfl rfl rfl rfl (fun hc => Does.strip (n' := [(65, (.opt (((decide (x13.1 ≤ (IntKind.u64.wrap (p3 ((v1.getD x3.2.1.toNat 0).toNat))))) && (!v16)) && (b_api_Place x13.2 p0)) (.bool p1)))]) (n := [(65, (.bool p1))]) ⟨(.opt _ _ hc), trivial⟩ (does_not 4 (.tmp 65) p1 trivial)), ⟨⟨rfl, rfl, trivial⟩, trivial, rfl⟩, rfl,
              Step.guarded rfl rfl rfl rfl (fun hc => Does.strip (n' := [(64, (.opt ((decide (x13.1 ≤ (IntKind.u64.wrap (p3 ((v1.getD x3.2.1.toNat 0).toNat))))) && (!v16)) (.bool (b_api_Place x13.2 p0)))), (66, (.opt (((decide (x13.1 ≤ (IntKind.u64.wrap (p3 ((v1.getD x3.2.1.toNat 0).toNat))))) && (!v16)) && (b_api_Place x13.2 p0)) (.bool (!p1))))]) (n := [(64, (.bool (b_api_Place x13.2 p0))), (66, (.opt (b_api_Place x13.2 p0) (.bool (!p1))))]) ⟨(.opt _ _ hc), (.half _ _ hc), trivial⟩ (does_and 64 66 (b_api_Place x13.2 p0) (!p1))), ⟨⟨rfl, rfl, rfl, trivial⟩, trivial, rfl⟩, rfl,
              Step.guarded rfl rfl rfl rfl (fun hc => Does.strip (n' := [(60, (.opt (decide (x13.1 ≤ (IntKind.u64.wrap (p3 ((v1.getD x3.2.1.toNat 0).toNat))))) (.bool v16))), (67, (.opt ((decide (x13.1 ≤ (IntKind.u64.wrap (p3 ((v1.getD x3.2.1.toNat 0).toNat))))) && (!v16)) (.bool ((b_api_Place x13.2 p0) && (!p1)))))]) (n := [(60, (.bool v16)), (67, (.opt (!v16) (.bool ((b_api_Place x13.2 p0) && (!p1)))))]) ⟨(.opt _ _ hc), (.half _ _ hc), trivial⟩ (does_or 60 67 v16 ((b_api_Place x13.2 p0) && (!p1)))), ⟨⟨rfl, rfl, rfl, trivial⟩, trivial, rfl⟩, rfl,
              Step.plain rfl (does_and 56 68 (decide (x13.1 ≤ (IntKind.u64.wrap (p3 ((v1.getD x3.2.1.toNat 0).toNat))))) (v16 || ((b_api_Place x13.2 p0) && (!p1)))), ⟨⟨rfl, rfl, trivial⟩, trivial, rfl⟩, rfl, rfl⟩ ?_
            obtain ⟨v18, hv18, H⟩ := lt_of H
            refine aw_cov (cov_prune (s1 := ⟨[(1, (.bool p1)), (5, (.ptr 0 0 [])), (7, (.ptr 1 0 [])), (8, (.ptr 2 0 [])), (10, (.ptr 4 0 [])), (12, (.ptr 5 0 [])), (13, (.bool x3.1)), (14, (.own 6)), (15, (.int .i64 x3.2.1)), (16, (.int .i64 (v1.getD x3.2.1.toNat 0))), (17, (.int .u64 x13.1)), (18, (.ptr 7 0 [])), (69, (.bool v18))], [(0, some (.var (e_api_Place p0))), (1, some (.var (e_a8_u32 p2))), (2, some (.var (e_a8_u32 p3))), (4, some (.var (e_api_Place z_api_Place))), (5, some (.var (e_api_Place x3.2.2))), (6, some (.arr 1 v1.length fun j => (.int .i64 (v1.getD j 0)))), (7, some (.var (e_api_Place x13.2)))], 8⟩) ⟨rfl, rfl, rfl, rfl, rfl, rfl, rfl, rfl, rfl, rfl, rfl, rfl, (by subst hv18; rfl), trivial⟩ ⟨rfl, rfl, rfl, rfl, rfl, rfl, rfl, trivial⟩ (Nat.le_refl _)) ?_
            refine aw_cond rfl (fun hc => ?_) (fun hc => ?_)
            · replace H := ite_t hc H
              refine aw_skip ?_
              refine nx_seq ?_
              refine aw_block ?_
              refine aw_region (es := [_, _, _]) ⟨Step.plain rfl (does_move (.tmp 17) (.int .u64 x13.1) trivial), ⟨⟨rfl, trivial⟩, trivial, rfl⟩, rfl,
                Step.plain rfl (does_bin .add 47 47 (.tmp 70) (.const (.int .u64 1)) .u64 x13.1 1 (.int .u64 (IntKind.u64.wrap (x13.1 + 1))) trivial (fun _ => rfl) (bin_add _ _ _ _)), ⟨⟨rfl, trivial⟩, trivial, rfl⟩, rfl,
                Step.plain rfl (does_assign (.tmp 71) (.int .u64 (IntKind.u64.wrap (x13.1 + 1))) trivial), ⟨⟨rfl, trivial⟩, trivial, rfl⟩, rfl, rfl⟩ ?_
              refine aw_cov (cov_prune (s1 := ⟨[(1, (.bool p1)), (5, (.ptr 0 0 [])), (7, (.ptr 1 0 [])), (8, (.ptr 2 0 [])), (10, (.ptr 4 0 [])), (12, (.ptr 5 0 [])), (13, (.bool x3.1)), (14, (.own 6)), (15, (.int .i64 x3.2.1)), (16, (.int .i64 (v1.getD x3.2.1.toNat 0))), (18, (.ptr 7 0 [])), (17, (.int .u64 (IntKind.u64.wrap (x13.1 + 1))))], [(0, some (.var (e_api_Place p0))), (1, some (.var (e_a8_u32 p2))), (2, some (.var (e_a8_u32 p3))), (4, some (.var (e_api_Place z_api_Place))), (5, some (.var (e_api_Place x3.2.2))), (6, some (.arr 1 v1.length fun j => (.int .i64 (v1.getD j 0)))), (7, some (.var (e_api_Place x13.2)))], 8⟩) ⟨rfl, rfl, rfl, rfl, rfl, rfl, rfl, rfl, rfl, rfl, rfl, rfl, trivial⟩ ⟨rfl, rfl, rfl, rfl, rfl, rfl, rfl, trivial⟩ (Nat.le_refl _)) ?_
              refine aw_region1 (es := [_, _, _, _]) ⟨Step.plain rfl (does_move (.tmp 17) (.int .u64 (IntKind.u64.wrap (x13.1 + 1))) trivial), ⟨⟨rfl, trivial⟩, trivial, rfl⟩, rfl,
                Step.plain rfl (does_convInt 47 23 (.tmp 72) .u64 .u32 (IntKind.u64.wrap (x13.1 + 1)) trivial rfl rfl), ⟨⟨rfl, trivial⟩, trivial, rfl⟩, rfl,
                Step.plain rfl (does_fieldAddr 28 0 0 18 7 0 [] (.var (e_api_Place x13.2)) fl28_0), ⟨⟨rfl, trivial⟩, ⟨rfl, trivial⟩, rfl⟩, rfl,
                Step.plain rfl (does_store 23 74 (.tmp 73) 7 (0 + 0) [0] (.var (e_api_Place x13.2)) (.var (e_api_Place ({ x13.2 with Round := (IntKind.u32.wrap ((IntKind.u64.wrap (x13.1 + 1)))) }))) (.int .u32 (IntKind.u32.wrap ((IntKind.u64.wrap (x13.1 + 1))))) false trivial rfl ⟨rfl, Nat.le_of_ble_eq_true rfl, trivial⟩ rfl rfl (congrArg Box.var (set_cons rfl (st_api_Place_0 _ _))) ty23), ⟨⟨rfl, rfl, trivial⟩, ⟨rfl, trivial⟩, rfl⟩, rfl, rfl⟩ ?_
              refine nx_blk ?_
              exact nx_loop ((IntKind.u64.wrap (x13.1 + 1)), { x13.2 with Round := (IntKind.u32.wrap ((IntKind.u64.wrap (x13.1 + 1)))) }) H (cov_prune ⟨rfl, rfl, rfl, rfl, rfl, rfl, rfl, rfl, rfl, rfl, rfl, rfl, trivial⟩ ⟨rfl, rfl, rfl, rfl, rfl, rfl, rfl, trivial⟩ (Nat.le_of_ble_eq_true rfl))
            · replace H := ite_f hc H
              refine aw_exit ?_
              refine ex_then ?_
              refine ex_then ?_
              refine ex_here ?_
              exact nx_ljoin (x13.1, x13.2) H hsn14 (cov_prune ⟨rfl, rfl, rfl, rfl, rfl, rfl, rfl, rfl, rfl, rfl, rfl, rfl, trivial⟩ ⟨rfl, rfl, rfl, rfl, rfl, rfl, rfl, trivial⟩ (Nat.le_of_ble_eq_true rfl))
        · refine aw_cond rfl (fun hc => ?_) (fun hc => ?_)
          · replace H := ite_t hc H
            obtain ⟨h10, H⟩ := ib_of H
            refine aw_region1 (es := [_, _, _, _, _, _]) ⟨Step.plain rfl (does_move (.tmp 16) (.int .i64 (v1.getD x3.2.1.toNat 0)) trivial), ⟨⟨rfl, trivial⟩, trivial, rfl⟩, rfl,
              Step.plain rfl (does_indexAddr 25 8 1 7 1 0 [] (.var (e_a8_u32 p2)) (.tmp 41) .i64 (v1.getD x3.2.1.toNat 0) el25 trivial h10.1 h10.2), ⟨⟨rfl, rfl, trivial⟩, ⟨rfl, trivial⟩, rfl⟩, rfl,
              Step.plain rfl (does_load 23 42 1 (0 + (v1.getD x3.2.1.toNat 0).toNat * 1) [(v1.getD x3.2.1.toNat 0).toNat] (.var (e_a8_u32 p2)) (.int .u32 (p2 ((v1.getD x3.2.1.toNat 0).toNat))) ⟨rfl, (ixl h10), trivial⟩ rfl rfl ty23), ⟨⟨rfl, trivial⟩, ⟨rfl, trivial⟩, rfl⟩, rfl,
              Step.plain rfl (does_convInt 23 47 (.tmp 43) .u32 .u64 (p2 ((v1.getD x3.2.1.toNat 0).toNat)) trivial rfl rfl), ⟨⟨rfl, trivial⟩, trivial, rfl⟩, rfl,
              Step.plain rfl (does_bin .add 47 47 (.tmp 44) (.const (.int .u64 1)) .u64 (IntKind.u64.wrap (p2 ((v1.getD x3.2.1.toNat 0).toNat))) 1 (.int .u64 (IntKind.u64.wrap ((IntKind.u64.wrap (p2 ((v1.getD x3.2.1.toNat 0).toNat))) + 1))) trivial (fun _ => rfl) (bin_add _ _ _ _)), ⟨⟨rfl, trivial⟩, trivial, rfl⟩, rfl,
              Step.plain rfl (does_assign (.tmp 45) (.int .u64 (IntKind.u64.wrap ((IntKind.u64.wrap (p2 ((v1.getD x3.2.1.toNat 0).toNat))) + 1))) trivial), ⟨⟨rfl, trivial⟩, trivial, rfl⟩, rfl, rfl⟩ ?_
            exact nx_join ((IntKind.u64.wrap ((IntKind.u64.wrap (p2 ((v1.getD x3.2.1.toNat 0).toNat))) + 1))) H (cov_prune ⟨rfl, rfl, rfl, rfl, rfl, rfl, rfl, rfl, rfl, rfl, rfl, trivial⟩ ⟨rfl, rfl, rfl, rfl, rfl, rfl, trivial⟩ (Nat.le_of_ble_eq_true rfl))
          · replace H := ite_f hc H
            refine aw_skip ?_
            exact nx_join ((IntKind.u64.wrap (p0.Round))) H (cov_prune ⟨rfl, rfl, rfl, rfl, rfl, rfl, rfl, rfl, rfl, rfl, rfl, trivial⟩ ⟨rfl, rfl, rfl, rfl, rfl, rfl, trivial⟩ (Nat.le_of_ble_eq_true rfl))
    · replace H := ite_f hc H
      refine aw_exit ?_
      refine ex_then ?_
      refine ex_then ?_
      refine ex_here ?_
      exact nx_ljoin (x3.1, x3.2.2) H hsn4 (cov_prune ⟨rfl, rfl, rfl, trivial⟩ ⟨rfl, rfl, trivial⟩ (Nat.le_of_ble_eq_true rfl))
end Go.Proofs.Ytnfjibcfnchkkaa
