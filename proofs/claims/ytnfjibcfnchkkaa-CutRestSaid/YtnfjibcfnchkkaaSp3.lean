/- Printed by gen.py. Conditions: none. -/
import Derived.Test.YtnfjibcfnchkkaaSp2
import Derived.KernelRfl
set_option linter.unusedVariables false
set_option maxRecDepth 100000
namespace Go.Proofs.Ytnfjibcfnchkkaa
open Go.Eng
set_option maxHeartbeats 1600000
theorem congressref11_Missing_spec (p0 : (Nat → Int)) (p1 : (Nat → Int)) (p2 : (Nat → Int)) (r : (_root_.List api_Place)) (H : congressref11_Missing p0 p1 p2 = some r) : FSpecO Try.prog 15 [(e_a8_u32 p0), (e_a8_u32 p1), (e_a8_u32 p2)] [] 0 (.own 0) [(0, some (.arr 3 r.length fun j => (e_api_Place (r.getD j z_api_Place))))] 1 := by
  refine specO_of (fn := Try.f15) (args := [(e_a8_u32 p0), (e_a8_u32 p1), (e_a8_u32 p2)]) Try.func15 rfl (Nat.le_of_ble_eq_true rfl) ?_
  rintro ⟨G, w0, W, S, Sp⟩ hG
  cases hG
  unfold congressref11_Missing at H
  refine aw_region (es := [_, _, _, _]) ⟨Step.plain rfl (does_box 25 (.tmp 0) 0 (e_a8_u32 p0) trivial rfl), ⟨⟨rfl, trivial⟩, trivial, rfl⟩, rfl,
    Step.plain rfl (does_box 25 (.tmp 1) 1 (e_a8_u32 p1) trivial rfl), ⟨⟨rfl, trivial⟩, trivial, rfl⟩, rfl,
    Step.plain rfl (does_box 26 (.tmp 2) 2 (e_a8_u32 p2) trivial rfl), ⟨⟨rfl, trivial⟩, trivial, rfl⟩, rfl,
    Step.plain rfl (does_nil false 3 3 (fun j => (e_api_Place (([] : _root_.List api_Place).getD j z_api_Place)))), ⟨trivial, trivial, rfl⟩, rfl, rfl⟩ ?_
  refine aw_cov (cov_prune (s1 := ⟨[(3, (.ptr 0 0 [])), (4, (.ptr 1 0 [])), (5, (.ptr 2 0 []))], [(0, some (.var (e_a8_u32 p0))), (1, some (.var (e_a8_u32 p1))), (2, some (.var (e_a8_u32 p2)))], 4⟩) ⟨rfl, rfl, rfl, trivial⟩ ⟨rfl, rfl, rfl, trivial⟩ (Nat.le_refl _)) ?_
  refine aw_region (es := [_, _]) ⟨Step.plain rfl (does_buildOwn 36 0 3 4 (e_api_Place z_api_Place) (fun j => (e_api_Place (([] : _root_.List api_Place).getD j z_api_Place))) #[] [] [] rfl so36 (by decide) trivial trivial (fun j h => match j, h with  | k + 0, h => absurd h (by omega))), ⟨trivial, trivial, rfl⟩, rfl,
    Step.plain rfl (does_assign (.tmp 12) (.own 4) trivial), ⟨⟨rfl, trivial⟩, trivial, rfl⟩, rfl, rfl⟩ ?_
  refine aw_cov (cov_prune (s1 := ⟨[(3, (.ptr 0 0 [])), (4, (.ptr 1 0 [])), (5, (.ptr 2 0 [])), (7, (.own 4))], [(0, some (.var (e_a8_u32 p0))), (1, some (.var (e_a8_u32 p1))), (2, some (.var (e_a8_u32 p2))), (4, some (.arr 3 ([] : _root_.List api_Place).length fun j => (e_api_Place (([] : _root_.List api_Place).getD j z_api_Place))))], 5⟩) ⟨rfl, rfl, rfl, rfl, trivial⟩ ⟨rfl, rfl, rfl, rfl, trivial⟩ (Nat.le_refl _)) ?_
  obtain ⟨v1, h2, H⟩ := bnd H
  refine aw_region (es := [_, _, _, _, _, _, _, _, _, _, _]) ⟨Step.plain rfl (does_buildT 28 #[] [] [] (.st [1, 1, 1]) (c_api_Place z_api_Place) (c_api_Place ({ Round := 0, From := 0, Slot := 0 } : api_Place)) rfl bo28 trivial trivial (by funext j; match j with | 0 => rfl | 1 => rfl | 2 => rfl | _ + 3 => rfl)), ⟨trivial, trivial, rfl⟩, rfl,
    Step.plain rfl (does_load 25 3 0 0 [] (.var (e_a8_u32 p0)) (e_a8_u32 p0) trivial rfl rfl ty25), ⟨⟨rfl, trivial⟩, ⟨rfl, trivial⟩, rfl⟩, rfl,
    Step.plain rfl (does_load 25 4 1 0 [] (.var (e_a8_u32 p1)) (e_a8_u32 p1) trivial rfl rfl ty25), ⟨⟨rfl, trivial⟩, ⟨rfl, trivial⟩, rfl⟩, rfl,
    Step.plain rfl (does_load 26 5 2 0 [] (.var (e_a8_u32 p2)) (e_a8_u32 p2) trivial rfl rfl ty26), ⟨⟨rfl, trivial⟩, ⟨rfl, trivial⟩, rfl⟩, rfl,
    Step.plain rfl (does_call 22 0 (fun _ => .any) (.func 22) [(.tmp 14), (.const (.bool true)), (.tmp 15), (.tmp 16), (.tmp 17)] [(e_api_Place ({ Round := 0, From := 0, Slot := 0 } : api_Place)), (.bool true), (e_a8_u32 p0), (e_a8_u32 p1), (e_a8_u32 p2)] [] true [(e_api_Place ({ Round := 0, From := 0, Slot := 0 } : api_Place)), (.bool true), (e_a8_u32 p0), (e_a8_u32 p1), (e_a8_u32 p2)] (resV [(e_api_Place v1.1), (.bool v1.2)]) _ _ rfl fo22 rfl ⟨trivial, (fun _ => rfl), trivial, trivial, trivial, trivial⟩ ⟨.data _ (d_api_Place ({ Round := 0, From := 0, Slot := 0 } : api_Place)), .data _ trivial, .data _ (d_a8_u32 p0), .data _ (d_a8_u32 p1), .data _ (d_a8_u32 p2), trivial⟩ (congressref11_Next_spec ({ Round := 0, From := 0, Slot := 0 } : api_Place) true p0 p1 p2 _ h2) (res_flat2 (f_api_Place v1.1) trivial)), ⟨⟨rfl, rfl, rfl, rfl, trivial⟩, trivial, rfl⟩, rfl,
    Step.plain rfl (does_move (.tmp 18) (resV [(e_api_Place v1.1), (.bool v1.2)]) trivial), ⟨⟨rfl, trivial⟩, trivial, rfl⟩, rfl,
    Step.plain rfl (does_extract 13 0 2 (fun j => [(e_api_Place v1.1), (.bool v1.2)].getD j (.bool false)) (Nat.le_of_ble_eq_true rfl)), ⟨⟨rfl, trivial⟩, trivial, rfl⟩, rfl,
    Step.plain rfl (does_extract 13 1 2 (fun j => [(e_api_Place v1.1), (.bool v1.2)].getD j (.bool false)) (Nat.le_of_ble_eq_true rfl)), ⟨⟨rfl, trivial⟩, trivial, rfl⟩, rfl,
    Step.plain rfl (does_alloc 28 5 (e_api_Place z_api_Place) zr28), ⟨trivial, trivial, rfl⟩, rfl,
    Step.plain rfl (does_store 28 8 (.tmp 19) 5 0 [] (.var (e_api_Place z_api_Place)) (.var (e_api_Place v1.1)) (e_api_Place v1.1) true trivial rfl trivial rfl rfl rfl ty28), ⟨⟨rfl, rfl, trivial⟩, ⟨rfl, trivial⟩, rfl⟩, rfl,
    Step.plain rfl (does_assign (.tmp 20) (.bool v1.2) trivial), ⟨⟨rfl, trivial⟩, trivial, rfl⟩, rfl, rfl⟩ ?_
  refine aw_cov (cov_prune (s1 := ⟨[(3, (.ptr 0 0 [])), (4, (.ptr 1 0 [])), (5, (.ptr 2 0 [])), (7, (.own 4)), (8, (.ptr 5 0 [])), (9, (.bool v1.2))], [(0, some (.var (e_a8_u32 p0))), (1, some (.var (e_a8_u32 p1))), (2, some (.var (e_a8_u32 p2))), (4, some (.arr 3 ([] : _root_.List api_Place).length fun j => (e_api_Place (([] : _root_.List api_Place).getD j z_api_Place)))), (5, some (.var (e_api_Place v1.1)))], 6⟩) ⟨rfl, rfl, rfl, rfl, rfl, rfl, trivial⟩ ⟨rfl, rfl, rfl, rfl, rfl, trivial⟩ (Nat.le_refl _)) ?_
  refine aw_seq ?_
  obtain ⟨wn4, hwn4, Hrn4⟩ := bnd H
  refine aw_meet (fun y8 : _root_.List api_Place => (⟨[(7, (.own 4))], [(4, some (.arr 3 y8.length fun j => (e_api_Place (y8.getD j z_api_Place))))], 6⟩ : St)) (fun y8 => Fl.nx y8 = wn4) (fun y8 hy => ?_) (aw_block (aw_runs (fun x3 : Bool × _root_.List api_Place × api_Place => (⟨[(3, (.ptr 0 0 [])), (4, (.ptr 1 0 [])), (5, (.ptr 2 0 [])), (7, (.own 4)), (8, (.ptr 5 0 [])), (9, (.bool x3.1))], [(0, some (.var (e_a8_u32 p0))), (1, some (.var (e_a8_u32 p1))), (2, some (.var (e_a8_u32 p2))), (4, some (.arr 3 x3.2.1.length fun j => (e_api_Place (x3.2.1.getD j z_api_Place)))), (5, some (.var (e_api_Place x3.2.2)))], 6⟩ : St)) hwn4 (cov_prune ⟨rfl, rfl, rfl, rfl, rfl, rfl, trivial⟩ ⟨rfl, rfl, rfl, rfl, rfl, trivial⟩ (Nat.le_of_ble_eq_true rfl)) (fun x3 st H hsn4 => ?_)))
  · have H := nx_of hy Hrn4
    refine nx_seq ?_
    refine aw_region (es := [_, _]) ⟨Step.plain rfl (does_move (.tmp 7) (.own 4) trivial), ⟨⟨rfl, trivial⟩, trivial, rfl⟩, rfl,
      Step.plain rfl (does_assign (.tmp 41) (.own 4) trivial), ⟨⟨rfl, trivial⟩, trivial, rfl⟩, rfl, rfl⟩ ?_
    refine aw_cov (cov_prune (s1 := ⟨[(6, (.own 4))], [(4, some (.arr 3 y8.length fun j => (e_api_Place (y8.getD j z_api_Place))))], 6⟩) ⟨rfl, trivial⟩ ⟨rfl, trivial⟩ (Nat.le_refl _)) ?_
    refine aw_ret ?_
    exact fun a w hr => ⟨_, [(.own 0)], reach_of hr (cov_to (s1 := ⟨[(6, (.own 0))], [(0, some (.arr 3 y8.length fun j => (e_api_Place (y8.getD j z_api_Place))))], 1⟩) (fun i => match i with | 0 => 4 | k => k) [] ⟨⟨_, rfl, .own 0 _ _ (Nat.le_of_ble_eq_true rfl) rfl rfl (Box.like_refl _)⟩, trivial⟩ ⟨⟨Nat.le_of_ble_eq_true rfl, _, _, rfl, rfl, boxTo_arr (fun _ => (d_api_Place _))⟩, trivial⟩ rfl rfl), ⟨rfl, trivial⟩, by decide, by cases H; rfl, by cases H; exact ⟨rfl, trivial⟩, Nat.le_of_ble_eq_true rfl⟩
  · refine aw_seq ?_
    refine aw_region (es := [_, _, _, _, _, _]) ⟨Step.plain rfl (does_move (.tmp 9) (.bool x3.1) trivial), ⟨⟨rfl, trivial⟩, trivial, rfl⟩, rfl,
      Step.plain rfl (does_move (.tmp 21) (.bool x3.1) trivial), ⟨⟨rfl, trivial⟩, trivial, rfl⟩, rfl,
      Step.guarded rfl rfl rfl rfl (fun hc => does_move (.tmp 7) (.own 4) trivial), ⟨⟨rfl, rfl, trivial⟩, trivial, rfl⟩, rfl,
      Step.guarded rfl rfl rfl rfl (fun hc => Does.strip (n' := [(23, (.opt x3.1 (.own 4)))]) (n := [(23, (.own 4))]) ⟨(.opt _ _ hc), trivial⟩ (does_leno 36 3 x3.2.1.length 23 4 (fun j => (e_api_Place (x3.2.1.getD j z_api_Place))) el36)), ⟨⟨rfl, rfl, trivial⟩, ⟨rfl, trivial⟩, rfl⟩, rfl,
      Step.guarded rfl rfl rfl rfl (fun hc => Does.strip (n' := [(24, (.opt x3.1 (.int .i64 (x3.2.1.length : Int))))]) (n := [(24, (.int .i64 (x3.2.1.length : Int)))]) ⟨(.opt _ _ hc), trivial⟩ (does_bin .lss 3 3 (.tmp 24) (.const (.int .i64 100)) .i64 (x3.2.1.length : Int) 100 (.bool (decide ((x3.2.1.length : Int) < 100))) trivial (fun _ => rfl) (bin_lss _ _ _ _))), ⟨⟨rfl, rfl, trivial⟩, trivial, rfl⟩, rfl,
      Step.plain rfl (does_and 22 25 x3.1 (decide ((x3.2.1.length : Int) < 100))), ⟨⟨rfl, rfl, trivial⟩, trivial, rfl⟩, rfl, rfl⟩ ?_
    refine aw_cov (cov_prune (s1 := ⟨[(3, (.ptr 0 0 [])), (4, (.ptr 1 0 [])), (5, (.ptr 2 0 [])), (7, (.own 4)), (8, (.ptr 5 0 [])), (26, (.bool (x3.1 && (decide ((x3.2.1.length : Int) < 100)))))], [(0, some (.var (e_a8_u32 p0))), (1, some (.var (e_a8_u32 p1))), (2, some (.var (e_a8_u32 p2))), (4, some (.arr 3 x3.2.1.length fun j => (e_api_Place (x3.2.1.getD j z_api_Place)))), (5, some (.var (e_api_Place x3.2.2)))], 6⟩) ⟨rfl, rfl, rfl, rfl, rfl, rfl, trivial⟩ ⟨rfl, rfl, rfl, rfl, rfl, trivial⟩ (Nat.le_refl _)) ?_
    refine aw_cond rfl (fun hc => ?_) (fun hc => ?_)
    · replace H := ite_t hc H
      refine aw_skip ?_
      refine nx_seq ?_
      refine aw_block ?_
      obtain ⟨h5, H⟩ := fit_of H
      refine aw_region (es := [_, _, _, _, _]) ⟨Step.plain rfl (does_move (.tmp 7) (.own 4) trivial), ⟨⟨rfl, trivial⟩, trivial, rfl⟩, rfl,
        Step.plain rfl (does_load 28 8 5 0 [] (.var (e_api_Place x3.2.2)) (e_api_Place x3.2.2) trivial rfl rfl ty28), ⟨⟨rfl, trivial⟩, ⟨rfl, trivial⟩, rfl⟩, rfl,
        Step.plain rfl (does_buildSl 36 1 3 (e_api_Place z_api_Place) (fun j => (e_api_Place (([x3.2.2] : _root_.List api_Place).getD j z_api_Place))) #[(0, (.tmp 28))] [(0, (.tmp 28))] [(0, (e_api_Place x3.2.2))] rfl so36 (by decide) ⟨⟨rfl, trivial⟩, trivial⟩ ⟨⟨Nat.le_of_ble_eq_true rfl, rfl, rfl⟩, trivial⟩ (fun j h => match j, h with | 0, _ => rfl | k + 1, h => absurd h (by omega))), ⟨⟨rfl, trivial⟩, trivial, rfl⟩, rfl,
        Step.plain rfl (does_appendL e_api_Place z_api_Place x3.2.1 ([x3.2.2] : _root_.List api_Place) 36 3 24 4 6 27 29 ap36 h5), ⟨⟨rfl, rfl, trivial⟩, ⟨rfl, trivial⟩, rfl⟩, rfl,
        Step.plain rfl (does_assign (.tmp 30) (.own 6) trivial), ⟨⟨rfl, trivial⟩, trivial, rfl⟩, rfl, rfl⟩ ?_
      refine aw_cov (cov_prune (s1 := ⟨[(3, (.ptr 0 0 [])), (4, (.ptr 1 0 [])), (5, (.ptr 2 0 [])), (8, (.ptr 5 0 [])), (7, (.own 6))], [(0, some (.var (e_a8_u32 p0))), (1, some (.var (e_a8_u32 p1))), (2, some (.var (e_a8_u32 p2))), (5, some (.var (e_api_Place x3.2.2))), (6, some (.arr 3 (x3.2.1 ++ ([x3.2.2] : _root_.List api_Place)).length fun j => (e_api_Place ((x3.2.1 ++ ([x3.2.2] : _root_.List api_Place)).getD j z_api_Place))))], 7⟩) ⟨rfl, rfl, rfl, rfl, rfl, trivial⟩ ⟨rfl, rfl, rfl, rfl, rfl, trivial⟩ (Nat.le_refl _)) ?_
      obtain ⟨v6, h7, H⟩ := bnd H
      refine aw_region (es := [_, _, _, _, _, _, _, _, _, _, _]) ⟨Step.plain rfl (does_load 28 8 5 0 [] (.var (e_api_Place x3.2.2)) (e_api_Place x3.2.2) trivial rfl rfl ty28), ⟨⟨rfl, trivial⟩, ⟨rfl, trivial⟩, rfl⟩, rfl,
        Step.plain rfl (does_load 25 3 0 0 [] (.var (e_a8_u32 p0)) (e_a8_u32 p0) trivial rfl rfl ty25), ⟨⟨rfl, trivial⟩, ⟨rfl, trivial⟩, rfl⟩, rfl,
        Step.plain rfl (does_load 25 4 1 0 [] (.var (e_a8_u32 p1)) (e_a8_u32 p1) trivial rfl rfl ty25), ⟨⟨rfl, trivial⟩, ⟨rfl, trivial⟩, rfl⟩, rfl,
        Step.plain rfl (does_load 26 5 2 0 [] (.var (e_a8_u32 p2)) (e_a8_u32 p2) trivial rfl rfl ty26), ⟨⟨rfl, trivial⟩, ⟨rfl, trivial⟩, rfl⟩, rfl,
        Step.plain rfl (does_call 22 0 (fun _ => .any) (.func 22) [(.tmp 32), (.const (.bool false)), (.tmp 33), (.tmp 34), (.tmp 35)] [(e_api_Place x3.2.2), (.bool false), (e_a8_u32 p0), (e_a8_u32 p1), (e_a8_u32 p2)] [] true [(e_api_Place x3.2.2), (.bool false), (e_a8_u32 p0), (e_a8_u32 p1), (e_a8_u32 p2)] (resV [(e_api_Place v6.1), (.bool v6.2)]) _ _ rfl fo22 rfl ⟨trivial, (fun _ => rfl), trivial, trivial, trivial, trivial⟩ ⟨.data _ (d_api_Place x3.2.2), .data _ trivial, .data _ (d_a8_u32 p0), .data _ (d_a8_u32 p1), .data _ (d_a8_u32 p2), trivial⟩ (congressref11_Next_spec x3.2.2 false p0 p1 p2 _ h7) (res_flat2 (f_api_Place v6.1) trivial)), ⟨⟨rfl, rfl, rfl, rfl, trivial⟩, trivial, rfl⟩, rfl,
        Step.plain rfl (does_move (.tmp 36) (resV [(e_api_Place v6.1), (.bool v6.2)]) trivial), ⟨⟨rfl, trivial⟩, trivial, rfl⟩, rfl,
        Step.plain rfl (does_extract 31 0 2 (fun j => [(e_api_Place v6.1), (.bool v6.2)].getD j (.bool false)) (Nat.le_of_ble_eq_true rfl)), ⟨⟨rfl, trivial⟩, trivial, rfl⟩, rfl,
        Step.plain rfl (does_extract 31 1 2 (fun j => [(e_api_Place v6.1), (.bool v6.2)].getD j (.bool false)) (Nat.le_of_ble_eq_true rfl)), ⟨⟨rfl, trivial⟩, trivial, rfl⟩, rfl,
        Step.plain rfl (does_alloc 28 7 (e_api_Place z_api_Place) zr28), ⟨trivial, trivial, rfl⟩, rfl,
        Step.plain rfl (does_store 28 10 (.tmp 37) 7 0 [] (.var (e_api_Place z_api_Place)) (.var (e_api_Place v6.1)) (e_api_Place v6.1) true trivial rfl trivial rfl rfl rfl ty28), ⟨⟨rfl, rfl, trivial⟩, ⟨rfl, trivial⟩, rfl⟩, rfl,
        Step.plain rfl (does_assign (.tmp 38) (.bool v6.2) trivial), ⟨⟨rfl, trivial⟩, trivial, rfl⟩, rfl, rfl⟩ ?_
      refine aw_cov (cov_prune (s1 := ⟨[(3, (.ptr 0 0 [])), (4, (.ptr 1 0 [])), (5, (.ptr 2 0 [])), (8, (.ptr 5 0 [])), (7, (.own 6)), (10, (.ptr 7 0 [])), (11, (.bool v6.2))], [(0, some (.var (e_a8_u32 p0))), (1, some (.var (e_a8_u32 p1))), (2, some (.var (e_a8_u32 p2))), (5, some (.var (e_api_Place x3.2.2))), (6, some (.arr 3 (x3.2.1 ++ ([x3.2.2] : _root_.List api_Place)).length fun j => (e_api_Place ((x3.2.1 ++ ([x3.2.2] : _root_.List api_Place)).getD j z_api_Place)))), (7, some (.var (e_api_Place v6.1)))], 8⟩) ⟨rfl, rfl, rfl, rfl, rfl, rfl, rfl, trivial⟩ ⟨rfl, rfl, rfl, rfl, rfl, rfl, trivial⟩ (Nat.le_refl _)) ?_
      refine aw_region (es := [_, _]) ⟨Step.plain rfl (does_load 28 10 7 0 [] (.var (e_api_Place v6.1)) (e_api_Place v6.1) trivial rfl rfl ty28), ⟨⟨rfl, trivial⟩, ⟨rfl, trivial⟩, rfl⟩, rfl,
        Step.plain rfl (does_store 28 8 (.tmp 39) 5 0 [] (.var (e_api_Place x3.2.2)) (.var (e_api_Place v6.1)) (e_api_Place v6.1) true trivial rfl trivial rfl rfl rfl ty28), ⟨⟨rfl, rfl, trivial⟩, ⟨rfl, trivial⟩, rfl⟩, rfl, rfl⟩ ?_
      refine aw_cov (cov_prune (s1 := ⟨[(3, (.ptr 0 0 [])), (4, (.ptr 1 0 [])), (5, (.ptr 2 0 [])), (8, (.ptr 5 0 [])), (7, (.own 6)), (11, (.bool v6.2))], [(0, some (.var (e_a8_u32 p0))), (1, some (.var (e_a8_u32 p1))), (2, some (.var (e_a8_u32 p2))), (5, some (.var (e_api_Place v6.1))), (6, some (.arr 3 (x3.2.1 ++ ([x3.2.2] : _root_.List api_Place)).length fun j => (e_api_Place ((x3.2.1 ++ ([x3.2.2] : _root_.List api_Place)).getD j z_api_Place))))], 8⟩) ⟨rfl, rfl, rfl, rfl, rfl, rfl, trivial⟩ ⟨rfl, rfl, rfl, rfl, rfl, trivial⟩ (Nat.le_refl _)) ?_
      refine aw_region1 (es := [_, _]) ⟨Step.plain rfl (does_move (.tmp 11) (.bool v6.2) trivial), ⟨⟨rfl, trivial⟩, trivial, rfl⟩, rfl,
        Step.plain rfl (does_assign (.tmp 40) (.bool v6.2) trivial), ⟨⟨rfl, trivial⟩, trivial, rfl⟩, rfl, rfl⟩ ?_
      refine nx_blk ?_
      exact nx_loop (v6.2, (x3.2.1 ++ ([x3.2.2] : _root_.List api_Place)), v6.1) H (cov_of (fun i => match i with | 0 => 0 | 1 => 1 | 2 => 2 | 4 => 6 | 5 => 5 | k => k) ⟨⟨_, rfl, ⟨rfl, Nat.le_of_ble_eq_true rfl⟩⟩, ⟨_, rfl, ⟨rfl, Nat.le_of_ble_eq_true rfl⟩⟩, ⟨_, rfl, ⟨rfl, Nat.le_of_ble_eq_true rfl⟩⟩, ⟨_, rfl, ⟨rfl, Nat.le_of_ble_eq_true rfl⟩⟩, ⟨_, rfl, ⟨rfl, Nat.le_of_ble_eq_true rfl⟩⟩, ⟨_, rfl, ⟨rfl, trivial⟩⟩, trivial⟩ ⟨⟨Nat.le_of_ble_eq_true rfl, _, _, rfl, rfl, .inl ⟨rfl, (d_a8_u32 _).plain⟩⟩, ⟨Nat.le_of_ble_eq_true rfl, _, _, rfl, rfl, .inl ⟨rfl, (d_a8_u32 _).plain⟩⟩, ⟨Nat.le_of_ble_eq_true rfl, _, _, rfl, rfl, .inl ⟨rfl, (d_a8_u32 _).plain⟩⟩, ⟨Nat.le_of_ble_eq_true rfl, _, _, rfl, rfl, ⟨rfl, rfl, fun _ => .inl ⟨rfl, (d_api_Place _).plain⟩⟩⟩, ⟨Nat.le_of_ble_eq_true rfl, _, _, rfl, rfl, .inl ⟨rfl, (d_api_Place _).plain⟩⟩, trivial⟩ rfl)
    · replace H := ite_f hc H
      refine aw_exit ?_
      refine ex_then ?_
      refine ex_then ?_
      refine ex_here ?_
      exact nx_ljoin (x3.2.1) H hsn4 (cov_prune ⟨rfl, trivial⟩ ⟨rfl, trivial⟩ (Nat.le_of_ble_eq_true rfl))

theorem congressref11_Missing_data (p0 : (Nat → Int)) (p1 : (Nat → Int)) (p2 : (Nat → Int)) (r : (_root_.List api_Place)) (H : congressref11_Missing p0 p1 p2 = some r) : FSpec Try.prog 15 [(e_a8_u32 p0), (e_a8_u32 p1), (e_a8_u32 p2)] (e_s_api_Place r) :=
  FSpecO.toData (fz := [0]) (congressref11_Missing_spec p0 p1 p2 r H) (d_s_api_Place r) (.frz 0 _ _ _ rfl (fun _ => (d_api_Place _)) (by decide))

theorem congressref11_Rest_spec (p0 : api_Place) (p1 : (Nat → Int)) (p2 : (Nat → Int)) (r : (_root_.List api_Place)) (H : congressref11_Rest p0 p1 p2 = some r) : FSpecO Try.prog 17 [(e_api_Place p0), (e_a8_u32 p1), (e_a8_u32 p2)] [] 0 (.own 0) [(0, some (.arr 3 r.length fun j => (e_api_Place (r.getD j z_api_Place))))] 1 := by
  refine specO_of (fn := Try.f17) (args := [(e_api_Place p0), (e_a8_u32 p1), (e_a8_u32 p2)]) Try.func17 rfl (Nat.le_of_ble_eq_true rfl) ?_
  rintro ⟨G, w0, W, S, Sp⟩ hG
  cases hG
  unfold congressref11_Rest at H
  refine aw_region (es := [_, _, _, _]) ⟨Step.plain rfl (does_box 28 (.tmp 0) 0 (e_api_Place p0) trivial rfl), ⟨⟨rfl, trivial⟩, trivial, rfl⟩, rfl,
    Step.plain rfl (does_box 25 (.tmp 1) 1 (e_a8_u32 p1) trivial rfl), ⟨⟨rfl, trivial⟩, trivial, rfl⟩, rfl,
    Step.plain rfl (does_box 26 (.tmp 2) 2 (e_a8_u32 p2) trivial rfl), ⟨⟨rfl, trivial⟩, trivial, rfl⟩, rfl,
    Step.plain rfl (does_nil false 3 3 (fun j => (e_api_Place (([] : _root_.List api_Place).getD j z_api_Place)))), ⟨trivial, trivial, rfl⟩, rfl, rfl⟩ ?_
  refine aw_cov (cov_prune (s1 := ⟨[(3, (.ptr 0 0 [])), (4, (.ptr 1 0 [])), (5, (.ptr 2 0 []))], [(0, some (.var (e_api_Place p0))), (1, some (.var (e_a8_u32 p1))), (2, some (.var (e_a8_u32 p2)))], 4⟩) ⟨rfl, rfl, rfl, trivial⟩ ⟨rfl, rfl, rfl, trivial⟩ (Nat.le_refl _)) ?_
  refine aw_region (es := [_, _]) ⟨Step.plain rfl (does_buildOwn 36 0 3 4 (e_api_Place z_api_Place) (fun j => (e_api_Place (([] : _root_.List api_Place).getD j z_api_Place))) #[] [] [] rfl so36 (by decide) trivial trivial (fun j h => match j, h with  | k + 0, h => absurd h (by omega))), ⟨trivial, trivial, rfl⟩, rfl,
    Step.plain rfl (does_assign (.tmp 12) (.own 4) trivial), ⟨⟨rfl, trivial⟩, trivial, rfl⟩, rfl, rfl⟩ ?_
  refine aw_cov (cov_prune (s1 := ⟨[(3, (.ptr 0 0 [])), (4, (.ptr 1 0 [])), (5, (.ptr 2 0 [])), (7, (.own 4))], [(0, some (.var (e_api_Place p0))), (1, some (.var (e_a8_u32 p1))), (2, some (.var (e_a8_u32 p2))), (4, some (.arr 3 ([] : _root_.List api_Place).length fun j => (e_api_Place (([] : _root_.List api_Place).getD j z_api_Place))))], 5⟩) ⟨rfl, rfl, rfl, rfl, trivial⟩ ⟨rfl, rfl, rfl, rfl, trivial⟩ (Nat.le_refl _)) ?_
  obtain ⟨v1, h2, H⟩ := bnd H
  refine aw_region (es := [_, _, _, _, _, _, _, _, _, _, _]) ⟨Step.plain rfl (does_load 28 3 0 0 [] (.var (e_api_Place p0)) (e_api_Place p0) trivial rfl rfl ty28), ⟨⟨rfl, trivial⟩, ⟨rfl, trivial⟩, rfl⟩, rfl,
    Step.plain rfl (does_buildT 25 #[] [] [] (.ar 8 1) (fun j => (.int .u32 ((fun _ => 0) j))) (fun j => (.int .u32 ((aset (fun _ => 0) []) j))) rfl bo25 trivial trivial (setAll_map (fun z => V.int .u32 z) [] _)), ⟨trivial, trivial, rfl⟩, rfl,
    Step.plain rfl (does_load 25 4 1 0 [] (.var (e_a8_u32 p1)) (e_a8_u32 p1) trivial rfl rfl ty25), ⟨⟨rfl, trivial⟩, ⟨rfl, trivial⟩, rfl⟩, rfl,
    Step.plain rfl (does_load 26 5 2 0 [] (.var (e_a8_u32 p2)) (e_a8_u32 p2) trivial rfl rfl ty26), ⟨⟨rfl, trivial⟩, ⟨rfl, trivial⟩, rfl⟩, rfl,
    Step.plain rfl (does_call 22 0 (fun _ => .any) (.func 22) [(.tmp 14), (.const (.bool true)), (.tmp 15), (.tmp 16), (.tmp 17)] [(e_api_Place p0), (.bool true), (e_a8_u32 (aset (fun _ => 0) [])), (e_a8_u32 p1), (e_a8_u32 p2)] [] true [(e_api_Place p0), (.bool true), (e_a8_u32 (aset (fun _ => 0) [])), (e_a8_u32 p1), (e_a8_u32 p2)] (resV [(e_api_Place v1.1), (.bool v1.2)]) _ _ rfl fo22 rfl ⟨trivial, (fun _ => rfl), trivial, trivial, trivial, trivial⟩ ⟨.data _ (d_api_Place p0), .data _ trivial, .data _ (d_a8_u32 (aset (fun _ => 0) [])), .data _ (d_a8_u32 p1), .data _ (d_a8_u32 p2), trivial⟩ (congressref11_Next_spec p0 true (aset (fun _ => 0) []) p1 p2 _ h2) (res_flat2 (f_api_Place v1.1) trivial)), ⟨⟨rfl, rfl, rfl, rfl, trivial⟩, trivial, rfl⟩, rfl,
    Step.plain rfl (does_move (.tmp 18) (resV [(e_api_Place v1.1), (.bool v1.2)]) trivial), ⟨⟨rfl, trivial⟩, trivial, rfl⟩, rfl,
    Step.plain rfl (does_extract 13 0 2 (fun j => [(e_api_Place v1.1), (.bool v1.2)].getD j (.bool false)) (Nat.le_of_ble_eq_true rfl)), ⟨⟨rfl, trivial⟩, trivial, rfl⟩, rfl,
    Step.plain rfl (does_extract 13 1 2 (fun j => [(e_api_Place v1.1), (.bool v1.2)].getD j (.bool false)) (Nat.le_of_ble_eq_true rfl)), ⟨⟨rfl, trivial⟩, trivial, rfl⟩, rfl,
    Step.plain rfl (does_alloc 28 5 (e_api_Place z_api_Place) zr28), ⟨trivial, trivial, rfl⟩, rfl,
    Step.plain rfl (does_store 28 8 (.tmp 19) 5 0 [] (.var (e_api_Place z_api_Place)) (.var (e_api_Place v1.1)) (e_api_Place v1.1) true trivial rfl trivial rfl rfl rfl ty28), ⟨⟨rfl, rfl, trivial⟩, ⟨rfl, trivial⟩, rfl⟩, rfl,
    Step.plain rfl (does_assign (.tmp 20) (.bool v1.2) trivial), ⟨⟨rfl, trivial⟩, trivial, rfl⟩, rfl, rfl⟩ ?_
  refine aw_cov (cov_prune (s1 := ⟨[(4, (.ptr 1 0 [])), (5, (.ptr 2 0 [])), (7, (.own 4)), (8, (.ptr 5 0 [])), (9, (.bool v1.2))], [(1, some (.var (e_a8_u32 p1))), (2, some (.var (e_a8_u32 p2))), (4, some (.arr 3 ([] : _root_.List api_Place).length fun j => (e_api_Place (([] : _root_.List api_Place).getD j z_api_Place)))), (5, some (.var (e_api_Place v1.1)))], 6⟩) ⟨rfl, rfl, rfl, rfl, rfl, trivial⟩ ⟨rfl, rfl, rfl, rfl, trivial⟩ (Nat.le_refl _)) ?_
  refine aw_seq ?_
  obtain ⟨wn4, hwn4, Hrn4⟩ := bnd H
  refine aw_meet (fun y8 : _root_.List api_Place => (⟨[(7, (.own 4))], [(4, some (.arr 3 y8.length fun j => (e_api_Place (y8.getD j z_api_Place))))], 6⟩ : St)) (fun y8 => Fl.nx y8 = wn4) (fun y8 hy => ?_) (aw_block (aw_runs (fun x3 : Bool × _root_.List api_Place × api_Place => (⟨[(4, (.ptr 1 0 [])), (5, (.ptr 2 0 [])), (7, (.own 4)), (8, (.ptr 5 0 [])), (9, (.bool x3.1))], [(1, some (.var (e_a8_u32 p1))), (2, some (.var (e_a8_u32 p2))), (4, some (.arr 3 x3.2.1.length fun j => (e_api_Place (x3.2.1.getD j z_api_Place)))), (5, some (.var (e_api_Place x3.2.2)))], 6⟩ : St)) hwn4 (cov_prune ⟨rfl, rfl, rfl, rfl, rfl, trivial⟩ ⟨rfl, rfl, rfl, rfl, trivial⟩ (Nat.le_of_ble_eq_true rfl)) (fun x3 st H hsn4 => ?_)))
  · have H := nx_of hy Hrn4
    refine nx_seq ?_
    refine aw_region (es := [_, _]) ⟨Step.plain rfl (does_move (.tmp 7) (.own 4) trivial), ⟨⟨rfl, trivial⟩, trivial, rfl⟩, rfl,
      Step.plain rfl (does_assign (.tmp 41) (.own 4) trivial), ⟨⟨rfl, trivial⟩, trivial, rfl⟩, rfl, rfl⟩ ?_
    refine aw_cov (cov_prune (s1 := ⟨[(6, (.own 4))], [(4, some (.arr 3 y8.length fun j => (e_api_Place (y8.getD j z_api_Place))))], 6⟩) ⟨rfl, trivial⟩ ⟨rfl, trivial⟩ (Nat.le_refl _)) ?_
    refine aw_ret ?_
    exact fun a w hr => ⟨_, [(.own 0)], reach_of hr (cov_to (s1 := ⟨[(6, (.own 0))], [(0, some (.arr 3 y8.length fun j => (e_api_Place (y8.getD j z_api_Place))))], 1⟩) (fun i => match i with | 0 => 4 | k => k) [] ⟨⟨_, rfl, .own 0 _ _ (Nat.le_of_ble_eq_true rfl) rfl rfl (Box.like_refl _)⟩, trivial⟩ ⟨⟨Nat.le_of_ble_eq_true rfl, _, _, rfl, rfl, boxTo_arr (fun _ => (d_api_Place _))⟩, trivial⟩ rfl rfl), ⟨rfl, trivial⟩, by decide, by cases H; rfl, by cases H; exact ⟨rfl, trivial⟩, Nat.le_of_ble_eq_true rfl⟩
  · refine aw_seq ?_
    refine aw_region (es := [_, _, _, _, _, _]) ⟨Step.plain rfl (does_move (.tmp 9) (.bool x3.1) trivial), ⟨⟨rfl, trivial⟩, trivial, rfl⟩, rfl,
      Step.plain rfl (does_move (.tmp 21) (.bool x3.1) trivial), ⟨⟨rfl, trivial⟩, trivial, rfl⟩, rfl,
      Step.guarded rfl rfl rfl rfl (fun hc => does_move (.tmp 7) (.own 4) trivial), ⟨⟨rfl, rfl, trivial⟩, trivial, rfl⟩, rfl,
      Step.guarded rfl rfl rfl rfl (fun hc => Does.strip (n' := [(23, (.opt x3.1 (.own 4)))]) (n := [(23, (.own 4))]) ⟨(.opt _ _ hc), trivial⟩ (does_leno 36 3 x3.2.1.length 23 4 (fun j => (e_api_Place (x3.2.1.getD j z_api_Place))) el36)), ⟨⟨rfl, rfl, trivial⟩, ⟨rfl, trivial⟩, rfl⟩, rfl,
      Step.guarded rfl rfl rfl rfl (fun hc => Does.strip (n' := [(24, (.opt x3.1 (.int .i64 (x3.2.1.length : Int))))]) (n := [(24, (.int .i64 (x3.2.1.length : Int)))]) ⟨(.opt _ _ hc), trivial⟩ (does_bin .lss 3 3 (.tmp 24) (.const (.int .i64 100)) .i64 (x3.2.1.length : Int) 100 (.bool (decide ((x3.2.1.length : Int) < 100))) trivial (fun _ => rfl) (bin_lss _ _ _ _))), ⟨⟨rfl, rfl, trivial⟩, trivial, rfl⟩, rfl,
      Step.plain rfl (does_and 22 25 x3.1 (decide ((x3.2.1.length : Int) < 100))), ⟨⟨rfl, rfl, trivial⟩, trivial, rfl⟩, rfl, rfl⟩ ?_
    refine aw_cov (cov_prune (s1 := ⟨[(4, (.ptr 1 0 [])), (5, (.ptr 2 0 [])), (7, (.own 4)), (8, (.ptr 5 0 [])), (26, (.bool (x3.1 && (decide ((x3.2.1.length : Int) < 100)))))], [(1, some (.var (e_a8_u32 p1))), (2, some (.var (e_a8_u32 p2))), (4, some (.arr 3 x3.2.1.length fun j => (e_api_Place (x3.2.1.getD j z_api_Place)))), (5, some (.var (e_api_Place x3.2.2)))], 6⟩) ⟨rfl, rfl, rfl, rfl, rfl, trivial⟩ ⟨rfl, rfl, rfl, rfl, trivial⟩ (Nat.le_refl _)) ?_
    refine aw_cond rfl (fun hc => ?_) (fun hc => ?_)
    · replace H := ite_t hc H
      refine aw_skip ?_
      refine nx_seq ?_
      refine aw_block ?_
      obtain ⟨h5, H⟩ := fit_of H
      refine aw_region (es := [_, _, _, _, _]) ⟨Step.plain rfl (does_move (.tmp 7) (.own 4) trivial), ⟨⟨rfl, trivial⟩, trivial, rfl⟩, rfl,
        Step.plain rfl (does_load 28 8 5 0 [] (.var (e_api_Place x3.2.2)) (e_api_Place x3.2.2) trivial rfl rfl ty28), ⟨⟨rfl, trivial⟩, ⟨rfl, trivial⟩, rfl⟩, rfl,
        Step.plain rfl (does_buildSl 36 1 3 (e_api_Place z_api_Place) (fun j => (e_api_Place (([x3.2.2] : _root_.List api_Place).getD j z_api_Place))) #[(0, (.tmp 28))] [(0, (.tmp 28))] [(0, (e_api_Place x3.2.2))] rfl so36 (by decide) ⟨⟨rfl, trivial⟩, trivial⟩ ⟨⟨Nat.le_of_ble_eq_true rfl, rfl, rfl⟩, trivial⟩ (fun j h => match j, h with | 0, _ => rfl | k + 1, h => absurd h (by omega))), ⟨⟨rfl, trivial⟩, trivial, rfl⟩, rfl,
        Step.plain rfl (does_appendL e_api_Place z_api_Place x3.2.1 ([x3.2.2] : _root_.List api_Place) 36 3 24 4 6 27 29 ap36 h5), ⟨⟨rfl, rfl, trivial⟩, ⟨rfl, trivial⟩, rfl⟩, rfl,
        Step.plain rfl (does_assign (.tmp 30) (.own 6) trivial), ⟨⟨rfl, trivial⟩, trivial, rfl⟩, rfl, rfl⟩ ?_
      refine aw_cov (cov_prune (s1 := ⟨[(4, (.ptr 1 0 [])), (5, (.ptr 2 0 [])), (8, (.ptr 5 0 [])), (7, (.own 6))], [(1, some (.var (e_a8_u32 p1))), (2, some (.var (e_a8_u32 p2))), (5, some (.var (e_api_Place x3.2.2))), (6, some (.arr 3 (x3.2.1 ++ ([x3.2.2] : _root_.List api_Place)).length fun j => (e_api_Place ((x3.2.1 ++ ([x3.2.2] : _root_.List api_Place)).getD j z_api_Place))))], 7⟩) ⟨rfl, rfl, rfl, rfl, trivial⟩ ⟨rfl, rfl, rfl, rfl, trivial⟩ (Nat.le_refl _)) ?_
      obtain ⟨v6, h7, H⟩ := bnd H
      refine aw_region (es := [_, _, _, _, _, _, _, _, _, _, _]) ⟨Step.plain rfl (does_load 28 8 5 0 [] (.var (e_api_Place x3.2.2)) (e_api_Place x3.2.2) trivial rfl rfl ty28), ⟨⟨rfl, trivial⟩, ⟨rfl, trivial⟩, rfl⟩, rfl,
        Step.plain rfl (does_buildT 25 #[] [] [] (.ar 8 1) (fun j => (.int .u32 ((fun _ => 0) j))) (fun j => (.int .u32 ((aset (fun _ => 0) []) j))) rfl bo25 trivial trivial (setAll_map (fun z => V.int .u32 z) [] _)), ⟨trivial, trivial, rfl⟩, rfl,
        Step.plain rfl (does_load 25 4 1 0 [] (.var (e_a8_u32 p1)) (e_a8_u32 p1) trivial rfl rfl ty25), ⟨⟨rfl, trivial⟩, ⟨rfl, trivial⟩, rfl⟩, rfl,
        Step.plain rfl (does_load 26 5 2 0 [] (.var (e_a8_u32 p2)) (e_a8_u32 p2) trivial rfl rfl ty26), ⟨⟨rfl, trivial⟩, ⟨rfl, trivial⟩, rfl⟩, rfl,
        Step.plain rfl (does_call 22 0 (fun _ => .any) (.func 22) [(.tmp 32), (.const (.bool false)), (.tmp 33), (.tmp 34), (.tmp 35)] [(e_api_Place x3.2.2), (.bool false), (e_a8_u32 (aset (fun _ => 0) [])), (e_a8_u32 p1), (e_a8_u32 p2)] [] true [(e_api_Place x3.2.2), (.bool false), (e_a8_u32 (aset (fun _ => 0) [])), (e_a8_u32 p1), (e_a8_u32 p2)] (resV [(e_api_Place v6.1), (.bool v6.2)]) _ _ rfl fo22 rfl ⟨trivial, (fun _ => rfl), trivial, trivial, trivial, trivial⟩ ⟨.data _ (d_api_Place x3.2.2), .data _ trivial, .data _ (d_a8_u32 (aset (fun _ => 0) [])), .data _ (d_a8_u32 p1), .data _ (d_a8_u32 p2), trivial⟩ (congressref11_Next_spec x3.2.2 false (aset (fun _ => 0) []) p1 p2 _ h7) (res_flat2 (f_api_Place v6.1) trivial)), ⟨⟨rfl, rfl, rfl, rfl, trivial⟩, trivial, rfl⟩, rfl,
        Step.plain rfl (does_move (.tmp 36) (resV [(e_api_Place v6.1), (.bool v6.2)]) trivial), ⟨⟨rfl, trivial⟩, trivial, rfl⟩, rfl,
        Step.plain rfl (does_extract 31 0 2 (fun j => [(e_api_Place v6.1), (.bool v6.2)].getD j (.bool false)) (Nat.le_of_ble_eq_true rfl)), ⟨⟨rfl, trivial⟩, trivial, rfl⟩, rfl,
        Step.plain rfl (does_extract 31 1 2 (fun j => [(e_api_Place v6.1), (.bool v6.2)].getD j (.bool false)) (Nat.le_of_ble_eq_true rfl)), ⟨⟨rfl, trivial⟩, trivial, rfl⟩, rfl,
        Step.plain rfl (does_alloc 28 7 (e_api_Place z_api_Place) zr28), ⟨trivial, trivial, rfl⟩, rfl,
        Step.plain rfl (does_store 28 10 (.tmp 37) 7 0 [] (.var (e_api_Place z_api_Place)) (.var (e_api_Place v6.1)) (e_api_Place v6.1) true trivial rfl trivial rfl rfl rfl ty28), ⟨⟨rfl, rfl, trivial⟩, ⟨rfl, trivial⟩, rfl⟩, rfl,
        Step.plain rfl (does_assign (.tmp 38) (.bool v6.2) trivial), ⟨⟨rfl, trivial⟩, trivial, rfl⟩, rfl, rfl⟩ ?_
      refine aw_cov (cov_prune (s1 := ⟨[(4, (.ptr 1 0 [])), (5, (.ptr 2 0 [])), (8, (.ptr 5 0 [])), (7, (.own 6)), (10, (.ptr 7 0 [])), (11, (.bool v6.2))], [(1, some (.var (e_a8_u32 p1))), (2, some (.var (e_a8_u32 p2))), (5, some (.var (e_api_Place x3.2.2))), (6, some (.arr 3 (x3.2.1 ++ ([x3.2.2] : _root_.List api_Place)).length fun j => (e_api_Place ((x3.2.1 ++ ([x3.2.2] : _root_.List api_Place)).getD j z_api_Place)))), (7, some (.var (e_api_Place v6.1)))], 8⟩) ⟨rfl, rfl, rfl, rfl, rfl, rfl, trivial⟩ ⟨rfl, rfl, rfl, rfl, rfl, trivial⟩ (Nat.le_refl _)) ?_
      refine aw_region (es := [_, _]) ⟨Step.plain rfl (does_load 28 10 7 0 [] (.var (e_api_Place v6.1)) (e_api_Place v6.1) trivial rfl rfl ty28), ⟨⟨rfl, trivial⟩, ⟨rfl, trivial⟩, rfl⟩, rfl,
        Step.plain rfl (does_store 28 8 (.tmp 39) 5 0 [] (.var (e_api_Place x3.2.2)) (.var (e_api_Place v6.1)) (e_api_Place v6.1) true trivial rfl trivial rfl rfl rfl ty28), ⟨⟨rfl, rfl, trivial⟩, ⟨rfl, trivial⟩, rfl⟩, rfl, rfl⟩ ?_
      refine aw_cov (cov_prune (s1 := ⟨[(4, (.ptr 1 0 [])), (5, (.ptr 2 0 [])), (8, (.ptr 5 0 [])), (7, (.own 6)), (11, (.bool v6.2))], [(1, some (.var (e_a8_u32 p1))), (2, some (.var (e_a8_u32 p2))), (5, some (.var (e_api_Place v6.1))), (6, some (.arr 3 (x3.2.1 ++ ([x3.2.2] : _root_.List api_Place)).length fun j => (e_api_Place ((x3.2.1 ++ ([x3.2.2] : _root_.List api_Place)).getD j z_api_Place))))], 8⟩) ⟨rfl, rfl, rfl, rfl, rfl, trivial⟩ ⟨rfl, rfl, rfl, rfl, trivial⟩ (Nat.le_refl _)) ?_
      refine aw_region1 (es := [_, _]) ⟨Step.plain rfl (does_move (.tmp 11) (.bool v6.2) trivial), ⟨⟨rfl, trivial⟩, trivial, rfl⟩, rfl,
        Step.plain rfl (does_assign (.tmp 40) (.bool v6.2) trivial), ⟨⟨rfl, trivial⟩, trivial, rfl⟩, rfl, rfl⟩ ?_
      refine nx_blk ?_
      exact nx_loop (v6.2, (x3.2.1 ++ ([x3.2.2] : _root_.List api_Place)), v6.1) H (cov_of (fun i => match i with | 1 => 1 | 2 => 2 | 4 => 6 | 5 => 5 | k => k) ⟨⟨_, rfl, ⟨rfl, Nat.le_of_ble_eq_true rfl⟩⟩, ⟨_, rfl, ⟨rfl, Nat.le_of_ble_eq_true rfl⟩⟩, ⟨_, rfl, ⟨rfl, Nat.le_of_ble_eq_true rfl⟩⟩, ⟨_, rfl, ⟨rfl, Nat.le_of_ble_eq_true rfl⟩⟩, ⟨_, rfl, ⟨rfl, trivial⟩⟩, trivial⟩ ⟨⟨Nat.le_of_ble_eq_true rfl, _, _, rfl, rfl, .inl ⟨rfl, (d_a8_u32 _).plain⟩⟩, ⟨Nat.le_of_ble_eq_true rfl, _, _, rfl, rfl, .inl ⟨rfl, (d_a8_u32 _).plain⟩⟩, ⟨Nat.le_of_ble_eq_true rfl, _, _, rfl, rfl, ⟨rfl, rfl, fun _ => .inl ⟨rfl, (d_api_Place _).plain⟩⟩⟩, ⟨Nat.le_of_ble_eq_true rfl, _, _, rfl, rfl, .inl ⟨rfl, (d_api_Place _).plain⟩⟩, trivial⟩ rfl)
    · replace H := ite_f hc H
      refine aw_exit ?_
      refine ex_then ?_
      refine ex_then ?_
      refine ex_here ?_
      exact nx_ljoin (x3.2.1) H hsn4 (cov_prune ⟨rfl, trivial⟩ ⟨rfl, trivial⟩ (Nat.le_of_ble_eq_true rfl))

theorem congressref11_Rest_data (p0 : api_Place) (p1 : (Nat → Int)) (p2 : (Nat → Int)) (r : (_root_.List api_Place)) (H : congressref11_Rest p0 p1 p2 = some r) : FSpec Try.prog 17 [(e_api_Place p0), (e_a8_u32 p1), (e_a8_u32 p2)] (e_s_api_Place r) :=
  FSpecO.toData (fz := [0]) (congressref11_Rest_spec p0 p1 p2 r H) (d_s_api_Place r) (.frz 0 _ _ _ rfl (fun _ => (d_api_Place _)) (by decide))

theorem congresslaw11_CutTells_spec (p0 : (_root_.List (Nat → Int))) (p1 : congresslaw11_Two) (r : Bool) (H : congresslaw11_CutTells p0 p1 = some r) : FSpec Try.prog 3 [(e_s_a8_u32 p0), (e_congresslaw11_Two p1)] (.bool r) := by
  refine spec_of (fn := Try.f3) (args := [(e_s_a8_u32 p0), (e_congresslaw11_Two p1)]) Try.func3 rfl (Nat.le_of_ble_eq_true rfl) ?_
  rintro ⟨G, w0, W, S, Sp⟩ hG
  cases hG
  unfold congresslaw11_CutTells at H
  refine aw_region (es := [_, _]) ⟨Step.plain rfl (does_box 30 (.tmp 1) 0 (e_congresslaw11_Two p1) trivial rfl), ⟨⟨rfl, trivial⟩, trivial, rfl⟩, rfl,
    Step.plain rfl (does_assign (.const (.bool false)) (.bool false) (fun _ => rfl)), ⟨trivial, trivial, rfl⟩, rfl, rfl⟩ ?_
  refine aw_cov (cov_prune (s1 := ⟨[(0, (e_s_a8_u32 p0)), (3, (.ptr 0 0 []))], [(0, some (.var (e_congresslaw11_Two p1)))], 1⟩) ⟨rfl, rfl, trivial⟩ ⟨rfl, trivial⟩ (Nat.le_refl _)) ?_
  obtain ⟨v1, h2, H⟩ := bnd H
  obtain ⟨v3, h4, H⟩ := whn_of H
  obtain ⟨v5, h6, H⟩ := whn_of H
  obtain ⟨v7, h8, H⟩ := whn_of H
  obtain ⟨v9, h10, H⟩ := whn_of H
  obtain ⟨v11, h12, H⟩ := whn_of H
  obtain ⟨v13, h14, H⟩ := whn_of H
  obtain ⟨v15, h16, H⟩ := whn_of H
  obtain ⟨v17, h18, H⟩ := whn_of H
  obtain ⟨v19, h20, H⟩ := whn_of H
  obtain ⟨v21, h22, H⟩ := whn_of H
  refine aw_draw (es := [_, _, _, _, _, _, _, _, _, _, _, _, _, _, _, _, _, _, _, _, _, _, _, _, _, _, _, _, _, _, _, _, _, _, _, _, _, _, _, _, _, _, _, _, _, _, _, _, _, _, _, _, _, _, _, _]) (mixed) ⟨Step.plain rfl (does_call 8 0 (fun _ => .any) (.func 8) [] [] [] true [] (.bool v1) _ _ rfl fo8 rfl trivial trivial (congresslaw11_fixed_spec _ h2) trivial), ⟨trivial, trivial, rfl⟩, rfl,
    Step.plain rfl (does_move (.tmp 5) (.bool v1) trivial), ⟨⟨rfl, trivial⟩, trivial, rfl⟩, rfl,
    Step.guarded rfl rfl rfl rfl (fun hc => does_move (.tmp 0) (e_s_a8_u32 p0) trivial), ⟨⟨rfl, rfl, trivial⟩, trivial, rfl⟩, rfl,
    Step.guarded rfl rfl rfl rfl (fun hc => Does.strip (n' := [(7, (.opt v1 (e_s_a8_u32 p0)))]) (n := [(7, (e_s_a8_u32 p0))]) ⟨(.opt _ _ hc), trivial⟩ (does_call 9 0 (fun _ => .any) (.func 9) [(.tmp 7)] [(e_s_a8_u32 p0)] [] true [(e_s_a8_u32 p0)] (e_a8_u32 v3) _ _ rfl fo9 rfl ⟨trivial, trivial⟩ ⟨.data _ (d_s_a8_u32 p0), trivial⟩ (cut_Union_spec p0 _ (h4 hc)) (f_a8_u32 v3))), ⟨⟨rfl, rfl, trivial⟩, trivial, rfl⟩, rfl,
    Step.guarded rfl rfl rfl rfl (fun hc => does_move (.tmp 0) (e_s_a8_u32 p0) trivial), ⟨⟨rfl, rfl, trivial⟩, trivial, rfl⟩, rfl,
    Step.guarded rfl rfl rfl rfl (fun hc => Does.strip (n' := [(9, (.opt v1 (e_s_a8_u32 p0)))]) (n := [(9, (e_s_a8_u32 p0))]) ⟨(.opt _ _ hc), trivial⟩ (does_call 10 0 (fun _ => .any) (.func 10) [(.tmp 9)] [(e_s_a8_u32 p0)] [] true [(e_s_a8_u32 p0)] (e_a8_u32 v5) _ _ rfl fo10 rfl ⟨trivial, trivial⟩ ⟨.data _ (d_s_a8_u32 p0), trivial⟩ (congressref11_Union_spec p0 _ (h6 hc)) (f_a8_u32 v5))), ⟨⟨rfl, rfl, trivial⟩, trivial, rfl⟩, rfl,
    Step.guarded rfl rfl rfl rfl (fun hc => Does.strip (n' := [(8, (.opt v1 (e_a8_u32 v3))), (10, (.opt v1 (e_a8_u32 v5)))]) (n := [(8, (e_a8_u32 v3)), (10, (e_a8_u32 v5))]) ⟨(.opt _ _ hc), (.opt _ _ hc), trivial⟩ (does_eqT false 25 25 (.tmp 8) (.tmp 10) (e_a8_u32 v3) (e_a8_u32 v5) (e_a8_u32 (fun _ => 0)) (b_a8_u32 v3 v5) rfl rfl trivial trivial eg25 sh25 (al_a8_u32 _ _) (al_a8_u32 _ _) (q_a8_u32 _ _))), ⟨⟨rfl, rfl, rfl, trivial⟩, trivial, rfl⟩, rfl,
    Step.plain rfl (does_and 6 11 v1 (b_a8_u32 v3 v5)), ⟨⟨rfl, rfl, trivial⟩, trivial, rfl⟩, rfl,
    Step.plain rfl (does_move (.tmp 12) (.bool (v1 && (b_a8_u32 v3 v5))) trivial), ⟨⟨rfl, trivial⟩, trivial, rfl⟩, rfl,
    Step.guarded rfl rfl rfl rfl (fun hc => does_fieldAddr 30 0 0 3 0 0 [] (.var (e_congresslaw11_Two p1)) fl30_0), ⟨⟨rfl, rfl, trivial⟩, ⟨rfl, trivial⟩, rfl⟩, rfl,
    Step.guarded rfl rfl rfl rfl (fun hc => Does.strip (n' := [(14, (.opt (v1 && (b_a8_u32 v3 v5)) (.ptr 0 (0 + 0) [0])))]) (n := [(14, (.ptr 0 (0 + 0) [0]))]) ⟨(.opt _ _ hc), trivial⟩ (does_load 25 14 0 (0 + 0) [0] (.var (e_congresslaw11_Two p1)) (e_a8_u32 p1.A) ⟨rfl, Nat.le_of_ble_eq_true rfl, trivial⟩ rfl rfl ty25)), ⟨⟨rfl, rfl, trivial⟩, ⟨rfl, trivial⟩, rfl⟩, rfl,
    Step.guarded rfl rfl rfl rfl (fun hc => does_fieldAddr 30 1 8 3 0 0 [] (.var (e_congresslaw11_Two p1)) fl30_1), ⟨⟨rfl, rfl, trivial⟩, ⟨rfl, trivial⟩, rfl⟩, rfl,
    Step.guarded rfl rfl rfl rfl (fun hc => Does.strip (n' := [(16, (.opt (v1 && (b_a8_u32 v3 v5)) (.ptr 0 (0 + 8) [1])))]) (n := [(16, (.ptr 0 (0 + 8) [1]))]) ⟨(.opt _ _ hc), trivial⟩ (does_load 25 16 0 (0 + 8) [1] (.var (e_congresslaw11_Two p1)) (e_a8_u32 p1.B) ⟨rfl, Nat.le_of_ble_eq_true rfl, trivial⟩ rfl rfl ty25)), ⟨⟨rfl, rfl, trivial⟩, ⟨rfl, trivial⟩, rfl⟩, rfl,
    Step.guarded rfl rfl rfl rfl (fun hc => Does.strip (n' := [(15, (.opt (v1 && (b_a8_u32 v3 v5)) (e_a8_u32 p1.A))), (17, (.opt (v1 && (b_a8_u32 v3 v5)) (e_a8_u32 p1.B)))]) (n := [(15, (e_a8_u32 p1.A)), (17, (e_a8_u32 p1.B))]) ⟨(.opt _ _ hc), (.opt _ _ hc), trivial⟩ (does_call 11 0 (fun _ => .any) (.func 11) [(.tmp 15), (.tmp 17)] [(e_a8_u32 p1.A), (e_a8_u32 p1.B)] [] true [(e_a8_u32 p1.A), (e_a8_u32 p1.B)] (.bool v7) _ _ rfl fo11 rfl ⟨trivial, trivial, trivial⟩ ⟨.data _ (d_a8_u32 p1.A), .data _ (d_a8_u32 p1.B), trivial⟩ (cut_Within_spec p1.A p1.B _ (h8 hc)) trivial)), ⟨⟨rfl, rfl, rfl, trivial⟩, trivial, rfl⟩, rfl,
    Step.guarded rfl rfl rfl rfl (fun hc => does_fieldAddr 30 0 0 3 0 0 [] (.var (e_congresslaw11_Two p1)) fl30_0), ⟨⟨rfl, rfl, trivial⟩, ⟨rfl, trivial⟩, rfl⟩, rfl,
    Step.guarded rfl rfl rfl rfl (fun hc => Does.strip (n' := [(19, (.opt (v1 && (b_a8_u32 v3 v5)) (.ptr 0 (0 + 0) [0])))]) (n := [(19, (.ptr 0 (0 + 0) [0]))]) ⟨(.opt _ _ hc), trivial⟩ (does_load 25 19 0 (0 + 0) [0] (.var (e_congresslaw11_Two p1)) (e_a8_u32 p1.A) ⟨rfl, Nat.le_of_ble_eq_true rfl, trivial⟩ rfl rfl ty25)), ⟨⟨rfl, rfl, trivial⟩, ⟨rfl, trivial⟩, rfl⟩, rfl,
    Step.guarded rfl rfl rfl rfl (fun hc => does_fieldAddr 30 1 8 3 0 0 [] (.var (e_congresslaw11_Two p1)) fl30_1), ⟨⟨rfl, rfl, trivial⟩, ⟨rfl, trivial⟩, rfl⟩, rfl,
    Step.guarded rfl rfl rfl rfl (fun hc => Does.strip (n' := [(21, (.opt (v1 && (b_a8_u32 v3 v5)) (.ptr 0 (0 + 8) [1])))]) (n := [(21, (.ptr 0 (0 + 8) [1]))]) ⟨(.opt _ _ hc), trivial⟩ (does_load 25 21 0 (0 + 8) [1] (.var (e_congresslaw11_Two p1)) (e_a8_u32 p1.B) ⟨rfl, Nat.le_of_ble_eq_true rfl, trivial⟩ rfl rfl ty25)), ⟨⟨rfl, rfl, trivial⟩, ⟨rfl, trivial⟩, rfl⟩, rfl,
    Step.guarded rfl rfl rfl rfl (fun hc => Does.strip (n' := [(20, (.opt (v1 && (b_a8_u32 v3 v5)) (e_a8_u32 p1.A))), (22, (.opt (v1 && (b_a8_u32 v3 v5)) (e_a8_u32 p1.B)))]) (n := [(20, (e_a8_u32 p1.A)), (22, (e_a8_u32 p1.B))]) ⟨(.opt _ _ hc), (.opt _ _ hc), trivial⟩ (does_call 12 0 (fun _ => .any) (.func 12) [(.tmp 20), (.tmp 22)] [(e_a8_u32 p1.A), (e_a8_u32 p1.B)] [] true [(e_a8_u32 p1.A), (e_a8_u32 p1.B)] (.bool v9) _ _ rfl fo12 rfl ⟨trivial, trivial, trivial⟩ ⟨.data _ (d_a8_u32 p1.A), .data _ (d_a8_u32 p1.B), trivial⟩ (congressref11_Within_spec p1.A p1.B _ (h10 hc)) trivial)), ⟨⟨rfl, rfl, rfl, trivial⟩, trivial, rfl⟩, rfl,
    Step.guarded rfl rfl rfl rfl (fun hc => Does.strip (n' := [(18, (.opt (v1 && (b_a8_u32 v3 v5)) (.bool v7))), (23, (.opt (v1 && (b_a8_u32 v3 v5)) (.bool v9)))]) (n := [(18, (.bool v7)), (23, (.bool v9))]) ⟨(.opt _ _ hc), (.opt _ _ hc), trivial⟩ (does_eqBool false 4 4 (.tmp 18) (.tmp 23) v7 v9 trivial trivial rfl)), ⟨⟨rfl, rfl, rfl, trivial⟩, trivial, rfl⟩, rfl,
    Step.plain rfl (does_and 13 24 (v1 && (b_a8_u32 v3 v5)) (v7 == v9)), ⟨⟨rfl, rfl, trivial⟩, trivial, rfl⟩, rfl,
    Step.plain rfl (does_move (.tmp 25) (.bool ((v1 && (b_a8_u32 v3 v5)) && (v7 == v9))) trivial), ⟨⟨rfl, trivial⟩, trivial, rfl⟩, rfl,
    Step.guarded rfl rfl rfl rfl (fun hc => does_fieldAddr 30 0 0 3 0 0 [] (.var (e_congresslaw11_Two p1)) fl30_0), ⟨⟨rfl, rfl, trivial⟩, ⟨rfl, trivial⟩, rfl⟩, rfl,
    Step.guarded rfl rfl rfl rfl (fun hc => Does.strip (n' := [(27, (.opt ((v1 && (b_a8_u32 v3 v5)) && (v7 == v9)) (.ptr 0 (0 + 0) [0])))]) (n := [(27, (.ptr 0 (0 + 0) [0]))]) ⟨(.opt _ _ hc), trivial⟩ (does_load 25 27 0 (0 + 0) [0] (.var (e_congresslaw11_Two p1)) (e_a8_u32 p1.A) ⟨rfl, Nat.le_of_ble_eq_true rfl, trivial⟩ rfl rfl ty25)), ⟨⟨rfl, rfl, trivial⟩, ⟨rfl, trivial⟩, rfl⟩, rfl,
    Step.guarded rfl rfl rfl rfl (fun hc => does_fieldAddr 30 1 8 3 0 0 [] (.var (e_congresslaw11_Two p1)) fl30_1), ⟨⟨rfl, rfl, trivial⟩, ⟨rfl, trivial⟩, rfl⟩, rfl,
    Step.guarded rfl rfl rfl rfl (fun hc => Does.strip (n' := [(29, (.opt ((v1 && (b_a8_u32 v3 v5)) && (v7 == v9)) (.ptr 0 (0 + 8) [1])))]) (n := [(29, (.ptr 0 (0 + 8) [1]))]) ⟨(.opt _ _ hc), trivial⟩ (does_load 25 29 0 (0 + 8) [1] (.var (e_congresslaw11_Two p1)) (e_a8_u32 p1.B) ⟨rfl, Nat.le_of_ble_eq_true rfl, trivial⟩ rfl rfl ty25)), ⟨⟨rfl, rfl, trivial⟩, ⟨rfl, trivial⟩, rfl⟩, rfl,
    Step.guarded rfl rfl rfl rfl (fun hc => does_fieldAddr 30 2 16 3 0 0 [] (.var (e_congresslaw11_Two p1)) fl30_2), ⟨⟨rfl, rfl, trivial⟩, ⟨rfl, trivial⟩, rfl⟩, rfl,
    Step.guarded rfl rfl rfl rfl (fun hc => Does.strip (n' := [(31, (.opt ((v1 && (b_a8_u32 v3 v5)) && (v7 == v9)) (.ptr 0 (0 + 16) [2])))]) (n := [(31, (.ptr 0 (0 + 16) [2]))]) ⟨(.opt _ _ hc), trivial⟩ (does_load 26 31 0 (0 + 16) [2] (.var (e_congresslaw11_Two p1)) (e_a8_u32 p1.M) ⟨rfl, Nat.le_of_ble_eq_true rfl, trivial⟩ rfl rfl ty26)), ⟨⟨rfl, rfl, trivial⟩, ⟨rfl, trivial⟩, rfl⟩, rfl,
    Step.guarded rfl rfl rfl rfl (fun hc => Does.strip (n' := [(28, (.opt ((v1 && (b_a8_u32 v3 v5)) && (v7 == v9)) (e_a8_u32 p1.A))), (30, (.opt ((v1 && (b_a8_u32 v3 v5)) && (v7 == v9)) (e_a8_u32 p1.B))), (32, (.opt ((v1 && (b_a8_u32 v3 v5)) && (v7 == v9)) (e_a8_u32 p1.M)))]) (n := [(28, (e_a8_u32 p1.A)), (30, (e_a8_u32 p1.B)), (32, (e_a8_u32 p1.M))]) ⟨(.opt _ _ hc), (.opt _ _ hc), (.opt _ _ hc), trivial⟩ (does_call 14 0 (fun _ => .any) (.func 14) [(.tmp 28), (.tmp 30), (.tmp 32)] [(e_a8_u32 p1.A), (e_a8_u32 p1.B), (e_a8_u32 p1.M)] [] false [(e_a8_u32 p1.A), (e_a8_u32 p1.B), (e_a8_u32 p1.M)] (e_s_api_Place v11) _ _ rfl fo14 rfl ⟨trivial, trivial, trivial, trivial⟩ ⟨.data _ (d_a8_u32 p1.A), .data _ (d_a8_u32 p1.B), .data _ (d_a8_u32 p1.M), trivial⟩ (cut_Missing_data p1.A p1.B p1.M _ (h12 hc)) (d_s_api_Place v11))), ⟨⟨rfl, rfl, rfl, rfl, trivial⟩, trivial, rfl⟩, rfl,
    Step.guarded rfl rfl rfl rfl (fun hc => does_fieldAddr 30 0 0 3 0 0 [] (.var (e_congresslaw11_Two p1)) fl30_0), ⟨⟨rfl, rfl, trivial⟩, ⟨rfl, trivial⟩, rfl⟩, rfl,
    Step.guarded rfl rfl rfl rfl (fun hc => Does.strip (n' := [(34, (.opt ((v1 && (b_a8_u32 v3 v5)) && (v7 == v9)) (.ptr 0 (0 + 0) [0])))]) (n := [(34, (.ptr 0 (0 + 0) [0]))]) ⟨(.opt _ _ hc), trivial⟩ (does_load 25 34 0 (0 + 0) [0] (.var (e_congresslaw11_Two p1)) (e_a8_u32 p1.A) ⟨rfl, Nat.le_of_ble_eq_true rfl, trivial⟩ rfl rfl ty25)), ⟨⟨rfl, rfl, trivial⟩, ⟨rfl, trivial⟩, rfl⟩, rfl,
    Step.guarded rfl rfl rfl rfl (fun hc => does_fieldAddr 30 1 8 3 0 0 [] (.var (e_congresslaw11_Two p1)) fl30_1), ⟨⟨rfl, rfl, trivial⟩, ⟨rfl, trivial⟩, rfl⟩, rfl,
    Step.guarded rfl rfl rfl rfl (fun hc => Does.strip (n' := [(36, (.opt ((v1 && (b_a8_u32 v3 v5)) && (v7 == v9)) (.ptr 0 (0 + 8) [1])))]) (n := [(36, (.ptr 0 (0 + 8) [1]))]) ⟨(.opt _ _ hc), trivial⟩ (does_load 25 36 0 (0 + 8) [1] (.var (e_congresslaw11_Two p1)) (e_a8_u32 p1.B) ⟨rfl, Nat.le_of_ble_eq_true rfl, trivial⟩ rfl rfl ty25)), ⟨⟨rfl, rfl, trivial⟩, ⟨rfl, trivial⟩, rfl⟩, rfl,
    Step.guarded rfl rfl rfl rfl (fun hc => does_fieldAddr 30 2 16 3 0 0 [] (.var (e_congresslaw11_Two p1)) fl30_2), ⟨⟨rfl, rfl, trivial⟩, ⟨rfl, trivial⟩, rfl⟩, rfl,
    Step.guarded rfl rfl rfl rfl (fun hc => Does.strip (n' := [(38, (.opt ((v1 && (b_a8_u32 v3 v5)) && (v7 == v9)) (.ptr 0 (0 + 16) [2])))]) (n := [(38, (.ptr 0 (0 + 16) [2]))]) ⟨(.opt _ _ hc), trivial⟩ (does_load 26 38 0 (0 + 16) [2] (.var (e_congresslaw11_Two p1)) (e_a8_u32 p1.M) ⟨rfl, Nat.le_of_ble_eq_true rfl, trivial⟩ rfl rfl ty26)), ⟨⟨rfl, rfl, trivial⟩, ⟨rfl, trivial⟩, rfl⟩, rfl,
    Step.guarded rfl rfl rfl rfl (fun hc => Does.strip (n' := [(35, (.opt ((v1 && (b_a8_u32 v3 v5)) && (v7 == v9)) (e_a8_u32 p1.A))), (37, (.opt ((v1 && (b_a8_u32 v3 v5)) && (v7 == v9)) (e_a8_u32 p1.B))), (39, (.opt ((v1 && (b_a8_u32 v3 v5)) && (v7 == v9)) (e_a8_u32 p1.M)))]) (n := [(35, (e_a8_u32 p1.A)), (37, (e_a8_u32 p1.B)), (39, (e_a8_u32 p1.M))]) ⟨(.opt _ _ hc), (.opt _ _ hc), (.opt _ _ hc), trivial⟩ (does_call 15 0 (fun _ => .any) (.func 15) [(.tmp 35), (.tmp 37), (.tmp 39)] [(e_a8_u32 p1.A), (e_a8_u32 p1.B), (e_a8_u32 p1.M)] [] false [(e_a8_u32 p1.A), (e_a8_u32 p1.B), (e_a8_u32 p1.M)] (e_s_api_Place v13) _ _ rfl fo15 rfl ⟨trivial, trivial, trivial, trivial⟩ ⟨.data _ (d_a8_u32 p1.A), .data _ (d_a8_u32 p1.B), .data _ (d_a8_u32 p1.M), trivial⟩ (congressref11_Missing_data p1.A p1.B p1.M _ (h14 hc)) (d_s_api_Place v13))), ⟨⟨rfl, rfl, rfl, rfl, trivial⟩, trivial, rfl⟩, rfl,
    Step.guarded rfl rfl rfl rfl (fun hc => Does.strip (n' := [(33, (.opt ((v1 && (b_a8_u32 v3 v5)) && (v7 == v9)) (e_s_api_Place v11))), (40, (.opt ((v1 && (b_a8_u32 v3 v5)) && (v7 == v9)) (e_s_api_Place v13)))]) (n := [(33, (e_s_api_Place v11)), (40, (e_s_api_Place v13))]) ⟨(.opt _ _ hc), (.opt _ _ hc), trivial⟩ (does_call 13 0 (fun _ => .any) (.func 13) [(.tmp 33), (.tmp 40)] [(e_s_api_Place v11), (e_s_api_Place v13)] [] true [(e_s_api_Place v11), (e_s_api_Place v13)] (.bool v15) _ _ rfl fo13 rfl ⟨trivial, trivial, trivial⟩ ⟨.data _ (d_s_api_Place v11), .data _ (d_s_api_Place v13), trivial⟩ (congressref11_Places_spec v11 v13 _ (h16 hc)) trivial)), ⟨⟨rfl, rfl, rfl, trivial⟩, trivial, rfl⟩, rfl,
    Step.plain rfl (does_and 26 41 ((v1 && (b_a8_u32 v3 v5)) && (v7 == v9)) v15), ⟨⟨rfl, rfl, trivial⟩, trivial, rfl⟩, rfl,
    Step.plain rfl (does_move (.tmp 42) (.bool (((v1 && (b_a8_u32 v3 v5)) && (v7 == v9)) && v15)) trivial), ⟨⟨rfl, trivial⟩, trivial, rfl⟩, rfl,
    Step.guarded rfl rfl rfl rfl (fun hc => does_fieldAddr 30 3 24 3 0 0 [] (.var (e_congresslaw11_Two p1)) fl30_3), ⟨⟨rfl, rfl, trivial⟩, ⟨rfl, trivial⟩, rfl⟩, rfl,
    Step.guarded rfl rfl rfl rfl (fun hc => Does.strip (n' := [(44, (.opt (((v1 && (b_a8_u32 v3 v5)) && (v7 == v9)) && v15) (.ptr 0 (0 + 24) [3])))]) (n := [(44, (.ptr 0 (0 + 24) [3]))]) ⟨(.opt _ _ hc), trivial⟩ (does_load 28 44 0 (0 + 24) [3] (.var (e_congresslaw11_Two p1)) (e_api_Place p1.Given) ⟨rfl, Nat.le_of_ble_eq_true rfl, trivial⟩ rfl rfl ty28)), ⟨⟨rfl, rfl, trivial⟩, ⟨rfl, trivial⟩, rfl⟩, rfl,
    Step.guarded rfl rfl rfl rfl (fun hc => does_fieldAddr 30 1 8 3 0 0 [] (.var (e_congresslaw11_Two p1)) fl30_1), ⟨⟨rfl, rfl, trivial⟩, ⟨rfl, trivial⟩, rfl⟩, rfl,
    Step.guarded rfl rfl rfl rfl (fun hc => Does.strip (n' := [(46, (.opt (((v1 && (b_a8_u32 v3 v5)) && (v7 == v9)) && v15) (.ptr 0 (0 + 8) [1])))]) (n := [(46, (.ptr 0 (0 + 8) [1]))]) ⟨(.opt _ _ hc), trivial⟩ (does_load 25 46 0 (0 + 8) [1] (.var (e_congresslaw11_Two p1)) (e_a8_u32 p1.B) ⟨rfl, Nat.le_of_ble_eq_true rfl, trivial⟩ rfl rfl ty25)), ⟨⟨rfl, rfl, trivial⟩, ⟨rfl, trivial⟩, rfl⟩, rfl,
    Step.guarded rfl rfl rfl rfl (fun hc => does_fieldAddr 30 2 16 3 0 0 [] (.var (e_congresslaw11_Two p1)) fl30_2), ⟨⟨rfl, rfl, trivial⟩, ⟨rfl, trivial⟩, rfl⟩, rfl,
    Step.guarded rfl rfl rfl rfl (fun hc => Does.strip (n' := [(48, (.opt (((v1 && (b_a8_u32 v3 v5)) && (v7 == v9)) && v15) (.ptr 0 (0 + 16) [2])))]) (n := [(48, (.ptr 0 (0 + 16) [2]))]) ⟨(.opt _ _ hc), trivial⟩ (does_load 26 48 0 (0 + 16) [2] (.var (e_congresslaw11_Two p1)) (e_a8_u32 p1.M) ⟨rfl, Nat.le_of_ble_eq_true rfl, trivial⟩ rfl rfl ty26)), ⟨⟨rfl, rfl, trivial⟩, ⟨rfl, trivial⟩, rfl⟩, rfl,
    Step.guarded rfl rfl rfl rfl (fun hc => Does.strip (n' := [(45, (.opt (((v1 && (b_a8_u32 v3 v5)) && (v7 == v9)) && v15) (e_api_Place p1.Given))), (47, (.opt (((v1 && (b_a8_u32 v3 v5)) && (v7 == v9)) && v15) (e_a8_u32 p1.B))), (49, (.opt (((v1 && (b_a8_u32 v3 v5)) && (v7 == v9)) && v15) (e_a8_u32 p1.M)))]) (n := [(45, (e_api_Place p1.Given)), (47, (e_a8_u32 p1.B)), (49, (e_a8_u32 p1.M))]) ⟨(.opt _ _ hc), (.opt _ _ hc), (.opt _ _ hc), trivial⟩ (does_call 16 0 (fun _ => .any) (.func 16) [(.tmp 45), (.tmp 47), (.tmp 49)] [(e_api_Place p1.Given), (e_a8_u32 p1.B), (e_a8_u32 p1.M)] [] false [(e_api_Place p1.Given), (e_a8_u32 p1.B), (e_a8_u32 p1.M)] (e_s_api_Place v17) _ _ rfl fo16 rfl ⟨trivial, trivial, trivial, trivial⟩ ⟨.data _ (d_api_Place p1.Given), .data _ (d_a8_u32 p1.B), .data _ (d_a8_u32 p1.M), trivial⟩ (cut_Rest_data p1.Given p1.B p1.M _ (h18 hc)) (d_s_api_Place v17))), ⟨⟨rfl, rfl, rfl, rfl, trivial⟩, trivial, rfl⟩, rfl,
    Step.guarded rfl rfl rfl rfl (fun hc => does_fieldAddr 30 3 24 3 0 0 [] (.var (e_congresslaw11_Two p1)) fl30_3), ⟨⟨rfl, rfl, trivial⟩, ⟨rfl, trivial⟩, rfl⟩, rfl,
    Step.guarded rfl rfl rfl rfl (fun hc => Does.strip (n' := [(51, (.opt (((v1 && (b_a8_u32 v3 v5)) && (v7 == v9)) && v15) (.ptr 0 (0 + 24) [3])))]) (n := [(51, (.ptr 0 (0 + 24) [3]))]) ⟨(.opt _ _ hc), trivial⟩ (does_load 28 51 0 (0 + 24) [3] (.var (e_congresslaw11_Two p1)) (e_api_Place p1.Given) ⟨rfl, Nat.le_of_ble_eq_true rfl, trivial⟩ rfl rfl ty28)), ⟨⟨rfl, rfl, trivial⟩, ⟨rfl, trivial⟩, rfl⟩, rfl,
    Step.guarded rfl rfl rfl rfl (fun hc => does_fieldAddr 30 1 8 3 0 0 [] (.var (e_congresslaw11_Two p1)) fl30_1), ⟨⟨rfl, rfl, trivial⟩, ⟨rfl, trivial⟩, rfl⟩, rfl,
    Step.guarded rfl rfl rfl rfl (fun hc => Does.strip (n' := [(53, (.opt (((v1 && (b_a8_u32 v3 v5)) && (v7 == v9)) && v15) (.ptr 0 (0 + 8) [1])))]) (n := [(53, (.ptr 0 (0 + 8) [1]))]) ⟨(.opt _ _ hc), trivial⟩ (does_load 25 53 0 (0 + 8) [1] (.var (e_congresslaw11_Two p1)) (e_a8_u32 p1.B) ⟨rfl, Nat.le_of_ble_eq_true rfl, trivial⟩ rfl rfl ty25)), ⟨⟨rfl, rfl, trivial⟩, ⟨rfl, trivial⟩, rfl⟩, rfl,
    Step.guarded rfl rfl rfl rfl (fun hc => does_fieldAddr 30 2 16 3 0 0 [] (.var (e_congresslaw11_Two p1)) fl30_2), ⟨⟨rfl, rfl, trivial⟩, ⟨rfl, trivial⟩, rfl⟩, rfl,
    Step.guarded rfl rfl rfl rfl (fun hc => Does.strip (n' := [(55, (.opt (((v1 && (b_a8_u32 v3 v5)) && (v7 == v9)) && v15) (.ptr 0 (0 + 16) [2])))]) (n := [(55, (.ptr 0 (0 + 16) [2]))]) ⟨(.opt _ _ hc), trivial⟩ (does_load 26 55 0 (0 + 16) [2] (.var (e_congresslaw11_Two p1)) (e_a8_u32 p1.M) ⟨rfl, Nat.le_of_ble_eq_true rfl, trivial⟩ rfl rfl ty26)), ⟨⟨rfl, rfl, trivial⟩, ⟨rfl, trivial⟩, rfl⟩, rfl,
    Step.guarded rfl rfl rfl rfl (fun hc => Does.strip (n' := [(52, (.opt (((v1 && (b_a8_u32 v3 v5)) && (v7 == v9)) && v15) (e_api_Place p1.Given))), (54, (.opt (((v1 && (b_a8_u32 v3 v5)) && (v7 == v9)) && v15) (e_a8_u32 p1.B))), (56, (.opt (((v1 && (b_a8_u32 v3 v5)) && (v7 == v9)) && v15) (e_a8_u32 p1.M)))]) (n := [(52, (e_api_Place p1.Given)), (54, (e_a8_u32 p1.B)), (56, (e_a8_u32 p1.M))]) ⟨(.opt _ _ hc), (.opt _ _ hc), (.opt _ _ hc), trivial⟩ (does_call 17 0 (fun _ => .any) (.func 17) [(.tmp 52), (.tmp 54), (.tmp 56)] [(e_api_Place p1.Given), (e_a8_u32 p1.B), (e_a8_u32 p1.M)] [] false [(e_api_Place p1.Given), (e_a8_u32 p1.B), (e_a8_u32 p1.M)] (e_s_api_Place v19) _ _ rfl fo17 rfl ⟨trivial, trivial, trivial, trivial⟩ ⟨.data _ (d_api_Place p1.Given), .data _ (d_a8_u32 p1.B), .data _ (d_a8_u32 p1.M), trivial⟩ (congressref11_Rest_data p1.Given p1.B p1.M _ (h20 hc)) (d_s_api_Place v19))), ⟨⟨rfl, rfl, rfl, rfl, trivial⟩, trivial, rfl⟩, rfl,
    Step.guarded rfl rfl rfl rfl (fun hc => Does.strip (n' := [(50, (.opt (((v1 && (b_a8_u32 v3 v5)) && (v7 == v9)) && v15) (e_s_api_Place v17))), (57, (.opt (((v1 && (b_a8_u32 v3 v5)) && (v7 == v9)) && v15) (e_s_api_Place v19)))]) (n := [(50, (e_s_api_Place v17)), (57, (e_s_api_Place v19))]) ⟨(.opt _ _ hc), (.opt _ _ hc), trivial⟩ (does_call 13 0 (fun _ => .any) (.func 13) [(.tmp 50), (.tmp 57)] [(e_s_api_Place v17), (e_s_api_Place v19)] [] true [(e_s_api_Place v17), (e_s_api_Place v19)] (.bool v21) _ _ rfl fo13 rfl ⟨trivial, trivial, trivial⟩ ⟨.data _ (d_s_api_Place v17), .data _ (d_s_api_Place v19), trivial⟩ (congressref11_Places_spec v17 v19 _ (h22 hc)) trivial)), ⟨⟨rfl, rfl, rfl, trivial⟩, trivial, rfl⟩, rfl,
    Step.plain rfl (does_and 43 58 (((v1 && (b_a8_u32 v3 v5)) && (v7 == v9)) && v15) v21), ⟨⟨rfl, rfl, trivial⟩, trivial, rfl⟩, rfl,
    Step.plain rfl (does_assign (.tmp 59) (.bool ((((v1 && (b_a8_u32 v3 v5)) && (v7 == v9)) && v15) && v21)) trivial), ⟨⟨rfl, trivial⟩, trivial, rfl⟩, rfl, rfl⟩ rfl ?_
  refine aw_cov (cov_prune (s1 := ⟨[(4, (.bool ((((v1 && (b_a8_u32 v3 v5)) && (v7 == v9)) && v15) && v21)))], [], 1⟩) ⟨rfl, trivial⟩ trivial (Nat.le_refl _)) ?_
  refine aw_ret ?_
  exact fun a w hr => ⟨_, [(.bool ((((v1 && (b_a8_u32 v3 v5)) && (v7 == v9)) && v15) && v21))], hr, ⟨⟨_, rfl, .data (.bool ((((v1 && (b_a8_u32 v3 v5)) && (v7 == v9)) && v15) && v21)) trivial⟩, trivial⟩, by decide, by cases H; rfl⟩

theorem congresslaw11_CutUnion_spec (p0 : (_root_.List (Nat → Int))) (p1 : (_root_.List (Nat → Int))) (p2 : (Nat → Int)) (r : Bool) (H : congresslaw11_CutUnion p0 p1 p2 = some r) : FSpec Try.prog 4 [(e_s_a8_u32 p0), (e_s_a8_u32 p1), (e_a8_u32 p2)] (.bool r) := by
  refine spec_of (fn := Try.f4) (args := [(e_s_a8_u32 p0), (e_s_a8_u32 p1), (e_a8_u32 p2)]) Try.func4 rfl (Nat.le_of_ble_eq_true rfl) ?_
  rintro ⟨G, w0, W, S, Sp⟩ hG
  cases hG
  unfold congresslaw11_CutUnion at H
  refine aw_region (es := [_, _]) ⟨Step.plain rfl (does_box 25 (.tmp 2) 0 (e_a8_u32 p2) trivial rfl), ⟨⟨rfl, trivial⟩, trivial, rfl⟩, rfl,
    Step.plain rfl (does_assign (.const (.bool false)) (.bool false) (fun _ => rfl)), ⟨trivial, trivial, rfl⟩, rfl, rfl⟩ ?_
  refine aw_cov (cov_prune (s1 := ⟨[(0, (e_s_a8_u32 p0)), (1, (e_s_a8_u32 p1)), (5, (.ptr 0 0 []))], [(0, some (.var (e_a8_u32 p2)))], 1⟩) ⟨rfl, rfl, rfl, trivial⟩ ⟨rfl, trivial⟩ (Nat.le_refl _)) ?_
  refine aw_seq ?_
  obtain ⟨v1, h2, H⟩ := bnd H
  refine aw_region (es := [_, _, _, _, _, _, _, _, _, _, _, _]) ⟨Step.plain rfl (does_call 8 0 (fun _ => .any) (.func 8) [] [] [] true [] (.bool v1) _ _ rfl fo8 rfl trivial trivial (congresslaw11_fixed_spec _ h2) trivial), ⟨trivial, trivial, rfl⟩, rfl,
    Step.plain rfl (does_not 4 (.tmp 11) v1 trivial), ⟨⟨rfl, trivial⟩, trivial, rfl⟩, rfl,
    Step.plain rfl (does_move (.tmp 12) (.bool (!v1)) trivial), ⟨⟨rfl, trivial⟩, trivial, rfl⟩, rfl,
    Step.guarded rfl rfl rfl rfl (fun hc => does_move (.tmp 0) (e_s_a8_u32 p0) trivial), ⟨⟨rfl, rfl, trivial⟩, trivial, rfl⟩, rfl,
    Step.guarded rfl rfl rfl rfl (fun hc => Does.strip (n' := [(14, (.opt (!(!v1)) (e_s_a8_u32 p0)))]) (n := [(14, (e_s_a8_u32 p0))]) ⟨(.opt _ _ hc), trivial⟩ (does_lens 22 8 p0.length 14 (fun j => (e_a8_u32 (p0.getD j (fun _ => 0)))) el22)), ⟨⟨rfl, rfl, trivial⟩, trivial, rfl⟩, rfl,
    Step.guarded rfl rfl rfl rfl (fun hc => Does.strip (n' := [(15, (.opt (!(!v1)) (.int .i64 (p0.length : Int))))]) (n := [(15, (.int .i64 (p0.length : Int)))]) ⟨(.opt _ _ hc), trivial⟩ (does_bin .gtr 3 3 (.tmp 15) (.const (.int .i64 50)) .i64 (p0.length : Int) 50 (.bool (decide ((p0.length : Int) > 50))) trivial (fun _ => rfl) (bin_gtr _ _ _ _))), ⟨⟨rfl, rfl, trivial⟩, trivial, rfl⟩, rfl,
    Step.plain rfl (does_or 13 16 (!v1) (decide ((p0.length : Int) > 50))), ⟨⟨rfl, rfl, trivial⟩, trivial, rfl⟩, rfl,
    Step.plain rfl (does_move (.tmp 17) (.bool ((!v1) || (decide ((p0.length : Int) > 50)))) trivial), ⟨⟨rfl, trivial⟩, trivial, rfl⟩, rfl,
    Step.guarded rfl rfl rfl rfl (fun hc => does_move (.tmp 1) (e_s_a8_u32 p1) trivial), ⟨⟨rfl, rfl, trivial⟩, trivial, rfl⟩, rfl,
    Step.guarded rfl rfl rfl rfl (fun hc => Does.strip (n' := [(19, (.opt (!((!v1) || (decide ((p0.length : Int) > 50)))) (e_s_a8_u32 p1)))]) (n := [(19, (e_s_a8_u32 p1))]) ⟨(.opt _ _ hc), trivial⟩ (does_lens 22 8 p1.length 19 (fun j => (e_a8_u32 (p1.getD j (fun _ => 0)))) el22)), ⟨⟨rfl, rfl, trivial⟩, trivial, rfl⟩, rfl,
    Step.guarded rfl rfl rfl rfl (fun hc => Does.strip (n' := [(20, (.opt (!((!v1) || (decide ((p0.length : Int) > 50)))) (.int .i64 (p1.length : Int))))]) (n := [(20, (.int .i64 (p1.length : Int)))]) ⟨(.opt _ _ hc), trivial⟩ (does_bin .gtr 3 3 (.tmp 20) (.const (.int .i64 50)) .i64 (p1.length : Int) 50 (.bool (decide ((p1.length : Int) > 50))) trivial (fun _ => rfl) (bin_gtr _ _ _ _))), ⟨⟨rfl, rfl, trivial⟩, trivial, rfl⟩, rfl,
    Step.plain rfl (does_or 18 21 ((!v1) || (decide ((p0.length : Int) > 50))) (decide ((p1.length : Int) > 50))), ⟨⟨rfl, rfl, trivial⟩, trivial, rfl⟩, rfl, rfl⟩ ?_
  obtain ⟨v3, hv3, H⟩ := lt_of H
  refine aw_cov (cov_prune (s1 := ⟨[(0, (e_s_a8_u32 p0)), (1, (e_s_a8_u32 p1)), (5, (.ptr 0 0 [])), (22, (.bool v3))], [(0, some (.var (e_a8_u32 p2)))], 1⟩) ⟨rfl, rfl, rfl, (by subst hv3; rfl), trivial⟩ ⟨rfl, trivial⟩ (Nat.le_refl _)) ?_
  refine aw_cond rfl (fun hc => ?_) (fun hc => ?_)
  · replace H := ite_t hc H
    obtain ⟨v4, h5, H⟩ := bnd H
    refine aw_region (es := [_, _]) ⟨Step.plain rfl (does_call 8 0 (fun _ => .any) (.func 8) [] [] [] true [] (.bool v4) _ _ rfl fo8 rfl trivial trivial (congresslaw11_fixed_spec _ h5) trivial), ⟨trivial, trivial, rfl⟩, rfl,
      Step.plain rfl (does_assign (.tmp 23) (.bool v4) trivial), ⟨⟨rfl, trivial⟩, trivial, rfl⟩, rfl, rfl⟩ ?_
    refine aw_cov (cov_prune (s1 := ⟨[(6, (.bool v4))], [], 1⟩) ⟨rfl, trivial⟩ trivial (Nat.le_refl _)) ?_
    refine aw_ret ?_
    refine rt_then ?_
    exact fun a w hr => ⟨_, [(.bool v4)], hr, ⟨⟨_, rfl, .data (.bool v4) trivial⟩, trivial⟩, by decide, by cases H; rfl⟩
  · replace H := ite_f hc H
    refine aw_skip ?_
    refine nx_seq ?_
    obtain ⟨v6, h7, H⟩ := bnd H
    refine aw_region (es := [_, _, _, _]) ⟨Step.plain rfl (does_move (.tmp 0) (e_s_a8_u32 p0) trivial), ⟨⟨rfl, trivial⟩, trivial, rfl⟩, rfl,
      Step.plain rfl (does_call 9 0 (fun _ => .any) (.func 9) [(.tmp 24)] [(e_s_a8_u32 p0)] [] true [(e_s_a8_u32 p0)] (e_a8_u32 v6) _ _ rfl fo9 rfl ⟨trivial, trivial⟩ ⟨.data _ (d_s_a8_u32 p0), trivial⟩ (cut_Union_spec p0 _ h7) (f_a8_u32 v6)), ⟨⟨rfl, trivial⟩, trivial, rfl⟩, rfl,
      Step.plain rfl (does_alloc 25 1 (e_a8_u32 (fun _ => 0)) zr25), ⟨trivial, trivial, rfl⟩, rfl,
      Step.plain rfl (does_store 25 7 (.tmp 25) 1 0 [] (.var (e_a8_u32 (fun _ => 0))) (.var (e_a8_u32 v6)) (e_a8_u32 v6) true trivial rfl trivial rfl rfl rfl ty25), ⟨⟨rfl, rfl, trivial⟩, ⟨rfl, trivial⟩, rfl⟩, rfl, rfl⟩ ?_
    refine aw_cov (cov_prune (s1 := ⟨[(0, (e_s_a8_u32 p0)), (1, (e_s_a8_u32 p1)), (5, (.ptr 0 0 [])), (7, (.ptr 1 0 []))], [(0, some (.var (e_a8_u32 p2))), (1, some (.var (e_a8_u32 v6)))], 2⟩) ⟨rfl, rfl, rfl, rfl, trivial⟩ ⟨rfl, rfl, trivial⟩ (Nat.le_refl _)) ?_
    refine aw_region (es := [_]) ⟨Step.plain rfl (does_assign (.const (.bool true)) (.bool true) (fun _ => rfl)), ⟨trivial, trivial, rfl⟩, rfl, rfl⟩ ?_
    refine aw_cov (cov_prune (s1 := ⟨[(0, (e_s_a8_u32 p0)), (1, (e_s_a8_u32 p1)), (5, (.ptr 0 0 [])), (7, (.ptr 1 0 [])), (8, (.bool true))], [(0, some (.var (e_a8_u32 p2))), (1, some (.var (e_a8_u32 v6)))], 2⟩) ⟨rfl, rfl, rfl, rfl, rfl, trivial⟩ ⟨rfl, rfl, trivial⟩ (Nat.le_refl _)) ?_
    refine aw_seq ?_
    refine aw_region (es := [_]) ⟨Step.plain rfl (does_assign (.const (.int .i64 0)) (.int .i64 0) (fun _ => rfl)), ⟨trivial, trivial, rfl⟩, rfl, rfl⟩ ?_
    refine aw_cov (cov_prune (s1 := ⟨[(0, (e_s_a8_u32 p0)), (1, (e_s_a8_u32 p1)), (5, (.ptr 0 0 [])), (7, (.ptr 1 0 [])), (8, (.bool true)), (9, (.int .i64 0))], [(0, some (.var (e_a8_u32 p2))), (1, some (.var (e_a8_u32 v6)))], 2⟩) ⟨rfl, rfl, rfl, rfl, rfl, rfl, trivial⟩ ⟨rfl, rfl, trivial⟩ (Nat.le_refl _)) ?_
    obtain ⟨wn9, hwn9, Hrn9⟩ := bnd H
    refine aw_meet (fun y16 : Bool => (⟨[(0, (e_s_a8_u32 p0)), (1, (e_s_a8_u32 p1)), (5, (.ptr 0 0 [])), (7, (.ptr 1 0 [])), (8, (.bool y16))], [(0, some (.var (e_a8_u32 p2))), (1, some (.var (e_a8_u32 v6)))], 2⟩ : St)) (fun y16 => Fl.nx y16 = wn9) (fun y16 hy => ?_) (aw_block (aw_runs (fun x8 : Bool × Int => (⟨[(0, (e_s_a8_u32 p0)), (1, (e_s_a8_u32 p1)), (5, (.ptr 0 0 [])), (7, (.ptr 1 0 [])), (8, (.bool x8.1)), (9, (.int .i64 x8.2))], [(0, some (.var (e_a8_u32 p2))), (1, some (.var (e_a8_u32 v6)))], 2⟩ : St)) hwn9 (cov_prune ⟨rfl, rfl, rfl, rfl, rfl, rfl, trivial⟩ ⟨rfl, rfl, trivial⟩ (Nat.le_of_ble_eq_true rfl)) (fun x8 st H hsn9 => ?_)))
    · have H := nx_of hy Hrn9
      refine nx_seq ?_
      obtain ⟨h17, H⟩ := fit_of H
      obtain ⟨h18, H⟩ := fit_of H
      refine aw_region (es := [_, _, _, _, _, _]) ⟨Step.plain rfl (does_buildOwn 22 0 8 2 (e_a8_u32 (fun _ => 0)) (fun j => (e_a8_u32 (([] : _root_.List (Nat → Int)).getD j (fun _ => 0)))) #[] [] [] rfl so22 (by decide) trivial trivial (fun j h => match j, h with  | k + 0, h => absurd h (by omega))), ⟨trivial, trivial, rfl⟩, rfl,
        Step.plain rfl (does_move (.tmp 1) (e_s_a8_u32 p1) trivial), ⟨⟨rfl, trivial⟩, trivial, rfl⟩, rfl,
        Step.plain rfl (does_appendL e_a8_u32 (fun _ => 0) ([] : _root_.List (Nat → Int)) p1 22 8 32 2 3 48 49 ap22 h17), ⟨⟨rfl, rfl, trivial⟩, ⟨rfl, trivial⟩, rfl⟩, rfl,
        Step.plain rfl (does_move (.tmp 0) (e_s_a8_u32 p0) trivial), ⟨⟨rfl, trivial⟩, trivial, rfl⟩, rfl,
        Step.plain rfl (does_appendL e_a8_u32 (fun _ => 0) (([] : _root_.List (Nat → Int)) ++ p1) p0 22 8 32 3 4 50 51 ap22 h18), ⟨⟨rfl, rfl, trivial⟩, ⟨rfl, trivial⟩, rfl⟩, rfl,
        Step.plain rfl (does_assign (.tmp 52) (.own 4) trivial), ⟨⟨rfl, trivial⟩, trivial, rfl⟩, rfl, rfl⟩ ?_
      refine aw_cov (cov_prune (s1 := ⟨[(1, (e_s_a8_u32 p1)), (5, (.ptr 0 0 [])), (7, (.ptr 1 0 [])), (8, (.bool y16)), (10, (.own 4))], [(0, some (.var (e_a8_u32 p2))), (1, some (.var (e_a8_u32 v6))), (4, some (.arr 8 ((([] : _root_.List (Nat → Int)) ++ p1) ++ p0).length fun j => (e_a8_u32 (((([] : _root_.List (Nat → Int)) ++ p1) ++ p0).getD j (fun _ => 0)))))], 5⟩) ⟨rfl, rfl, rfl, rfl, rfl, trivial⟩ ⟨rfl, rfl, rfl, trivial⟩ (Nat.le_refl _)) ?_
      obtain ⟨v19, h20, H⟩ := bnd H
      obtain ⟨v21, h22, H⟩ := whn_of H
      obtain ⟨v23, h24, H⟩ := whn_of H
      obtain ⟨v25, h26, H⟩ := whn_of H
      obtain ⟨v27, h28, H⟩ := whn_of H
      refine aw_draw (es := [_, _, _, _, _, _, _, _, _, _, _, _, _, _, _, _, _, _, _, _, _, _, _, _]) (mixed) ⟨Step.plain rfl (does_load 25 7 1 0 [] (.var (e_a8_u32 v6)) (e_a8_u32 v6) trivial rfl rfl ty25), ⟨⟨rfl, trivial⟩, ⟨rfl, trivial⟩, rfl⟩, rfl,
        Step.plain rfl (does_load 25 5 0 0 [] (.var (e_a8_u32 p2)) (e_a8_u32 p2) trivial rfl rfl ty25), ⟨⟨rfl, trivial⟩, ⟨rfl, trivial⟩, rfl⟩, rfl,
        Step.plain rfl (does_call 11 0 (fun _ => .any) (.func 11) [(.tmp 53), (.tmp 54)] [(e_a8_u32 v6), (e_a8_u32 p2)] [] true [(e_a8_u32 v6), (e_a8_u32 p2)] (.bool v19) _ _ rfl fo11 rfl ⟨trivial, trivial, trivial⟩ ⟨.data _ (d_a8_u32 v6), .data _ (d_a8_u32 p2), trivial⟩ (cut_Within_spec v6 p2 _ h20) trivial), ⟨⟨rfl, rfl, trivial⟩, trivial, rfl⟩, rfl,
        Step.plain rfl (does_move (.tmp 8) (.bool y16) trivial), ⟨⟨rfl, trivial⟩, trivial, rfl⟩, rfl,
        Step.plain rfl (does_eqBool false 4 4 (.tmp 55) (.tmp 56) v19 y16 trivial trivial rfl), ⟨⟨rfl, rfl, trivial⟩, trivial, rfl⟩, rfl,
        Step.plain rfl (does_move (.tmp 57) (.bool (v19 == y16)) trivial), ⟨⟨rfl, trivial⟩, trivial, rfl⟩, rfl,
        Step.guarded rfl rfl rfl rfl (fun hc => does_load 25 7 1 0 [] (.var (e_a8_u32 v6)) (e_a8_u32 v6) trivial rfl rfl ty25), ⟨⟨rfl, rfl, trivial⟩, ⟨rfl, trivial⟩, rfl⟩, rfl,
        Step.guarded rfl rfl rfl rfl (fun hc => does_move (.tmp 1) (e_s_a8_u32 p1) trivial), ⟨⟨rfl, rfl, trivial⟩, trivial, rfl⟩, rfl,
        Step.guarded rfl rfl rfl rfl (fun hc => Does.strip (n' := [(60, (.opt (v19 == y16) (e_s_a8_u32 p1)))]) (n := [(60, (e_s_a8_u32 p1))]) ⟨(.opt _ _ hc), trivial⟩ (does_call 9 0 (fun _ => .any) (.func 9) [(.tmp 60)] [(e_s_a8_u32 p1)] [] true [(e_s_a8_u32 p1)] (e_a8_u32 v21) _ _ rfl fo9 rfl ⟨trivial, trivial⟩ ⟨.data _ (d_s_a8_u32 p1), trivial⟩ (cut_Union_spec p1 _ (h22 hc)) (f_a8_u32 v21))), ⟨⟨rfl, rfl, trivial⟩, trivial, rfl⟩, rfl,
        Step.guarded rfl rfl rfl rfl (fun hc => Does.strip (n' := [(59, (.opt (v19 == y16) (e_a8_u32 v6))), (61, (.opt (v19 == y16) (e_a8_u32 v21)))]) (n := [(59, (e_a8_u32 v6)), (61, (e_a8_u32 v21))]) ⟨(.opt _ _ hc), (.opt _ _ hc), trivial⟩ (does_buildSl 22 2 8 (e_a8_u32 (fun _ => 0)) (fun j => (e_a8_u32 (([v6, v21] : _root_.List (Nat → Int)).getD j (fun _ => 0)))) #[(0, (.tmp 59)), (1, (.tmp 61))] [(0, (.tmp 59)), (1, (.tmp 61))] [(0, (e_a8_u32 v6)), (1, (e_a8_u32 v21))] rfl so22 (by decide) ⟨⟨rfl, trivial⟩, ⟨rfl, trivial⟩, trivial⟩ ⟨⟨Nat.le_of_ble_eq_true rfl, rfl, rfl⟩, ⟨Nat.le_of_ble_eq_true rfl, rfl, rfl⟩, trivial⟩ (fun j h => match j, h with | 0, _ => rfl | 1, _ => rfl | k + 2, h => absurd h (by omega)))), ⟨⟨rfl, rfl, rfl, trivial⟩, trivial, rfl⟩, rfl,
        Step.guarded rfl rfl rfl rfl (fun hc => Does.strip (n' := [(62, (.opt (v19 == y16) (e_s_a8_u32 ([v6, v21] : _root_.List (Nat → Int)))))]) (n := [(62, (e_s_a8_u32 ([v6, v21] : _root_.List (Nat → Int))))]) ⟨(.opt _ _ hc), trivial⟩ (does_call 9 0 (fun _ => .any) (.func 9) [(.tmp 62)] [(e_s_a8_u32 ([v6, v21] : _root_.List (Nat → Int)))] [] true [(e_s_a8_u32 ([v6, v21] : _root_.List (Nat → Int)))] (e_a8_u32 v23) _ _ rfl fo9 rfl ⟨trivial, trivial⟩ ⟨.data _ (d_s_a8_u32 ([v6, v21] : _root_.List (Nat → Int))), trivial⟩ (cut_Union_spec ([v6, v21] : _root_.List (Nat → Int)) _ (h24 hc)) (f_a8_u32 v23))), ⟨⟨rfl, rfl, trivial⟩, trivial, rfl⟩, rfl,
        Step.guarded rfl rfl rfl rfl (fun hc => does_move (.tmp 10) (.own 4) trivial), ⟨⟨rfl, rfl, trivial⟩, trivial, rfl⟩, rfl,
        Step.guarded rfl rfl rfl rfl (fun hc => Does.strip (n' := [(64, (.opt (v19 == y16) (.own 4)))]) (n := [(64, (.own 4))]) ⟨(.opt _ _ hc), trivial⟩ (does_call 9 0 (fun _ => .any) (.func 9) [(.tmp 64)] [(.own 4)] [(4, (.arr 8 ((([] : _root_.List (Nat → Int)) ++ p1) ++ p0).length fun j => (e_a8_u32 (((([] : _root_.List (Nat → Int)) ++ p1) ++ p0).getD j (fun _ => 0)))))] true [(e_s_a8_u32 ((([] : _root_.List (Nat → Int)) ++ p1) ++ p0))] (e_a8_u32 v25) _ _ rfl fo9 rfl ⟨trivial, trivial⟩ ⟨.own 4 _ _ _ (.head _) rfl (fun _ => (d_a8_u32 _)), trivial⟩ (cut_Union_spec ((([] : _root_.List (Nat → Int)) ++ p1) ++ p0) _ (h26 hc)) (f_a8_u32 v25))), ⟨⟨rfl, rfl, trivial⟩, ⟨rfl, trivial⟩, rfl⟩, rfl,
        Step.guarded rfl rfl rfl rfl (fun hc => Does.strip (n' := [(63, (.opt (v19 == y16) (e_a8_u32 v23))), (65, (.opt (v19 == y16) (e_a8_u32 v25)))]) (n := [(63, (e_a8_u32 v23)), (65, (e_a8_u32 v25))]) ⟨(.opt _ _ hc), (.opt _ _ hc), trivial⟩ (does_eqT false 25 25 (.tmp 63) (.tmp 65) (e_a8_u32 v23) (e_a8_u32 v25) (e_a8_u32 (fun _ => 0)) (b_a8_u32 v23 v25) rfl rfl trivial trivial eg25 sh25 (al_a8_u32 _ _) (al_a8_u32 _ _) (q_a8_u32 _ _))), ⟨⟨rfl, rfl, rfl, trivial⟩, trivial, rfl⟩, rfl,
        Step.plain rfl (does_and 58 66 (v19 == y16) (b_a8_u32 v23 v25)), ⟨⟨rfl, rfl, trivial⟩, trivial, rfl⟩, rfl,
        Step.plain rfl (does_move (.tmp 67) (.bool ((v19 == y16) && (b_a8_u32 v23 v25))) trivial), ⟨⟨rfl, trivial⟩, trivial, rfl⟩, rfl,
        Step.guarded rfl rfl rfl rfl (fun hc => does_load 25 7 1 0 [] (.var (e_a8_u32 v6)) (e_a8_u32 v6) trivial rfl rfl ty25), ⟨⟨rfl, rfl, trivial⟩, ⟨rfl, trivial⟩, rfl⟩, rfl,
        Step.guarded rfl rfl rfl rfl (fun hc => does_load 25 7 1 0 [] (.var (e_a8_u32 v6)) (e_a8_u32 v6) trivial rfl rfl ty25), ⟨⟨rfl, rfl, trivial⟩, ⟨rfl, trivial⟩, rfl⟩, rfl,
        Step.guarded rfl rfl rfl rfl (fun hc => Does.strip (n' := [(69, (.opt ((v19 == y16) && (b_a8_u32 v23 v25)) (e_a8_u32 v6))), (70, (.opt ((v19 == y16) && (b_a8_u32 v23 v25)) (e_a8_u32 v6)))]) (n := [(69, (e_a8_u32 v6)), (70, (e_a8_u32 v6))]) ⟨(.opt _ _ hc), (.opt _ _ hc), trivial⟩ (does_buildSl 22 2 8 (e_a8_u32 (fun _ => 0)) (fun j => (e_a8_u32 (([v6, v6] : _root_.List (Nat → Int)).getD j (fun _ => 0)))) #[(0, (.tmp 69)), (1, (.tmp 70))] [(0, (.tmp 69)), (1, (.tmp 70))] [(0, (e_a8_u32 v6)), (1, (e_a8_u32 v6))] rfl so22 (by decide) ⟨⟨rfl, trivial⟩, ⟨rfl, trivial⟩, trivial⟩ ⟨⟨Nat.le_of_ble_eq_true rfl, rfl, rfl⟩, ⟨Nat.le_of_ble_eq_true rfl, rfl, rfl⟩, trivial⟩ (fun j h => match j, h with | 0, _ => rfl | 1, _ => rfl | k + 2, h => absurd h (by omega)))), ⟨⟨rfl, rfl, rfl, trivial⟩, trivial, rfl⟩, rfl,
        Step.guarded rfl rfl rfl rfl (fun hc => Does.strip (n' := [(71, (.opt ((v19 == y16) && (b_a8_u32 v23 v25)) (e_s_a8_u32 ([v6, v6] : _root_.List (Nat → Int)))))]) (n := [(71, (e_s_a8_u32 ([v6, v6] : _root_.List (Nat → Int))))]) ⟨(.opt _ _ hc), trivial⟩ (does_call 9 0 (fun _ => .any) (.func 9) [(.tmp 71)] [(e_s_a8_u32 ([v6, v6] : _root_.List (Nat → Int)))] [] true [(e_s_a8_u32 ([v6, v6] : _root_.List (Nat → Int)))] (e_a8_u32 v27) _ _ rfl fo9 rfl ⟨trivial, trivial⟩ ⟨.data _ (d_s_a8_u32 ([v6, v6] : _root_.List (Nat → Int))), trivial⟩ (cut_Union_spec ([v6, v6] : _root_.List (Nat → Int)) _ (h28 hc)) (f_a8_u32 v27))), ⟨⟨rfl, rfl, trivial⟩, trivial, rfl⟩, rfl,
        Step.guarded rfl rfl rfl rfl (fun hc => does_load 25 7 1 0 [] (.var (e_a8_u32 v6)) (e_a8_u32 v6) trivial rfl rfl ty25), ⟨⟨rfl, rfl, trivial⟩, ⟨rfl, trivial⟩, rfl⟩, rfl,
        Step.guarded rfl rfl rfl rfl (fun hc => Does.strip (n' := [(72, (.opt ((v19 == y16) && (b_a8_u32 v23 v25)) (e_a8_u32 v27))), (73, (.opt ((v19 == y16) && (b_a8_u32 v23 v25)) (e_a8_u32 v6)))]) (n := [(72, (e_a8_u32 v27)), (73, (e_a8_u32 v6))]) ⟨(.opt _ _ hc), (.opt _ _ hc), trivial⟩ (does_eqT false 25 25 (.tmp 72) (.tmp 73) (e_a8_u32 v27) (e_a8_u32 v6) (e_a8_u32 (fun _ => 0)) (b_a8_u32 v27 v6) rfl rfl trivial trivial eg25 sh25 (al_a8_u32 _ _) (al_a8_u32 _ _) (q_a8_u32 _ _))), ⟨⟨rfl, rfl, rfl, trivial⟩, trivial, rfl⟩, rfl,
        Step.plain rfl (does_and 68 74 ((v19 == y16) && (b_a8_u32 v23 v25)) (b_a8_u32 v27 v6)), ⟨⟨rfl, rfl, trivial⟩, trivial, rfl⟩, rfl,
        Step.plain rfl (does_assign (.tmp 75) (.bool (((v19 == y16) && (b_a8_u32 v23 v25)) && (b_a8_u32 v27 v6))) trivial), ⟨⟨rfl, trivial⟩, trivial, rfl⟩, rfl, rfl⟩ rfl ?_
      refine aw_cov (cov_prune (s1 := ⟨[(6, (.bool (((v19 == y16) && (b_a8_u32 v23 v25)) && (b_a8_u32 v27 v6))))], [], 5⟩) ⟨rfl, trivial⟩ trivial (Nat.le_refl _)) ?_
      refine aw_ret ?_
      exact fun a w hr => ⟨_, [(.bool (((v19 == y16) && (b_a8_u32 v23 v25)) && (b_a8_u32 v27 v6)))], hr, ⟨⟨_, rfl, .data (.bool (((v19 == y16) && (b_a8_u32 v23 v25)) && (b_a8_u32 v27 v6))) trivial⟩, trivial⟩, by decide, by cases H; rfl⟩
    · refine aw_seq ?_
      refine aw_region (es := [_, _, _, _]) ⟨Step.plain rfl (does_move (.tmp 9) (.int .i64 x8.2) trivial), ⟨⟨rfl, trivial⟩, trivial, rfl⟩, rfl,
        Step.plain rfl (does_move (.tmp 0) (e_s_a8_u32 p0) trivial), ⟨⟨rfl, trivial⟩, trivial, rfl⟩, rfl,
        Step.plain rfl (does_lens 22 8 p0.length 27 (fun j => (e_a8_u32 (p0.getD j (fun _ => 0)))) el22), ⟨⟨rfl, trivial⟩, trivial, rfl⟩, rfl,
        Step.plain rfl (does_bin .lss 3 3 (.tmp 26) (.tmp 28) .i64 x8.2 (p0.length : Int) (.bool (decide (x8.2 < (p0.length : Int)))) trivial trivial (bin_lss _ _ _ _)), ⟨⟨rfl, rfl, trivial⟩, trivial, rfl⟩, rfl, rfl⟩ ?_
      refine aw_cov (cov_prune (s1 := ⟨[(0, (e_s_a8_u32 p0)), (1, (e_s_a8_u32 p1)), (5, (.ptr 0 0 [])), (7, (.ptr 1 0 [])), (8, (.bool x8.1)), (9, (.int .i64 x8.2)), (29, (.bool (decide (x8.2 < (p0.length : Int)))))], [(0, some (.var (e_a8_u32 p2))), (1, some (.var (e_a8_u32 v6)))], 2⟩) ⟨rfl, rfl, rfl, rfl, rfl, rfl, rfl, trivial⟩ ⟨rfl, rfl, trivial⟩ (Nat.le_refl _)) ?_
      refine aw_cond rfl (fun hc => ?_) (fun hc => ?_)
      · replace H := ite_t hc H
        refine aw_skip ?_
        refine nx_seq ?_
        refine aw_seq ?_
        refine aw_block ?_
        refine aw_seq ?_
        obtain ⟨h10, H⟩ := ib_of H
        obtain ⟨v11, h12, H⟩ := bnd H
        refine aw_draw (es := [_, _, _, _, _, _, _]) (mixed) ⟨Step.plain rfl (does_move (.tmp 0) (e_s_a8_u32 p0) trivial), ⟨⟨rfl, trivial⟩, trivial, rfl⟩, rfl,
          Step.plain rfl (does_move (.tmp 9) (.int .i64 x8.2) trivial), ⟨⟨rfl, trivial⟩, trivial, rfl⟩, rfl,
          Step.plain rfl (does_indexAddrs 22 8 p0.length 32 (fun j => (e_a8_u32 (p0.getD j (fun _ => 0)))) (.tmp 33) .i64 x8.2 el22 trivial h10.1 h10.2), ⟨⟨rfl, rfl, trivial⟩, trivial, rfl⟩, rfl,
          Step.plain rfl (does_loadc 25 34 (e_a8_u32 (p0.getD x8.2.toNat (fun _ => 0))) ty25), ⟨⟨rfl, trivial⟩, trivial, rfl⟩, rfl,
          Step.plain rfl (does_load 25 7 1 0 [] (.var (e_a8_u32 v6)) (e_a8_u32 v6) trivial rfl rfl ty25), ⟨⟨rfl, trivial⟩, ⟨rfl, trivial⟩, rfl⟩, rfl,
          Step.plain rfl (does_call 11 0 (fun _ => .any) (.func 11) [(.tmp 35), (.tmp 36)] [(e_a8_u32 (p0.getD x8.2.toNat (fun _ => 0))), (e_a8_u32 v6)] [] true [(e_a8_u32 (p0.getD x8.2.toNat (fun _ => 0))), (e_a8_u32 v6)] (.bool v11) _ _ rfl fo11 rfl ⟨trivial, trivial, trivial⟩ ⟨.data _ (d_a8_u32 (p0.getD x8.2.toNat (fun _ => 0))), .data _ (d_a8_u32 v6), trivial⟩ (cut_Within_spec (p0.getD x8.2.toNat (fun _ => 0)) v6 _ h12) trivial), ⟨⟨rfl, rfl, trivial⟩, trivial, rfl⟩, rfl,
          Step.plain rfl (does_not 4 (.tmp 37) v11 trivial), ⟨⟨rfl, trivial⟩, trivial, rfl⟩, rfl, rfl⟩ rfl ?_
        refine aw_cov (cov_prune (s1 := ⟨[(0, (e_s_a8_u32 p0)), (1, (e_s_a8_u32 p1)), (5, (.ptr 0 0 [])), (7, (.ptr 1 0 [])), (8, (.bool x8.1)), (9, (.int .i64 x8.2)), (38, (.bool (!v11)))], [(0, some (.var (e_a8_u32 p2))), (1, some (.var (e_a8_u32 v6)))], 2⟩) ⟨rfl, rfl, rfl, rfl, rfl, rfl, rfl, trivial⟩ ⟨rfl, rfl, trivial⟩ (Nat.le_refl _)) ?_
        refine aw_cond rfl (fun hc => ?_) (fun hc => ?_)
        · replace H := ite_t hc H
          refine aw_region (es := [_]) ⟨Step.plain rfl (does_assign (.const (.bool false)) (.bool false) (fun _ => rfl)), ⟨trivial, trivial, rfl⟩, rfl, rfl⟩ ?_
          refine aw_cov (cov_prune (s1 := ⟨[(6, (.bool false))], [], 2⟩) ⟨rfl, trivial⟩ trivial (Nat.le_refl _)) ?_
          refine aw_ret ?_
          replace H := rt_of H hsn9 Hrn9
          refine rt_then ?_
          refine rt_blk ?_
          refine rt_then ?_
          refine rt_then ?_
          refine rt_blk ?_
          refine rt_then ?_
          refine rt_then ?_
          exact fun a w hr => ⟨_, [(.bool false)], hr, ⟨⟨_, rfl, .data (.bool false) trivial⟩, trivial⟩, by decide, by cases H; rfl⟩
        · replace H := ite_f hc H
          refine aw_skip ?_
          refine nx_seq ?_
          obtain ⟨h13, H⟩ := ibg_of H
          obtain ⟨v14, h15, H⟩ := whn_of H
          refine aw_draw1 (es := [_, _, _, _, _, _, _, _, _, _]) (mixed) ⟨Step.plain rfl (does_move (.tmp 8) (.bool x8.1) trivial), ⟨⟨rfl, trivial⟩, trivial, rfl⟩, rfl,
            Step.plain rfl (does_move (.tmp 39) (.bool x8.1) trivial), ⟨⟨rfl, trivial⟩, trivial, rfl⟩, rfl,
            Step.guarded rfl rfl rfl rfl (fun hc => does_move (.tmp 0) (e_s_a8_u32 p0) trivial), ⟨⟨rfl, rfl, trivial⟩, trivial, rfl⟩, rfl,
            Step.guarded rfl rfl rfl rfl (fun hc => does_move (.tmp 9) (.int .i64 x8.2) trivial), ⟨⟨rfl, rfl, trivial⟩, trivial, rfl⟩, rfl,
            Step.guarded rfl rfl rfl rfl (fun hc => Does.strip (n' := [(41, (.opt x8.1 (e_s_a8_u32 p0))), (42, (.opt x8.1 (.int .i64 x8.2)))]) (n := [(41, (e_s_a8_u32 p0)), (42, (.int .i64 x8.2))]) ⟨(.opt _ _ hc), (.opt _ _ hc), trivial⟩ (does_indexAddrs 22 8 p0.length 41 (fun j => (e_a8_u32 (p0.getD j (fun _ => 0)))) (.tmp 42) .i64 x8.2 el22 trivial (h13 hc).1 (h13 hc).2)), ⟨⟨rfl, rfl, rfl, trivial⟩, trivial, rfl⟩, rfl,
            Step.guarded rfl rfl rfl rfl (fun hc => Does.strip (n' := [(43, (.opt x8.1 (.cptr (e_a8_u32 (p0.getD x8.2.toNat (fun _ => 0))))))]) (n := [(43, (.cptr (e_a8_u32 (p0.getD x8.2.toNat (fun _ => 0)))))]) ⟨(.opt _ _ hc), trivial⟩ (does_loadc 25 43 (e_a8_u32 (p0.getD x8.2.toNat (fun _ => 0))) ty25)), ⟨⟨rfl, rfl, trivial⟩, trivial, rfl⟩, rfl,
            Step.guarded rfl rfl rfl rfl (fun hc => does_load 25 5 0 0 [] (.var (e_a8_u32 p2)) (e_a8_u32 p2) trivial rfl rfl ty25), ⟨⟨rfl, rfl, trivial⟩, ⟨rfl, trivial⟩, rfl⟩, rfl,
            Step.guarded rfl rfl rfl rfl (fun hc => Does.strip (n' := [(44, (.opt x8.1 (e_a8_u32 (p0.getD x8.2.toNat (fun _ => 0))))), (45, (.opt x8.1 (e_a8_u32 p2)))]) (n := [(44, (e_a8_u32 (p0.getD x8.2.toNat (fun _ => 0)))), (45, (e_a8_u32 p2))]) ⟨(.opt _ _ hc), (.opt _ _ hc), trivial⟩ (does_call 11 0 (fun _ => .any) (.func 11) [(.tmp 44), (.tmp 45)] [(e_a8_u32 (p0.getD x8.2.toNat (fun _ => 0))), (e_a8_u32 p2)] [] true [(e_a8_u32 (p0.getD x8.2.toNat (fun _ => 0))), (e_a8_u32 p2)] (.bool v14) _ _ rfl fo11 rfl ⟨trivial, trivial, trivial⟩ ⟨.data _ (d_a8_u32 (p0.getD x8.2.toNat (fun _ => 0))), .data _ (d_a8_u32 p2), trivial⟩ (cut_Within_spec (p0.getD x8.2.toNat (fun _ => 0)) p2 _ (h15 hc)) trivial)), ⟨⟨rfl, rfl, rfl, trivial⟩, trivial, rfl⟩, rfl,
            Step.plain rfl (does_and 40 46 x8.1 v14), ⟨⟨rfl, rfl, trivial⟩, trivial, rfl⟩, rfl,
            Step.plain rfl (does_assign (.tmp 47) (.bool (x8.1 && v14)) trivial), ⟨⟨rfl, trivial⟩, trivial, rfl⟩, rfl, rfl⟩ rfl ?_
          refine nx_blk ?_
          refine nx_seq ?_
          refine aw_cov (cov_prune (s1 := ⟨[(0, (e_s_a8_u32 p0)), (1, (e_s_a8_u32 p1)), (5, (.ptr 0 0 [])), (7, (.ptr 1 0 [])), (9, (.int .i64 x8.2)), (8, (.bool (x8.1 && v14)))], [(0, some (.var (e_a8_u32 p2))), (1, some (.var (e_a8_u32 v6)))], 2⟩) ⟨rfl, rfl, rfl, rfl, rfl, rfl, trivial⟩ ⟨rfl, rfl, trivial⟩ (Nat.le_refl _)) ?_
          refine aw_region1 (es := [_, _, _]) ⟨Step.plain rfl (does_move (.tmp 9) (.int .i64 x8.2) trivial), ⟨⟨rfl, trivial⟩, trivial, rfl⟩, rfl,
            Step.plain rfl (does_bin .add 3 3 (.tmp 30) (.const (.int .i64 1)) .i64 x8.2 1 (.int .i64 (IntKind.i64.wrap (x8.2 + 1))) trivial (fun _ => rfl) (bin_add _ _ _ _)), ⟨⟨rfl, trivial⟩, trivial, rfl⟩, rfl,
            Step.plain rfl (does_assign (.tmp 31) (.int .i64 (IntKind.i64.wrap (x8.2 + 1))) trivial), ⟨⟨rfl, trivial⟩, trivial, rfl⟩, rfl, rfl⟩ ?_
          exact nx_loop ((x8.1 && v14), (IntKind.i64.wrap (x8.2 + 1))) H (cov_prune ⟨rfl, rfl, rfl, rfl, rfl, rfl, trivial⟩ ⟨rfl, rfl, trivial⟩ (Nat.le_of_ble_eq_true rfl))
      · replace H := ite_f hc H
        refine aw_exit ?_
        refine ex_then ?_
        refine ex_then ?_
        refine ex_here ?_
        exact nx_ljoin (x8.1) H hsn9 (cov_prune ⟨rfl, rfl, rfl, rfl, rfl, trivial⟩ ⟨rfl, rfl, trivial⟩ (Nat.le_of_ble_eq_true rfl))

theorem congressref10_Is_spec (p0 : (Nat → Int)) (p1 : Int) (r : Bool) (H : congressref10_Is p0 p1 = some r) : FSpec Try.prog 18 [(e_a8_u32 p0), (.int .i64 p1)] (.bool r) := by
  refine spec_of (fn := Try.f18) (args := [(e_a8_u32 p0), (.int .i64 p1)]) Try.func18 rfl (Nat.le_of_ble_eq_true rfl) ?_
  rintro ⟨G, w0, W, S, Sp⟩ hG
  cases hG
  unfold congressref10_Is at H
  refine aw_region (es := [_, _]) ⟨Step.plain rfl (does_box 26 (.tmp 0) 0 (e_a8_u32 p0) trivial rfl), ⟨⟨rfl, trivial⟩, trivial, rfl⟩, rfl,
    Step.plain rfl (does_assign (.const (.bool false)) (.bool false) (fun _ => rfl)), ⟨trivial, trivial, rfl⟩, rfl, rfl⟩ ?_
  refine aw_cov (cov_prune (s1 := ⟨[(1, (.int .i64 p1)), (2, (.ptr 0 0 []))], [(0, some (.var (e_a8_u32 p0)))], 1⟩) ⟨rfl, rfl, trivial⟩ ⟨rfl, trivial⟩ (Nat.le_refl _)) ?_
  obtain ⟨h1, H⟩ := ibg_of H
  refine aw_region (es := [_, _, _, _, _, _, _, _, _, _, _, _, _]) ⟨Step.plain rfl (does_move (.tmp 1) (.int .i64 p1) trivial), ⟨⟨rfl, trivial⟩, trivial, rfl⟩, rfl,
    Step.plain rfl (does_bin .geq 3 3 (.tmp 5) (.const (.int .i64 0)) .i64 p1 0 (.bool (decide (p1 ≥ 0))) trivial (fun _ => rfl) (bin_geq _ _ _ _)), ⟨⟨rfl, trivial⟩, trivial, rfl⟩, rfl,
    Step.plain rfl (does_move (.tmp 6) (.bool (decide (p1 ≥ 0))) trivial), ⟨⟨rfl, trivial⟩, trivial, rfl⟩, rfl,
    Step.guarded rfl rfl rfl rfl (fun hc => does_move (.tmp 1) (.int .i64 p1) trivial), ⟨⟨rfl, rfl, trivial⟩, trivial, rfl⟩, rfl,
    Step.guarded rfl rfl rfl rfl (fun hc => Does.strip (n' := [(8, (.opt (decide (p1 ≥ 0)) (.int .i64 p1)))]) (n := [(8, (.int .i64 p1))]) ⟨(.opt _ _ hc), trivial⟩ (does_bin .lss 3 3 (.tmp 8) (.const (.int .i64 8)) .i64 p1 8 (.bool (decide (p1 < 8))) trivial (fun _ => rfl) (bin_lss _ _ _ _))), ⟨⟨rfl, rfl, trivial⟩, trivial, rfl⟩, rfl,
    Step.plain rfl (does_and 7 9 (decide (p1 ≥ 0)) (decide (p1 < 8))), ⟨⟨rfl, rfl, trivial⟩, trivial, rfl⟩, rfl,
    Step.plain rfl (does_move (.tmp 10) (.bool ((decide (p1 ≥ 0)) && (decide (p1 < 8)))) trivial), ⟨⟨rfl, trivial⟩, trivial, rfl⟩, rfl,
    Step.guarded rfl rfl rfl rfl (fun hc => does_move (.tmp 1) (.int .i64 p1) trivial), ⟨⟨rfl, rfl, trivial⟩, trivial, rfl⟩, rfl,
    Step.guarded rfl rfl rfl rfl (fun hc => Does.strip (n' := [(2, (.ptr 0 0 [])), (12, (.opt ((decide (p1 ≥ 0)) && (decide (p1 < 8))) (.int .i64 p1)))]) (n := [(2, (.ptr 0 0 [])), (12, (.int .i64 p1))]) ⟨(.same _), (.opt _ _ hc), trivial⟩ (does_indexAddr 26 8 1 2 0 0 [] (.var (e_a8_u32 p0)) (.tmp 12) .i64 p1 el26 trivial (h1 hc).1 (h1 hc).2)), ⟨⟨rfl, rfl, rfl, trivial⟩, ⟨rfl, trivial⟩, rfl⟩, rfl,
    Step.guarded rfl rfl rfl rfl (fun hc => Does.strip (n' := [(13, (.opt ((decide (p1 ≥ 0)) && (decide (p1 < 8))) (.ptr 0 (0 + p1.toNat * 1) [p1.toNat])))]) (n := [(13, (.ptr 0 (0 + p1.toNat * 1) [p1.toNat]))]) ⟨(.opt _ _ hc), trivial⟩ (does_load 23 13 0 (0 + p1.toNat * 1) [p1.toNat] (.var (e_a8_u32 p0)) (.int .u32 (p0 p1.toNat)) ⟨rfl, (ixl (h1 hc)), trivial⟩ rfl rfl ty23)), ⟨⟨rfl, rfl, trivial⟩, ⟨rfl, trivial⟩, rfl⟩, rfl,
    Step.guarded rfl rfl rfl rfl (fun hc => Does.strip (n' := [(14, (.opt ((decide (p1 ≥ 0)) && (decide (p1 < 8))) (.int .u32 (p0 p1.toNat))))]) (n := [(14, (.int .u32 (p0 p1.toNat)))]) ⟨(.opt _ _ hc), trivial⟩ (does_bin .neq 23 23 (.tmp 14) (.const (.int .u32 0)) .u32 (p0 p1.toNat) 0 (.bool ((p0 p1.toNat) != 0)) trivial (fun _ => rfl) (bin_neq _ _ _ _))), ⟨⟨rfl, rfl, trivial⟩, trivial, rfl⟩, rfl,
    Step.plain rfl (does_and 11 15 ((decide (p1 ≥ 0)) && (decide (p1 < 8))) ((p0 p1.toNat) != 0)), ⟨⟨rfl, rfl, trivial⟩, trivial, rfl⟩, rfl,
    Step.plain rfl (does_assign (.tmp 16) (.bool (((decide (p1 ≥ 0)) && (decide (p1 < 8))) && ((p0 p1.toNat) != 0))) trivial), ⟨⟨rfl, trivial⟩, trivial, rfl⟩, rfl, rfl⟩ ?_
  refine aw_cov (cov_prune (s1 := ⟨[(4, (.bool (((decide (p1 ≥ 0)) && (decide (p1 < 8))) && ((p0 p1.toNat) != 0))))], [], 1⟩) ⟨rfl, trivial⟩ trivial (Nat.le_refl _)) ?_
  refine aw_ret ?_
  exact fun a w hr => ⟨_, [(.bool (((decide (p1 ≥ 0)) && (decide (p1 < 8))) && ((p0 p1.toNat) != 0)))], hr, ⟨⟨_, rfl, .data (.bool (((decide (p1 ≥ 0)) && (decide (p1 < 8))) && ((p0 p1.toNat) != 0))) trivial⟩, trivial⟩, by decide, by cases H; rfl⟩
end Go.Proofs.Ytnfjibcfnchkkaa
