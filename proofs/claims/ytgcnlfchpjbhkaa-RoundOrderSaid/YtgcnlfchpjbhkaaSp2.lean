/- Printed by gen.py. Conditions: none. -/
import Derived.Test.YtgcnlfchpjbhkaaSp1
import Derived.KernelRfl
set_option linter.unusedVariables false
set_option maxRecDepth 100000
namespace Go.Proofs.Ytgcnlfchpjbhkaa
open Go.Eng
theorem round_May_spec (p0 : (Nat → Int)) (p1 : (Nat → Int)) (p2 : Int) (r : Bool) (H : round_May p0 p1 p2 = some r) : FSpec Try.prog 12 [(e_a8_u32 p0), (e_a8_u32 p1), (.int .i64 p2)] (.bool r) := by
  refine spec_of (fn := Try.f12) (args := [(e_a8_u32 p0), (e_a8_u32 p1), (.int .i64 p2)]) Try.func12 rfl (Nat.le_of_ble_eq_true rfl) ?_
  rintro ⟨G, w0, W, S, Sp⟩ hG
  cases hG
  unfold round_May at H
  refine aw_region (es := [_, _, _]) ⟨Step.plain rfl (does_box 24 (.tmp 0) 0 (e_a8_u32 p0) trivial rfl), ⟨⟨rfl, trivial⟩, trivial, rfl⟩, rfl,
    Step.plain rfl (does_box 25 (.tmp 1) 1 (e_a8_u32 p1) trivial rfl), ⟨⟨rfl, trivial⟩, trivial, rfl⟩, rfl,
    Step.plain rfl (does_assign (.const (.bool false)) (.bool false) (fun _ => rfl)), ⟨trivial, trivial, rfl⟩, rfl, rfl⟩ ?_
  refine aw_cov (cov_prune (s1 := ⟨[(2, (.int .i64 p2)), (3, (.ptr 0 0 [])), (4, (.ptr 1 0 []))], [(0, some (.var (e_a8_u32 p0))), (1, some (.var (e_a8_u32 p1)))], 2⟩) ⟨rfl, rfl, rfl, trivial⟩ ⟨rfl, rfl, trivial⟩ (Nat.le_refl _)) ?_
  obtain ⟨v1, h2, H⟩ := bnd H
  refine aw_region (es := [_, _, _, _, _, _, _, _]) ⟨Step.plain rfl (does_load 24 3 0 0 [] (.var (e_a8_u32 p0)) (e_a8_u32 p0) trivial rfl rfl ty24), ⟨⟨rfl, trivial⟩, ⟨rfl, trivial⟩, rfl⟩, rfl,
    Step.plain rfl (does_load 25 4 1 0 [] (.var (e_a8_u32 p1)) (e_a8_u32 p1) trivial rfl rfl ty25), ⟨⟨rfl, trivial⟩, ⟨rfl, trivial⟩, rfl⟩, rfl,
    Step.plain rfl (does_call 11 0 (fun _ => .any) (.func 11) [(.tmp 10), (.tmp 11)] [(e_a8_u32 p0), (e_a8_u32 p1)] [] true [(e_a8_u32 p0), (e_a8_u32 p1)] (resV [(.int .u32 v1.1), (.bool v1.2)]) _ _ rfl fo11 rfl ⟨trivial, trivial, trivial⟩ ⟨.data _ (d_a8_u32 p0), .data _ (d_a8_u32 p1), trivial⟩ (round_Least_spec p0 p1 _ h2) (res_flat2 trivial trivial)), ⟨⟨rfl, rfl, trivial⟩, trivial, rfl⟩, rfl,
    Step.plain rfl (does_move (.tmp 12) (resV [(.int .u32 v1.1), (.bool v1.2)]) trivial), ⟨⟨rfl, trivial⟩, trivial, rfl⟩, rfl,
    Step.plain rfl (does_extract 9 0 2 (fun j => [(.int .u32 v1.1), (.bool v1.2)].getD j (.bool false)) (Nat.le_of_ble_eq_true rfl)), ⟨⟨rfl, trivial⟩, trivial, rfl⟩, rfl,
    Step.plain rfl (does_extract 9 1 2 (fun j => [(.int .u32 v1.1), (.bool v1.2)].getD j (.bool false)) (Nat.le_of_ble_eq_true rfl)), ⟨⟨rfl, trivial⟩, trivial, rfl⟩, rfl,
    Step.plain rfl (does_assign (.tmp 13) (.int .u32 v1.1) trivial), ⟨⟨rfl, trivial⟩, trivial, rfl⟩, rfl,
    Step.plain rfl (does_assign (.tmp 14) (.bool v1.2) trivial), ⟨⟨rfl, trivial⟩, trivial, rfl⟩, rfl, rfl⟩ ?_
  refine aw_cov (cov_prune (s1 := ⟨[(2, (.int .i64 p2)), (3, (.ptr 0 0 [])), (4, (.ptr 1 0 [])), (7, (.int .u32 v1.1))], [(0, some (.var (e_a8_u32 p0))), (1, some (.var (e_a8_u32 p1)))], 2⟩) ⟨rfl, rfl, rfl, rfl, trivial⟩ ⟨rfl, rfl, trivial⟩ (Nat.le_refl _)) ?_
  obtain ⟨v3, h4, H⟩ := bnd H
  obtain ⟨h5, H⟩ := ibg_of H
  refine aw_region (es := [_, _, _, _, _, _, _, _, _, _, _]) ⟨Step.plain rfl (does_load 25 4 1 0 [] (.var (e_a8_u32 p1)) (e_a8_u32 p1) trivial rfl rfl ty25), ⟨⟨rfl, trivial⟩, ⟨rfl, trivial⟩, rfl⟩, rfl,
    Step.plain rfl (does_move (.tmp 2) (.int .i64 p2) trivial), ⟨⟨rfl, trivial⟩, trivial, rfl⟩, rfl,
    Step.plain rfl (does_call 19 0 (fun _ => .any) (.func 19) [(.tmp 15), (.tmp 16)] [(e_a8_u32 p1), (.int .i64 p2)] [] true [(e_a8_u32 p1), (.int .i64 p2)] (.bool v3) _ _ rfl fo19 rfl ⟨trivial, trivial, trivial⟩ ⟨.data _ (d_a8_u32 p1), .data _ trivial, trivial⟩ (round_member_spec p1 p2 _ h4) trivial), ⟨⟨rfl, rfl, trivial⟩, trivial, rfl⟩, rfl,
    Step.plain rfl (does_move (.tmp 17) (.bool v3) trivial), ⟨⟨rfl, trivial⟩, trivial, rfl⟩, rfl,
    Step.guarded rfl rfl rfl rfl (fun hc => does_move (.tmp 2) (.int .i64 p2) trivial), ⟨⟨rfl, rfl, trivial⟩, trivial, rfl⟩, rfl,
    Step.guarded rfl rfl rfl rfl (fun hc => Does.strip (n' := [(3, (.ptr 0 0 [])), (19, (.opt v3 (.int .i64 p2)))]) (n := [(3, (.ptr 0 0 [])), (19, (.int .i64 p2))]) ⟨(.same _), (.opt _ _ hc), trivial⟩ (does_indexAddr 24 8 1 3 0 0 [] (.var (e_a8_u32 p0)) (.tmp 19) .i64 p2 el24 trivial (h5 hc).1 (h5 hc).2)), ⟨⟨rfl, rfl, rfl, trivial⟩, ⟨rfl, trivial⟩, rfl⟩, rfl,
    Step.guarded rfl rfl rfl rfl (fun hc => Does.strip (n' := [(20, (.opt v3 (.ptr 0 (0 + p2.toNat * 1) [p2.toNat])))]) (n := [(20, (.ptr 0 (0 + p2.toNat * 1) [p2.toNat]))]) ⟨(.opt _ _ hc), trivial⟩ (does_load 22 20 0 (0 + p2.toNat * 1) [p2.toNat] (.var (e_a8_u32 p0)) (.int .u32 (p0 p2.toNat)) ⟨rfl, (ixl (h5 hc)), trivial⟩ rfl rfl ty22)), ⟨⟨rfl, rfl, trivial⟩, ⟨rfl, trivial⟩, rfl⟩, rfl,
    Step.guarded rfl rfl rfl rfl (fun hc => does_move (.tmp 7) (.int .u32 v1.1) trivial), ⟨⟨rfl, rfl, trivial⟩, trivial, rfl⟩, rfl,
    Step.guarded rfl rfl rfl rfl (fun hc => Does.strip (n' := [(21, (.opt v3 (.int .u32 (p0 p2.toNat)))), (22, (.opt v3 (.int .u32 v1.1)))]) (n := [(21, (.int .u32 (p0 p2.toNat))), (22, (.int .u32 v1.1))]) ⟨(.opt _ _ hc), (.opt _ _ hc), trivial⟩ (does_bin .eql 22 22 (.tmp 21) (.tmp 22) .u32 (p0 p2.toNat) v1.1 (.bool ((p0 p2.toNat) == v1.1)) trivial trivial (bin_eql _ _ _ _))), ⟨⟨rfl, rfl, rfl, trivial⟩, trivial, rfl⟩, rfl,
    Step.plain rfl (does_and 18 23 v3 ((p0 p2.toNat) == v1.1)), ⟨⟨rfl, rfl, trivial⟩, trivial, rfl⟩, rfl,
    Step.plain rfl (does_assign (.tmp 24) (.bool (v3 && ((p0 p2.toNat) == v1.1))) trivial), ⟨⟨rfl, trivial⟩, trivial, rfl⟩, rfl, rfl⟩ ?_
  refine aw_cov (cov_prune (s1 := ⟨[(6, (.bool (v3 && ((p0 p2.toNat) == v1.1))))], [], 2⟩) ⟨rfl, trivial⟩ trivial (Nat.le_refl _)) ?_
  refine aw_ret ?_
  exact fun a w hr => ⟨_, [(.bool (v3 && ((p0 p2.toNat) == v1.1)))], hr, ⟨⟨_, rfl, .data _ trivial⟩, trivial⟩, by decide, by cases H; rfl⟩

theorem congresslaw09_fixed_spec (r : Bool) (H : congresslaw09_fixed = some r) : FSpec Try.prog 10 [] (.bool r) := by
  refine spec_of (fn := Try.f10) (args := []) Try.func10 rfl (Nat.le_of_ble_eq_true rfl) ?_
  rintro ⟨G, w0, W, S, Sp⟩ hG
  cases hG
  unfold congresslaw09_fixed at H
  refine aw_region (es := [_]) ⟨Step.plain rfl (does_assign (.const (.bool false)) (.bool false) (fun _ => rfl)), ⟨trivial, trivial, rfl⟩, rfl, rfl⟩ ?_
  refine aw_cov (cov_prune (s1 := ⟨[], [], 0⟩) trivial trivial (Nat.le_refl _)) ?_
  refine aw_region (es := [_, _, _]) ⟨Step.plain rfl (does_buildT 25 #[(0, (.const (.int .u32 1))), (1, (.const (.int .u32 1))), (2, (.const (.int .u32 1)))] [(0, (.const (.int .u32 1))), (1, (.const (.int .u32 1))), (2, (.const (.int .u32 1)))] [(0, (.int .u32 1)), (1, (.int .u32 1)), (2, (.int .u32 1))] (.ar 8 1) (fun j => (.int .u32 ((fun _ => 0) j))) (fun j => (.int .u32 ((aset (fun _ => 0) [(0, 1), (1, 1), (2, 1)]) j))) rfl bo25 ⟨⟨rfl, (fun _ => rfl)⟩, ⟨rfl, (fun _ => rfl)⟩, ⟨rfl, (fun _ => rfl)⟩, trivial⟩ ⟨⟨Nat.le_of_ble_eq_true rfl, rfl, rfl⟩, ⟨Nat.le_of_ble_eq_true rfl, rfl, rfl⟩, ⟨Nat.le_of_ble_eq_true rfl, rfl, rfl⟩, trivial⟩ (setAll_map (fun z => V.int .u32 z) [(0, 1), (1, 1), (2, 1)] _)), ⟨trivial, trivial, rfl⟩, rfl,
    Step.plain rfl (does_alloc 25 0 (e_a8_u32 (fun _ => 0)) zr25), ⟨trivial, trivial, rfl⟩, rfl,
    Step.plain rfl (does_store 25 1 (.tmp 6) 0 0 [] (.var (e_a8_u32 (fun _ => 0))) (.var (e_a8_u32 (aset (fun _ => 0) [(0, 1), (1, 1), (2, 1)]))) (e_a8_u32 (aset (fun _ => 0) [(0, 1), (1, 1), (2, 1)])) true trivial rfl trivial rfl rfl rfl ty25), ⟨⟨rfl, rfl, trivial⟩, ⟨rfl, trivial⟩, rfl⟩, rfl, rfl⟩ ?_
  refine aw_cov (cov_prune (s1 := ⟨[(1, (.ptr 0 0 []))], [(0, some (.var (e_a8_u32 (aset (fun _ => 0) [(0, 1), (1, 1), (2, 1)]))))], 1⟩) ⟨rfl, trivial⟩ ⟨rfl, trivial⟩ (Nat.le_refl _)) ?_
  refine aw_region (es := [_, _, _]) ⟨Step.plain rfl (does_buildT 24 #[(0, (.const (.int .u32 2))), (1, (.const (.int .u32 1))), (2, (.const (.int .u32 1)))] [(0, (.const (.int .u32 2))), (1, (.const (.int .u32 1))), (2, (.const (.int .u32 1)))] [(0, (.int .u32 2)), (1, (.int .u32 1)), (2, (.int .u32 1))] (.ar 8 1) (fun j => (.int .u32 ((fun _ => 0) j))) (fun j => (.int .u32 ((aset (fun _ => 0) [(0, 2), (1, 1), (2, 1)]) j))) rfl bo24 ⟨⟨rfl, (fun _ => rfl)⟩, ⟨rfl, (fun _ => rfl)⟩, ⟨rfl, (fun _ => rfl)⟩, trivial⟩ ⟨⟨Nat.le_of_ble_eq_true rfl, rfl, rfl⟩, ⟨Nat.le_of_ble_eq_true rfl, rfl, rfl⟩, ⟨Nat.le_of_ble_eq_true rfl, rfl, rfl⟩, trivial⟩ (setAll_map (fun z => V.int .u32 z) [(0, 2), (1, 1), (2, 1)] _)), ⟨trivial, trivial, rfl⟩, rfl,
    Step.plain rfl (does_alloc 24 1 (e_a8_u32 (fun _ => 0)) zr24), ⟨trivial, trivial, rfl⟩, rfl,
    Step.plain rfl (does_store 24 2 (.tmp 7) 1 0 [] (.var (e_a8_u32 (fun _ => 0))) (.var (e_a8_u32 (aset (fun _ => 0) [(0, 2), (1, 1), (2, 1)]))) (e_a8_u32 (aset (fun _ => 0) [(0, 2), (1, 1), (2, 1)])) true trivial rfl trivial rfl rfl rfl ty24), ⟨⟨rfl, rfl, trivial⟩, ⟨rfl, trivial⟩, rfl⟩, rfl, rfl⟩ ?_
  refine aw_cov (cov_prune (s1 := ⟨[(1, (.ptr 0 0 [])), (2, (.ptr 1 0 []))], [(0, some (.var (e_a8_u32 (aset (fun _ => 0) [(0, 1), (1, 1), (2, 1)])))), (1, some (.var (e_a8_u32 (aset (fun _ => 0) [(0, 2), (1, 1), (2, 1)]))))], 2⟩) ⟨rfl, rfl, trivial⟩ ⟨rfl, rfl, trivial⟩ (Nat.le_refl _)) ?_
  refine aw_region (es := [_, _, _]) ⟨Step.plain rfl (does_buildT 27 #[(0, (.const (.int .u32 2)))] [(0, (.const (.int .u32 2)))] [(0, (.int .u32 2))] (.st [1, 1, 1]) (c_api_Place z_api_Place) (c_api_Place ({ Round := 2, From := 0, Slot := 0 } : api_Place)) rfl bo27 ⟨⟨rfl, (fun _ => rfl)⟩, trivial⟩ ⟨⟨Nat.le_of_ble_eq_true rfl, rfl, rfl⟩, trivial⟩ (by funext j; match j with | 0 => rfl | 1 => rfl | 2 => rfl | _ + 3 => rfl)), ⟨trivial, trivial, rfl⟩, rfl,
    Step.plain rfl (does_alloc 27 2 (e_api_Place z_api_Place) zr27), ⟨trivial, trivial, rfl⟩, rfl,
    Step.plain rfl (does_store 27 3 (.tmp 8) 2 0 [] (.var (e_api_Place z_api_Place)) (.var (e_api_Place ({ Round := 2, From := 0, Slot := 0 } : api_Place))) (e_api_Place ({ Round := 2, From := 0, Slot := 0 } : api_Place)) true trivial rfl trivial rfl rfl rfl ty27), ⟨⟨rfl, rfl, trivial⟩, ⟨rfl, trivial⟩, rfl⟩, rfl, rfl⟩ ?_
  refine aw_cov (cov_prune (s1 := ⟨[(1, (.ptr 0 0 [])), (2, (.ptr 1 0 [])), (3, (.ptr 2 0 []))], [(0, some (.var (e_a8_u32 (aset (fun _ => 0) [(0, 1), (1, 1), (2, 1)])))), (1, some (.var (e_a8_u32 (aset (fun _ => 0) [(0, 2), (1, 1), (2, 1)])))), (2, some (.var (e_api_Place ({ Round := 2, From := 0, Slot := 0 } : api_Place))))], 3⟩) ⟨rfl, rfl, rfl, trivial⟩ ⟨rfl, rfl, rfl, trivial⟩ (Nat.le_refl _)) ?_
  obtain ⟨v1, h2, H⟩ := bnd H
  refine aw_region (es := [_, _, _, _, _, _, _, _]) ⟨Step.plain rfl (does_load 24 2 1 0 [] (.var (e_a8_u32 (aset (fun _ => 0) [(0, 2), (1, 1), (2, 1)]))) (e_a8_u32 (aset (fun _ => 0) [(0, 2), (1, 1), (2, 1)])) trivial rfl rfl ty24), ⟨⟨rfl, trivial⟩, ⟨rfl, trivial⟩, rfl⟩, rfl,
    Step.plain rfl (does_load 25 1 0 0 [] (.var (e_a8_u32 (aset (fun _ => 0) [(0, 1), (1, 1), (2, 1)]))) (e_a8_u32 (aset (fun _ => 0) [(0, 1), (1, 1), (2, 1)])) trivial rfl rfl ty25), ⟨⟨rfl, trivial⟩, ⟨rfl, trivial⟩, rfl⟩, rfl,
    Step.plain rfl (does_call 11 0 (fun _ => .any) (.func 11) [(.tmp 10), (.tmp 11)] [(e_a8_u32 (aset (fun _ => 0) [(0, 2), (1, 1), (2, 1)])), (e_a8_u32 (aset (fun _ => 0) [(0, 1), (1, 1), (2, 1)]))] [] true [(e_a8_u32 (aset (fun _ => 0) [(0, 2), (1, 1), (2, 1)])), (e_a8_u32 (aset (fun _ => 0) [(0, 1), (1, 1), (2, 1)]))] (resV [(.int .u32 v1.1), (.bool v1.2)]) _ _ rfl fo11 rfl ⟨trivial, trivial, trivial⟩ ⟨.data _ (d_a8_u32 (aset (fun _ => 0) [(0, 2), (1, 1), (2, 1)])), .data _ (d_a8_u32 (aset (fun _ => 0) [(0, 1), (1, 1), (2, 1)])), trivial⟩ (round_Least_spec (aset (fun _ => 0) [(0, 2), (1, 1), (2, 1)]) (aset (fun _ => 0) [(0, 1), (1, 1), (2, 1)]) _ h2) (res_flat2 trivial trivial)), ⟨⟨rfl, rfl, trivial⟩, trivial, rfl⟩, rfl,
    Step.plain rfl (does_move (.tmp 12) (resV [(.int .u32 v1.1), (.bool v1.2)]) trivial), ⟨⟨rfl, trivial⟩, trivial, rfl⟩, rfl,
    Step.plain rfl (does_extract 9 0 2 (fun j => [(.int .u32 v1.1), (.bool v1.2)].getD j (.bool false)) (Nat.le_of_ble_eq_true rfl)), ⟨⟨rfl, trivial⟩, trivial, rfl⟩, rfl,
    Step.plain rfl (does_extract 9 1 2 (fun j => [(.int .u32 v1.1), (.bool v1.2)].getD j (.bool false)) (Nat.le_of_ble_eq_true rfl)), ⟨⟨rfl, trivial⟩, trivial, rfl⟩, rfl,
    Step.plain rfl (does_assign (.tmp 13) (.int .u32 v1.1) trivial), ⟨⟨rfl, trivial⟩, trivial, rfl⟩, rfl,
    Step.plain rfl (does_assign (.tmp 14) (.bool v1.2) trivial), ⟨⟨rfl, trivial⟩, trivial, rfl⟩, rfl, rfl⟩ ?_
  refine aw_cov (cov_prune (s1 := ⟨[(1, (.ptr 0 0 [])), (2, (.ptr 1 0 [])), (3, (.ptr 2 0 [])), (4, (.int .u32 v1.1)), (5, (.bool v1.2))], [(0, some (.var (e_a8_u32 (aset (fun _ => 0) [(0, 1), (1, 1), (2, 1)])))), (1, some (.var (e_a8_u32 (aset (fun _ => 0) [(0, 2), (1, 1), (2, 1)])))), (2, some (.var (e_api_Place ({ Round := 2, From := 0, Slot := 0 } : api_Place))))], 3⟩) ⟨rfl, rfl, rfl, rfl, rfl, trivial⟩ ⟨rfl, rfl, rfl, trivial⟩ (Nat.le_refl _)) ?_
  obtain ⟨v3, h4, H⟩ := whn_of H
  obtain ⟨v5, h6, H⟩ := whn_of H
  obtain ⟨v7, h8, H⟩ := whn_of H
  obtain ⟨v9, h10, H⟩ := whn_of H
  obtain ⟨v11, h12, H⟩ := whn_of H
  obtain ⟨v13, h14, H⟩ := whn_of H
  obtain ⟨v15, h16, H⟩ := whn_of H
  obtain ⟨v17, h18, H⟩ := whn_of H
  refine aw_region (es := [_, _, _, _, _, _, _, _, _, _, _, _, _, _, _, _, _, _, _, _, _, _, _, _, _, _, _, _, _, _, _, _, _, _, _, _, _, _, _, _, _, _, _, _, _, _, _, _, _, _, _, _, _, _, _]) ⟨Step.plain rfl (does_move (.tmp 4) (.int .u32 v1.1) trivial), ⟨⟨rfl, trivial⟩, trivial, rfl⟩, rfl,
    Step.plain rfl (does_bin .eql 22 22 (.tmp 15) (.const (.int .u32 1)) .u32 v1.1 1 (.bool (v1.1 == 1)) trivial (fun _ => rfl) (bin_eql _ _ _ _)), ⟨⟨rfl, trivial⟩, trivial, rfl⟩, rfl,
    Step.plain rfl (does_move (.tmp 16) (.bool (v1.1 == 1)) trivial), ⟨⟨rfl, trivial⟩, trivial, rfl⟩, rfl,
    Step.guarded rfl rfl rfl rfl (fun hc => does_move (.tmp 5) (.bool v1.2) trivial), ⟨⟨rfl, rfl, trivial⟩, trivial, rfl⟩, rfl,
    Step.plain rfl (does_and 17 18 (v1.1 == 1) v1.2), ⟨⟨rfl, rfl, trivial⟩, trivial, rfl⟩, rfl,
    Step.plain rfl (does_move (.tmp 19) (.bool ((v1.1 == 1) && v1.2)) trivial), ⟨⟨rfl, trivial⟩, trivial, rfl⟩, rfl,
    Step.guarded rfl rfl rfl rfl (fun hc => does_load 24 2 1 0 [] (.var (e_a8_u32 (aset (fun _ => 0) [(0, 2), (1, 1), (2, 1)]))) (e_a8_u32 (aset (fun _ => 0) [(0, 2), (1, 1), (2, 1)])) trivial rfl rfl ty24), ⟨⟨rfl, rfl, trivial⟩, ⟨rfl, trivial⟩, rfl⟩, rfl,
    Step.guarded rfl rfl rfl rfl (fun hc => does_load 25 1 0 0 [] (.var (e_a8_u32 (aset (fun _ => 0) [(0, 1), (1, 1), (2, 1)]))) (e_a8_u32 (aset (fun _ => 0) [(0, 1), (1, 1), (2, 1)])) trivial rfl rfl ty25), ⟨⟨rfl, rfl, trivial⟩, ⟨rfl, trivial⟩, rfl⟩, rfl,
    Step.guarded rfl rfl rfl rfl (fun hc => does_load 27 3 2 0 [] (.var (e_api_Place ({ Round := 2, From := 0, Slot := 0 } : api_Place))) (e_api_Place ({ Round := 2, From := 0, Slot := 0 } : api_Place)) trivial rfl rfl ty27), ⟨⟨rfl, rfl, trivial⟩, ⟨rfl, trivial⟩, rfl⟩, rfl,
    Step.guarded rfl rfl rfl rfl (fun hc => Does.strip (n' := [(21, (.opt ((v1.1 == 1) && v1.2) (e_a8_u32 (aset (fun _ => 0) [(0, 2), (1, 1), (2, 1)])))), (22, (.opt ((v1.1 == 1) && v1.2) (e_a8_u32 (aset (fun _ => 0) [(0, 1), (1, 1), (2, 1)])))), (23, (.opt ((v1.1 == 1) && v1.2) (e_api_Place ({ Round := 2, From := 0, Slot := 0 } : api_Place))))]) (n := [(21, (e_a8_u32 (aset (fun _ => 0) [(0, 2), (1, 1), (2, 1)]))), (22, (e_a8_u32 (aset (fun _ => 0) [(0, 1), (1, 1), (2, 1)]))), (23, (e_api_Place ({ Round := 2, From := 0, Slot := 0 } : api_Place)))]) ⟨(.opt _ _ hc), (.opt _ _ hc), (.opt _ _ hc), trivial⟩ (does_call 8 0 (fun _ => .any) (.func 8) [(.tmp 21), (.tmp 22), (.tmp 23), (.const (.int .i64 0))] [(e_a8_u32 (aset (fun _ => 0) [(0, 2), (1, 1), (2, 1)])), (e_a8_u32 (aset (fun _ => 0) [(0, 1), (1, 1), (2, 1)])), (e_api_Place ({ Round := 2, From := 0, Slot := 0 } : api_Place)), (.int .i64 0)] [] true [(e_a8_u32 (aset (fun _ => 0) [(0, 2), (1, 1), (2, 1)])), (e_a8_u32 (aset (fun _ => 0) [(0, 1), (1, 1), (2, 1)])), (e_api_Place ({ Round := 2, From := 0, Slot := 0 } : api_Place)), (.int .i64 0)] (.bool v3) _ _ rfl fo8 rfl ⟨trivial, trivial, trivial, (fun _ => rfl), trivial⟩ ⟨.data _ (d_a8_u32 (aset (fun _ => 0) [(0, 2), (1, 1), (2, 1)])), .data _ (d_a8_u32 (aset (fun _ => 0) [(0, 1), (1, 1), (2, 1)])), .data _ (d_api_Place ({ Round := 2, From := 0, Slot := 0 } : api_Place)), .data _ trivial, trivial⟩ (round_Service_spec (aset (fun _ => 0) [(0, 2), (1, 1), (2, 1)]) (aset (fun _ => 0) [(0, 1), (1, 1), (2, 1)]) ({ Round := 2, From := 0, Slot := 0 } : api_Place) 0 _ (h4 hc)) trivial)), ⟨⟨rfl, rfl, rfl, rfl, trivial⟩, trivial, rfl⟩, rfl,
    Step.plain rfl (does_and 20 24 ((v1.1 == 1) && v1.2) v3), ⟨⟨rfl, rfl, trivial⟩, trivial, rfl⟩, rfl,
    Step.plain rfl (does_move (.tmp 25) (.bool (((v1.1 == 1) && v1.2) && v3)) trivial), ⟨⟨rfl, trivial⟩, trivial, rfl⟩, rfl,
    Step.guarded rfl rfl rfl rfl (fun hc => does_load 24 2 1 0 [] (.var (e_a8_u32 (aset (fun _ => 0) [(0, 2), (1, 1), (2, 1)]))) (e_a8_u32 (aset (fun _ => 0) [(0, 2), (1, 1), (2, 1)])) trivial rfl rfl ty24), ⟨⟨rfl, rfl, trivial⟩, ⟨rfl, trivial⟩, rfl⟩, rfl,
    Step.guarded rfl rfl rfl rfl (fun hc => does_load 25 1 0 0 [] (.var (e_a8_u32 (aset (fun _ => 0) [(0, 1), (1, 1), (2, 1)]))) (e_a8_u32 (aset (fun _ => 0) [(0, 1), (1, 1), (2, 1)])) trivial rfl rfl ty25), ⟨⟨rfl, rfl, trivial⟩, ⟨rfl, trivial⟩, rfl⟩, rfl,
    Step.guarded rfl rfl rfl rfl (fun hc => does_load 27 3 2 0 [] (.var (e_api_Place ({ Round := 2, From := 0, Slot := 0 } : api_Place))) (e_api_Place ({ Round := 2, From := 0, Slot := 0 } : api_Place)) trivial rfl rfl ty27), ⟨⟨rfl, rfl, trivial⟩, ⟨rfl, trivial⟩, rfl⟩, rfl,
    Step.guarded rfl rfl rfl rfl (fun hc => Does.strip (n' := [(27, (.opt (((v1.1 == 1) && v1.2) && v3) (e_a8_u32 (aset (fun _ => 0) [(0, 2), (1, 1), (2, 1)])))), (28, (.opt (((v1.1 == 1) && v1.2) && v3) (e_a8_u32 (aset (fun _ => 0) [(0, 1), (1, 1), (2, 1)])))), (29, (.opt (((v1.1 == 1) && v1.2) && v3) (e_api_Place ({ Round := 2, From := 0, Slot := 0 } : api_Place))))]) (n := [(27, (e_a8_u32 (aset (fun _ => 0) [(0, 2), (1, 1), (2, 1)]))), (28, (e_a8_u32 (aset (fun _ => 0) [(0, 1), (1, 1), (2, 1)]))), (29, (e_api_Place ({ Round := 2, From := 0, Slot := 0 } : api_Place)))]) ⟨(.opt _ _ hc), (.opt _ _ hc), (.opt _ _ hc), trivial⟩ (does_call 8 0 (fun _ => .any) (.func 8) [(.tmp 27), (.tmp 28), (.tmp 29), (.const (.int .i64 1))] [(e_a8_u32 (aset (fun _ => 0) [(0, 2), (1, 1), (2, 1)])), (e_a8_u32 (aset (fun _ => 0) [(0, 1), (1, 1), (2, 1)])), (e_api_Place ({ Round := 2, From := 0, Slot := 0 } : api_Place)), (.int .i64 1)] [] true [(e_a8_u32 (aset (fun _ => 0) [(0, 2), (1, 1), (2, 1)])), (e_a8_u32 (aset (fun _ => 0) [(0, 1), (1, 1), (2, 1)])), (e_api_Place ({ Round := 2, From := 0, Slot := 0 } : api_Place)), (.int .i64 1)] (.bool v5) _ _ rfl fo8 rfl ⟨trivial, trivial, trivial, (fun _ => rfl), trivial⟩ ⟨.data _ (d_a8_u32 (aset (fun _ => 0) [(0, 2), (1, 1), (2, 1)])), .data _ (d_a8_u32 (aset (fun _ => 0) [(0, 1), (1, 1), (2, 1)])), .data _ (d_api_Place ({ Round := 2, From := 0, Slot := 0 } : api_Place)), .data _ trivial, trivial⟩ (round_Service_spec (aset (fun _ => 0) [(0, 2), (1, 1), (2, 1)]) (aset (fun _ => 0) [(0, 1), (1, 1), (2, 1)]) ({ Round := 2, From := 0, Slot := 0 } : api_Place) 1 _ (h6 hc)) trivial)), ⟨⟨rfl, rfl, rfl, rfl, trivial⟩, trivial, rfl⟩, rfl,
    Step.plain rfl (does_and 26 30 (((v1.1 == 1) && v1.2) && v3) v5), ⟨⟨rfl, rfl, trivial⟩, trivial, rfl⟩, rfl,
    Step.plain rfl (does_move (.tmp 31) (.bool ((((v1.1 == 1) && v1.2) && v3) && v5)) trivial), ⟨⟨rfl, trivial⟩, trivial, rfl⟩, rfl,
    Step.guarded rfl rfl rfl rfl (fun hc => does_load 24 2 1 0 [] (.var (e_a8_u32 (aset (fun _ => 0) [(0, 2), (1, 1), (2, 1)]))) (e_a8_u32 (aset (fun _ => 0) [(0, 2), (1, 1), (2, 1)])) trivial rfl rfl ty24), ⟨⟨rfl, rfl, trivial⟩, ⟨rfl, trivial⟩, rfl⟩, rfl,
    Step.guarded rfl rfl rfl rfl (fun hc => does_load 25 1 0 0 [] (.var (e_a8_u32 (aset (fun _ => 0) [(0, 1), (1, 1), (2, 1)]))) (e_a8_u32 (aset (fun _ => 0) [(0, 1), (1, 1), (2, 1)])) trivial rfl rfl ty25), ⟨⟨rfl, rfl, trivial⟩, ⟨rfl, trivial⟩, rfl⟩, rfl,
    Step.guarded rfl rfl rfl rfl (fun hc => does_load 27 3 2 0 [] (.var (e_api_Place ({ Round := 2, From := 0, Slot := 0 } : api_Place))) (e_api_Place ({ Round := 2, From := 0, Slot := 0 } : api_Place)) trivial rfl rfl ty27), ⟨⟨rfl, rfl, trivial⟩, ⟨rfl, trivial⟩, rfl⟩, rfl,
    Step.guarded rfl rfl rfl rfl (fun hc => Does.strip (n' := [(33, (.opt ((((v1.1 == 1) && v1.2) && v3) && v5) (e_a8_u32 (aset (fun _ => 0) [(0, 2), (1, 1), (2, 1)])))), (34, (.opt ((((v1.1 == 1) && v1.2) && v3) && v5) (e_a8_u32 (aset (fun _ => 0) [(0, 1), (1, 1), (2, 1)])))), (35, (.opt ((((v1.1 == 1) && v1.2) && v3) && v5) (e_api_Place ({ Round := 2, From := 0, Slot := 0 } : api_Place))))]) (n := [(33, (e_a8_u32 (aset (fun _ => 0) [(0, 2), (1, 1), (2, 1)]))), (34, (e_a8_u32 (aset (fun _ => 0) [(0, 1), (1, 1), (2, 1)]))), (35, (e_api_Place ({ Round := 2, From := 0, Slot := 0 } : api_Place)))]) ⟨(.opt _ _ hc), (.opt _ _ hc), (.opt _ _ hc), trivial⟩ (does_call 8 0 (fun _ => .any) (.func 8) [(.tmp 33), (.tmp 34), (.tmp 35), (.const (.int .i64 2))] [(e_a8_u32 (aset (fun _ => 0) [(0, 2), (1, 1), (2, 1)])), (e_a8_u32 (aset (fun _ => 0) [(0, 1), (1, 1), (2, 1)])), (e_api_Place ({ Round := 2, From := 0, Slot := 0 } : api_Place)), (.int .i64 2)] [] true [(e_a8_u32 (aset (fun _ => 0) [(0, 2), (1, 1), (2, 1)])), (e_a8_u32 (aset (fun _ => 0) [(0, 1), (1, 1), (2, 1)])), (e_api_Place ({ Round := 2, From := 0, Slot := 0 } : api_Place)), (.int .i64 2)] (.bool v7) _ _ rfl fo8 rfl ⟨trivial, trivial, trivial, (fun _ => rfl), trivial⟩ ⟨.data _ (d_a8_u32 (aset (fun _ => 0) [(0, 2), (1, 1), (2, 1)])), .data _ (d_a8_u32 (aset (fun _ => 0) [(0, 1), (1, 1), (2, 1)])), .data _ (d_api_Place ({ Round := 2, From := 0, Slot := 0 } : api_Place)), .data _ trivial, trivial⟩ (round_Service_spec (aset (fun _ => 0) [(0, 2), (1, 1), (2, 1)]) (aset (fun _ => 0) [(0, 1), (1, 1), (2, 1)]) ({ Round := 2, From := 0, Slot := 0 } : api_Place) 2 _ (h8 hc)) trivial)), ⟨⟨rfl, rfl, rfl, rfl, trivial⟩, trivial, rfl⟩, rfl,
    Step.plain rfl (does_and 32 36 ((((v1.1 == 1) && v1.2) && v3) && v5) v7), ⟨⟨rfl, rfl, trivial⟩, trivial, rfl⟩, rfl,
    Step.plain rfl (does_move (.tmp 37) (.bool (((((v1.1 == 1) && v1.2) && v3) && v5) && v7)) trivial), ⟨⟨rfl, trivial⟩, trivial, rfl⟩, rfl,
    Step.guarded rfl rfl rfl rfl (fun hc => does_load 24 2 1 0 [] (.var (e_a8_u32 (aset (fun _ => 0) [(0, 2), (1, 1), (2, 1)]))) (e_a8_u32 (aset (fun _ => 0) [(0, 2), (1, 1), (2, 1)])) trivial rfl rfl ty24), ⟨⟨rfl, rfl, trivial⟩, ⟨rfl, trivial⟩, rfl⟩, rfl,
    Step.guarded rfl rfl rfl rfl (fun hc => does_load 25 1 0 0 [] (.var (e_a8_u32 (aset (fun _ => 0) [(0, 1), (1, 1), (2, 1)]))) (e_a8_u32 (aset (fun _ => 0) [(0, 1), (1, 1), (2, 1)])) trivial rfl rfl ty25), ⟨⟨rfl, rfl, trivial⟩, ⟨rfl, trivial⟩, rfl⟩, rfl,
    Step.guarded rfl rfl rfl rfl (fun hc => does_load 27 3 2 0 [] (.var (e_api_Place ({ Round := 2, From := 0, Slot := 0 } : api_Place))) (e_api_Place ({ Round := 2, From := 0, Slot := 0 } : api_Place)) trivial rfl rfl ty27), ⟨⟨rfl, rfl, trivial⟩, ⟨rfl, trivial⟩, rfl⟩, rfl,
    Step.guarded rfl rfl rfl rfl (fun hc => Does.strip (n' := [(39, (.opt (((((v1.1 == 1) && v1.2) && v3) && v5) && v7) (e_a8_u32 (aset (fun _ => 0) [(0, 2), (1, 1), (2, 1)])))), (40, (.opt (((((v1.1 == 1) && v1.2) && v3) && v5) && v7) (e_a8_u32 (aset (fun _ => 0) [(0, 1), (1, 1), (2, 1)])))), (41, (.opt (((((v1.1 == 1) && v1.2) && v3) && v5) && v7) (e_api_Place ({ Round := 2, From := 0, Slot := 0 } : api_Place))))]) (n := [(39, (e_a8_u32 (aset (fun _ => 0) [(0, 2), (1, 1), (2, 1)]))), (40, (e_a8_u32 (aset (fun _ => 0) [(0, 1), (1, 1), (2, 1)]))), (41, (e_api_Place ({ Round := 2, From := 0, Slot := 0 } : api_Place)))]) ⟨(.opt _ _ hc), (.opt _ _ hc), (.opt _ _ hc), trivial⟩ (does_call 8 0 (fun _ => .any) (.func 8) [(.tmp 39), (.tmp 40), (.tmp 41), (.const (.int .i64 3))] [(e_a8_u32 (aset (fun _ => 0) [(0, 2), (1, 1), (2, 1)])), (e_a8_u32 (aset (fun _ => 0) [(0, 1), (1, 1), (2, 1)])), (e_api_Place ({ Round := 2, From := 0, Slot := 0 } : api_Place)), (.int .i64 3)] [] true [(e_a8_u32 (aset (fun _ => 0) [(0, 2), (1, 1), (2, 1)])), (e_a8_u32 (aset (fun _ => 0) [(0, 1), (1, 1), (2, 1)])), (e_api_Place ({ Round := 2, From := 0, Slot := 0 } : api_Place)), (.int .i64 3)] (.bool v9) _ _ rfl fo8 rfl ⟨trivial, trivial, trivial, (fun _ => rfl), trivial⟩ ⟨.data _ (d_a8_u32 (aset (fun _ => 0) [(0, 2), (1, 1), (2, 1)])), .data _ (d_a8_u32 (aset (fun _ => 0) [(0, 1), (1, 1), (2, 1)])), .data _ (d_api_Place ({ Round := 2, From := 0, Slot := 0 } : api_Place)), .data _ trivial, trivial⟩ (round_Service_spec (aset (fun _ => 0) [(0, 2), (1, 1), (2, 1)]) (aset (fun _ => 0) [(0, 1), (1, 1), (2, 1)]) ({ Round := 2, From := 0, Slot := 0 } : api_Place) 3 _ (h10 hc)) trivial)), ⟨⟨rfl, rfl, rfl, rfl, trivial⟩, trivial, rfl⟩, rfl,
    Step.guarded rfl rfl rfl rfl (fun hc => Does.strip (n' := [(42, (.opt (((((v1.1 == 1) && v1.2) && v3) && v5) && v7) (.bool v9)))]) (n := [(42, (.bool v9))]) ⟨(.opt _ _ hc), trivial⟩ (does_not 4 (.tmp 42) v9 trivial)), ⟨⟨rfl, rfl, trivial⟩, trivial, rfl⟩, rfl,
    Step.plain rfl (does_and 38 43 (((((v1.1 == 1) && v1.2) && v3) && v5) && v7) (!v9)), ⟨⟨rfl, rfl, trivial⟩, trivial, rfl⟩, rfl,
    Step.plain rfl (does_move (.tmp 44) (.bool ((((((v1.1 == 1) && v1.2) && v3) && v5) && v7) && (!v9))) trivial), ⟨⟨rfl, trivial⟩, trivial, rfl⟩, rfl,
    Step.guarded rfl rfl rfl rfl (fun hc => does_load 24 2 1 0 [] (.var (e_a8_u32 (aset (fun _ => 0) [(0, 2), (1, 1), (2, 1)]))) (e_a8_u32 (aset (fun _ => 0) [(0, 2), (1, 1), (2, 1)])) trivial rfl rfl ty24), ⟨⟨rfl, rfl, trivial⟩, ⟨rfl, trivial⟩, rfl⟩, rfl,
    Step.guarded rfl rfl rfl rfl (fun hc => does_load 25 1 0 0 [] (.var (e_a8_u32 (aset (fun _ => 0) [(0, 1), (1, 1), (2, 1)]))) (e_a8_u32 (aset (fun _ => 0) [(0, 1), (1, 1), (2, 1)])) trivial rfl rfl ty25), ⟨⟨rfl, rfl, trivial⟩, ⟨rfl, trivial⟩, rfl⟩, rfl,
    Step.guarded rfl rfl rfl rfl (fun hc => Does.strip (n' := [(46, (.opt ((((((v1.1 == 1) && v1.2) && v3) && v5) && v7) && (!v9)) (e_a8_u32 (aset (fun _ => 0) [(0, 2), (1, 1), (2, 1)])))), (47, (.opt ((((((v1.1 == 1) && v1.2) && v3) && v5) && v7) && (!v9)) (e_a8_u32 (aset (fun _ => 0) [(0, 1), (1, 1), (2, 1)]))))]) (n := [(46, (e_a8_u32 (aset (fun _ => 0) [(0, 2), (1, 1), (2, 1)]))), (47, (e_a8_u32 (aset (fun _ => 0) [(0, 1), (1, 1), (2, 1)])))]) ⟨(.opt _ _ hc), (.opt _ _ hc), trivial⟩ (does_call 17 0 (fun _ => .any) (.func 17) [(.tmp 46), (.tmp 47)] [(e_a8_u32 (aset (fun _ => 0) [(0, 2), (1, 1), (2, 1)])), (e_a8_u32 (aset (fun _ => 0) [(0, 1), (1, 1), (2, 1)]))] [] true [(e_a8_u32 (aset (fun _ => 0) [(0, 2), (1, 1), (2, 1)])), (e_a8_u32 (aset (fun _ => 0) [(0, 1), (1, 1), (2, 1)]))] (e_api_Place v11) _ _ rfl fo17 rfl ⟨trivial, trivial, trivial⟩ ⟨.data _ (d_a8_u32 (aset (fun _ => 0) [(0, 2), (1, 1), (2, 1)])), .data _ (d_a8_u32 (aset (fun _ => 0) [(0, 1), (1, 1), (2, 1)])), trivial⟩ (round_Position_spec (aset (fun _ => 0) [(0, 2), (1, 1), (2, 1)]) (aset (fun _ => 0) [(0, 1), (1, 1), (2, 1)]) _ (h12 hc)) (f_api_Place v11))), ⟨⟨rfl, rfl, rfl, trivial⟩, trivial, rfl⟩, rfl,
    Step.guarded rfl rfl rfl rfl (fun hc => does_buildT 27 #[(0, (.const (.int .u32 2))), (1, (.const (.int .i64 1)))] [(0, (.const (.int .u32 2))), (1, (.const (.int .i64 1)))] [(0, (.int .u32 2)), (1, (.int .i64 1))] (.st [1, 1, 1]) (c_api_Place z_api_Place) (c_api_Place ({ Round := 2, From := 1, Slot := 0 } : api_Place)) rfl bo27 ⟨⟨rfl, (fun _ => rfl)⟩, ⟨rfl, (fun _ => rfl)⟩, trivial⟩ ⟨⟨Nat.le_of_ble_eq_true rfl, rfl, rfl⟩, ⟨Nat.le_of_ble_eq_true rfl, rfl, rfl⟩, trivial⟩ (by funext j; match j with | 0 => rfl | 1 => rfl | 2 => rfl | _ + 3 => rfl)), ⟨⟨rfl, trivial⟩, trivial, rfl⟩, rfl,
    Step.guarded rfl rfl rfl rfl (fun hc => Does.strip (n' := [(48, (.opt ((((((v1.1 == 1) && v1.2) && v3) && v5) && v7) && (!v9)) (e_api_Place v11))), (49, (.opt ((((((v1.1 == 1) && v1.2) && v3) && v5) && v7) && (!v9)) (e_api_Place ({ Round := 2, From := 1, Slot := 0 } : api_Place))))]) (n := [(48, (e_api_Place v11)), (49, (e_api_Place ({ Round := 2, From := 1, Slot := 0 } : api_Place)))]) ⟨(.opt _ _ hc), (.opt _ _ hc), trivial⟩ (does_eqT false 27 27 (.tmp 48) (.tmp 49) (e_api_Place v11) (e_api_Place ({ Round := 2, From := 1, Slot := 0 } : api_Place)) (e_api_Place z_api_Place) (b_api_Place v11 ({ Round := 2, From := 1, Slot := 0 } : api_Place)) rfl rfl trivial trivial eg27 sh27 (al_api_Place _ _) (al_api_Place _ _) (q_api_Place _ _))), ⟨⟨rfl, rfl, rfl, trivial⟩, trivial, rfl⟩, rfl,
    Step.plain rfl (does_and 45 50 ((((((v1.1 == 1) && v1.2) && v3) && v5) && v7) && (!v9)) (b_api_Place v11 ({ Round := 2, From := 1, Slot := 0 } : api_Place))), ⟨⟨rfl, rfl, trivial⟩, trivial, rfl⟩, rfl,
    Step.plain rfl (does_move (.tmp 51) (.bool (((((((v1.1 == 1) && v1.2) && v3) && v5) && v7) && (!v9)) && (b_api_Place v11 ({ Round := 2, From := 1, Slot := 0 } : api_Place)))) trivial), ⟨⟨rfl, trivial⟩, trivial, rfl⟩, rfl,
    Step.guarded rfl rfl rfl rfl (fun hc => does_load 24 2 1 0 [] (.var (e_a8_u32 (aset (fun _ => 0) [(0, 2), (1, 1), (2, 1)]))) (e_a8_u32 (aset (fun _ => 0) [(0, 2), (1, 1), (2, 1)])) trivial rfl rfl ty24), ⟨⟨rfl, rfl, trivial⟩, ⟨rfl, trivial⟩, rfl⟩, rfl,
    Step.guarded rfl rfl rfl rfl (fun hc => does_load 25 1 0 0 [] (.var (e_a8_u32 (aset (fun _ => 0) [(0, 1), (1, 1), (2, 1)]))) (e_a8_u32 (aset (fun _ => 0) [(0, 1), (1, 1), (2, 1)])) trivial rfl rfl ty25), ⟨⟨rfl, rfl, trivial⟩, ⟨rfl, trivial⟩, rfl⟩, rfl,
    Step.guarded rfl rfl rfl rfl (fun hc => Does.strip (n' := [(53, (.opt (((((((v1.1 == 1) && v1.2) && v3) && v5) && v7) && (!v9)) && (b_api_Place v11 ({ Round := 2, From := 1, Slot := 0 } : api_Place))) (e_a8_u32 (aset (fun _ => 0) [(0, 2), (1, 1), (2, 1)])))), (54, (.opt (((((((v1.1 == 1) && v1.2) && v3) && v5) && v7) && (!v9)) && (b_api_Place v11 ({ Round := 2, From := 1, Slot := 0 } : api_Place))) (e_a8_u32 (aset (fun _ => 0) [(0, 1), (1, 1), (2, 1)]))))]) (n := [(53, (e_a8_u32 (aset (fun _ => 0) [(0, 2), (1, 1), (2, 1)]))), (54, (e_a8_u32 (aset (fun _ => 0) [(0, 1), (1, 1), (2, 1)])))]) ⟨(.opt _ _ hc), (.opt _ _ hc), trivial⟩ (does_call 12 0 (fun _ => .any) (.func 12) [(.tmp 53), (.tmp 54), (.const (.int .i64 1))] [(e_a8_u32 (aset (fun _ => 0) [(0, 2), (1, 1), (2, 1)])), (e_a8_u32 (aset (fun _ => 0) [(0, 1), (1, 1), (2, 1)])), (.int .i64 1)] [] true [(e_a8_u32 (aset (fun _ => 0) [(0, 2), (1, 1), (2, 1)])), (e_a8_u32 (aset (fun _ => 0) [(0, 1), (1, 1), (2, 1)])), (.int .i64 1)] (.bool v13) _ _ rfl fo12 rfl ⟨trivial, trivial, (fun _ => rfl), trivial⟩ ⟨.data _ (d_a8_u32 (aset (fun _ => 0) [(0, 2), (1, 1), (2, 1)])), .data _ (d_a8_u32 (aset (fun _ => 0) [(0, 1), (1, 1), (2, 1)])), .data _ trivial, trivial⟩ (round_May_spec (aset (fun _ => 0) [(0, 2), (1, 1), (2, 1)]) (aset (fun _ => 0) [(0, 1), (1, 1), (2, 1)]) 1 _ (h14 hc)) trivial)), ⟨⟨rfl, rfl, rfl, trivial⟩, trivial, rfl⟩, rfl,
    Step.plain rfl (does_and 52 55 (((((((v1.1 == 1) && v1.2) && v3) && v5) && v7) && (!v9)) && (b_api_Place v11 ({ Round := 2, From := 1, Slot := 0 } : api_Place))) v13), ⟨⟨rfl, rfl, trivial⟩, trivial, rfl⟩, rfl,
    Step.plain rfl (does_move (.tmp 56) (.bool ((((((((v1.1 == 1) && v1.2) && v3) && v5) && v7) && (!v9)) && (b_api_Place v11 ({ Round := 2, From := 1, Slot := 0 } : api_Place))) && v13)) trivial), ⟨⟨rfl, trivial⟩, trivial, rfl⟩, rfl,
    Step.guarded rfl rfl rfl rfl (fun hc => does_load 24 2 1 0 [] (.var (e_a8_u32 (aset (fun _ => 0) [(0, 2), (1, 1), (2, 1)]))) (e_a8_u32 (aset (fun _ => 0) [(0, 2), (1, 1), (2, 1)])) trivial rfl rfl ty24), ⟨⟨rfl, rfl, trivial⟩, ⟨rfl, trivial⟩, rfl⟩, rfl,
    Step.guarded rfl rfl rfl rfl (fun hc => does_load 25 1 0 0 [] (.var (e_a8_u32 (aset (fun _ => 0) [(0, 1), (1, 1), (2, 1)]))) (e_a8_u32 (aset (fun _ => 0) [(0, 1), (1, 1), (2, 1)])) trivial rfl rfl ty25), ⟨⟨rfl, rfl, trivial⟩, ⟨rfl, trivial⟩, rfl⟩, rfl,
    Step.guarded rfl rfl rfl rfl (fun hc => Does.strip (n' := [(58, (.opt ((((((((v1.1 == 1) && v1.2) && v3) && v5) && v7) && (!v9)) && (b_api_Place v11 ({ Round := 2, From := 1, Slot := 0 } : api_Place))) && v13) (e_a8_u32 (aset (fun _ => 0) [(0, 2), (1, 1), (2, 1)])))), (59, (.opt ((((((((v1.1 == 1) && v1.2) && v3) && v5) && v7) && (!v9)) && (b_api_Place v11 ({ Round := 2, From := 1, Slot := 0 } : api_Place))) && v13) (e_a8_u32 (aset (fun _ => 0) [(0, 1), (1, 1), (2, 1)]))))]) (n := [(58, (e_a8_u32 (aset (fun _ => 0) [(0, 2), (1, 1), (2, 1)]))), (59, (e_a8_u32 (aset (fun _ => 0) [(0, 1), (1, 1), (2, 1)])))]) ⟨(.opt _ _ hc), (.opt _ _ hc), trivial⟩ (does_call 12 0 (fun _ => .any) (.func 12) [(.tmp 58), (.tmp 59), (.const (.int .i64 0))] [(e_a8_u32 (aset (fun _ => 0) [(0, 2), (1, 1), (2, 1)])), (e_a8_u32 (aset (fun _ => 0) [(0, 1), (1, 1), (2, 1)])), (.int .i64 0)] [] true [(e_a8_u32 (aset (fun _ => 0) [(0, 2), (1, 1), (2, 1)])), (e_a8_u32 (aset (fun _ => 0) [(0, 1), (1, 1), (2, 1)])), (.int .i64 0)] (.bool v15) _ _ rfl fo12 rfl ⟨trivial, trivial, (fun _ => rfl), trivial⟩ ⟨.data _ (d_a8_u32 (aset (fun _ => 0) [(0, 2), (1, 1), (2, 1)])), .data _ (d_a8_u32 (aset (fun _ => 0) [(0, 1), (1, 1), (2, 1)])), .data _ trivial, trivial⟩ (round_May_spec (aset (fun _ => 0) [(0, 2), (1, 1), (2, 1)]) (aset (fun _ => 0) [(0, 1), (1, 1), (2, 1)]) 0 _ (h16 hc)) trivial)), ⟨⟨rfl, rfl, rfl, trivial⟩, trivial, rfl⟩, rfl,
    Step.guarded rfl rfl rfl rfl (fun hc => Does.strip (n' := [(60, (.opt ((((((((v1.1 == 1) && v1.2) && v3) && v5) && v7) && (!v9)) && (b_api_Place v11 ({ Round := 2, From := 1, Slot := 0 } : api_Place))) && v13) (.bool v15)))]) (n := [(60, (.bool v15))]) ⟨(.opt _ _ hc), trivial⟩ (does_not 4 (.tmp 60) v15 trivial)), ⟨⟨rfl, rfl, trivial⟩, trivial, rfl⟩, rfl,
    Step.plain rfl (does_and 57 61 ((((((((v1.1 == 1) && v1.2) && v3) && v5) && v7) && (!v9)) && (b_api_Place v11 ({ Round := 2, From := 1, Slot := 0 } : api_Place))) && v13) (!v15)), ⟨⟨rfl, rfl, trivial⟩, trivial, rfl⟩, rfl,
    Step.plain rfl (does_move (.tmp 62) (.bool (((((((((v1.1 == 1) && v1.2) && v3) && v5) && v7) && (!v9)) && (b_api_Place v11 ({ Round := 2, From := 1, Slot := 0 } : api_Place))) && v13) && (!v15))) trivial), ⟨⟨rfl, trivial⟩, trivial, rfl⟩, rfl,
    Step.guarded rfl rfl rfl rfl (fun hc => does_buildT 24 #[(0, (.const (.int .u32 2))), (1, (.const (.int .u32 2))), (2, (.const (.int .u32 2)))] [(0, (.const (.int .u32 2))), (1, (.const (.int .u32 2))), (2, (.const (.int .u32 2)))] [(0, (.int .u32 2)), (1, (.int .u32 2)), (2, (.int .u32 2))] (.ar 8 1) (fun j => (.int .u32 ((fun _ => 0) j))) (fun j => (.int .u32 ((aset (fun _ => 0) [(0, 2), (1, 2), (2, 2)]) j))) rfl bo24 ⟨⟨rfl, (fun _ => rfl)⟩, ⟨rfl, (fun _ => rfl)⟩, ⟨rfl, (fun _ => rfl)⟩, trivial⟩ ⟨⟨Nat.le_of_ble_eq_true rfl, rfl, rfl⟩, ⟨Nat.le_of_ble_eq_true rfl, rfl, rfl⟩, ⟨Nat.le_of_ble_eq_true rfl, rfl, rfl⟩, trivial⟩ (setAll_map (fun z => V.int .u32 z) [(0, 2), (1, 2), (2, 2)] _)), ⟨⟨rfl, trivial⟩, trivial, rfl⟩, rfl,
    Step.guarded rfl rfl rfl rfl (fun hc => does_load 25 1 0 0 [] (.var (e_a8_u32 (aset (fun _ => 0) [(0, 1), (1, 1), (2, 1)]))) (e_a8_u32 (aset (fun _ => 0) [(0, 1), (1, 1), (2, 1)])) trivial rfl rfl ty25), ⟨⟨rfl, rfl, trivial⟩, ⟨rfl, trivial⟩, rfl⟩, rfl,
    Step.guarded rfl rfl rfl rfl (fun hc => does_buildT 27 #[(0, (.const (.int .u32 1)))] [(0, (.const (.int .u32 1)))] [(0, (.int .u32 1))] (.st [1, 1, 1]) (c_api_Place z_api_Place) (c_api_Place ({ Round := 1, From := 0, Slot := 0 } : api_Place)) rfl bo27 ⟨⟨rfl, (fun _ => rfl)⟩, trivial⟩ ⟨⟨Nat.le_of_ble_eq_true rfl, rfl, rfl⟩, trivial⟩ (by funext j; match j with | 0 => rfl | 1 => rfl | 2 => rfl | _ + 3 => rfl)), ⟨⟨rfl, trivial⟩, trivial, rfl⟩, rfl,
    Step.guarded rfl rfl rfl rfl (fun hc => Does.strip (n' := [(64, (.opt (((((((((v1.1 == 1) && v1.2) && v3) && v5) && v7) && (!v9)) && (b_api_Place v11 ({ Round := 2, From := 1, Slot := 0 } : api_Place))) && v13) && (!v15)) (e_a8_u32 (aset (fun _ => 0) [(0, 2), (1, 2), (2, 2)])))), (65, (.opt (((((((((v1.1 == 1) && v1.2) && v3) && v5) && v7) && (!v9)) && (b_api_Place v11 ({ Round := 2, From := 1, Slot := 0 } : api_Place))) && v13) && (!v15)) (e_a8_u32 (aset (fun _ => 0) [(0, 1), (1, 1), (2, 1)])))), (66, (.opt (((((((((v1.1 == 1) && v1.2) && v3) && v5) && v7) && (!v9)) && (b_api_Place v11 ({ Round := 2, From := 1, Slot := 0 } : api_Place))) && v13) && (!v15)) (e_api_Place ({ Round := 1, From := 0, Slot := 0 } : api_Place))))]) (n := [(64, (e_a8_u32 (aset (fun _ => 0) [(0, 2), (1, 2), (2, 2)]))), (65, (e_a8_u32 (aset (fun _ => 0) [(0, 1), (1, 1), (2, 1)]))), (66, (e_api_Place ({ Round := 1, From := 0, Slot := 0 } : api_Place)))]) ⟨(.opt _ _ hc), (.opt _ _ hc), (.opt _ _ hc), trivial⟩ (does_call 8 0 (fun _ => .any) (.func 8) [(.tmp 64), (.tmp 65), (.tmp 66), (.const (.int .i64 3))] [(e_a8_u32 (aset (fun _ => 0) [(0, 2), (1, 2), (2, 2)])), (e_a8_u32 (aset (fun _ => 0) [(0, 1), (1, 1), (2, 1)])), (e_api_Place ({ Round := 1, From := 0, Slot := 0 } : api_Place)), (.int .i64 3)] [] true [(e_a8_u32 (aset (fun _ => 0) [(0, 2), (1, 2), (2, 2)])), (e_a8_u32 (aset (fun _ => 0) [(0, 1), (1, 1), (2, 1)])), (e_api_Place ({ Round := 1, From := 0, Slot := 0 } : api_Place)), (.int .i64 3)] (.bool v17) _ _ rfl fo8 rfl ⟨trivial, trivial, trivial, (fun _ => rfl), trivial⟩ ⟨.data _ (d_a8_u32 (aset (fun _ => 0) [(0, 2), (1, 2), (2, 2)])), .data _ (d_a8_u32 (aset (fun _ => 0) [(0, 1), (1, 1), (2, 1)])), .data _ (d_api_Place ({ Round := 1, From := 0, Slot := 0 } : api_Place)), .data _ trivial, trivial⟩ (round_Service_spec (aset (fun _ => 0) [(0, 2), (1, 2), (2, 2)]) (aset (fun _ => 0) [(0, 1), (1, 1), (2, 1)]) ({ Round := 1, From := 0, Slot := 0 } : api_Place) 3 _ (h18 hc)) trivial)), ⟨⟨rfl, rfl, rfl, rfl, trivial⟩, trivial, rfl⟩, rfl,
    Step.plain rfl (does_and 63 67 (((((((((v1.1 == 1) && v1.2) && v3) && v5) && v7) && (!v9)) && (b_api_Place v11 ({ Round := 2, From := 1, Slot := 0 } : api_Place))) && v13) && (!v15)) v17), ⟨⟨rfl, rfl, trivial⟩, trivial, rfl⟩, rfl,
    Step.plain rfl (does_assign (.tmp 68) (.bool ((((((((((v1.1 == 1) && v1.2) && v3) && v5) && v7) && (!v9)) && (b_api_Place v11 ({ Round := 2, From := 1, Slot := 0 } : api_Place))) && v13) && (!v15)) && v17)) trivial), ⟨⟨rfl, trivial⟩, trivial, rfl⟩, rfl, rfl⟩ ?_
  obtain ⟨v19, hv19, H⟩ := lt_of H
  refine aw_cov (cov_prune (s1 := ⟨[(0, (.bool v19))], [], 3⟩) ⟨(by subst hv19; rfl), trivial⟩ trivial (Nat.le_refl _)) ?_
  refine aw_ret ?_
  exact fun a w hr => ⟨_, [(.bool v19)], hr, ⟨⟨_, rfl, .data _ trivial⟩, trivial⟩, by decide, by cases H; rfl⟩

theorem congresslaw09_RoundServes_spec (p0 : (Nat → Int)) (p1 : (Nat → Int)) (p2 : api_Place) (r : Bool) (H : congresslaw09_RoundServes p0 p1 p2 = some r) : FSpec Try.prog 3 [(e_a8_u32 p0), (e_a8_u32 p1), (e_api_Place p2)] (.bool r) := by
  refine spec_of (fn := Try.f3) (args := [(e_a8_u32 p0), (e_a8_u32 p1), (e_api_Place p2)]) Try.func3 rfl (Nat.le_of_ble_eq_true rfl) ?_
  rintro ⟨G, w0, W, S, Sp⟩ hG
  cases hG
  unfold congresslaw09_RoundServes at H
  refine aw_region (es := [_, _, _, _]) ⟨Step.plain rfl (does_box 24 (.tmp 0) 0 (e_a8_u32 p0) trivial rfl), ⟨⟨rfl, trivial⟩, trivial, rfl⟩, rfl,
    Step.plain rfl (does_box 25 (.tmp 1) 1 (e_a8_u32 p1) trivial rfl), ⟨⟨rfl, trivial⟩, trivial, rfl⟩, rfl,
    Step.plain rfl (does_box 27 (.tmp 2) 2 (e_api_Place p2) trivial rfl), ⟨⟨rfl, trivial⟩, trivial, rfl⟩, rfl,
    Step.plain rfl (does_assign (.const (.bool false)) (.bool false) (fun _ => rfl)), ⟨trivial, trivial, rfl⟩, rfl, rfl⟩ ?_
  refine aw_cov (cov_prune (s1 := ⟨[(3, (.ptr 0 0 [])), (4, (.ptr 1 0 [])), (5, (.ptr 2 0 []))], [(0, some (.var (e_a8_u32 p0))), (1, some (.var (e_a8_u32 p1))), (2, some (.var (e_api_Place p2)))], 3⟩) ⟨rfl, rfl, rfl, trivial⟩ ⟨rfl, rfl, rfl, trivial⟩ (Nat.le_refl _)) ?_
  refine aw_region (es := [_, _]) ⟨Step.plain rfl (does_buildOwn 28 0 1 3 (.bool false) (fun j => (.bool (([] : _root_.List Bool).getD j false))) #[] [] [] rfl so28 (by decide) trivial trivial (fun j h => match j, h with  | k + 0, h => absurd h (by omega))), ⟨trivial, trivial, rfl⟩, rfl,
    Step.plain rfl (does_assign (.tmp 10) (.own 3) trivial), ⟨⟨rfl, trivial⟩, trivial, rfl⟩, rfl, rfl⟩ ?_
  refine aw_cov (cov_prune (s1 := ⟨[(3, (.ptr 0 0 [])), (4, (.ptr 1 0 [])), (5, (.ptr 2 0 [])), (7, (.own 3))], [(0, some (.var (e_a8_u32 p0))), (1, some (.var (e_a8_u32 p1))), (2, some (.var (e_api_Place p2))), (3, some (.arr 1 ([] : _root_.List Bool).length fun j => (.bool (([] : _root_.List Bool).getD j false))))], 4⟩) ⟨rfl, rfl, rfl, rfl, trivial⟩ ⟨rfl, rfl, rfl, rfl, trivial⟩ (Nat.le_refl _)) ?_
  refine aw_seq ?_
  refine aw_region (es := [_]) ⟨Step.plain rfl (does_assign (.const (.int .i64 0)) (.int .i64 0) (fun _ => rfl)), ⟨trivial, trivial, rfl⟩, rfl, rfl⟩ ?_
  refine aw_cov (cov_prune (s1 := ⟨[(3, (.ptr 0 0 [])), (4, (.ptr 1 0 [])), (5, (.ptr 2 0 [])), (7, (.own 3)), (8, (.int .i64 0))], [(0, some (.var (e_a8_u32 p0))), (1, some (.var (e_a8_u32 p1))), (2, some (.var (e_api_Place p2))), (3, some (.arr 1 ([] : _root_.List Bool).length fun j => (.bool (([] : _root_.List Bool).getD j false))))], 4⟩) ⟨rfl, rfl, rfl, rfl, rfl, trivial⟩ ⟨rfl, rfl, rfl, rfl, trivial⟩ (Nat.le_refl _)) ?_
  obtain ⟨wn2, hwn2, Hrn2⟩ := bnd H
  refine aw_meet (fun y8 : _root_.List Bool => (⟨[(3, (.ptr 0 0 [])), (4, (.ptr 1 0 [])), (5, (.ptr 2 0 [])), (7, (.own 3))], [(0, some (.var (e_a8_u32 p0))), (1, some (.var (e_a8_u32 p1))), (2, some (.var (e_api_Place p2))), (3, some (.arr 1 y8.length fun j => (.bool (y8.getD j false))))], 4⟩ : St)) (fun y8 => Fl.nx y8 = wn2) (fun y8 hy => ?_) (aw_block (aw_runs (fun x1 : Int × _root_.List Bool => (⟨[(3, (.ptr 0 0 [])), (4, (.ptr 1 0 [])), (5, (.ptr 2 0 [])), (7, (.own 3)), (8, (.int .i64 x1.1))], [(0, some (.var (e_a8_u32 p0))), (1, some (.var (e_a8_u32 p1))), (2, some (.var (e_api_Place p2))), (3, some (.arr 1 x1.2.length fun j => (.bool (x1.2.getD j false))))], 4⟩ : St)) hwn2 (cov_prune ⟨rfl, rfl, rfl, rfl, rfl, trivial⟩ ⟨rfl, rfl, rfl, rfl, trivial⟩ (Nat.le_of_ble_eq_true rfl)) (fun x1 st H hsn2 => ?_)))
  · have H := nx_of hy Hrn2
    refine nx_seq ?_
    obtain ⟨v9, h10, H⟩ := bnd H
    obtain ⟨h11, H⟩ := ibg_of H
    obtain ⟨h12, H⟩ := ibg_of H
    obtain ⟨h13, H⟩ := ibg_of H
    obtain ⟨h14, H⟩ := ibg_of H
    obtain ⟨h15, H⟩ := ibg_of H
    obtain ⟨h16, H⟩ := ibg_of H
    obtain ⟨v17, h18, H⟩ := whn_of H
    obtain ⟨v19, h20, H⟩ := whn_of H
    refine aw_region (es := [_, _, _, _, _, _, _, _, _, _, _, _, _, _, _, _, _, _, _, _, _, _, _, _, _, _, _, _, _, _, _, _, _, _, _, _, _, _, _, _, _, _, _, _, _, _, _, _, _]) ⟨Step.plain rfl (does_call 10 0 (fun _ => .any) (.func 10) [] [] [] true [] (.bool v9) _ _ rfl fo10 rfl trivial trivial (congresslaw09_fixed_spec _ h10) trivial), ⟨trivial, trivial, rfl⟩, rfl,
      Step.plain rfl (does_move (.tmp 31) (.bool v9) trivial), ⟨⟨rfl, trivial⟩, trivial, rfl⟩, rfl,
      Step.guarded rfl rfl rfl rfl (fun hc => does_move (.tmp 7) (.own 3) trivial), ⟨⟨rfl, rfl, trivial⟩, trivial, rfl⟩, rfl,
      Step.guarded rfl rfl rfl rfl (fun hc => Does.strip (n' := [(33, (.opt v9 (.own 3)))]) (n := [(33, (.own 3))]) ⟨(.opt _ _ hc), trivial⟩ (does_indexAddro 28 1 y8.length 33 3 (fun j => (.bool (y8.getD j false))) (.const (.int .i64 3)) .i64 3 el28 (fun _ => rfl) (h11 hc).1 (h11 hc).2)), ⟨⟨rfl, rfl, trivial⟩, ⟨rfl, trivial⟩, rfl⟩, rfl,
      Step.guarded rfl rfl rfl rfl (fun hc => Does.strip (n' := [(34, (.opt v9 (.ptr 3 (3 * 1) [3])))]) (n := [(34, (.ptr 3 (3 * 1) [3]))]) ⟨(.opt _ _ hc), trivial⟩ (does_load 4 34 3 (3 * 1) [3] (.arr 1 y8.length fun j => (.bool (y8.getD j false))) (.bool (y8.getD 3 false)) ⟨(ixl (h11 hc)), trivial⟩ rfl rfl ty4)), ⟨⟨rfl, rfl, trivial⟩, ⟨rfl, trivial⟩, rfl⟩, rfl,
      Step.guarded rfl rfl rfl rfl (fun hc => Does.strip (n' := [(35, (.opt v9 (.bool (y8.getD 3 false))))]) (n := [(35, (.bool (y8.getD 3 false)))]) ⟨(.opt _ _ hc), trivial⟩ (does_not 4 (.tmp 35) (y8.getD 3 false) trivial)), ⟨⟨rfl, rfl, trivial⟩, trivial, rfl⟩, rfl,
      Step.guarded rfl rfl rfl rfl (fun hc => Does.strip (n' := [(36, (.opt v9 (.bool (!(y8.getD 3 false)))))]) (n := [(36, (.bool (!(y8.getD 3 false))))]) ⟨(.opt _ _ hc), trivial⟩ (does_move (.tmp 36) (.bool (!(y8.getD 3 false))) trivial)), ⟨⟨rfl, rfl, trivial⟩, trivial, rfl⟩, rfl,
      Step.guarded rfl rfl rfl rfl (fun hc => does_move (.tmp 7) (.own 3) trivial), ⟨⟨rfl, rfl, trivial⟩, trivial, rfl⟩, rfl,
      Step.guarded rfl rfl rfl rfl (fun hc => Does.strip (n' := [(38, (.opt (v9 && (!(!(y8.getD 3 false)))) (.own 3)))]) (n := [(38, (.own 3))]) ⟨(.opt _ _ hc), trivial⟩ (does_indexAddro 28 1 y8.length 38 3 (fun j => (.bool (y8.getD j false))) (.const (.int .i64 2)) .i64 2 el28 (fun _ => rfl) (h12 hc).1 (h12 hc).2)), ⟨⟨rfl, rfl, trivial⟩, ⟨rfl, trivial⟩, rfl⟩, rfl,
      Step.guarded rfl rfl rfl rfl (fun hc => Does.strip (n' := [(39, (.opt (v9 && (!(!(y8.getD 3 false)))) (.ptr 3 (2 * 1) [2])))]) (n := [(39, (.ptr 3 (2 * 1) [2]))]) ⟨(.opt _ _ hc), trivial⟩ (does_load 4 39 3 (2 * 1) [2] (.arr 1 y8.length fun j => (.bool (y8.getD j false))) (.bool (y8.getD 2 false)) ⟨(ixl (h12 hc)), trivial⟩ rfl rfl ty4)), ⟨⟨rfl, rfl, trivial⟩, ⟨rfl, trivial⟩, rfl⟩, rfl,
      Step.guarded rfl rfl rfl rfl (fun hc => Does.strip (n' := [(37, (.opt v9 (.bool (!(y8.getD 3 false))))), (40, (.opt (v9 && (!(!(y8.getD 3 false)))) (.bool (y8.getD 2 false))))]) (n := [(37, (.bool (!(y8.getD 3 false)))), (40, (.opt (!(!(y8.getD 3 false))) (.bool (y8.getD 2 false))))]) ⟨(.opt _ _ hc), (.half _ _ hc), trivial⟩ (does_or 37 40 (!(y8.getD 3 false)) (y8.getD 2 false))), ⟨⟨rfl, rfl, rfl, trivial⟩, trivial, rfl⟩, rfl,
      Step.plain rfl (does_and 32 41 v9 ((!(y8.getD 3 false)) || (y8.getD 2 false))), ⟨⟨rfl, rfl, trivial⟩, trivial, rfl⟩, rfl,
      Step.plain rfl (does_move (.tmp 42) (.bool (v9 && ((!(y8.getD 3 false)) || (y8.getD 2 false)))) trivial), ⟨⟨rfl, trivial⟩, trivial, rfl⟩, rfl,
      Step.guarded rfl rfl rfl rfl (fun hc => does_move (.tmp 7) (.own 3) trivial), ⟨⟨rfl, rfl, trivial⟩, trivial, rfl⟩, rfl,
      Step.guarded rfl rfl rfl rfl (fun hc => Does.strip (n' := [(44, (.opt (v9 && ((!(y8.getD 3 false)) || (y8.getD 2 false))) (.own 3)))]) (n := [(44, (.own 3))]) ⟨(.opt _ _ hc), trivial⟩ (does_indexAddro 28 1 y8.length 44 3 (fun j => (.bool (y8.getD j false))) (.const (.int .i64 2)) .i64 2 el28 (fun _ => rfl) (h13 hc).1 (h13 hc).2)), ⟨⟨rfl, rfl, trivial⟩, ⟨rfl, trivial⟩, rfl⟩, rfl,
      Step.guarded rfl rfl rfl rfl (fun hc => Does.strip (n' := [(45, (.opt (v9 && ((!(y8.getD 3 false)) || (y8.getD 2 false))) (.ptr 3 (2 * 1) [2])))]) (n := [(45, (.ptr 3 (2 * 1) [2]))]) ⟨(.opt _ _ hc), trivial⟩ (does_load 4 45 3 (2 * 1) [2] (.arr 1 y8.length fun j => (.bool (y8.getD j false))) (.bool (y8.getD 2 false)) ⟨(ixl (h13 hc)), trivial⟩ rfl rfl ty4)), ⟨⟨rfl, rfl, trivial⟩, ⟨rfl, trivial⟩, rfl⟩, rfl,
      Step.guarded rfl rfl rfl rfl (fun hc => Does.strip (n' := [(46, (.opt (v9 && ((!(y8.getD 3 false)) || (y8.getD 2 false))) (.bool (y8.getD 2 false))))]) (n := [(46, (.bool (y8.getD 2 false)))]) ⟨(.opt _ _ hc), trivial⟩ (does_not 4 (.tmp 46) (y8.getD 2 false) trivial)), ⟨⟨rfl, rfl, trivial⟩, trivial, rfl⟩, rfl,
      Step.guarded rfl rfl rfl rfl (fun hc => Does.strip (n' := [(47, (.opt (v9 && ((!(y8.getD 3 false)) || (y8.getD 2 false))) (.bool (!(y8.getD 2 false)))))]) (n := [(47, (.bool (!(y8.getD 2 false))))]) ⟨(.opt _ _ hc), trivial⟩ (does_move (.tmp 47) (.bool (!(y8.getD 2 false))) trivial)), ⟨⟨rfl, rfl, trivial⟩, trivial, rfl⟩, rfl,
      Step.guarded rfl rfl rfl rfl (fun hc => does_move (.tmp 7) (.own 3) trivial), ⟨⟨rfl, rfl, trivial⟩, trivial, rfl⟩, rfl,
      Step.guarded rfl rfl rfl rfl (fun hc => Does.strip (n' := [(49, (.opt ((v9 && ((!(y8.getD 3 false)) || (y8.getD 2 false))) && (!(!(y8.getD 2 false)))) (.own 3)))]) (n := [(49, (.own 3))]) ⟨(.opt _ _ hc), trivial⟩ (does_indexAddro 28 1 y8.length 49 3 (fun j => (.bool (y8.getD j false))) (.const (.int .i64 1)) .i64 1 el28 (fun _ => rfl) (h14 hc).1 (h14 hc).2)), ⟨⟨rfl, rfl, trivial⟩, ⟨rfl, trivial⟩, rfl⟩, rfl,
      Step.guarded rfl rfl rfl rfl (fun hc => Does.strip (n' := [(50, (.opt ((v9 && ((!(y8.getD 3 false)) || (y8.getD 2 false))) && (!(!(y8.getD 2 false)))) (.ptr 3 (1 * 1) [1])))]) (n := [(50, (.ptr 3 (1 * 1) [1]))]) ⟨(.opt _ _ hc), trivial⟩ (does_load 4 50 3 (1 * 1) [1] (.arr 1 y8.length fun j => (.bool (y8.getD j false))) (.bool (y8.getD 1 false)) ⟨(ixl (h14 hc)), trivial⟩ rfl rfl ty4)), ⟨⟨rfl, rfl, trivial⟩, ⟨rfl, trivial⟩, rfl⟩, rfl,
      Step.guarded rfl rfl rfl rfl (fun hc => Does.strip (n' := [(48, (.opt (v9 && ((!(y8.getD 3 false)) || (y8.getD 2 false))) (.bool (!(y8.getD 2 false))))), (51, (.opt ((v9 && ((!(y8.getD 3 false)) || (y8.getD 2 false))) && (!(!(y8.getD 2 false)))) (.bool (y8.getD 1 false))))]) (n := [(48, (.bool (!(y8.getD 2 false)))), (51, (.opt (!(!(y8.getD 2 false))) (.bool (y8.getD 1 false))))]) ⟨(.opt _ _ hc), (.half _ _ hc), trivial⟩ (does_or 48 51 (!(y8.getD 2 false)) (y8.getD 1 false))), ⟨⟨rfl, rfl, rfl, trivial⟩, trivial, rfl⟩, rfl,
      Step.plain rfl (does_and 43 52 (v9 && ((!(y8.getD 3 false)) || (y8.getD 2 false))) ((!(y8.getD 2 false)) || (y8.getD 1 false))), ⟨⟨rfl, rfl, trivial⟩, trivial, rfl⟩, rfl,
      Step.plain rfl (does_move (.tmp 53) (.bool ((v9 && ((!(y8.getD 3 false)) || (y8.getD 2 false))) && ((!(y8.getD 2 false)) || (y8.getD 1 false)))) trivial), ⟨⟨rfl, trivial⟩, trivial, rfl⟩, rfl,
      Step.guarded rfl rfl rfl rfl (fun hc => does_move (.tmp 7) (.own 3) trivial), ⟨⟨rfl, rfl, trivial⟩, trivial, rfl⟩, rfl,
      Step.guarded rfl rfl rfl rfl (fun hc => Does.strip (n' := [(55, (.opt ((v9 && ((!(y8.getD 3 false)) || (y8.getD 2 false))) && ((!(y8.getD 2 false)) || (y8.getD 1 false))) (.own 3)))]) (n := [(55, (.own 3))]) ⟨(.opt _ _ hc), trivial⟩ (does_indexAddro 28 1 y8.length 55 3 (fun j => (.bool (y8.getD j false))) (.const (.int .i64 1)) .i64 1 el28 (fun _ => rfl) (h15 hc).1 (h15 hc).2)), ⟨⟨rfl, rfl, trivial⟩, ⟨rfl, trivial⟩, rfl⟩, rfl,
      Step.guarded rfl rfl rfl rfl (fun hc => Does.strip (n' := [(56, (.opt ((v9 && ((!(y8.getD 3 false)) || (y8.getD 2 false))) && ((!(y8.getD 2 false)) || (y8.getD 1 false))) (.ptr 3 (1 * 1) [1])))]) (n := [(56, (.ptr 3 (1 * 1) [1]))]) ⟨(.opt _ _ hc), trivial⟩ (does_load 4 56 3 (1 * 1) [1] (.arr 1 y8.length fun j => (.bool (y8.getD j false))) (.bool (y8.getD 1 false)) ⟨(ixl (h15 hc)), trivial⟩ rfl rfl ty4)), ⟨⟨rfl, rfl, trivial⟩, ⟨rfl, trivial⟩, rfl⟩, rfl,
      Step.guarded rfl rfl rfl rfl (fun hc => Does.strip (n' := [(57, (.opt ((v9 && ((!(y8.getD 3 false)) || (y8.getD 2 false))) && ((!(y8.getD 2 false)) || (y8.getD 1 false))) (.bool (y8.getD 1 false))))]) (n := [(57, (.bool (y8.getD 1 false)))]) ⟨(.opt _ _ hc), trivial⟩ (does_not 4 (.tmp 57) (y8.getD 1 false) trivial)), ⟨⟨rfl, rfl, trivial⟩, trivial, rfl⟩, rfl,
      Step.guarded rfl rfl rfl rfl (fun hc => Does.strip (n' := [(58, (.opt ((v9 && ((!(y8.getD 3 false)) || (y8.getD 2 false))) && ((!(y8.getD 2 false)) || (y8.getD 1 false))) (.bool (!(y8.getD 1 false)))))]) (n := [(58, (.bool (!(y8.getD 1 false))))]) ⟨(.opt _ _ hc), trivial⟩ (does_move (.tmp 58) (.bool (!(y8.getD 1 false))) trivial)), ⟨⟨rfl, rfl, trivial⟩, trivial, rfl⟩, rfl,
      Step.guarded rfl rfl rfl rfl (fun hc => does_move (.tmp 7) (.own 3) trivial), ⟨⟨rfl, rfl, trivial⟩, trivial, rfl⟩, rfl,
      Step.guarded rfl rfl rfl rfl (fun hc => Does.strip (n' := [(60, (.opt (((v9 && ((!(y8.getD 3 false)) || (y8.getD 2 false))) && ((!(y8.getD 2 false)) || (y8.getD 1 false))) && (!(!(y8.getD 1 false)))) (.own 3)))]) (n := [(60, (.own 3))]) ⟨(.opt _ _ hc), trivial⟩ (does_indexAddro 28 1 y8.length 60 3 (fun j => (.bool (y8.getD j false))) (.const (.int .i64 0)) .i64 0 el28 (fun _ => rfl) (h16 hc).1 (h16 hc).2)), ⟨⟨rfl, rfl, trivial⟩, ⟨rfl, trivial⟩, rfl⟩, rfl,
      Step.guarded rfl rfl rfl rfl (fun hc => Does.strip (n' := [(61, (.opt (((v9 && ((!(y8.getD 3 false)) || (y8.getD 2 false))) && ((!(y8.getD 2 false)) || (y8.getD 1 false))) && (!(!(y8.getD 1 false)))) (.ptr 3 (0 * 1) [0])))]) (n := [(61, (.ptr 3 (0 * 1) [0]))]) ⟨(.opt _ _ hc), trivial⟩ (does_load 4 61 3 (0 * 1) [0] (.arr 1 y8.length fun j => (.bool (y8.getD j false))) (.bool (y8.getD 0 false)) ⟨(ixl (h16 hc)), trivial⟩ rfl rfl ty4)), ⟨⟨rfl, rfl, trivial⟩, ⟨rfl, trivial⟩, rfl⟩, rfl,
      Step.guarded rfl rfl rfl rfl (fun hc => Does.strip (n' := [(59, (.opt ((v9 && ((!(y8.getD 3 false)) || (y8.getD 2 false))) && ((!(y8.getD 2 false)) || (y8.getD 1 false))) (.bool (!(y8.getD 1 false))))), (62, (.opt (((v9 && ((!(y8.getD 3 false)) || (y8.getD 2 false))) && ((!(y8.getD 2 false)) || (y8.getD 1 false))) && (!(!(y8.getD 1 false)))) (.bool (y8.getD 0 false))))]) (n := [(59, (.bool (!(y8.getD 1 false)))), (62, (.opt (!(!(y8.getD 1 false))) (.bool (y8.getD 0 false))))]) ⟨(.opt _ _ hc), (.half _ _ hc), trivial⟩ (does_or 59 62 (!(y8.getD 1 false)) (y8.getD 0 false))), ⟨⟨rfl, rfl, rfl, trivial⟩, trivial, rfl⟩, rfl,
      Step.plain rfl (does_and 54 63 ((v9 && ((!(y8.getD 3 false)) || (y8.getD 2 false))) && ((!(y8.getD 2 false)) || (y8.getD 1 false))) ((!(y8.getD 1 false)) || (y8.getD 0 false))), ⟨⟨rfl, rfl, trivial⟩, trivial, rfl⟩, rfl,
      Step.plain rfl (does_move (.tmp 64) (.bool (((v9 && ((!(y8.getD 3 false)) || (y8.getD 2 false))) && ((!(y8.getD 2 false)) || (y8.getD 1 false))) && ((!(y8.getD 1 false)) || (y8.getD 0 false)))) trivial), ⟨⟨rfl, trivial⟩, trivial, rfl⟩, rfl,
      Step.guarded rfl rfl rfl rfl (fun hc => does_load 24 3 0 0 [] (.var (e_a8_u32 p0)) (e_a8_u32 p0) trivial rfl rfl ty24), ⟨⟨rfl, rfl, trivial⟩, ⟨rfl, trivial⟩, rfl⟩, rfl,
      Step.guarded rfl rfl rfl rfl (fun hc => does_load 25 4 1 0 [] (.var (e_a8_u32 p1)) (e_a8_u32 p1) trivial rfl rfl ty25), ⟨⟨rfl, rfl, trivial⟩, ⟨rfl, trivial⟩, rfl⟩, rfl,
      Step.guarded rfl rfl rfl rfl (fun hc => does_load 27 5 2 0 [] (.var (e_api_Place p2)) (e_api_Place p2) trivial rfl rfl ty27), ⟨⟨rfl, rfl, trivial⟩, ⟨rfl, trivial⟩, rfl⟩, rfl,
      Step.guarded rfl rfl rfl rfl (fun hc => Does.strip (n' := [(66, (.opt (((v9 && ((!(y8.getD 3 false)) || (y8.getD 2 false))) && ((!(y8.getD 2 false)) || (y8.getD 1 false))) && ((!(y8.getD 1 false)) || (y8.getD 0 false))) (e_a8_u32 p0))), (67, (.opt (((v9 && ((!(y8.getD 3 false)) || (y8.getD 2 false))) && ((!(y8.getD 2 false)) || (y8.getD 1 false))) && ((!(y8.getD 1 false)) || (y8.getD 0 false))) (e_a8_u32 p1))), (68, (.opt (((v9 && ((!(y8.getD 3 false)) || (y8.getD 2 false))) && ((!(y8.getD 2 false)) || (y8.getD 1 false))) && ((!(y8.getD 1 false)) || (y8.getD 0 false))) (e_api_Place p2)))]) (n := [(66, (e_a8_u32 p0)), (67, (e_a8_u32 p1)), (68, (e_api_Place p2))]) ⟨(.opt _ _ hc), (.opt _ _ hc), (.opt _ _ hc), trivial⟩ (does_call 8 0 (fun _ => .any) (.func 8) [(.tmp 66), (.tmp 67), (.tmp 68), (.const (.int .i64 (-1)))] [(e_a8_u32 p0), (e_a8_u32 p1), (e_api_Place p2), (.int .i64 (-1))] [] true [(e_a8_u32 p0), (e_a8_u32 p1), (e_api_Place p2), (.int .i64 (-1))] (.bool v17) _ _ rfl fo8 rfl ⟨trivial, trivial, trivial, (fun _ => rfl), trivial⟩ ⟨.data _ (d_a8_u32 p0), .data _ (d_a8_u32 p1), .data _ (d_api_Place p2), .data _ trivial, trivial⟩ (round_Service_spec p0 p1 p2 (-1) _ (h18 hc)) trivial)), ⟨⟨rfl, rfl, rfl, rfl, trivial⟩, trivial, rfl⟩, rfl,
      Step.guarded rfl rfl rfl rfl (fun hc => Does.strip (n' := [(69, (.opt (((v9 && ((!(y8.getD 3 false)) || (y8.getD 2 false))) && ((!(y8.getD 2 false)) || (y8.getD 1 false))) && ((!(y8.getD 1 false)) || (y8.getD 0 false))) (.bool v17)))]) (n := [(69, (.bool v17))]) ⟨(.opt _ _ hc), trivial⟩ (does_not 4 (.tmp 69) v17 trivial)), ⟨⟨rfl, rfl, trivial⟩, trivial, rfl⟩, rfl,
      Step.plain rfl (does_and 65 70 (((v9 && ((!(y8.getD 3 false)) || (y8.getD 2 false))) && ((!(y8.getD 2 false)) || (y8.getD 1 false))) && ((!(y8.getD 1 false)) || (y8.getD 0 false))) (!v17)), ⟨⟨rfl, rfl, trivial⟩, trivial, rfl⟩, rfl,
      Step.plain rfl (does_move (.tmp 71) (.bool ((((v9 && ((!(y8.getD 3 false)) || (y8.getD 2 false))) && ((!(y8.getD 2 false)) || (y8.getD 1 false))) && ((!(y8.getD 1 false)) || (y8.getD 0 false))) && (!v17))) trivial), ⟨⟨rfl, trivial⟩, trivial, rfl⟩, rfl,
      Step.guarded rfl rfl rfl rfl (fun hc => does_load 24 3 0 0 [] (.var (e_a8_u32 p0)) (e_a8_u32 p0) trivial rfl rfl ty24), ⟨⟨rfl, rfl, trivial⟩, ⟨rfl, trivial⟩, rfl⟩, rfl,
      Step.guarded rfl rfl rfl rfl (fun hc => does_load 25 4 1 0 [] (.var (e_a8_u32 p1)) (e_a8_u32 p1) trivial rfl rfl ty25), ⟨⟨rfl, rfl, trivial⟩, ⟨rfl, trivial⟩, rfl⟩, rfl,
      Step.guarded rfl rfl rfl rfl (fun hc => does_load 27 5 2 0 [] (.var (e_api_Place p2)) (e_api_Place p2) trivial rfl rfl ty27), ⟨⟨rfl, rfl, trivial⟩, ⟨rfl, trivial⟩, rfl⟩, rfl,
      Step.guarded rfl rfl rfl rfl (fun hc => Does.strip (n' := [(73, (.opt ((((v9 && ((!(y8.getD 3 false)) || (y8.getD 2 false))) && ((!(y8.getD 2 false)) || (y8.getD 1 false))) && ((!(y8.getD 1 false)) || (y8.getD 0 false))) && (!v17)) (e_a8_u32 p0))), (74, (.opt ((((v9 && ((!(y8.getD 3 false)) || (y8.getD 2 false))) && ((!(y8.getD 2 false)) || (y8.getD 1 false))) && ((!(y8.getD 1 false)) || (y8.getD 0 false))) && (!v17)) (e_a8_u32 p1))), (75, (.opt ((((v9 && ((!(y8.getD 3 false)) || (y8.getD 2 false))) && ((!(y8.getD 2 false)) || (y8.getD 1 false))) && ((!(y8.getD 1 false)) || (y8.getD 0 false))) && (!v17)) (e_api_Place p2)))]) (n := [(73, (e_a8_u32 p0)), (74, (e_a8_u32 p1)), (75, (e_api_Place p2))]) ⟨(.opt _ _ hc), (.opt _ _ hc), (.opt _ _ hc), trivial⟩ (does_call 8 0 (fun _ => .any) (.func 8) [(.tmp 73), (.tmp 74), (.tmp 75), (.const (.int .i64 4))] [(e_a8_u32 p0), (e_a8_u32 p1), (e_api_Place p2), (.int .i64 4)] [] true [(e_a8_u32 p0), (e_a8_u32 p1), (e_api_Place p2), (.int .i64 4)] (.bool v19) _ _ rfl fo8 rfl ⟨trivial, trivial, trivial, (fun _ => rfl), trivial⟩ ⟨.data _ (d_a8_u32 p0), .data _ (d_a8_u32 p1), .data _ (d_api_Place p2), .data _ trivial, trivial⟩ (round_Service_spec p0 p1 p2 4 _ (h20 hc)) trivial)), ⟨⟨rfl, rfl, rfl, rfl, trivial⟩, trivial, rfl⟩, rfl,
      Step.guarded rfl rfl rfl rfl (fun hc => Does.strip (n' := [(76, (.opt ((((v9 && ((!(y8.getD 3 false)) || (y8.getD 2 false))) && ((!(y8.getD 2 false)) || (y8.getD 1 false))) && ((!(y8.getD 1 false)) || (y8.getD 0 false))) && (!v17)) (.bool v19)))]) (n := [(76, (.bool v19))]) ⟨(.opt _ _ hc), trivial⟩ (does_not 4 (.tmp 76) v19 trivial)), ⟨⟨rfl, rfl, trivial⟩, trivial, rfl⟩, rfl,
      Step.plain rfl (does_and 72 77 ((((v9 && ((!(y8.getD 3 false)) || (y8.getD 2 false))) && ((!(y8.getD 2 false)) || (y8.getD 1 false))) && ((!(y8.getD 1 false)) || (y8.getD 0 false))) && (!v17)) (!v19)), ⟨⟨rfl, rfl, trivial⟩, trivial, rfl⟩, rfl,
      Step.plain rfl (does_assign (.tmp 78) (.bool (((((v9 && ((!(y8.getD 3 false)) || (y8.getD 2 false))) && ((!(y8.getD 2 false)) || (y8.getD 1 false))) && ((!(y8.getD 1 false)) || (y8.getD 0 false))) && (!v17)) && (!v19))) trivial), ⟨⟨rfl, trivial⟩, trivial, rfl⟩, rfl, rfl⟩ ?_
    obtain ⟨v21, hv21, H⟩ := lt_of H
    refine aw_cov (cov_prune (s1 := ⟨[(6, (.bool v21))], [], 4⟩) ⟨(by subst hv21; rfl), trivial⟩ trivial (Nat.le_refl _)) ?_
    refine aw_ret ?_
    exact fun a w hr => ⟨_, [(.bool v21)], hr, ⟨⟨_, rfl, .data _ trivial⟩, trivial⟩, by decide, by cases H; rfl⟩
  · refine aw_seq ?_
    refine aw_region (es := [_, _]) ⟨Step.plain rfl (does_move (.tmp 8) (.int .i64 x1.1) trivial), ⟨⟨rfl, trivial⟩, trivial, rfl⟩, rfl,
      Step.plain rfl (does_bin .lss 3 3 (.tmp 11) (.const (.int .i64 4)) .i64 x1.1 4 (.bool (decide (x1.1 < 4))) trivial (fun _ => rfl) (bin_lss _ _ _ _)), ⟨⟨rfl, trivial⟩, trivial, rfl⟩, rfl, rfl⟩ ?_
    refine aw_cov (cov_prune (s1 := ⟨[(3, (.ptr 0 0 [])), (4, (.ptr 1 0 [])), (5, (.ptr 2 0 [])), (7, (.own 3)), (8, (.int .i64 x1.1)), (12, (.bool (decide (x1.1 < 4))))], [(0, some (.var (e_a8_u32 p0))), (1, some (.var (e_a8_u32 p1))), (2, some (.var (e_api_Place p2))), (3, some (.arr 1 x1.2.length fun j => (.bool (x1.2.getD j false))))], 4⟩) ⟨rfl, rfl, rfl, rfl, rfl, rfl, trivial⟩ ⟨rfl, rfl, rfl, rfl, trivial⟩ (Nat.le_refl _)) ?_
    refine aw_cond rfl (fun hc => ?_) (fun hc => ?_)
    · replace H := ite_t hc H
      refine aw_skip ?_
      refine nx_seq ?_
      refine aw_seq ?_
      refine aw_block ?_
      obtain ⟨v3, h4, H⟩ := bnd H
      refine aw_region (es := [_, _, _, _, _, _]) ⟨Step.plain rfl (does_load 24 3 0 0 [] (.var (e_a8_u32 p0)) (e_a8_u32 p0) trivial rfl rfl ty24), ⟨⟨rfl, trivial⟩, ⟨rfl, trivial⟩, rfl⟩, rfl,
        Step.plain rfl (does_load 25 4 1 0 [] (.var (e_a8_u32 p1)) (e_a8_u32 p1) trivial rfl rfl ty25), ⟨⟨rfl, trivial⟩, ⟨rfl, trivial⟩, rfl⟩, rfl,
        Step.plain rfl (does_load 27 5 2 0 [] (.var (e_api_Place p2)) (e_api_Place p2) trivial rfl rfl ty27), ⟨⟨rfl, trivial⟩, ⟨rfl, trivial⟩, rfl⟩, rfl,
        Step.plain rfl (does_move (.tmp 8) (.int .i64 x1.1) trivial), ⟨⟨rfl, trivial⟩, trivial, rfl⟩, rfl,
        Step.plain rfl (does_call 8 0 (fun _ => .any) (.func 8) [(.tmp 15), (.tmp 16), (.tmp 17), (.tmp 18)] [(e_a8_u32 p0), (e_a8_u32 p1), (e_api_Place p2), (.int .i64 x1.1)] [] true [(e_a8_u32 p0), (e_a8_u32 p1), (e_api_Place p2), (.int .i64 x1.1)] (.bool v3) _ _ rfl fo8 rfl ⟨trivial, trivial, trivial, trivial, trivial⟩ ⟨.data _ (d_a8_u32 p0), .data _ (d_a8_u32 p1), .data _ (d_api_Place p2), .data _ trivial, trivial⟩ (round_Service_spec p0 p1 p2 x1.1 _ h4) trivial), ⟨⟨rfl, rfl, rfl, rfl, trivial⟩, trivial, rfl⟩, rfl,
        Step.plain rfl (does_assign (.tmp 19) (.bool v3) trivial), ⟨⟨rfl, trivial⟩, trivial, rfl⟩, rfl, rfl⟩ ?_
      refine aw_cov (cov_prune (s1 := ⟨[(3, (.ptr 0 0 [])), (4, (.ptr 1 0 [])), (5, (.ptr 2 0 [])), (7, (.own 3)), (8, (.int .i64 x1.1)), (9, (.bool v3))], [(0, some (.var (e_a8_u32 p0))), (1, some (.var (e_a8_u32 p1))), (2, some (.var (e_api_Place p2))), (3, some (.arr 1 x1.2.length fun j => (.bool (x1.2.getD j false))))], 4⟩) ⟨rfl, rfl, rfl, rfl, rfl, rfl, trivial⟩ ⟨rfl, rfl, rfl, rfl, trivial⟩ (Nat.le_refl _)) ?_
      refine aw_seq ?_
      obtain ⟨v5, h6, H⟩ := bnd H
      refine aw_region (es := [_, _, _, _, _, _, _]) ⟨Step.plain rfl (does_move (.tmp 9) (.bool v3) trivial), ⟨⟨rfl, trivial⟩, trivial, rfl⟩, rfl,
        Step.plain rfl (does_load 24 3 0 0 [] (.var (e_a8_u32 p0)) (e_a8_u32 p0) trivial rfl rfl ty24), ⟨⟨rfl, trivial⟩, ⟨rfl, trivial⟩, rfl⟩, rfl,
        Step.plain rfl (does_load 25 4 1 0 [] (.var (e_a8_u32 p1)) (e_a8_u32 p1) trivial rfl rfl ty25), ⟨⟨rfl, trivial⟩, ⟨rfl, trivial⟩, rfl⟩, rfl,
        Step.plain rfl (does_load 27 5 2 0 [] (.var (e_api_Place p2)) (e_api_Place p2) trivial rfl rfl ty27), ⟨⟨rfl, trivial⟩, ⟨rfl, trivial⟩, rfl⟩, rfl,
        Step.plain rfl (does_move (.tmp 8) (.int .i64 x1.1) trivial), ⟨⟨rfl, trivial⟩, trivial, rfl⟩, rfl,
        Step.plain rfl (does_call 9 0 (fun _ => .any) (.func 9) [(.tmp 21), (.tmp 22), (.tmp 23), (.tmp 24)] [(e_a8_u32 p0), (e_a8_u32 p1), (e_api_Place p2), (.int .i64 x1.1)] [] true [(e_a8_u32 p0), (e_a8_u32 p1), (e_api_Place p2), (.int .i64 x1.1)] (.bool v5) _ _ rfl fo9 rfl ⟨trivial, trivial, trivial, trivial, trivial⟩ ⟨.data _ (d_a8_u32 p0), .data _ (d_a8_u32 p1), .data _ (d_api_Place p2), .data _ trivial, trivial⟩ (congressref09_Service_spec p0 p1 p2 x1.1 _ h6) trivial), ⟨⟨rfl, rfl, rfl, rfl, trivial⟩, trivial, rfl⟩, rfl,
        Step.plain rfl (does_eqBool true 4 4 (.tmp 20) (.tmp 25) v3 v5 trivial trivial rfl), ⟨⟨rfl, rfl, trivial⟩, trivial, rfl⟩, rfl, rfl⟩ ?_
      refine aw_cov (cov_prune (s1 := ⟨[(3, (.ptr 0 0 [])), (4, (.ptr 1 0 [])), (5, (.ptr 2 0 [])), (7, (.own 3)), (8, (.int .i64 x1.1)), (9, (.bool v3)), (26, (.bool (v3 != v5)))], [(0, some (.var (e_a8_u32 p0))), (1, some (.var (e_a8_u32 p1))), (2, some (.var (e_api_Place p2))), (3, some (.arr 1 x1.2.length fun j => (.bool (x1.2.getD j false))))], 4⟩) ⟨rfl, rfl, rfl, rfl, rfl, rfl, rfl, trivial⟩ ⟨rfl, rfl, rfl, rfl, trivial⟩ (Nat.le_refl _)) ?_
      refine aw_cond rfl (fun hc => ?_) (fun hc => ?_)
      · replace H := ite_t hc H
        refine aw_region (es := [_]) ⟨Step.plain rfl (does_assign (.const (.bool false)) (.bool false) (fun _ => rfl)), ⟨trivial, trivial, rfl⟩, rfl, rfl⟩ ?_
        refine aw_cov (cov_prune (s1 := ⟨[(6, (.bool false))], [], 4⟩) ⟨rfl, trivial⟩ trivial (Nat.le_refl _)) ?_
        refine aw_ret ?_
        replace H := rt_of H hsn2 Hrn2
        refine rt_then ?_
        refine rt_blk ?_
        refine rt_then ?_
        refine rt_then ?_
        refine rt_blk ?_
        refine rt_then ?_
        refine rt_then ?_
        exact fun a w hr => ⟨_, [(.bool false)], hr, ⟨⟨_, rfl, .data _ trivial⟩, trivial⟩, by decide, by cases H; rfl⟩
      · replace H := ite_f hc H
        refine aw_skip ?_
        refine nx_seq ?_
        obtain ⟨h7, H⟩ := fit_of H
        refine aw_region1 (es := [_, _, _, _, _]) ⟨Step.plain rfl (does_move (.tmp 7) (.own 3) trivial), ⟨⟨rfl, trivial⟩, trivial, rfl⟩, rfl,
          Step.plain rfl (does_move (.tmp 9) (.bool v3) trivial), ⟨⟨rfl, trivial⟩, trivial, rfl⟩, rfl,
          Step.plain rfl (does_buildSl 28 1 1 (.bool false) (fun j => (.bool (([v3] : _root_.List Bool).getD j false))) #[(0, (.tmp 28))] [(0, (.tmp 28))] [(0, (.bool v3))] rfl so28 (by decide) ⟨⟨rfl, trivial⟩, trivial⟩ ⟨⟨Nat.le_of_ble_eq_true rfl, rfl, rfl⟩, trivial⟩ (fun j h => match j, h with | 0, _ => rfl | k + 1, h => absurd h (by omega))), ⟨⟨rfl, trivial⟩, trivial, rfl⟩, rfl,
          Step.plain rfl (does_appendL (fun z => V.bool z) false x1.2 ([v3] : _root_.List Bool) 28 1 1 3 4 27 29 ap28 h7), ⟨⟨rfl, rfl, trivial⟩, ⟨rfl, trivial⟩, rfl⟩, rfl,
          Step.plain rfl (does_assign (.tmp 30) (.own 4) trivial), ⟨⟨rfl, trivial⟩, trivial, rfl⟩, rfl, rfl⟩ ?_
        refine nx_blk ?_
        refine nx_seq ?_
        refine aw_cov (cov_prune (s1 := ⟨[(3, (.ptr 0 0 [])), (4, (.ptr 1 0 [])), (5, (.ptr 2 0 [])), (8, (.int .i64 x1.1)), (7, (.own 4))], [(0, some (.var (e_a8_u32 p0))), (1, some (.var (e_a8_u32 p1))), (2, some (.var (e_api_Place p2))), (4, some (.arr 1 (x1.2 ++ ([v3] : _root_.List Bool)).length fun j => (.bool ((x1.2 ++ ([v3] : _root_.List Bool)).getD j false))))], 5⟩) ⟨rfl, rfl, rfl, rfl, rfl, trivial⟩ ⟨rfl, rfl, rfl, rfl, trivial⟩ (Nat.le_refl _)) ?_
        refine aw_region1 (es := [_, _, _]) ⟨Step.plain rfl (does_move (.tmp 8) (.int .i64 x1.1) trivial), ⟨⟨rfl, trivial⟩, trivial, rfl⟩, rfl,
          Step.plain rfl (does_bin .add 3 3 (.tmp 13) (.const (.int .i64 1)) .i64 x1.1 1 (.int .i64 (IntKind.i64.wrap (x1.1 + 1))) trivial (fun _ => rfl) (bin_add _ _ _ _)), ⟨⟨rfl, trivial⟩, trivial, rfl⟩, rfl,
          Step.plain rfl (does_assign (.tmp 14) (.int .i64 (IntKind.i64.wrap (x1.1 + 1))) trivial), ⟨⟨rfl, trivial⟩, trivial, rfl⟩, rfl, rfl⟩ ?_
        exact nx_loop ((IntKind.i64.wrap (x1.1 + 1)), (x1.2 ++ ([v3] : _root_.List Bool))) H (cov_of (fun i => match i with | 0 => 0 | 1 => 1 | 2 => 2 | 3 => 4 | k => k) ⟨⟨_, rfl, ⟨rfl, Nat.le_of_ble_eq_true rfl⟩⟩, ⟨_, rfl, ⟨rfl, Nat.le_of_ble_eq_true rfl⟩⟩, ⟨_, rfl, ⟨rfl, Nat.le_of_ble_eq_true rfl⟩⟩, ⟨_, rfl, ⟨rfl, Nat.le_of_ble_eq_true rfl⟩⟩, ⟨_, rfl, ⟨rfl, trivial⟩⟩, trivial⟩ ⟨⟨Nat.le_of_ble_eq_true rfl, _, _, rfl, rfl, .inl ⟨rfl, (d_a8_u32 _).plain⟩⟩, ⟨Nat.le_of_ble_eq_true rfl, _, _, rfl, rfl, .inl ⟨rfl, (d_a8_u32 _).plain⟩⟩, ⟨Nat.le_of_ble_eq_true rfl, _, _, rfl, rfl, .inl ⟨rfl, (d_api_Place _).plain⟩⟩, ⟨Nat.le_of_ble_eq_true rfl, _, _, rfl, rfl, ⟨rfl, rfl, fun _ => ⟨rfl, trivial⟩⟩⟩, trivial⟩ rfl)
    · replace H := ite_f hc H
      refine aw_exit ?_
      refine ex_then ?_
      refine ex_then ?_
      refine ex_here ?_
      exact nx_ljoin (x1.2) H hsn2 (cov_prune ⟨rfl, rfl, rfl, rfl, trivial⟩ ⟨rfl, rfl, rfl, rfl, trivial⟩ (Nat.le_of_ble_eq_true rfl))

theorem congresslaw09_RoundMay_spec (p0 : (Nat → Int)) (p1 : (Nat → Int)) (r : Bool) (H : congresslaw09_RoundMay p0 p1 = some r) : FSpec Try.prog 4 [(e_a8_u32 p0), (e_a8_u32 p1)] (.bool r) := by
  refine spec_of (fn := Try.f4) (args := [(e_a8_u32 p0), (e_a8_u32 p1)]) Try.func4 rfl (Nat.le_of_ble_eq_true rfl) ?_
  rintro ⟨G, w0, W, S, Sp⟩ hG
  cases hG
  unfold congresslaw09_RoundMay at H
  refine aw_region (es := [_, _, _]) ⟨Step.plain rfl (does_box 24 (.tmp 0) 0 (e_a8_u32 p0) trivial rfl), ⟨⟨rfl, trivial⟩, trivial, rfl⟩, rfl,
    Step.plain rfl (does_box 25 (.tmp 1) 1 (e_a8_u32 p1) trivial rfl), ⟨⟨rfl, trivial⟩, trivial, rfl⟩, rfl,
    Step.plain rfl (does_assign (.const (.bool false)) (.bool false) (fun _ => rfl)), ⟨trivial, trivial, rfl⟩, rfl, rfl⟩ ?_
  refine aw_cov (cov_prune (s1 := ⟨[(2, (.ptr 0 0 [])), (3, (.ptr 1 0 []))], [(0, some (.var (e_a8_u32 p0))), (1, some (.var (e_a8_u32 p1)))], 2⟩) ⟨rfl, rfl, trivial⟩ ⟨rfl, rfl, trivial⟩ (Nat.le_refl _)) ?_
  obtain ⟨v1, h2, H⟩ := bnd H
  refine aw_region (es := [_, _, _, _, _, _, _, _]) ⟨Step.plain rfl (does_load 24 2 0 0 [] (.var (e_a8_u32 p0)) (e_a8_u32 p0) trivial rfl rfl ty24), ⟨⟨rfl, trivial⟩, ⟨rfl, trivial⟩, rfl⟩, rfl,
    Step.plain rfl (does_load 25 3 1 0 [] (.var (e_a8_u32 p1)) (e_a8_u32 p1) trivial rfl rfl ty25), ⟨⟨rfl, trivial⟩, ⟨rfl, trivial⟩, rfl⟩, rfl,
    Step.plain rfl (does_call 11 0 (fun _ => .any) (.func 11) [(.tmp 13), (.tmp 14)] [(e_a8_u32 p0), (e_a8_u32 p1)] [] true [(e_a8_u32 p0), (e_a8_u32 p1)] (resV [(.int .u32 v1.1), (.bool v1.2)]) _ _ rfl fo11 rfl ⟨trivial, trivial, trivial⟩ ⟨.data _ (d_a8_u32 p0), .data _ (d_a8_u32 p1), trivial⟩ (round_Least_spec p0 p1 _ h2) (res_flat2 trivial trivial)), ⟨⟨rfl, rfl, trivial⟩, trivial, rfl⟩, rfl,
    Step.plain rfl (does_move (.tmp 15) (resV [(.int .u32 v1.1), (.bool v1.2)]) trivial), ⟨⟨rfl, trivial⟩, trivial, rfl⟩, rfl,
    Step.plain rfl (does_extract 12 0 2 (fun j => [(.int .u32 v1.1), (.bool v1.2)].getD j (.bool false)) (Nat.le_of_ble_eq_true rfl)), ⟨⟨rfl, trivial⟩, trivial, rfl⟩, rfl,
    Step.plain rfl (does_extract 12 1 2 (fun j => [(.int .u32 v1.1), (.bool v1.2)].getD j (.bool false)) (Nat.le_of_ble_eq_true rfl)), ⟨⟨rfl, trivial⟩, trivial, rfl⟩, rfl,
    Step.plain rfl (does_assign (.tmp 16) (.int .u32 v1.1) trivial), ⟨⟨rfl, trivial⟩, trivial, rfl⟩, rfl,
    Step.plain rfl (does_assign (.tmp 17) (.bool v1.2) trivial), ⟨⟨rfl, trivial⟩, trivial, rfl⟩, rfl, rfl⟩ ?_
  refine aw_cov (cov_prune (s1 := ⟨[(2, (.ptr 0 0 [])), (3, (.ptr 1 0 [])), (5, (.int .u32 v1.1)), (6, (.bool v1.2))], [(0, some (.var (e_a8_u32 p0))), (1, some (.var (e_a8_u32 p1)))], 2⟩) ⟨rfl, rfl, rfl, rfl, trivial⟩ ⟨rfl, rfl, trivial⟩ (Nat.le_refl _)) ?_
  refine aw_region (es := [_, _]) ⟨Step.plain rfl (does_assign (.const (.bool false)) (.bool false) (fun _ => rfl)), ⟨trivial, trivial, rfl⟩, rfl,
    Step.plain rfl (does_assign (.const (.bool true)) (.bool true) (fun _ => rfl)), ⟨trivial, trivial, rfl⟩, rfl, rfl⟩ ?_
  refine aw_cov (cov_prune (s1 := ⟨[(2, (.ptr 0 0 [])), (3, (.ptr 1 0 [])), (5, (.int .u32 v1.1)), (6, (.bool v1.2)), (7, (.bool false)), (8, (.bool true))], [(0, some (.var (e_a8_u32 p0))), (1, some (.var (e_a8_u32 p1)))], 2⟩) ⟨rfl, rfl, rfl, rfl, rfl, rfl, trivial⟩ ⟨rfl, rfl, trivial⟩ (Nat.le_refl _)) ?_
  refine aw_seq ?_
  refine aw_region (es := [_]) ⟨Step.plain rfl (does_assign (.const (.int .i64 0)) (.int .i64 0) (fun _ => rfl)), ⟨trivial, trivial, rfl⟩, rfl, rfl⟩ ?_
  refine aw_cov (cov_prune (s1 := ⟨[(2, (.ptr 0 0 [])), (3, (.ptr 1 0 [])), (5, (.int .u32 v1.1)), (6, (.bool v1.2)), (7, (.bool false)), (8, (.bool true)), (9, (.int .i64 0))], [(0, some (.var (e_a8_u32 p0))), (1, some (.var (e_a8_u32 p1)))], 2⟩) ⟨rfl, rfl, rfl, rfl, rfl, rfl, rfl, trivial⟩ ⟨rfl, rfl, trivial⟩ (Nat.le_refl _)) ?_
  obtain ⟨wn4, hwn4, Hrn4⟩ := bnd H
  refine aw_meet (fun y15 : Bool × Bool => (⟨[(2, (.ptr 0 0 [])), (3, (.ptr 1 0 [])), (6, (.bool v1.2)), (7, (.bool y15.1)), (8, (.bool y15.2))], [(0, some (.var (e_a8_u32 p0))), (1, some (.var (e_a8_u32 p1)))], 2⟩ : St)) (fun y15 => Fl.nx y15 = wn4) (fun y15 hy => ?_) (aw_block (aw_runs (fun x3 : Bool × Bool × Int => (⟨[(2, (.ptr 0 0 [])), (3, (.ptr 1 0 [])), (5, (.int .u32 v1.1)), (6, (.bool v1.2)), (7, (.bool x3.1)), (8, (.bool x3.2.1)), (9, (.int .i64 x3.2.2))], [(0, some (.var (e_a8_u32 p0))), (1, some (.var (e_a8_u32 p1)))], 2⟩ : St)) hwn4 (cov_prune ⟨rfl, rfl, rfl, rfl, rfl, rfl, rfl, trivial⟩ ⟨rfl, rfl, trivial⟩ (Nat.le_of_ble_eq_true rfl)) (fun x3 st H hsn4 => ?_)))
  · have H := nx_of hy Hrn4
    refine nx_seq ?_
    refine aw_seq ?_
    refine aw_region (es := [_]) ⟨Step.plain rfl (does_assign (.const (.int .i64 0)) (.int .i64 0) (fun _ => rfl)), ⟨trivial, trivial, rfl⟩, rfl, rfl⟩ ?_
    refine aw_cov (cov_prune (s1 := ⟨[(2, (.ptr 0 0 [])), (3, (.ptr 1 0 [])), (6, (.bool v1.2)), (7, (.bool y15.1)), (8, (.bool y15.2)), (11, (.int .i64 0))], [(0, some (.var (e_a8_u32 p0))), (1, some (.var (e_a8_u32 p1)))], 2⟩) ⟨rfl, rfl, rfl, rfl, rfl, rfl, trivial⟩ ⟨rfl, rfl, trivial⟩ (Nat.le_refl _)) ?_
    obtain ⟨wn17, hwn17, Hrn17⟩ := bnd H
    refine aw_meet (fun y21 : Unit => (⟨[(6, (.bool v1.2)), (7, (.bool y15.1))], [], 2⟩ : St)) (fun y21 => Fl.nx y21 = wn17) (fun y21 hy => ?_) (aw_block (aw_runs (fun x16 : Int => (⟨[(2, (.ptr 0 0 [])), (3, (.ptr 1 0 [])), (6, (.bool v1.2)), (7, (.bool y15.1)), (8, (.bool y15.2)), (11, (.int .i64 x16))], [(0, some (.var (e_a8_u32 p0))), (1, some (.var (e_a8_u32 p1)))], 2⟩ : St)) hwn17 (cov_prune ⟨rfl, rfl, rfl, rfl, rfl, rfl, trivial⟩ ⟨rfl, rfl, trivial⟩ (Nat.le_of_ble_eq_true rfl)) (fun x16 st H hsn17 => ?_)))
    · have H := nx_of hy Hrn17
      refine nx_seq ?_
      obtain ⟨v22, h23, H⟩ := bnd H
      refine aw_region (es := [_, _, _, _, _, _, _]) ⟨Step.plain rfl (does_call 10 0 (fun _ => .any) (.func 10) [] [] [] true [] (.bool v22) _ _ rfl fo10 rfl trivial trivial (congresslaw09_fixed_spec _ h23) trivial), ⟨trivial, trivial, rfl⟩, rfl,
        Step.plain rfl (does_move (.tmp 97) (.bool v22) trivial), ⟨⟨rfl, trivial⟩, trivial, rfl⟩, rfl,
        Step.guarded rfl rfl rfl rfl (fun hc => does_move (.tmp 7) (.bool y15.1) trivial), ⟨⟨rfl, rfl, trivial⟩, trivial, rfl⟩, rfl,
        Step.guarded rfl rfl rfl rfl (fun hc => does_move (.tmp 6) (.bool v1.2) trivial), ⟨⟨rfl, rfl, trivial⟩, trivial, rfl⟩, rfl,
        Step.guarded rfl rfl rfl rfl (fun hc => Does.strip (n' := [(99, (.opt v22 (.bool y15.1))), (100, (.opt v22 (.bool v1.2)))]) (n := [(99, (.bool y15.1)), (100, (.bool v1.2))]) ⟨(.opt _ _ hc), (.opt _ _ hc), trivial⟩ (does_eqBool false 4 4 (.tmp 99) (.tmp 100) y15.1 v1.2 trivial trivial rfl)), ⟨⟨rfl, rfl, rfl, trivial⟩, trivial, rfl⟩, rfl,
        Step.plain rfl (does_and 98 101 v22 (y15.1 == v1.2)), ⟨⟨rfl, rfl, trivial⟩, trivial, rfl⟩, rfl,
        Step.plain rfl (does_assign (.tmp 102) (.bool (v22 && (y15.1 == v1.2))) trivial), ⟨⟨rfl, trivial⟩, trivial, rfl⟩, rfl, rfl⟩ ?_
      refine aw_cov (cov_prune (s1 := ⟨[(4, (.bool (v22 && (y15.1 == v1.2))))], [], 2⟩) ⟨rfl, trivial⟩ trivial (Nat.le_refl _)) ?_
      refine aw_ret ?_
      exact fun a w hr => ⟨_, [(.bool (v22 && (y15.1 == v1.2)))], hr, ⟨⟨_, rfl, .data _ trivial⟩, trivial⟩, by decide, by cases H; rfl⟩
    · refine aw_seq ?_
      refine aw_region (es := [_, _, _, _, _]) ⟨Step.plain rfl (does_move (.tmp 11) (.int .i64 x16) trivial), ⟨⟨rfl, trivial⟩, trivial, rfl⟩, rfl,
        Step.plain rfl (does_bin .lss 3 3 (.tmp 79) (.const (.int .i64 8)) .i64 x16 8 (.bool (decide (x16 < 8))) trivial (fun _ => rfl) (bin_lss _ _ _ _)), ⟨⟨rfl, trivial⟩, trivial, rfl⟩, rfl,
        Step.plain rfl (does_move (.tmp 80) (.bool (decide (x16 < 8))) trivial), ⟨⟨rfl, trivial⟩, trivial, rfl⟩, rfl,
        Step.guarded rfl rfl rfl rfl (fun hc => does_move (.tmp 8) (.bool y15.2) trivial), ⟨⟨rfl, rfl, trivial⟩, trivial, rfl⟩, rfl,
        Step.plain rfl (does_and 81 82 (decide (x16 < 8)) y15.2), ⟨⟨rfl, rfl, trivial⟩, trivial, rfl⟩, rfl, rfl⟩ ?_
      refine aw_cov (cov_prune (s1 := ⟨[(2, (.ptr 0 0 [])), (3, (.ptr 1 0 [])), (6, (.bool v1.2)), (7, (.bool y15.1)), (8, (.bool y15.2)), (11, (.int .i64 x16)), (83, (.bool ((decide (x16 < 8)) && y15.2)))], [(0, some (.var (e_a8_u32 p0))), (1, some (.var (e_a8_u32 p1)))], 2⟩) ⟨rfl, rfl, rfl, rfl, rfl, rfl, rfl, trivial⟩ ⟨rfl, rfl, trivial⟩ (Nat.le_refl _)) ?_
      refine aw_cond rfl (fun hc => ?_) (fun hc => ?_)
      · replace H := ite_t hc H
        refine aw_skip ?_
        refine nx_seq ?_
        refine aw_seq ?_
        refine aw_block ?_
        obtain ⟨h18, H⟩ := ib_of H
        obtain ⟨v19, h20, H⟩ := whn_of H
        refine aw_region (es := [_, _, _, _, _, _, _, _, _, _, _]) ⟨Step.plain rfl (does_move (.tmp 11) (.int .i64 x16) trivial), ⟨⟨rfl, trivial⟩, trivial, rfl⟩, rfl,
          Step.plain rfl (does_indexAddr 25 8 1 3 1 0 [] (.var (e_a8_u32 p1)) (.tmp 86) .i64 x16 el25 trivial h18.1 h18.2), ⟨⟨rfl, rfl, trivial⟩, ⟨rfl, trivial⟩, rfl⟩, rfl,
          Step.plain rfl (does_load 22 87 1 (0 + x16.toNat * 1) [x16.toNat] (.var (e_a8_u32 p1)) (.int .u32 (p1 x16.toNat)) ⟨rfl, (ixl h18), trivial⟩ rfl rfl ty22), ⟨⟨rfl, trivial⟩, ⟨rfl, trivial⟩, rfl⟩, rfl,
          Step.plain rfl (does_bin .neq 22 22 (.tmp 88) (.const (.int .u32 0)) .u32 (p1 x16.toNat) 0 (.bool ((p1 x16.toNat) != 0)) trivial (fun _ => rfl) (bin_neq _ _ _ _)), ⟨⟨rfl, trivial⟩, trivial, rfl⟩, rfl,
          Step.plain rfl (does_move (.tmp 89) (.bool ((p1 x16.toNat) != 0)) trivial), ⟨⟨rfl, trivial⟩, trivial, rfl⟩, rfl,
          Step.guarded rfl rfl rfl rfl (fun hc => does_load 24 2 0 0 [] (.var (e_a8_u32 p0)) (e_a8_u32 p0) trivial rfl rfl ty24), ⟨⟨rfl, rfl, trivial⟩, ⟨rfl, trivial⟩, rfl⟩, rfl,
          Step.guarded rfl rfl rfl rfl (fun hc => does_load 25 3 1 0 [] (.var (e_a8_u32 p1)) (e_a8_u32 p1) trivial rfl rfl ty25), ⟨⟨rfl, rfl, trivial⟩, ⟨rfl, trivial⟩, rfl⟩, rfl,
          Step.guarded rfl rfl rfl rfl (fun hc => does_move (.tmp 11) (.int .i64 x16) trivial), ⟨⟨rfl, rfl, trivial⟩, trivial, rfl⟩, rfl,
          Step.guarded rfl rfl rfl rfl (fun hc => Does.strip (n' := [(91, (.opt ((p1 x16.toNat) != 0) (e_a8_u32 p0))), (92, (.opt ((p1 x16.toNat) != 0) (e_a8_u32 p1))), (93, (.opt ((p1 x16.toNat) != 0) (.int .i64 x16)))]) (n := [(91, (e_a8_u32 p0)), (92, (e_a8_u32 p1)), (93, (.int .i64 x16))]) ⟨(.opt _ _ hc), (.opt _ _ hc), (.opt _ _ hc), trivial⟩ (does_call 12 0 (fun _ => .any) (.func 12) [(.tmp 91), (.tmp 92), (.tmp 93)] [(e_a8_u32 p0), (e_a8_u32 p1), (.int .i64 x16)] [] true [(e_a8_u32 p0), (e_a8_u32 p1), (.int .i64 x16)] (.bool v19) _ _ rfl fo12 rfl ⟨trivial, trivial, trivial, trivial⟩ ⟨.data _ (d_a8_u32 p0), .data _ (d_a8_u32 p1), .data _ trivial, trivial⟩ (round_May_spec p0 p1 x16 _ (h20 hc)) trivial)), ⟨⟨rfl, rfl, rfl, rfl, trivial⟩, trivial, rfl⟩, rfl,
          Step.guarded rfl rfl rfl rfl (fun hc => Does.strip (n' := [(94, (.opt ((p1 x16.toNat) != 0) (.bool v19)))]) (n := [(94, (.bool v19))]) ⟨(.opt _ _ hc), trivial⟩ (does_not 4 (.tmp 94) v19 trivial)), ⟨⟨rfl, rfl, trivial⟩, trivial, rfl⟩, rfl,
          Step.plain rfl (does_and 90 95 ((p1 x16.toNat) != 0) (!v19)), ⟨⟨rfl, rfl, trivial⟩, trivial, rfl⟩, rfl, rfl⟩ ?_
        refine aw_cov (cov_prune (s1 := ⟨[(2, (.ptr 0 0 [])), (3, (.ptr 1 0 [])), (6, (.bool v1.2)), (7, (.bool y15.1)), (8, (.bool y15.2)), (11, (.int .i64 x16)), (96, (.bool (((p1 x16.toNat) != 0) && (!v19))))], [(0, some (.var (e_a8_u32 p0))), (1, some (.var (e_a8_u32 p1)))], 2⟩) ⟨rfl, rfl, rfl, rfl, rfl, rfl, rfl, trivial⟩ ⟨rfl, rfl, trivial⟩ (Nat.le_refl _)) ?_
        refine aw_cond rfl (fun hc => ?_) (fun hc => ?_)
        · replace H := ite_t hc H
          refine aw_region (es := [_]) ⟨Step.plain rfl (does_assign (.const (.bool false)) (.bool false) (fun _ => rfl)), ⟨trivial, trivial, rfl⟩, rfl, rfl⟩ ?_
          refine aw_cov (cov_prune (s1 := ⟨[(4, (.bool false))], [], 2⟩) ⟨rfl, trivial⟩ trivial (Nat.le_refl _)) ?_
          refine aw_ret ?_
          replace H := rt_of H hsn17 Hrn17
          refine rt_blk ?_
          refine rt_then ?_
          refine rt_then ?_
          refine rt_blk ?_
          refine rt_then ?_
          refine rt_then ?_
          exact fun a w hr => ⟨_, [(.bool false)], hr, ⟨⟨_, rfl, .data _ trivial⟩, trivial⟩, by decide, by cases H; rfl⟩
        · replace H := ite_f hc H
          refine aw_skip ?_
          refine nx_blk ?_
          refine nx_seq ?_
          refine aw_region1 (es := [_, _, _]) ⟨Step.plain rfl (does_move (.tmp 11) (.int .i64 x16) trivial), ⟨⟨rfl, trivial⟩, trivial, rfl⟩, rfl,
            Step.plain rfl (does_bin .add 3 3 (.tmp 84) (.const (.int .i64 1)) .i64 x16 1 (.int .i64 (IntKind.i64.wrap (x16 + 1))) trivial (fun _ => rfl) (bin_add _ _ _ _)), ⟨⟨rfl, trivial⟩, trivial, rfl⟩, rfl,
            Step.plain rfl (does_assign (.tmp 85) (.int .i64 (IntKind.i64.wrap (x16 + 1))) trivial), ⟨⟨rfl, trivial⟩, trivial, rfl⟩, rfl, rfl⟩ ?_
          exact nx_loop ((IntKind.i64.wrap (x16 + 1))) H (cov_prune ⟨rfl, rfl, rfl, rfl, rfl, rfl, trivial⟩ ⟨rfl, rfl, trivial⟩ (Nat.le_of_ble_eq_true rfl))
      · replace H := ite_f hc H
        refine aw_exit ?_
        refine ex_then ?_
        refine ex_then ?_
        refine ex_here ?_
        exact nx_ljoin () H hsn17 (cov_prune ⟨rfl, rfl, trivial⟩ trivial (Nat.le_of_ble_eq_true rfl))
  · refine aw_seq ?_
    refine aw_region (es := [_, _]) ⟨Step.plain rfl (does_move (.tmp 9) (.int .i64 x3.2.2) trivial), ⟨⟨rfl, trivial⟩, trivial, rfl⟩, rfl,
      Step.plain rfl (does_bin .lss 3 3 (.tmp 18) (.const (.int .i64 8)) .i64 x3.2.2 8 (.bool (decide (x3.2.2 < 8))) trivial (fun _ => rfl) (bin_lss _ _ _ _)), ⟨⟨rfl, trivial⟩, trivial, rfl⟩, rfl, rfl⟩ ?_
    refine aw_cov (cov_prune (s1 := ⟨[(2, (.ptr 0 0 [])), (3, (.ptr 1 0 [])), (5, (.int .u32 v1.1)), (6, (.bool v1.2)), (7, (.bool x3.1)), (8, (.bool x3.2.1)), (9, (.int .i64 x3.2.2)), (19, (.bool (decide (x3.2.2 < 8))))], [(0, some (.var (e_a8_u32 p0))), (1, some (.var (e_a8_u32 p1)))], 2⟩) ⟨rfl, rfl, rfl, rfl, rfl, rfl, rfl, rfl, trivial⟩ ⟨rfl, rfl, trivial⟩ (Nat.le_refl _)) ?_
    refine aw_cond rfl (fun hc => ?_) (fun hc => ?_)
    · replace H := ite_t hc H
      refine aw_skip ?_
      refine nx_seq ?_
      refine aw_seq ?_
      refine aw_block ?_
      obtain ⟨v5, h6, H⟩ := bnd H
      refine aw_region (es := [_, _, _, _, _]) ⟨Step.plain rfl (does_load 24 2 0 0 [] (.var (e_a8_u32 p0)) (e_a8_u32 p0) trivial rfl rfl ty24), ⟨⟨rfl, trivial⟩, ⟨rfl, trivial⟩, rfl⟩, rfl,
        Step.plain rfl (does_load 25 3 1 0 [] (.var (e_a8_u32 p1)) (e_a8_u32 p1) trivial rfl rfl ty25), ⟨⟨rfl, trivial⟩, ⟨rfl, trivial⟩, rfl⟩, rfl,
        Step.plain rfl (does_move (.tmp 9) (.int .i64 x3.2.2) trivial), ⟨⟨rfl, trivial⟩, trivial, rfl⟩, rfl,
        Step.plain rfl (does_call 12 0 (fun _ => .any) (.func 12) [(.tmp 22), (.tmp 23), (.tmp 24)] [(e_a8_u32 p0), (e_a8_u32 p1), (.int .i64 x3.2.2)] [] true [(e_a8_u32 p0), (e_a8_u32 p1), (.int .i64 x3.2.2)] (.bool v5) _ _ rfl fo12 rfl ⟨trivial, trivial, trivial, trivial⟩ ⟨.data _ (d_a8_u32 p0), .data _ (d_a8_u32 p1), .data _ trivial, trivial⟩ (round_May_spec p0 p1 x3.2.2 _ h6) trivial), ⟨⟨rfl, rfl, rfl, trivial⟩, trivial, rfl⟩, rfl,
        Step.plain rfl (does_assign (.tmp 25) (.bool v5) trivial), ⟨⟨rfl, trivial⟩, trivial, rfl⟩, rfl, rfl⟩ ?_
      refine aw_cov (cov_prune (s1 := ⟨[(2, (.ptr 0 0 [])), (3, (.ptr 1 0 [])), (5, (.int .u32 v1.1)), (6, (.bool v1.2)), (7, (.bool x3.1)), (8, (.bool x3.2.1)), (9, (.int .i64 x3.2.2)), (10, (.bool v5))], [(0, some (.var (e_a8_u32 p0))), (1, some (.var (e_a8_u32 p1)))], 2⟩) ⟨rfl, rfl, rfl, rfl, rfl, rfl, rfl, rfl, trivial⟩ ⟨rfl, rfl, trivial⟩ (Nat.le_refl _)) ?_
      refine aw_seq ?_
      obtain ⟨h7, H⟩ := ib_of H
      obtain ⟨h8, H⟩ := ibg_of H
      obtain ⟨h9, H⟩ := ibg_of H
      obtain ⟨h10, H⟩ := ibg_of H
      obtain ⟨h11, H⟩ := ibg_of H
      refine aw_region (es := [_, _, _, _, _, _, _, _, _, _, _, _, _, _, _, _, _, _, _, _, _, _, _, _, _, _, _, _, _, _, _, _, _, _, _]) ⟨Step.plain rfl (does_move (.tmp 9) (.int .i64 x3.2.2) trivial), ⟨⟨rfl, trivial⟩, trivial, rfl⟩, rfl,
        Step.plain rfl (does_indexAddr 25 8 1 3 1 0 [] (.var (e_a8_u32 p1)) (.tmp 26) .i64 x3.2.2 el25 trivial h7.1 h7.2), ⟨⟨rfl, rfl, trivial⟩, ⟨rfl, trivial⟩, rfl⟩, rfl,
        Step.plain rfl (does_load 22 27 1 (0 + x3.2.2.toNat * 1) [x3.2.2.toNat] (.var (e_a8_u32 p1)) (.int .u32 (p1 x3.2.2.toNat)) ⟨rfl, (ixl h7), trivial⟩ rfl rfl ty22), ⟨⟨rfl, trivial⟩, ⟨rfl, trivial⟩, rfl⟩, rfl,
        Step.plain rfl (does_bin .eql 22 22 (.tmp 28) (.const (.int .u32 0)) .u32 (p1 x3.2.2.toNat) 0 (.bool ((p1 x3.2.2.toNat) == 0)) trivial (fun _ => rfl) (bin_eql _ _ _ _)), ⟨⟨rfl, trivial⟩, trivial, rfl⟩, rfl,
        Step.plain rfl (does_move (.tmp 29) (.bool ((p1 x3.2.2.toNat) == 0)) trivial), ⟨⟨rfl, trivial⟩, trivial, rfl⟩, rfl,
        Step.guarded rfl rfl rfl rfl (fun hc => does_move (.tmp 10) (.bool v5) trivial), ⟨⟨rfl, rfl, trivial⟩, trivial, rfl⟩, rfl,
        Step.plain rfl (does_and 30 31 ((p1 x3.2.2.toNat) == 0) v5), ⟨⟨rfl, rfl, trivial⟩, trivial, rfl⟩, rfl,
        Step.plain rfl (does_move (.tmp 32) (.bool (((p1 x3.2.2.toNat) == 0) && v5)) trivial), ⟨⟨rfl, trivial⟩, trivial, rfl⟩, rfl,
        Step.guarded rfl rfl rfl rfl (fun hc => does_move (.tmp 9) (.int .i64 x3.2.2) trivial), ⟨⟨rfl, rfl, trivial⟩, trivial, rfl⟩, rfl,
        Step.guarded rfl rfl rfl rfl (fun hc => Does.strip (n' := [(3, (.ptr 1 0 [])), (34, (.opt (!(((p1 x3.2.2.toNat) == 0) && v5)) (.int .i64 x3.2.2)))]) (n := [(3, (.ptr 1 0 [])), (34, (.int .i64 x3.2.2))]) ⟨(.same _), (.opt _ _ hc), trivial⟩ (does_indexAddr 25 8 1 3 1 0 [] (.var (e_a8_u32 p1)) (.tmp 34) .i64 x3.2.2 el25 trivial (h8 hc).1 (h8 hc).2)), ⟨⟨rfl, rfl, rfl, trivial⟩, ⟨rfl, trivial⟩, rfl⟩, rfl,
        Step.guarded rfl rfl rfl rfl (fun hc => Does.strip (n' := [(35, (.opt (!(((p1 x3.2.2.toNat) == 0) && v5)) (.ptr 1 (0 + x3.2.2.toNat * 1) [x3.2.2.toNat])))]) (n := [(35, (.ptr 1 (0 + x3.2.2.toNat * 1) [x3.2.2.toNat]))]) ⟨(.opt _ _ hc), trivial⟩ (does_load 22 35 1 (0 + x3.2.2.toNat * 1) [x3.2.2.toNat] (.var (e_a8_u32 p1)) (.int .u32 (p1 x3.2.2.toNat)) ⟨rfl, (ixl (h8 hc)), trivial⟩ rfl rfl ty22)), ⟨⟨rfl, rfl, trivial⟩, ⟨rfl, trivial⟩, rfl⟩, rfl,
        Step.guarded rfl rfl rfl rfl (fun hc => Does.strip (n' := [(36, (.opt (!(((p1 x3.2.2.toNat) == 0) && v5)) (.int .u32 (p1 x3.2.2.toNat))))]) (n := [(36, (.int .u32 (p1 x3.2.2.toNat)))]) ⟨(.opt _ _ hc), trivial⟩ (does_bin .neq 22 22 (.tmp 36) (.const (.int .u32 0)) .u32 (p1 x3.2.2.toNat) 0 (.bool ((p1 x3.2.2.toNat) != 0)) trivial (fun _ => rfl) (bin_neq _ _ _ _))), ⟨⟨rfl, rfl, trivial⟩, trivial, rfl⟩, rfl,
        Step.guarded rfl rfl rfl rfl (fun hc => Does.strip (n' := [(37, (.opt (!(((p1 x3.2.2.toNat) == 0) && v5)) (.bool ((p1 x3.2.2.toNat) != 0))))]) (n := [(37, (.bool ((p1 x3.2.2.toNat) != 0)))]) ⟨(.opt _ _ hc), trivial⟩ (does_move (.tmp 37) (.bool ((p1 x3.2.2.toNat) != 0)) trivial)), ⟨⟨rfl, rfl, trivial⟩, trivial, rfl⟩, rfl,
        Step.guarded rfl rfl rfl rfl (fun hc => does_move (.tmp 10) (.bool v5) trivial), ⟨⟨rfl, rfl, trivial⟩, trivial, rfl⟩, rfl,
        Step.guarded rfl rfl rfl rfl (fun hc => does_move (.tmp 9) (.int .i64 x3.2.2) trivial), ⟨⟨rfl, rfl, trivial⟩, trivial, rfl⟩, rfl,
        Step.guarded rfl rfl rfl rfl (fun hc => Does.strip (n' := [(2, (.ptr 0 0 [])), (40, (.opt ((!(((p1 x3.2.2.toNat) == 0) && v5)) && ((p1 x3.2.2.toNat) != 0)) (.int .i64 x3.2.2)))]) (n := [(2, (.ptr 0 0 [])), (40, (.int .i64 x3.2.2))]) ⟨(.same _), (.opt _ _ hc), trivial⟩ (does_indexAddr 24 8 1 2 0 0 [] (.var (e_a8_u32 p0)) (.tmp 40) .i64 x3.2.2 el24 trivial (h9 hc).1 (h9 hc).2)), ⟨⟨rfl, rfl, rfl, trivial⟩, ⟨rfl, trivial⟩, rfl⟩, rfl,
        Step.guarded rfl rfl rfl rfl (fun hc => Does.strip (n' := [(41, (.opt ((!(((p1 x3.2.2.toNat) == 0) && v5)) && ((p1 x3.2.2.toNat) != 0)) (.ptr 0 (0 + x3.2.2.toNat * 1) [x3.2.2.toNat])))]) (n := [(41, (.ptr 0 (0 + x3.2.2.toNat * 1) [x3.2.2.toNat]))]) ⟨(.opt _ _ hc), trivial⟩ (does_load 22 41 0 (0 + x3.2.2.toNat * 1) [x3.2.2.toNat] (.var (e_a8_u32 p0)) (.int .u32 (p0 x3.2.2.toNat)) ⟨rfl, (ixl (h9 hc)), trivial⟩ rfl rfl ty22)), ⟨⟨rfl, rfl, trivial⟩, ⟨rfl, trivial⟩, rfl⟩, rfl,
        Step.guarded rfl rfl rfl rfl (fun hc => does_move (.tmp 5) (.int .u32 v1.1) trivial), ⟨⟨rfl, rfl, trivial⟩, trivial, rfl⟩, rfl,
        Step.guarded rfl rfl rfl rfl (fun hc => Does.strip (n' := [(42, (.opt ((!(((p1 x3.2.2.toNat) == 0) && v5)) && ((p1 x3.2.2.toNat) != 0)) (.int .u32 (p0 x3.2.2.toNat)))), (43, (.opt ((!(((p1 x3.2.2.toNat) == 0) && v5)) && ((p1 x3.2.2.toNat) != 0)) (.int .u32 v1.1)))]) (n := [(42, (.int .u32 (p0 x3.2.2.toNat))), (43, (.int .u32 v1.1))]) ⟨(.opt _ _ hc), (.opt _ _ hc), trivial⟩ (does_bin .eql 22 22 (.tmp 42) (.tmp 43) .u32 (p0 x3.2.2.toNat) v1.1 (.bool ((p0 x3.2.2.toNat) == v1.1)) trivial trivial (bin_eql _ _ _ _))), ⟨⟨rfl, rfl, rfl, trivial⟩, trivial, rfl⟩, rfl,
        Step.guarded rfl rfl rfl rfl (fun hc => Does.strip (n' := [(39, (.opt ((!(((p1 x3.2.2.toNat) == 0) && v5)) && ((p1 x3.2.2.toNat) != 0)) (.bool v5))), (44, (.opt ((!(((p1 x3.2.2.toNat) == 0) && v5)) && ((p1 x3.2.2.toNat) != 0)) (.bool ((p0 x3.2.2.toNat) == v1.1))))]) (n := [(39, (.bool v5)), (44, (.bool ((p0 x3.2.2.toNat) == v1.1)))]) ⟨(.opt _ _ hc), (.opt _ _ hc), trivial⟩ (does_eqBool true 4 4 (.tmp 39) (.tmp 44) v5 ((p0 x3.2.2.toNat) == v1.1) trivial trivial rfl)), ⟨⟨rfl, rfl, rfl, trivial⟩, trivial, rfl⟩, rfl,
        Step.guarded rfl rfl rfl rfl (fun hc => Does.strip (n' := [(38, (.opt (!(((p1 x3.2.2.toNat) == 0) && v5)) (.bool ((p1 x3.2.2.toNat) != 0)))), (45, (.opt ((!(((p1 x3.2.2.toNat) == 0) && v5)) && ((p1 x3.2.2.toNat) != 0)) (.bool (v5 != ((p0 x3.2.2.toNat) == v1.1)))))]) (n := [(38, (.bool ((p1 x3.2.2.toNat) != 0))), (45, (.opt ((p1 x3.2.2.toNat) != 0) (.bool (v5 != ((p0 x3.2.2.toNat) == v1.1)))))]) ⟨(.opt _ _ hc), (.half _ _ hc), trivial⟩ (does_and 38 45 ((p1 x3.2.2.toNat) != 0) (v5 != ((p0 x3.2.2.toNat) == v1.1)))), ⟨⟨rfl, rfl, rfl, trivial⟩, trivial, rfl⟩, rfl,
        Step.plain rfl (does_or 33 46 (((p1 x3.2.2.toNat) == 0) && v5) (((p1 x3.2.2.toNat) != 0) && (v5 != ((p0 x3.2.2.toNat) == v1.1)))), ⟨⟨rfl, rfl, trivial⟩, trivial, rfl⟩, rfl,
        Step.plain rfl (does_move (.tmp 47) (.bool ((((p1 x3.2.2.toNat) == 0) && v5) || (((p1 x3.2.2.toNat) != 0) && (v5 != ((p0 x3.2.2.toNat) == v1.1))))) trivial), ⟨⟨rfl, trivial⟩, trivial, rfl⟩, rfl,
        Step.guarded rfl rfl rfl rfl (fun hc => does_move (.tmp 9) (.int .i64 x3.2.2) trivial), ⟨⟨rfl, rfl, trivial⟩, trivial, rfl⟩, rfl,
        Step.guarded rfl rfl rfl rfl (fun hc => Does.strip (n' := [(3, (.ptr 1 0 [])), (49, (.opt (!((((p1 x3.2.2.toNat) == 0) && v5) || (((p1 x3.2.2.toNat) != 0) && (v5 != ((p0 x3.2.2.toNat) == v1.1))))) (.int .i64 x3.2.2)))]) (n := [(3, (.ptr 1 0 [])), (49, (.int .i64 x3.2.2))]) ⟨(.same _), (.opt _ _ hc), trivial⟩ (does_indexAddr 25 8 1 3 1 0 [] (.var (e_a8_u32 p1)) (.tmp 49) .i64 x3.2.2 el25 trivial (h10 hc).1 (h10 hc).2)), ⟨⟨rfl, rfl, rfl, trivial⟩, ⟨rfl, trivial⟩, rfl⟩, rfl,
        Step.guarded rfl rfl rfl rfl (fun hc => Does.strip (n' := [(50, (.opt (!((((p1 x3.2.2.toNat) == 0) && v5) || (((p1 x3.2.2.toNat) != 0) && (v5 != ((p0 x3.2.2.toNat) == v1.1))))) (.ptr 1 (0 + x3.2.2.toNat * 1) [x3.2.2.toNat])))]) (n := [(50, (.ptr 1 (0 + x3.2.2.toNat * 1) [x3.2.2.toNat]))]) ⟨(.opt _ _ hc), trivial⟩ (does_load 22 50 1 (0 + x3.2.2.toNat * 1) [x3.2.2.toNat] (.var (e_a8_u32 p1)) (.int .u32 (p1 x3.2.2.toNat)) ⟨rfl, (ixl (h10 hc)), trivial⟩ rfl rfl ty22)), ⟨⟨rfl, rfl, trivial⟩, ⟨rfl, trivial⟩, rfl⟩, rfl,
        Step.guarded rfl rfl rfl rfl (fun hc => Does.strip (n' := [(51, (.opt (!((((p1 x3.2.2.toNat) == 0) && v5) || (((p1 x3.2.2.toNat) != 0) && (v5 != ((p0 x3.2.2.toNat) == v1.1))))) (.int .u32 (p1 x3.2.2.toNat))))]) (n := [(51, (.int .u32 (p1 x3.2.2.toNat)))]) ⟨(.opt _ _ hc), trivial⟩ (does_bin .neq 22 22 (.tmp 51) (.const (.int .u32 0)) .u32 (p1 x3.2.2.toNat) 0 (.bool ((p1 x3.2.2.toNat) != 0)) trivial (fun _ => rfl) (bin_neq _ _ _ _))), ⟨⟨rfl, rfl, trivial⟩, trivial, rfl⟩, rfl,
        Step.guarded rfl rfl rfl rfl (fun hc => Does.strip (n' := [(52, (.opt (!((((p1 x3.2.2.toNat) == 0) && v5) || (((p1 x3.2.2.toNat) != 0) && (v5 != ((p0 x3.2.2.toNat) == v1.1))))) (.bool ((p1 x3.2.2.toNat) != 0))))]) (n := [(52, (.bool ((p1 x3.2.2.toNat) != 0)))]) ⟨(.opt _ _ hc), trivial⟩ (does_move (.tmp 52) (.bool ((p1 x3.2.2.toNat) != 0)) trivial)), ⟨⟨rfl, rfl, trivial⟩, trivial, rfl⟩, rfl,
        Step.guarded rfl rfl rfl rfl (fun hc => does_move (.tmp 9) (.int .i64 x3.2.2) trivial), ⟨⟨rfl, rfl, trivial⟩, trivial, rfl⟩, rfl,
        Step.guarded rfl rfl rfl rfl (fun hc => Does.strip (n' := [(2, (.ptr 0 0 [])), (54, (.opt ((!((((p1 x3.2.2.toNat) == 0) && v5) || (((p1 x3.2.2.toNat) != 0) && (v5 != ((p0 x3.2.2.toNat) == v1.1))))) && ((p1 x3.2.2.toNat) != 0)) (.int .i64 x3.2.2)))]) (n := [(2, (.ptr 0 0 [])), (54, (.int .i64 x3.2.2))]) ⟨(.same _), (.opt _ _ hc), trivial⟩ (does_indexAddr 24 8 1 2 0 0 [] (.var (e_a8_u32 p0)) (.tmp 54) .i64 x3.2.2 el24 trivial (h11 hc).1 (h11 hc).2)), ⟨⟨rfl, rfl, rfl, trivial⟩, ⟨rfl, trivial⟩, rfl⟩, rfl,
        Step.guarded rfl rfl rfl rfl (fun hc => Does.strip (n' := [(55, (.opt ((!((((p1 x3.2.2.toNat) == 0) && v5) || (((p1 x3.2.2.toNat) != 0) && (v5 != ((p0 x3.2.2.toNat) == v1.1))))) && ((p1 x3.2.2.toNat) != 0)) (.ptr 0 (0 + x3.2.2.toNat * 1) [x3.2.2.toNat])))]) (n := [(55, (.ptr 0 (0 + x3.2.2.toNat * 1) [x3.2.2.toNat]))]) ⟨(.opt _ _ hc), trivial⟩ (does_load 22 55 0 (0 + x3.2.2.toNat * 1) [x3.2.2.toNat] (.var (e_a8_u32 p0)) (.int .u32 (p0 x3.2.2.toNat)) ⟨rfl, (ixl (h11 hc)), trivial⟩ rfl rfl ty22)), ⟨⟨rfl, rfl, trivial⟩, ⟨rfl, trivial⟩, rfl⟩, rfl,
        Step.guarded rfl rfl rfl rfl (fun hc => does_move (.tmp 5) (.int .u32 v1.1) trivial), ⟨⟨rfl, rfl, trivial⟩, trivial, rfl⟩, rfl,
        Step.guarded rfl rfl rfl rfl (fun hc => Does.strip (n' := [(56, (.opt ((!((((p1 x3.2.2.toNat) == 0) && v5) || (((p1 x3.2.2.toNat) != 0) && (v5 != ((p0 x3.2.2.toNat) == v1.1))))) && ((p1 x3.2.2.toNat) != 0)) (.int .u32 (p0 x3.2.2.toNat)))), (57, (.opt ((!((((p1 x3.2.2.toNat) == 0) && v5) || (((p1 x3.2.2.toNat) != 0) && (v5 != ((p0 x3.2.2.toNat) == v1.1))))) && ((p1 x3.2.2.toNat) != 0)) (.int .u32 v1.1)))]) (n := [(56, (.int .u32 (p0 x3.2.2.toNat))), (57, (.int .u32 v1.1))]) ⟨(.opt _ _ hc), (.opt _ _ hc), trivial⟩ (does_bin .lss 22 22 (.tmp 56) (.tmp 57) .u32 (p0 x3.2.2.toNat) v1.1 (.bool (decide ((p0 x3.2.2.toNat) < v1.1))) trivial trivial (bin_lss _ _ _ _))), ⟨⟨rfl, rfl, rfl, trivial⟩, trivial, rfl⟩, rfl,
        Step.guarded rfl rfl rfl rfl (fun hc => Does.strip (n' := [(53, (.opt (!((((p1 x3.2.2.toNat) == 0) && v5) || (((p1 x3.2.2.toNat) != 0) && (v5 != ((p0 x3.2.2.toNat) == v1.1))))) (.bool ((p1 x3.2.2.toNat) != 0)))), (58, (.opt ((!((((p1 x3.2.2.toNat) == 0) && v5) || (((p1 x3.2.2.toNat) != 0) && (v5 != ((p0 x3.2.2.toNat) == v1.1))))) && ((p1 x3.2.2.toNat) != 0)) (.bool (decide ((p0 x3.2.2.toNat) < v1.1)))))]) (n := [(53, (.bool ((p1 x3.2.2.toNat) != 0))), (58, (.opt ((p1 x3.2.2.toNat) != 0) (.bool (decide ((p0 x3.2.2.toNat) < v1.1)))))]) ⟨(.opt _ _ hc), (.half _ _ hc), trivial⟩ (does_and 53 58 ((p1 x3.2.2.toNat) != 0) (decide ((p0 x3.2.2.toNat) < v1.1)))), ⟨⟨rfl, rfl, rfl, trivial⟩, trivial, rfl⟩, rfl,
        Step.plain rfl (does_or 48 59 ((((p1 x3.2.2.toNat) == 0) && v5) || (((p1 x3.2.2.toNat) != 0) && (v5 != ((p0 x3.2.2.toNat) == v1.1)))) (((p1 x3.2.2.toNat) != 0) && (decide ((p0 x3.2.2.toNat) < v1.1)))), ⟨⟨rfl, rfl, trivial⟩, trivial, rfl⟩, rfl, rfl⟩ ?_
      obtain ⟨v12, hv12, H⟩ := lt_of H
      refine aw_cov (cov_prune (s1 := ⟨[(2, (.ptr 0 0 [])), (3, (.ptr 1 0 [])), (5, (.int .u32 v1.1)), (6, (.bool v1.2)), (7, (.bool x3.1)), (8, (.bool x3.2.1)), (9, (.int .i64 x3.2.2)), (10, (.bool v5)), (60, (.bool v12))], [(0, some (.var (e_a8_u32 p0))), (1, some (.var (e_a8_u32 p1)))], 2⟩) ⟨rfl, rfl, rfl, rfl, rfl, rfl, rfl, rfl, (by subst hv12; rfl), trivial⟩ ⟨rfl, rfl, trivial⟩ (Nat.le_refl _)) ?_
      refine aw_cond rfl (fun hc => ?_) (fun hc => ?_)
      · replace H := ite_t hc H
        refine aw_region (es := [_]) ⟨Step.plain rfl (does_assign (.const (.bool false)) (.bool false) (fun _ => rfl)), ⟨trivial, trivial, rfl⟩, rfl, rfl⟩ ?_
        refine aw_cov (cov_prune (s1 := ⟨[(4, (.bool false))], [], 2⟩) ⟨rfl, trivial⟩ trivial (Nat.le_refl _)) ?_
        refine aw_ret ?_
        replace H := rt_of H hsn4 Hrn4
        refine rt_then ?_
        refine rt_blk ?_
        refine rt_then ?_
        refine rt_then ?_
        refine rt_blk ?_
        refine rt_then ?_
        refine rt_then ?_
        exact fun a w hr => ⟨_, [(.bool false)], hr, ⟨⟨_, rfl, .data _ trivial⟩, trivial⟩, by decide, by cases H; rfl⟩
      · replace H := ite_f hc H
        refine aw_skip ?_
        refine nx_seq ?_
        refine aw_region (es := [_, _, _, _, _]) ⟨Step.plain rfl (does_move (.tmp 7) (.bool x3.1) trivial), ⟨⟨rfl, trivial⟩, trivial, rfl⟩, rfl,
          Step.plain rfl (does_move (.tmp 61) (.bool x3.1) trivial), ⟨⟨rfl, trivial⟩, trivial, rfl⟩, rfl,
          Step.guarded rfl rfl rfl rfl (fun hc => does_move (.tmp 10) (.bool v5) trivial), ⟨⟨rfl, rfl, trivial⟩, trivial, rfl⟩, rfl,
          Step.plain rfl (does_or 62 63 x3.1 v5), ⟨⟨rfl, rfl, trivial⟩, trivial, rfl⟩, rfl,
          Step.plain rfl (does_assign (.tmp 64) (.bool (x3.1 || v5)) trivial), ⟨⟨rfl, trivial⟩, trivial, rfl⟩, rfl, rfl⟩ ?_
        refine aw_cov (cov_prune (s1 := ⟨[(2, (.ptr 0 0 [])), (3, (.ptr 1 0 [])), (5, (.int .u32 v1.1)), (6, (.bool v1.2)), (8, (.bool x3.2.1)), (9, (.int .i64 x3.2.2)), (7, (.bool (x3.1 || v5)))], [(0, some (.var (e_a8_u32 p0))), (1, some (.var (e_a8_u32 p1)))], 2⟩) ⟨rfl, rfl, rfl, rfl, rfl, rfl, rfl, trivial⟩ ⟨rfl, rfl, trivial⟩ (Nat.le_refl _)) ?_
        obtain ⟨h13, H⟩ := ibg_of H
        obtain ⟨h14, H⟩ := ibg_of H
        refine aw_region1 (es := [_, _, _, _, _, _, _, _, _, _, _, _, _, _, _]) ⟨Step.plain rfl (does_move (.tmp 8) (.bool x3.2.1) trivial), ⟨⟨rfl, trivial⟩, trivial, rfl⟩, rfl,
          Step.plain rfl (does_move (.tmp 65) (.bool x3.2.1) trivial), ⟨⟨rfl, trivial⟩, trivial, rfl⟩, rfl,
          Step.guarded rfl rfl rfl rfl (fun hc => does_move (.tmp 9) (.int .i64 x3.2.2) trivial), ⟨⟨rfl, rfl, trivial⟩, trivial, rfl⟩, rfl,
          Step.guarded rfl rfl rfl rfl (fun hc => Does.strip (n' := [(3, (.ptr 1 0 [])), (67, (.opt x3.2.1 (.int .i64 x3.2.2)))]) (n := [(3, (.ptr 1 0 [])), (67, (.int .i64 x3.2.2))]) ⟨(.same _), (.opt _ _ hc), trivial⟩ (does_indexAddr 25 8 1 3 1 0 [] (.var (e_a8_u32 p1)) (.tmp 67) .i64 x3.2.2 el25 trivial (h13 hc).1 (h13 hc).2)), ⟨⟨rfl, rfl, rfl, trivial⟩, ⟨rfl, trivial⟩, rfl⟩, rfl,
          Step.guarded rfl rfl rfl rfl (fun hc => Does.strip (n' := [(68, (.opt x3.2.1 (.ptr 1 (0 + x3.2.2.toNat * 1) [x3.2.2.toNat])))]) (n := [(68, (.ptr 1 (0 + x3.2.2.toNat * 1) [x3.2.2.toNat]))]) ⟨(.opt _ _ hc), trivial⟩ (does_load 22 68 1 (0 + x3.2.2.toNat * 1) [x3.2.2.toNat] (.var (e_a8_u32 p1)) (.int .u32 (p1 x3.2.2.toNat)) ⟨rfl, (ixl (h13 hc)), trivial⟩ rfl rfl ty22)), ⟨⟨rfl, rfl, trivial⟩, ⟨rfl, trivial⟩, rfl⟩, rfl,
          Step.guarded rfl rfl rfl rfl (fun hc => Does.strip (n' := [(69, (.opt x3.2.1 (.int .u32 (p1 x3.2.2.toNat))))]) (n := [(69, (.int .u32 (p1 x3.2.2.toNat)))]) ⟨(.opt _ _ hc), trivial⟩ (does_bin .eql 22 22 (.tmp 69) (.const (.int .u32 0)) .u32 (p1 x3.2.2.toNat) 0 (.bool ((p1 x3.2.2.toNat) == 0)) trivial (fun _ => rfl) (bin_eql _ _ _ _))), ⟨⟨rfl, rfl, trivial⟩, trivial, rfl⟩, rfl,
          Step.guarded rfl rfl rfl rfl (fun hc => Does.strip (n' := [(70, (.opt x3.2.1 (.bool ((p1 x3.2.2.toNat) == 0))))]) (n := [(70, (.bool ((p1 x3.2.2.toNat) == 0)))]) ⟨(.opt _ _ hc), trivial⟩ (does_move (.tmp 70) (.bool ((p1 x3.2.2.toNat) == 0)) trivial)), ⟨⟨rfl, rfl, trivial⟩, trivial, rfl⟩, rfl,
          Step.guarded rfl rfl rfl rfl (fun hc => does_move (.tmp 9) (.int .i64 x3.2.2) trivial), ⟨⟨rfl, rfl, trivial⟩, trivial, rfl⟩, rfl,
          Step.guarded rfl rfl rfl rfl (fun hc => Does.strip (n' := [(2, (.ptr 0 0 [])), (72, (.opt (x3.2.1 && (!((p1 x3.2.2.toNat) == 0))) (.int .i64 x3.2.2)))]) (n := [(2, (.ptr 0 0 [])), (72, (.int .i64 x3.2.2))]) ⟨(.same _), (.opt _ _ hc), trivial⟩ (does_indexAddr 24 8 1 2 0 0 [] (.var (e_a8_u32 p0)) (.tmp 72) .i64 x3.2.2 el24 trivial (h14 hc).1 (h14 hc).2)), ⟨⟨rfl, rfl, rfl, trivial⟩, ⟨rfl, trivial⟩, rfl⟩, rfl,
          Step.guarded rfl rfl rfl rfl (fun hc => Does.strip (n' := [(73, (.opt (x3.2.1 && (!((p1 x3.2.2.toNat) == 0))) (.ptr 0 (0 + x3.2.2.toNat * 1) [x3.2.2.toNat])))]) (n := [(73, (.ptr 0 (0 + x3.2.2.toNat * 1) [x3.2.2.toNat]))]) ⟨(.opt _ _ hc), trivial⟩ (does_load 22 73 0 (0 + x3.2.2.toNat * 1) [x3.2.2.toNat] (.var (e_a8_u32 p0)) (.int .u32 (p0 x3.2.2.toNat)) ⟨rfl, (ixl (h14 hc)), trivial⟩ rfl rfl ty22)), ⟨⟨rfl, rfl, trivial⟩, ⟨rfl, trivial⟩, rfl⟩, rfl,
          Step.guarded rfl rfl rfl rfl (fun hc => does_move (.tmp 5) (.int .u32 v1.1) trivial), ⟨⟨rfl, rfl, trivial⟩, trivial, rfl⟩, rfl,
          Step.guarded rfl rfl rfl rfl (fun hc => Does.strip (n' := [(74, (.opt (x3.2.1 && (!((p1 x3.2.2.toNat) == 0))) (.int .u32 (p0 x3.2.2.toNat)))), (75, (.opt (x3.2.1 && (!((p1 x3.2.2.toNat) == 0))) (.int .u32 v1.1)))]) (n := [(74, (.int .u32 (p0 x3.2.2.toNat))), (75, (.int .u32 v1.1))]) ⟨(.opt _ _ hc), (.opt _ _ hc), trivial⟩ (does_bin .eql 22 22 (.tmp 74) (.tmp 75) .u32 (p0 x3.2.2.toNat) v1.1 (.bool ((p0 x3.2.2.toNat) == v1.1)) trivial trivial (bin_eql _ _ _ _))), ⟨⟨rfl, rfl, rfl, trivial⟩, trivial, rfl⟩, rfl,
          Step.guarded rfl rfl rfl rfl (fun hc => Does.strip (n' := [(71, (.opt x3.2.1 (.bool ((p1 x3.2.2.toNat) == 0)))), (76, (.opt (x3.2.1 && (!((p1 x3.2.2.toNat) == 0))) (.bool ((p0 x3.2.2.toNat) == v1.1))))]) (n := [(71, (.bool ((p1 x3.2.2.toNat) == 0))), (76, (.opt (!((p1 x3.2.2.toNat) == 0)) (.bool ((p0 x3.2.2.toNat) == v1.1))))]) ⟨(.opt _ _ hc), (.half _ _ hc), trivial⟩ (does_or 71 76 ((p1 x3.2.2.toNat) == 0) ((p0 x3.2.2.toNat) == v1.1))), ⟨⟨rfl, rfl, rfl, trivial⟩, trivial, rfl⟩, rfl,
          Step.plain rfl (does_and 66 77 x3.2.1 (((p1 x3.2.2.toNat) == 0) || ((p0 x3.2.2.toNat) == v1.1))), ⟨⟨rfl, rfl, trivial⟩, trivial, rfl⟩, rfl,
          Step.plain rfl (does_assign (.tmp 78) (.bool (x3.2.1 && (((p1 x3.2.2.toNat) == 0) || ((p0 x3.2.2.toNat) == v1.1)))) trivial), ⟨⟨rfl, trivial⟩, trivial, rfl⟩, rfl, rfl⟩ ?_
        refine nx_blk ?_
        refine nx_seq ?_
        refine aw_cov (cov_prune (s1 := ⟨[(2, (.ptr 0 0 [])), (3, (.ptr 1 0 [])), (5, (.int .u32 v1.1)), (6, (.bool v1.2)), (9, (.int .i64 x3.2.2)), (7, (.bool (x3.1 || v5))), (8, (.bool (x3.2.1 && (((p1 x3.2.2.toNat) == 0) || ((p0 x3.2.2.toNat) == v1.1)))))], [(0, some (.var (e_a8_u32 p0))), (1, some (.var (e_a8_u32 p1)))], 2⟩) ⟨rfl, rfl, rfl, rfl, rfl, rfl, rfl, trivial⟩ ⟨rfl, rfl, trivial⟩ (Nat.le_refl _)) ?_
        refine aw_region1 (es := [_, _, _]) ⟨Step.plain rfl (does_move (.tmp 9) (.int .i64 x3.2.2) trivial), ⟨⟨rfl, trivial⟩, trivial, rfl⟩, rfl,
          Step.plain rfl (does_bin .add 3 3 (.tmp 20) (.const (.int .i64 1)) .i64 x3.2.2 1 (.int .i64 (IntKind.i64.wrap (x3.2.2 + 1))) trivial (fun _ => rfl) (bin_add _ _ _ _)), ⟨⟨rfl, trivial⟩, trivial, rfl⟩, rfl,
          Step.plain rfl (does_assign (.tmp 21) (.int .i64 (IntKind.i64.wrap (x3.2.2 + 1))) trivial), ⟨⟨rfl, trivial⟩, trivial, rfl⟩, rfl, rfl⟩ ?_
        exact nx_loop ((x3.1 || v5), (x3.2.1 && (((p1 x3.2.2.toNat) == 0) || ((p0 x3.2.2.toNat) == v1.1))), (IntKind.i64.wrap (x3.2.2 + 1))) H (cov_prune ⟨rfl, rfl, rfl, rfl, rfl, rfl, rfl, trivial⟩ ⟨rfl, rfl, trivial⟩ (Nat.le_of_ble_eq_true rfl))
    · replace H := ite_f hc H
      refine aw_exit ?_
      refine ex_then ?_
      refine ex_then ?_
      refine ex_here ?_
      exact nx_ljoin (x3.1, x3.2.1) H hsn4 (cov_prune ⟨rfl, rfl, rfl, rfl, rfl, trivial⟩ ⟨rfl, rfl, trivial⟩ (Nat.le_of_ble_eq_true rfl))

theorem congressref09_Least_spec (p0 : (Nat → Int)) (p1 : (Nat → Int)) (r : Int × Bool) (H : congressref09_Least p0 p1 = some r) : FSpec Try.prog 13 [(e_a8_u32 p0), (e_a8_u32 p1)] (resV [(.int .u32 r.1), (.bool r.2)]) := by
  refine spec_of (fn := Try.f13) (args := [(e_a8_u32 p0), (e_a8_u32 p1)]) Try.func13 rfl (Nat.le_of_ble_eq_true rfl) ?_
  rintro ⟨G, w0, W, S, Sp⟩ hG
  cases hG
  unfold congressref09_Least at H
  refine aw_region (es := [_, _, _, _]) ⟨Step.plain rfl (does_box 24 (.tmp 0) 0 (e_a8_u32 p0) trivial rfl), ⟨⟨rfl, trivial⟩, trivial, rfl⟩, rfl,
    Step.plain rfl (does_box 25 (.tmp 1) 1 (e_a8_u32 p1) trivial rfl), ⟨⟨rfl, trivial⟩, trivial, rfl⟩, rfl,
    Step.plain rfl (does_assign (.const (.int .u32 0)) (.int .u32 0) (fun _ => rfl)), ⟨trivial, trivial, rfl⟩, rfl,
    Step.plain rfl (does_assign (.const (.bool false)) (.bool false) (fun _ => rfl)), ⟨trivial, trivial, rfl⟩, rfl, rfl⟩ ?_
  refine aw_cov (cov_prune (s1 := ⟨[(2, (.ptr 0 0 [])), (3, (.ptr 1 0 []))], [(0, some (.var (e_a8_u32 p0))), (1, some (.var (e_a8_u32 p1)))], 2⟩) ⟨rfl, rfl, trivial⟩ ⟨rfl, rfl, trivial⟩ (Nat.le_refl _)) ?_
  obtain ⟨v1, h2, H⟩ := bnd H
  refine aw_region (es := [_, _, _]) ⟨Step.plain rfl (does_load 25 3 1 0 [] (.var (e_a8_u32 p1)) (e_a8_u32 p1) trivial rfl rfl ty25), ⟨⟨rfl, trivial⟩, ⟨rfl, trivial⟩, rfl⟩, rfl,
    Step.plain rfl (does_call 23 0 (fun _ => .any) (.func 23) [(.tmp 9)] [(e_a8_u32 p1)] [] false [(e_a8_u32 p1)] (e_s_i64 v1) _ _ rfl fo23 rfl ⟨trivial, trivial⟩ ⟨.data _ (d_a8_u32 p1), trivial⟩ (congressref07_List_spec p1 _ h2) (d_s_i64 v1)), ⟨⟨rfl, trivial⟩, trivial, rfl⟩, rfl,
    Step.plain rfl (does_assign (.tmp 10) (e_s_i64 v1) trivial), ⟨⟨rfl, trivial⟩, trivial, rfl⟩, rfl, rfl⟩ ?_
  refine aw_cov (cov_prune (s1 := ⟨[(2, (.ptr 0 0 [])), (6, (e_s_i64 v1))], [(0, some (.var (e_a8_u32 p0)))], 2⟩) ⟨rfl, rfl, trivial⟩ ⟨rfl, trivial⟩ (Nat.le_refl _)) ?_
  refine aw_seq ?_
  refine aw_region (es := [_, _, _]) ⟨Step.plain rfl (does_move (.tmp 6) (e_s_i64 v1) trivial), ⟨⟨rfl, trivial⟩, trivial, rfl⟩, rfl,
    Step.plain rfl (does_lens 50 1 v1.length 11 (fun j => (.int .i64 (v1.getD j 0))) el50), ⟨⟨rfl, trivial⟩, trivial, rfl⟩, rfl,
    Step.plain rfl (does_bin .eql 3 3 (.tmp 12) (.const (.int .i64 0)) .i64 (v1.length : Int) 0 (.bool ((v1.length : Int) == 0)) trivial (fun _ => rfl) (bin_eql _ _ _ _)), ⟨⟨rfl, trivial⟩, trivial, rfl⟩, rfl, rfl⟩ ?_
  refine aw_cov (cov_prune (s1 := ⟨[(2, (.ptr 0 0 [])), (6, (e_s_i64 v1)), (13, (.bool ((v1.length : Int) == 0)))], [(0, some (.var (e_a8_u32 p0)))], 2⟩) ⟨rfl, rfl, rfl, trivial⟩ ⟨rfl, trivial⟩ (Nat.le_refl _)) ?_
  refine aw_cond rfl (fun hc => ?_) (fun hc => ?_)
  · replace H := ite_t hc H
    refine aw_region (es := [_, _]) ⟨Step.plain rfl (does_assign (.const (.int .u32 0)) (.int .u32 0) (fun _ => rfl)), ⟨trivial, trivial, rfl⟩, rfl,
      Step.plain rfl (does_assign (.const (.bool false)) (.bool false) (fun _ => rfl)), ⟨trivial, trivial, rfl⟩, rfl, rfl⟩ ?_
    refine aw_cov (cov_prune (s1 := ⟨[(4, (.int .u32 0)), (5, (.bool false))], [], 2⟩) ⟨rfl, rfl, trivial⟩ trivial (Nat.le_refl _)) ?_
    refine aw_ret ?_
    refine rt_then ?_
    exact fun a w hr => ⟨_, [(.int .u32 0), (.bool false)], hr, ⟨⟨_, rfl, .data _ trivial⟩, ⟨_, rfl, .data _ trivial⟩, trivial⟩, by decide, by cases H; rfl⟩
  · replace H := ite_f hc H
    refine aw_skip ?_
    refine nx_seq ?_
    obtain ⟨h3, H⟩ := ib_of H
    obtain ⟨h4, H⟩ := ib_of H
    refine aw_region (es := [_, _, _, _, _, _]) ⟨Step.plain rfl (does_move (.tmp 6) (e_s_i64 v1) trivial), ⟨⟨rfl, trivial⟩, trivial, rfl⟩, rfl,
      Step.plain rfl (does_indexAddrs 50 1 v1.length 14 (fun j => (.int .i64 (v1.getD j 0))) (.const (.int .i64 0)) .i64 0 el50 (fun _ => rfl) h3.1 h3.2), ⟨⟨rfl, trivial⟩, trivial, rfl⟩, rfl,
      Step.plain rfl (does_loadc 3 15 (.int .i64 (v1.getD 0 0)) ty3), ⟨⟨rfl, trivial⟩, trivial, rfl⟩, rfl,
      Step.plain rfl (does_indexAddr 24 8 1 2 0 0 [] (.var (e_a8_u32 p0)) (.tmp 16) .i64 (v1.getD 0 0) el24 trivial h4.1 h4.2), ⟨⟨rfl, rfl, trivial⟩, ⟨rfl, trivial⟩, rfl⟩, rfl,
      Step.plain rfl (does_load 22 17 0 (0 + (v1.getD 0 0).toNat * 1) [(v1.getD 0 0).toNat] (.var (e_a8_u32 p0)) (.int .u32 (p0 ((v1.getD 0 0).toNat))) ⟨rfl, (ixl h4), trivial⟩ rfl rfl ty22), ⟨⟨rfl, trivial⟩, ⟨rfl, trivial⟩, rfl⟩, rfl,
      Step.plain rfl (does_assign (.tmp 18) (.int .u32 (p0 ((v1.getD 0 0).toNat))) trivial), ⟨⟨rfl, trivial⟩, trivial, rfl⟩, rfl, rfl⟩ ?_
    refine aw_cov (cov_prune (s1 := ⟨[(2, (.ptr 0 0 [])), (6, (e_s_i64 v1)), (7, (.int .u32 (p0 ((v1.getD 0 0).toNat))))], [(0, some (.var (e_a8_u32 p0)))], 2⟩) ⟨rfl, rfl, rfl, trivial⟩ ⟨rfl, trivial⟩ (Nat.le_refl _)) ?_
    refine aw_seq ?_
    refine aw_region (es := [_]) ⟨Step.plain rfl (does_assign (.const (.int .i64 1)) (.int .i64 1) (fun _ => rfl)), ⟨trivial, trivial, rfl⟩, rfl, rfl⟩ ?_
    refine aw_cov (cov_prune (s1 := ⟨[(2, (.ptr 0 0 [])), (6, (e_s_i64 v1)), (7, (.int .u32 (p0 ((v1.getD 0 0).toNat)))), (8, (.int .i64 1))], [(0, some (.var (e_a8_u32 p0)))], 2⟩) ⟨rfl, rfl, rfl, rfl, trivial⟩ ⟨rfl, trivial⟩ (Nat.le_refl _)) ?_
    obtain ⟨wn6, hwn6, Hrn6⟩ := bnd H
    refine aw_meet (fun y13 : Int => (⟨[(7, (.int .u32 y13))], [], 2⟩ : St)) (fun y13 => Fl.nx y13 = wn6) (fun y13 hy => ?_) (aw_block (aw_runs (fun x5 : Int × Int => (⟨[(2, (.ptr 0 0 [])), (6, (e_s_i64 v1)), (7, (.int .u32 x5.1)), (8, (.int .i64 x5.2))], [(0, some (.var (e_a8_u32 p0)))], 2⟩ : St)) hwn6 (cov_prune ⟨rfl, rfl, rfl, rfl, trivial⟩ ⟨rfl, trivial⟩ (Nat.le_of_ble_eq_true rfl)) (fun x5 st H hsn6 => ?_)))
    · have H := nx_of hy Hrn6
      refine nx_seq ?_
      refine aw_region (es := [_, _, _]) ⟨Step.plain rfl (does_move (.tmp 7) (.int .u32 y13) trivial), ⟨⟨rfl, trivial⟩, trivial, rfl⟩, rfl,
        Step.plain rfl (does_assign (.tmp 39) (.int .u32 y13) trivial), ⟨⟨rfl, trivial⟩, trivial, rfl⟩, rfl,
        Step.plain rfl (does_assign (.const (.bool true)) (.bool true) (fun _ => rfl)), ⟨trivial, trivial, rfl⟩, rfl, rfl⟩ ?_
      refine aw_cov (cov_prune (s1 := ⟨[(4, (.int .u32 y13)), (5, (.bool true))], [], 2⟩) ⟨rfl, rfl, trivial⟩ trivial (Nat.le_refl _)) ?_
      refine aw_ret ?_
      exact fun a w hr => ⟨_, [(.int .u32 y13), (.bool true)], hr, ⟨⟨_, rfl, .data _ trivial⟩, ⟨_, rfl, .data _ trivial⟩, trivial⟩, by decide, by cases H; rfl⟩
    · refine aw_seq ?_
      refine aw_region (es := [_, _, _, _]) ⟨Step.plain rfl (does_move (.tmp 8) (.int .i64 x5.2) trivial), ⟨⟨rfl, trivial⟩, trivial, rfl⟩, rfl,
        Step.plain rfl (does_move (.tmp 6) (e_s_i64 v1) trivial), ⟨⟨rfl, trivial⟩, trivial, rfl⟩, rfl,
        Step.plain rfl (does_lens 50 1 v1.length 20 (fun j => (.int .i64 (v1.getD j 0))) el50), ⟨⟨rfl, trivial⟩, trivial, rfl⟩, rfl,
        Step.plain rfl (does_bin .lss 3 3 (.tmp 19) (.tmp 21) .i64 x5.2 (v1.length : Int) (.bool (decide (x5.2 < (v1.length : Int)))) trivial trivial (bin_lss _ _ _ _)), ⟨⟨rfl, rfl, trivial⟩, trivial, rfl⟩, rfl, rfl⟩ ?_
      refine aw_cov (cov_prune (s1 := ⟨[(2, (.ptr 0 0 [])), (6, (e_s_i64 v1)), (7, (.int .u32 x5.1)), (8, (.int .i64 x5.2)), (22, (.bool (decide (x5.2 < (v1.length : Int)))))], [(0, some (.var (e_a8_u32 p0)))], 2⟩) ⟨rfl, rfl, rfl, rfl, rfl, trivial⟩ ⟨rfl, trivial⟩ (Nat.le_refl _)) ?_
      refine aw_cond rfl (fun hc => ?_) (fun hc => ?_)
      · replace H := ite_t hc H
        refine aw_skip ?_
        refine nx_seq ?_
        refine aw_seq ?_
        refine aw_jn (fun x12 : Int => (⟨[(2, (.ptr 0 0 [])), (6, (e_s_i64 v1)), (7, (.int .u32 x12)), (8, (.int .i64 x5.2))], [(0, some (.var (e_a8_u32 p0)))], 2⟩ : St)) H (fun x12 H => ?_) (fun j7 H => ?_)
        · refine nx_seq ?_
          refine aw_region1 (es := [_, _, _]) ⟨Step.plain rfl (does_move (.tmp 8) (.int .i64 x5.2) trivial), ⟨⟨rfl, trivial⟩, trivial, rfl⟩, rfl,
            Step.plain rfl (does_bin .add 3 3 (.tmp 23) (.const (.int .i64 1)) .i64 x5.2 1 (.int .i64 (IntKind.i64.wrap (x5.2 + 1))) trivial (fun _ => rfl) (bin_add _ _ _ _)), ⟨⟨rfl, trivial⟩, trivial, rfl⟩, rfl,
            Step.plain rfl (does_assign (.tmp 24) (.int .i64 (IntKind.i64.wrap (x5.2 + 1))) trivial), ⟨⟨rfl, trivial⟩, trivial, rfl⟩, rfl, rfl⟩ ?_
          exact nx_loop (x12, (IntKind.i64.wrap (x5.2 + 1))) H (cov_prune ⟨rfl, rfl, rfl, rfl, trivial⟩ ⟨rfl, trivial⟩ (Nat.le_of_ble_eq_true rfl))
        · refine aw_block ?_
          obtain ⟨h8, H⟩ := ib_of H
          obtain ⟨h9, H⟩ := ib_of H
          refine aw_region (es := [_, _, _, _, _, _, _, _]) ⟨Step.plain rfl (does_move (.tmp 6) (e_s_i64 v1) trivial), ⟨⟨rfl, trivial⟩, trivial, rfl⟩, rfl,
            Step.plain rfl (does_move (.tmp 8) (.int .i64 x5.2) trivial), ⟨⟨rfl, trivial⟩, trivial, rfl⟩, rfl,
            Step.plain rfl (does_indexAddrs 50 1 v1.length 25 (fun j => (.int .i64 (v1.getD j 0))) (.tmp 26) .i64 x5.2 el50 trivial h8.1 h8.2), ⟨⟨rfl, rfl, trivial⟩, trivial, rfl⟩, rfl,
            Step.plain rfl (does_loadc 3 27 (.int .i64 (v1.getD x5.2.toNat 0)) ty3), ⟨⟨rfl, trivial⟩, trivial, rfl⟩, rfl,
            Step.plain rfl (does_indexAddr 24 8 1 2 0 0 [] (.var (e_a8_u32 p0)) (.tmp 28) .i64 (v1.getD x5.2.toNat 0) el24 trivial h9.1 h9.2), ⟨⟨rfl, rfl, trivial⟩, ⟨rfl, trivial⟩, rfl⟩, rfl,
            Step.plain rfl (does_load 22 29 0 (0 + (v1.getD x5.2.toNat 0).toNat * 1) [(v1.getD x5.2.toNat 0).toNat] (.var (e_a8_u32 p0)) (.int .u32 (p0 ((v1.getD x5.2.toNat 0).toNat))) ⟨rfl, (ixl h9), trivial⟩ rfl rfl ty22), ⟨⟨rfl, trivial⟩, ⟨rfl, trivial⟩, rfl⟩, rfl,
            Step.plain rfl (does_move (.tmp 7) (.int .u32 x5.1) trivial), ⟨⟨rfl, trivial⟩, trivial, rfl⟩, rfl,
            Step.plain rfl (does_bin .lss 22 22 (.tmp 30) (.tmp 31) .u32 (p0 ((v1.getD x5.2.toNat 0).toNat)) x5.1 (.bool (decide ((p0 ((v1.getD x5.2.toNat 0).toNat)) < x5.1))) trivial trivial (bin_lss _ _ _ _)), ⟨⟨rfl, rfl, trivial⟩, trivial, rfl⟩, rfl, rfl⟩ ?_
          refine aw_cov (cov_prune (s1 := ⟨[(2, (.ptr 0 0 [])), (6, (e_s_i64 v1)), (7, (.int .u32 x5.1)), (8, (.int .i64 x5.2)), (32, (.bool (decide ((p0 ((v1.getD x5.2.toNat 0).toNat)) < x5.1))))], [(0, some (.var (e_a8_u32 p0)))], 2⟩) ⟨rfl, rfl, rfl, rfl, rfl, trivial⟩ ⟨rfl, trivial⟩ (Nat.le_refl _)) ?_
          refine aw_cond rfl (fun hc => ?_) (fun hc => ?_)
          · replace H := ite_t hc H
            obtain ⟨h10, H⟩ := ib_of H
            obtain ⟨h11, H⟩ := ib_of H
            refine aw_region1 (es := [_, _, _, _, _, _, _]) ⟨Step.plain rfl (does_move (.tmp 6) (e_s_i64 v1) trivial), ⟨⟨rfl, trivial⟩, trivial, rfl⟩, rfl,
              Step.plain rfl (does_move (.tmp 8) (.int .i64 x5.2) trivial), ⟨⟨rfl, trivial⟩, trivial, rfl⟩, rfl,
              Step.plain rfl (does_indexAddrs 50 1 v1.length 33 (fun j => (.int .i64 (v1.getD j 0))) (.tmp 34) .i64 x5.2 el50 trivial h10.1 h10.2), ⟨⟨rfl, rfl, trivial⟩, trivial, rfl⟩, rfl,
              Step.plain rfl (does_loadc 3 35 (.int .i64 (v1.getD x5.2.toNat 0)) ty3), ⟨⟨rfl, trivial⟩, trivial, rfl⟩, rfl,
              Step.plain rfl (does_indexAddr 24 8 1 2 0 0 [] (.var (e_a8_u32 p0)) (.tmp 36) .i64 (v1.getD x5.2.toNat 0) el24 trivial h11.1 h11.2), ⟨⟨rfl, rfl, trivial⟩, ⟨rfl, trivial⟩, rfl⟩, rfl,
              Step.plain rfl (does_load 22 37 0 (0 + (v1.getD x5.2.toNat 0).toNat * 1) [(v1.getD x5.2.toNat 0).toNat] (.var (e_a8_u32 p0)) (.int .u32 (p0 ((v1.getD x5.2.toNat 0).toNat))) ⟨rfl, (ixl h11), trivial⟩ rfl rfl ty22), ⟨⟨rfl, trivial⟩, ⟨rfl, trivial⟩, rfl⟩, rfl,
              Step.plain rfl (does_assign (.tmp 38) (.int .u32 (p0 ((v1.getD x5.2.toNat 0).toNat))) trivial), ⟨⟨rfl, trivial⟩, trivial, rfl⟩, rfl, rfl⟩ ?_
            refine nx_blk ?_
            exact nx_join (p0 ((v1.getD x5.2.toNat 0).toNat)) H (cov_prune ⟨rfl, rfl, rfl, rfl, trivial⟩ ⟨rfl, trivial⟩ (Nat.le_of_ble_eq_true rfl))
          · replace H := ite_f hc H
            refine aw_skip ?_
            refine nx_blk ?_
            exact nx_join (x5.1) H (cov_prune ⟨rfl, rfl, rfl, rfl, trivial⟩ ⟨rfl, trivial⟩ (Nat.le_of_ble_eq_true rfl))
      · replace H := ite_f hc H
        refine aw_exit ?_
        refine ex_then ?_
        refine ex_then ?_
        refine ex_here ?_
        exact nx_ljoin (x5.1) H hsn6 (cov_prune ⟨rfl, trivial⟩ trivial (Nat.le_of_ble_eq_true rfl))
end Go.Proofs.Ytgcnlfchpjbhkaa
