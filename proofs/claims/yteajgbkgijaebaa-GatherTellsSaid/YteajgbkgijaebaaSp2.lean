/- Printed by gen.py. Conditions: none. -/
import Derived.Test.YteajgbkgijaebaaSp1
import Derived.KernelRfl
set_option linter.unusedVariables false
set_option maxRecDepth 100000
namespace Go.Proofs.Yteajgbkgijaebaa
open Go.Eng
set_option maxHeartbeats 1600000
theorem congresslaw12_fixed_spec (r : Bool) (H : congresslaw12_fixed = some r) : FSpec Try.prog 8 [] (.bool r) := by
  refine spec_of (fn := Try.f8) (args := []) Try.func8 rfl (Nat.le_of_ble_eq_true rfl) ?_
  rintro ⟨G, w0, W, S, Sp⟩ hG
  cases hG
  unfold congresslaw12_fixed at H
  refine aw_region (es := [_]) ⟨Step.plain rfl (does_assign (.const (.bool false)) (.bool false) (fun _ => rfl)), ⟨trivial, trivial, rfl⟩, rfl, rfl⟩ ?_
  refine aw_cov (cov_prune (s1 := ⟨[], [], 0⟩) trivial trivial (Nat.le_refl _)) ?_
  refine aw_region (es := [_, _, _]) ⟨Step.plain rfl (does_buildT 28 #[(0, (.const (.int .u32 1))), (1, (.const (.int .u32 1)))] [(0, (.const (.int .u32 1))), (1, (.const (.int .u32 1)))] [(0, (.int .u32 1)), (1, (.int .u32 1))] (.ar 8 1) (fun j => (.int .u32 ((fun _ => 0) j))) (fun j => (.int .u32 ((aset (fun _ => 0) [(0, 1), (1, 1)]) j))) rfl bo28 ⟨⟨rfl, (fun _ => rfl)⟩, ⟨rfl, (fun _ => rfl)⟩, trivial⟩ ⟨⟨Nat.le_of_ble_eq_true rfl, rfl, rfl⟩, ⟨Nat.le_of_ble_eq_true rfl, rfl, rfl⟩, trivial⟩ (setAll_map (fun z => V.int .u32 z) [(0, 1), (1, 1)] _)), ⟨trivial, trivial, rfl⟩, rfl,
    Step.plain rfl (does_alloc 28 0 (e_a8_u32 (fun _ => 0)) zr28), ⟨trivial, trivial, rfl⟩, rfl,
    Step.plain rfl (does_store 28 1 (.tmp 6) 0 0 [] (.var (e_a8_u32 (fun _ => 0))) (.var (e_a8_u32 (aset (fun _ => 0) [(0, 1), (1, 1)]))) (e_a8_u32 (aset (fun _ => 0) [(0, 1), (1, 1)])) true trivial rfl trivial rfl rfl rfl ty28), ⟨⟨rfl, rfl, trivial⟩, ⟨rfl, trivial⟩, rfl⟩, rfl, rfl⟩ ?_
  refine aw_cov (cov_prune (s1 := ⟨[(1, (.ptr 0 0 []))], [(0, some (.var (e_a8_u32 (aset (fun _ => 0) [(0, 1), (1, 1)]))))], 1⟩) ⟨rfl, trivial⟩ ⟨rfl, trivial⟩ (Nat.le_refl _)) ?_
  obtain ⟨v1, h2, H⟩ := bnd H
  obtain ⟨v3, h4, H⟩ := bnd H
  refine aw_draw (es := [_, _, _, _, _, _, _, _, _, _]) (mixed) ⟨Step.plain rfl (does_buildT 27 #[(0, (.const (.int .u32 1))), (2, (.const (.int .u32 1)))] [(0, (.const (.int .u32 1))), (2, (.const (.int .u32 1)))] [(0, (.int .u32 1)), (2, (.int .u32 1))] (.st [1, 1, 1]) (c_api_Id z_api_Id) (c_api_Id ({ Epoch := 1, Coord := 0, Inc := 1 } : api_Id)) rfl bo27 ⟨⟨rfl, (fun _ => rfl)⟩, ⟨rfl, (fun _ => rfl)⟩, trivial⟩ ⟨⟨Nat.le_of_ble_eq_true rfl, rfl, rfl⟩, ⟨Nat.le_of_ble_eq_true rfl, rfl, rfl⟩, trivial⟩ (by funext j; match j with | 0 => rfl | 1 => rfl | 2 => rfl | _ + 3 => rfl)), ⟨trivial, trivial, rfl⟩, rfl,
    Step.plain rfl (does_call 22 0 (fun _ => .any) (.func 22) [(.tmp 8)] [(e_api_Id ({ Epoch := 1, Coord := 0, Inc := 1 } : api_Id))] [] false [(e_api_Id ({ Epoch := 1, Coord := 0, Inc := 1 } : api_Id))] (e_api_Core v1) _ _ rfl fo22 rfl ⟨trivial, trivial⟩ ⟨.data _ (d_api_Id ({ Epoch := 1, Coord := 0, Inc := 1 } : api_Id)), trivial⟩ (congresslaw12_pair_spec ({ Epoch := 1, Coord := 0, Inc := 1 } : api_Id) _ h2) (d_api_Core v1)), ⟨⟨rfl, trivial⟩, trivial, rfl⟩, rfl,
    Step.plain rfl (does_load 28 1 0 0 [] (.var (e_a8_u32 (aset (fun _ => 0) [(0, 1), (1, 1)]))) (e_a8_u32 (aset (fun _ => 0) [(0, 1), (1, 1)])) trivial rfl rfl ty28), ⟨⟨rfl, trivial⟩, ⟨rfl, trivial⟩, rfl⟩, rfl,
    Step.plain rfl (does_call 11 0 (fun _ => .any) (.func 11) [(.tmp 9), (.tmp 10)] [(e_api_Core v1), (e_a8_u32 (aset (fun _ => 0) [(0, 1), (1, 1)]))] [] true [(e_api_Core v1), (e_a8_u32 (aset (fun _ => 0) [(0, 1), (1, 1)]))] (resV [(e_api_Id v3.1), (.bool v3.2)]) _ _ rfl fo11 rfl ⟨trivial, trivial, trivial⟩ ⟨.data _ (d_api_Core v1), .data _ (d_a8_u32 (aset (fun _ => 0) [(0, 1), (1, 1)])), trivial⟩ (gather_Propose_spec v1 (aset (fun _ => 0) [(0, 1), (1, 1)]) _ h4) (res_flat2 (f_api_Id v3.1) trivial)), ⟨⟨rfl, rfl, trivial⟩, trivial, rfl⟩, rfl,
    Step.plain rfl (does_move (.tmp 11) (resV [(e_api_Id v3.1), (.bool v3.2)]) trivial), ⟨⟨rfl, trivial⟩, trivial, rfl⟩, rfl,
    Step.plain rfl (does_extract 7 0 2 (fun j => [(e_api_Id v3.1), (.bool v3.2)].getD j (.bool false)) (Nat.le_of_ble_eq_true rfl)), ⟨⟨rfl, trivial⟩, trivial, rfl⟩, rfl,
    Step.plain rfl (does_extract 7 1 2 (fun j => [(e_api_Id v3.1), (.bool v3.2)].getD j (.bool false)) (Nat.le_of_ble_eq_true rfl)), ⟨⟨rfl, trivial⟩, trivial, rfl⟩, rfl,
    Step.plain rfl (does_alloc 27 1 (e_api_Id z_api_Id) zr27), ⟨trivial, trivial, rfl⟩, rfl,
    Step.plain rfl (does_store 27 2 (.tmp 12) 1 0 [] (.var (e_api_Id z_api_Id)) (.var (e_api_Id v3.1)) (e_api_Id v3.1) true trivial rfl trivial rfl rfl rfl ty27), ⟨⟨rfl, rfl, trivial⟩, ⟨rfl, trivial⟩, rfl⟩, rfl,
    Step.plain rfl (does_assign (.tmp 13) (.bool v3.2) trivial), ⟨⟨rfl, trivial⟩, trivial, rfl⟩, rfl, rfl⟩ rfl ?_
  refine aw_cov (cov_prune (s1 := ⟨[(1, (.ptr 0 0 [])), (3, (.bool v3.2))], [(0, some (.var (e_a8_u32 (aset (fun _ => 0) [(0, 1), (1, 1)]))))], 2⟩) ⟨rfl, rfl, trivial⟩ ⟨rfl, trivial⟩ (Nat.le_refl _)) ?_
  obtain ⟨v5, h6, H⟩ := bnd H
  obtain ⟨v7, h8, H⟩ := bnd H
  refine aw_draw (es := [_, _, _, _, _, _, _, _, _, _]) (mixed) ⟨Step.plain rfl (does_buildT 27 #[(0, (.const (.int .u32 1))), (1, (.const (.int .u32 1))), (2, (.const (.int .u32 1)))] [(0, (.const (.int .u32 1))), (1, (.const (.int .u32 1))), (2, (.const (.int .u32 1)))] [(0, (.int .u32 1)), (1, (.int .u32 1)), (2, (.int .u32 1))] (.st [1, 1, 1]) (c_api_Id z_api_Id) (c_api_Id ({ Epoch := 1, Coord := 1, Inc := 1 } : api_Id)) rfl bo27 ⟨⟨rfl, (fun _ => rfl)⟩, ⟨rfl, (fun _ => rfl)⟩, ⟨rfl, (fun _ => rfl)⟩, trivial⟩ ⟨⟨Nat.le_of_ble_eq_true rfl, rfl, rfl⟩, ⟨Nat.le_of_ble_eq_true rfl, rfl, rfl⟩, ⟨Nat.le_of_ble_eq_true rfl, rfl, rfl⟩, trivial⟩ (by funext j; match j with | 0 => rfl | 1 => rfl | 2 => rfl | _ + 3 => rfl)), ⟨trivial, trivial, rfl⟩, rfl,
    Step.plain rfl (does_call 22 0 (fun _ => .any) (.func 22) [(.tmp 15)] [(e_api_Id ({ Epoch := 1, Coord := 1, Inc := 1 } : api_Id))] [] false [(e_api_Id ({ Epoch := 1, Coord := 1, Inc := 1 } : api_Id))] (e_api_Core v5) _ _ rfl fo22 rfl ⟨trivial, trivial⟩ ⟨.data _ (d_api_Id ({ Epoch := 1, Coord := 1, Inc := 1 } : api_Id)), trivial⟩ (congresslaw12_pair_spec ({ Epoch := 1, Coord := 1, Inc := 1 } : api_Id) _ h6) (d_api_Core v5)), ⟨⟨rfl, trivial⟩, trivial, rfl⟩, rfl,
    Step.plain rfl (does_load 28 1 0 0 [] (.var (e_a8_u32 (aset (fun _ => 0) [(0, 1), (1, 1)]))) (e_a8_u32 (aset (fun _ => 0) [(0, 1), (1, 1)])) trivial rfl rfl ty28), ⟨⟨rfl, trivial⟩, ⟨rfl, trivial⟩, rfl⟩, rfl,
    Step.plain rfl (does_call 11 0 (fun _ => .any) (.func 11) [(.tmp 16), (.tmp 17)] [(e_api_Core v5), (e_a8_u32 (aset (fun _ => 0) [(0, 1), (1, 1)]))] [] true [(e_api_Core v5), (e_a8_u32 (aset (fun _ => 0) [(0, 1), (1, 1)]))] (resV [(e_api_Id v7.1), (.bool v7.2)]) _ _ rfl fo11 rfl ⟨trivial, trivial, trivial⟩ ⟨.data _ (d_api_Core v5), .data _ (d_a8_u32 (aset (fun _ => 0) [(0, 1), (1, 1)])), trivial⟩ (gather_Propose_spec v5 (aset (fun _ => 0) [(0, 1), (1, 1)]) _ h8) (res_flat2 (f_api_Id v7.1) trivial)), ⟨⟨rfl, rfl, trivial⟩, trivial, rfl⟩, rfl,
    Step.plain rfl (does_move (.tmp 18) (resV [(e_api_Id v7.1), (.bool v7.2)]) trivial), ⟨⟨rfl, trivial⟩, trivial, rfl⟩, rfl,
    Step.plain rfl (does_extract 14 0 2 (fun j => [(e_api_Id v7.1), (.bool v7.2)].getD j (.bool false)) (Nat.le_of_ble_eq_true rfl)), ⟨⟨rfl, trivial⟩, trivial, rfl⟩, rfl,
    Step.plain rfl (does_extract 14 1 2 (fun j => [(e_api_Id v7.1), (.bool v7.2)].getD j (.bool false)) (Nat.le_of_ble_eq_true rfl)), ⟨⟨rfl, trivial⟩, trivial, rfl⟩, rfl,
    Step.plain rfl (does_alloc 27 2 (e_api_Id z_api_Id) zr27), ⟨trivial, trivial, rfl⟩, rfl,
    Step.plain rfl (does_store 27 4 (.tmp 19) 2 0 [] (.var (e_api_Id z_api_Id)) (.var (e_api_Id v7.1)) (e_api_Id v7.1) true trivial rfl trivial rfl rfl rfl ty27), ⟨⟨rfl, rfl, trivial⟩, ⟨rfl, trivial⟩, rfl⟩, rfl,
    Step.plain rfl (does_assign (.tmp 20) (.bool v7.2) trivial), ⟨⟨rfl, trivial⟩, trivial, rfl⟩, rfl, rfl⟩ rfl ?_
  refine aw_cov (cov_prune (s1 := ⟨[(3, (.bool v3.2)), (4, (.ptr 2 0 [])), (5, (.bool v7.2))], [(2, some (.var (e_api_Id v7.1)))], 3⟩) ⟨rfl, rfl, rfl, trivial⟩ ⟨rfl, trivial⟩ (Nat.le_refl _)) ?_
  obtain ⟨v9, h10, H⟩ := whn_of H
  obtain ⟨v11, h12, H⟩ := whn_of H
  obtain ⟨v13, h14, H⟩ := whn_of H
  obtain ⟨v15, h16, H⟩ := whn_of H
  obtain ⟨v17, h18, H⟩ := whn_of H
  obtain ⟨v19, h20, H⟩ := whn_of H
  refine aw_region (es := [_, _, _, _, _, _, _, _, _, _, _, _, _, _, _, _, _, _, _, _, _, _, _, _, _, _, _, _]) ⟨Step.plain rfl (does_move (.tmp 3) (.bool v3.2) trivial), ⟨⟨rfl, trivial⟩, trivial, rfl⟩, rfl,
    Step.plain rfl (does_not 4 (.tmp 21) v3.2 trivial), ⟨⟨rfl, trivial⟩, trivial, rfl⟩, rfl,
    Step.plain rfl (does_move (.tmp 22) (.bool (!v3.2)) trivial), ⟨⟨rfl, trivial⟩, trivial, rfl⟩, rfl,
    Step.guarded rfl rfl rfl rfl (fun hc => does_move (.tmp 5) (.bool v7.2) trivial), ⟨⟨rfl, rfl, trivial⟩, trivial, rfl⟩, rfl,
    Step.plain rfl (does_and 23 24 (!v3.2) v7.2), ⟨⟨rfl, rfl, trivial⟩, trivial, rfl⟩, rfl,
    Step.plain rfl (does_move (.tmp 25) (.bool ((!v3.2) && v7.2)) trivial), ⟨⟨rfl, trivial⟩, trivial, rfl⟩, rfl,
    Step.guarded rfl rfl rfl rfl (fun hc => does_load 27 4 2 0 [] (.var (e_api_Id v7.1)) (e_api_Id v7.1) trivial rfl rfl ty27), ⟨⟨rfl, rfl, trivial⟩, ⟨rfl, trivial⟩, rfl⟩, rfl,
    Step.guarded rfl rfl rfl rfl (fun hc => does_buildT 27 #[(0, (.const (.int .u32 2))), (2, (.const (.int .u32 1)))] [(0, (.const (.int .u32 2))), (2, (.const (.int .u32 1)))] [(0, (.int .u32 2)), (2, (.int .u32 1))] (.st [1, 1, 1]) (c_api_Id z_api_Id) (c_api_Id ({ Epoch := 2, Coord := 0, Inc := 1 } : api_Id)) rfl bo27 ⟨⟨rfl, (fun _ => rfl)⟩, ⟨rfl, (fun _ => rfl)⟩, trivial⟩ ⟨⟨Nat.le_of_ble_eq_true rfl, rfl, rfl⟩, ⟨Nat.le_of_ble_eq_true rfl, rfl, rfl⟩, trivial⟩ (by funext j; match j with | 0 => rfl | 1 => rfl | 2 => rfl | _ + 3 => rfl)), ⟨⟨rfl, trivial⟩, trivial, rfl⟩, rfl,
    Step.guarded rfl rfl rfl rfl (fun hc => Does.strip (n' := [(27, (.opt ((!v3.2) && v7.2) (e_api_Id v7.1))), (28, (.opt ((!v3.2) && v7.2) (e_api_Id ({ Epoch := 2, Coord := 0, Inc := 1 } : api_Id))))]) (n := [(27, (e_api_Id v7.1)), (28, (e_api_Id ({ Epoch := 2, Coord := 0, Inc := 1 } : api_Id)))]) ⟨(.opt _ _ hc), (.opt _ _ hc), trivial⟩ (does_eqT false 27 27 (.tmp 27) (.tmp 28) (e_api_Id v7.1) (e_api_Id ({ Epoch := 2, Coord := 0, Inc := 1 } : api_Id)) (e_api_Id z_api_Id) (b_api_Id v7.1 ({ Epoch := 2, Coord := 0, Inc := 1 } : api_Id)) rfl rfl trivial trivial eg27 sh27 (al_api_Id _ _) (al_api_Id _ _) (q_api_Id _ _))), ⟨⟨rfl, rfl, rfl, trivial⟩, trivial, rfl⟩, rfl,
    Step.plain rfl (does_and 26 29 ((!v3.2) && v7.2) (b_api_Id v7.1 ({ Epoch := 2, Coord := 0, Inc := 1 } : api_Id))), ⟨⟨rfl, rfl, trivial⟩, trivial, rfl⟩, rfl,
    Step.plain rfl (does_move (.tmp 30) (.bool (((!v3.2) && v7.2) && (b_api_Id v7.1 ({ Epoch := 2, Coord := 0, Inc := 1 } : api_Id)))) trivial), ⟨⟨rfl, trivial⟩, trivial, rfl⟩, rfl,
    Step.guarded rfl rfl rfl rfl (fun hc => does_buildT 27 #[(0, (.const (.int .u32 1))), (2, (.const (.int .u32 1)))] [(0, (.const (.int .u32 1))), (2, (.const (.int .u32 1)))] [(0, (.int .u32 1)), (2, (.int .u32 1))] (.st [1, 1, 1]) (c_api_Id z_api_Id) (c_api_Id ({ Epoch := 1, Coord := 0, Inc := 1 } : api_Id)) rfl bo27 ⟨⟨rfl, (fun _ => rfl)⟩, ⟨rfl, (fun _ => rfl)⟩, trivial⟩ ⟨⟨Nat.le_of_ble_eq_true rfl, rfl, rfl⟩, ⟨Nat.le_of_ble_eq_true rfl, rfl, rfl⟩, trivial⟩ (by funext j; match j with | 0 => rfl | 1 => rfl | 2 => rfl | _ + 3 => rfl)), ⟨⟨rfl, trivial⟩, trivial, rfl⟩, rfl,
    Step.guarded rfl rfl rfl rfl (fun hc => Does.strip (n' := [(32, (.opt (((!v3.2) && v7.2) && (b_api_Id v7.1 ({ Epoch := 2, Coord := 0, Inc := 1 } : api_Id))) (e_api_Id ({ Epoch := 1, Coord := 0, Inc := 1 } : api_Id))))]) (n := [(32, (e_api_Id ({ Epoch := 1, Coord := 0, Inc := 1 } : api_Id)))]) ⟨(.opt _ _ hc), trivial⟩ (does_call 22 0 (fun _ => .any) (.func 22) [(.tmp 32)] [(e_api_Id ({ Epoch := 1, Coord := 0, Inc := 1 } : api_Id))] [] false [(e_api_Id ({ Epoch := 1, Coord := 0, Inc := 1 } : api_Id))] (e_api_Core v9) _ _ rfl fo22 rfl ⟨trivial, trivial⟩ ⟨.data _ (d_api_Id ({ Epoch := 1, Coord := 0, Inc := 1 } : api_Id)), trivial⟩ (congresslaw12_pair_spec ({ Epoch := 1, Coord := 0, Inc := 1 } : api_Id) _ (h10 hc)) (d_api_Core v9))), ⟨⟨rfl, rfl, trivial⟩, trivial, rfl⟩, rfl,
    Step.guarded rfl rfl rfl rfl (fun hc => Does.strip (n' := [(33, (.opt (((!v3.2) && v7.2) && (b_api_Id v7.1 ({ Epoch := 2, Coord := 0, Inc := 1 } : api_Id))) (e_api_Core v9)))]) (n := [(33, (e_api_Core v9))]) ⟨(.opt _ _ hc), trivial⟩ (does_call 17 0 (fun _ => .any) (.func 17) [(.tmp 33)] [(e_api_Core v9)] [] true [(e_api_Core v9)] (.bool v11) _ _ rfl fo17 rfl ⟨trivial, trivial⟩ ⟨.data _ (d_api_Core v9), trivial⟩ (gather_All_spec v9 _ (h12 hc)) trivial)), ⟨⟨rfl, rfl, trivial⟩, trivial, rfl⟩, rfl,
    Step.plain rfl (does_and 31 34 (((!v3.2) && v7.2) && (b_api_Id v7.1 ({ Epoch := 2, Coord := 0, Inc := 1 } : api_Id))) v11), ⟨⟨rfl, rfl, trivial⟩, trivial, rfl⟩, rfl,
    Step.plain rfl (does_move (.tmp 35) (.bool ((((!v3.2) && v7.2) && (b_api_Id v7.1 ({ Epoch := 2, Coord := 0, Inc := 1 } : api_Id))) && v11)) trivial), ⟨⟨rfl, trivial⟩, trivial, rfl⟩, rfl,
    Step.guarded rfl rfl rfl rfl (fun hc => does_buildT 27 #[] [] [] (.st [1, 1, 1]) (c_api_Id z_api_Id) (c_api_Id ({ Epoch := 0, Coord := 0, Inc := 0 } : api_Id)) rfl bo27 trivial trivial (by funext j; match j with | 0 => rfl | 1 => rfl | 2 => rfl | _ + 3 => rfl)), ⟨⟨rfl, trivial⟩, trivial, rfl⟩, rfl,
    Step.guarded rfl rfl rfl rfl (fun hc => Does.strip (n' := [(37, (.opt ((((!v3.2) && v7.2) && (b_api_Id v7.1 ({ Epoch := 2, Coord := 0, Inc := 1 } : api_Id))) && v11) (e_api_Id ({ Epoch := 0, Coord := 0, Inc := 0 } : api_Id))))]) (n := [(37, (e_api_Id ({ Epoch := 0, Coord := 0, Inc := 0 } : api_Id)))]) ⟨(.opt _ _ hc), trivial⟩ (does_call 22 0 (fun _ => .any) (.func 22) [(.tmp 37)] [(e_api_Id ({ Epoch := 0, Coord := 0, Inc := 0 } : api_Id))] [] false [(e_api_Id ({ Epoch := 0, Coord := 0, Inc := 0 } : api_Id))] (e_api_Core v13) _ _ rfl fo22 rfl ⟨trivial, trivial⟩ ⟨.data _ (d_api_Id ({ Epoch := 0, Coord := 0, Inc := 0 } : api_Id)), trivial⟩ (congresslaw12_pair_spec ({ Epoch := 0, Coord := 0, Inc := 0 } : api_Id) _ (h14 hc)) (d_api_Core v13))), ⟨⟨rfl, rfl, trivial⟩, trivial, rfl⟩, rfl,
    Step.guarded rfl rfl rfl rfl (fun hc => Does.strip (n' := [(38, (.opt ((((!v3.2) && v7.2) && (b_api_Id v7.1 ({ Epoch := 2, Coord := 0, Inc := 1 } : api_Id))) && v11) (e_api_Core v13)))]) (n := [(38, (e_api_Core v13))]) ⟨(.opt _ _ hc), trivial⟩ (does_call 17 0 (fun _ => .any) (.func 17) [(.tmp 38)] [(e_api_Core v13)] [] true [(e_api_Core v13)] (.bool v15) _ _ rfl fo17 rfl ⟨trivial, trivial⟩ ⟨.data _ (d_api_Core v13), trivial⟩ (gather_All_spec v13 _ (h16 hc)) trivial)), ⟨⟨rfl, rfl, trivial⟩, trivial, rfl⟩, rfl,
    Step.guarded rfl rfl rfl rfl (fun hc => Does.strip (n' := [(39, (.opt ((((!v3.2) && v7.2) && (b_api_Id v7.1 ({ Epoch := 2, Coord := 0, Inc := 1 } : api_Id))) && v11) (.bool v15)))]) (n := [(39, (.bool v15))]) ⟨(.opt _ _ hc), trivial⟩ (does_not 4 (.tmp 39) v15 trivial)), ⟨⟨rfl, rfl, trivial⟩, trivial, rfl⟩, rfl,
    Step.plain rfl (does_and 36 40 ((((!v3.2) && v7.2) && (b_api_Id v7.1 ({ Epoch := 2, Coord := 0, Inc := 1 } : api_Id))) && v11) (!v15)), ⟨⟨rfl, rfl, trivial⟩, trivial, rfl⟩, rfl,
    Step.plain rfl (does_move (.tmp 41) (.bool (((((!v3.2) && v7.2) && (b_api_Id v7.1 ({ Epoch := 2, Coord := 0, Inc := 1 } : api_Id))) && v11) && (!v15))) trivial), ⟨⟨rfl, trivial⟩, trivial, rfl⟩, rfl,
    Step.guarded rfl rfl rfl rfl (fun hc => does_buildT 27 #[(0, (.const (.int .u32 1))), (2, (.const (.int .u32 1)))] [(0, (.const (.int .u32 1))), (2, (.const (.int .u32 1)))] [(0, (.int .u32 1)), (2, (.int .u32 1))] (.st [1, 1, 1]) (c_api_Id z_api_Id) (c_api_Id ({ Epoch := 1, Coord := 0, Inc := 1 } : api_Id)) rfl bo27 ⟨⟨rfl, (fun _ => rfl)⟩, ⟨rfl, (fun _ => rfl)⟩, trivial⟩ ⟨⟨Nat.le_of_ble_eq_true rfl, rfl, rfl⟩, ⟨Nat.le_of_ble_eq_true rfl, rfl, rfl⟩, trivial⟩ (by funext j; match j with | 0 => rfl | 1 => rfl | 2 => rfl | _ + 3 => rfl)), ⟨⟨rfl, trivial⟩, trivial, rfl⟩, rfl,
    Step.guarded rfl rfl rfl rfl (fun hc => Does.strip (n' := [(43, (.opt (((((!v3.2) && v7.2) && (b_api_Id v7.1 ({ Epoch := 2, Coord := 0, Inc := 1 } : api_Id))) && v11) && (!v15)) (e_api_Id ({ Epoch := 1, Coord := 0, Inc := 1 } : api_Id))))]) (n := [(43, (e_api_Id ({ Epoch := 1, Coord := 0, Inc := 1 } : api_Id)))]) ⟨(.opt _ _ hc), trivial⟩ (does_call 22 0 (fun _ => .any) (.func 22) [(.tmp 43)] [(e_api_Id ({ Epoch := 1, Coord := 0, Inc := 1 } : api_Id))] [] false [(e_api_Id ({ Epoch := 1, Coord := 0, Inc := 1 } : api_Id))] (e_api_Core v17) _ _ rfl fo22 rfl ⟨trivial, trivial⟩ ⟨.data _ (d_api_Id ({ Epoch := 1, Coord := 0, Inc := 1 } : api_Id)), trivial⟩ (congresslaw12_pair_spec ({ Epoch := 1, Coord := 0, Inc := 1 } : api_Id) _ (h18 hc)) (d_api_Core v17))), ⟨⟨rfl, rfl, trivial⟩, trivial, rfl⟩, rfl,
    Step.guarded rfl rfl rfl rfl (fun hc => Does.strip (n' := [(44, (.opt (((((!v3.2) && v7.2) && (b_api_Id v7.1 ({ Epoch := 2, Coord := 0, Inc := 1 } : api_Id))) && v11) && (!v15)) (e_api_Core v17)))]) (n := [(44, (e_api_Core v17))]) ⟨(.opt _ _ hc), trivial⟩ (does_call 20 0 (fun _ => .any) (.func 20) [(.tmp 44)] [(e_api_Core v17)] [] true [(e_api_Core v17)] (.bool v19) _ _ rfl fo20 rfl ⟨trivial, trivial⟩ ⟨.data _ (d_api_Core v17), trivial⟩ (gather_Done_spec v17 _ (h20 hc)) trivial)), ⟨⟨rfl, rfl, trivial⟩, trivial, rfl⟩, rfl,
    Step.guarded rfl rfl rfl rfl (fun hc => Does.strip (n' := [(45, (.opt (((((!v3.2) && v7.2) && (b_api_Id v7.1 ({ Epoch := 2, Coord := 0, Inc := 1 } : api_Id))) && v11) && (!v15)) (.bool v19)))]) (n := [(45, (.bool v19))]) ⟨(.opt _ _ hc), trivial⟩ (does_not 4 (.tmp 45) v19 trivial)), ⟨⟨rfl, rfl, trivial⟩, trivial, rfl⟩, rfl,
    Step.plain rfl (does_and 42 46 (((((!v3.2) && v7.2) && (b_api_Id v7.1 ({ Epoch := 2, Coord := 0, Inc := 1 } : api_Id))) && v11) && (!v15)) (!v19)), ⟨⟨rfl, rfl, trivial⟩, trivial, rfl⟩, rfl,
    Step.plain rfl (does_assign (.tmp 47) (.bool ((((((!v3.2) && v7.2) && (b_api_Id v7.1 ({ Epoch := 2, Coord := 0, Inc := 1 } : api_Id))) && v11) && (!v15)) && (!v19))) trivial), ⟨⟨rfl, trivial⟩, trivial, rfl⟩, rfl, rfl⟩ ?_
  obtain ⟨v21, hv21, H⟩ := lt_of H
  refine aw_cov (cov_prune (s1 := ⟨[(0, (.bool v21))], [], 3⟩) ⟨(by subst hv21; rfl), trivial⟩ trivial (Nat.le_refl _)) ?_
  refine aw_ret ?_
  exact fun a w hr => ⟨_, [(.bool v21)], hr, ⟨⟨_, rfl, .data _ trivial⟩, trivial⟩, by decide, by cases H; rfl⟩

theorem ident_Has_spec (p0 : (Nat → Int)) (p1 : Int) (p2 : Int) (r : Bool) (H : ident_Has p0 p1 p2 = some r) : FSpec Try.prog 24 [(e_a8_u32 p0), (.int .i64 p1), (.int .u32 p2)] (.bool r) := by
  refine spec_of (fn := Try.f24) (args := [(e_a8_u32 p0), (.int .i64 p1), (.int .u32 p2)]) Try.func24 rfl (Nat.le_of_ble_eq_true rfl) ?_
  rintro ⟨G, w0, W, S, Sp⟩ hG
  cases hG
  unfold ident_Has at H
  refine aw_region (es := [_, _]) ⟨Step.plain rfl (does_box 28 (.tmp 0) 0 (e_a8_u32 p0) trivial rfl), ⟨⟨rfl, trivial⟩, trivial, rfl⟩, rfl,
    Step.plain rfl (does_assign (.const (.bool false)) (.bool false) (fun _ => rfl)), ⟨trivial, trivial, rfl⟩, rfl, rfl⟩ ?_
  refine aw_cov (cov_prune (s1 := ⟨[(1, (.int .i64 p1)), (2, (.int .u32 p2)), (3, (.ptr 0 0 []))], [(0, some (.var (e_a8_u32 p0)))], 1⟩) ⟨rfl, rfl, rfl, trivial⟩ ⟨rfl, trivial⟩ (Nat.le_refl _)) ?_
  obtain ⟨h1, H⟩ := ibg_of H
  refine aw_region (es := [_, _, _, _, _, _, _, _, _, _, _, _, _, _, _, _, _, _]) ⟨Step.plain rfl (does_move (.tmp 1) (.int .i64 p1) trivial), ⟨⟨rfl, trivial⟩, trivial, rfl⟩, rfl,
    Step.plain rfl (does_bin .geq 3 3 (.tmp 7) (.const (.int .i64 0)) .i64 p1 0 (.bool (decide (p1 ≥ 0))) trivial (fun _ => rfl) (bin_geq _ _ _ _)), ⟨⟨rfl, trivial⟩, trivial, rfl⟩, rfl,
    Step.plain rfl (does_move (.tmp 8) (.bool (decide (p1 ≥ 0))) trivial), ⟨⟨rfl, trivial⟩, trivial, rfl⟩, rfl,
    Step.guarded rfl rfl rfl rfl (fun hc => does_move (.tmp 1) (.int .i64 p1) trivial), ⟨⟨rfl, rfl, trivial⟩, trivial, rfl⟩, rfl,
    Step.guarded rfl rfl rfl rfl (fun hc => Does.strip (n' := [(10, (.opt (decide (p1 ≥ 0)) (.int .i64 p1)))]) (n := [(10, (.int .i64 p1))]) ⟨(.opt _ _ hc), trivial⟩ (does_bin .lss 3 3 (.tmp 10) (.const (.int .i64 8)) .i64 p1 8 (.bool (decide (p1 < 8))) trivial (fun _ => rfl) (bin_lss _ _ _ _))), ⟨⟨rfl, rfl, trivial⟩, trivial, rfl⟩, rfl,
    Step.plain rfl (does_and 9 11 (decide (p1 ≥ 0)) (decide (p1 < 8))), ⟨⟨rfl, rfl, trivial⟩, trivial, rfl⟩, rfl,
    Step.plain rfl (does_move (.tmp 12) (.bool ((decide (p1 ≥ 0)) && (decide (p1 < 8)))) trivial), ⟨⟨rfl, trivial⟩, trivial, rfl⟩, rfl,
    Step.guarded rfl rfl rfl rfl (fun hc => does_move (.tmp 2) (.int .u32 p2) trivial), ⟨⟨rfl, rfl, trivial⟩, trivial, rfl⟩, rfl,
    Step.guarded rfl rfl rfl rfl (fun hc => Does.strip (n' := [(14, (.opt ((decide (p1 ≥ 0)) && (decide (p1 < 8))) (.int .u32 p2)))]) (n := [(14, (.int .u32 p2))]) ⟨(.opt _ _ hc), trivial⟩ (does_bin .neq 22 22 (.tmp 14) (.const (.int .u32 0)) .u32 p2 0 (.bool (p2 != 0)) trivial (fun _ => rfl) (bin_neq _ _ _ _))), ⟨⟨rfl, rfl, trivial⟩, trivial, rfl⟩, rfl,
    Step.plain rfl (does_and 13 15 ((decide (p1 ≥ 0)) && (decide (p1 < 8))) (p2 != 0)), ⟨⟨rfl, rfl, trivial⟩, trivial, rfl⟩, rfl,
    Step.plain rfl (does_move (.tmp 16) (.bool (((decide (p1 ≥ 0)) && (decide (p1 < 8))) && (p2 != 0))) trivial), ⟨⟨rfl, trivial⟩, trivial, rfl⟩, rfl,
    Step.guarded rfl rfl rfl rfl (fun hc => does_move (.tmp 1) (.int .i64 p1) trivial), ⟨⟨rfl, rfl, trivial⟩, trivial, rfl⟩, rfl,
    Step.guarded rfl rfl rfl rfl (fun hc => Does.strip (n' := [(3, (.ptr 0 0 [])), (18, (.opt (((decide (p1 ≥ 0)) && (decide (p1 < 8))) && (p2 != 0)) (.int .i64 p1)))]) (n := [(3, (.ptr 0 0 [])), (18, (.int .i64 p1))]) ⟨(.same _), (.opt _ _ hc), trivial⟩ (does_indexAddr 28 8 1 3 0 0 [] (.var (e_a8_u32 p0)) (.tmp 18) .i64 p1 el28 trivial (h1 hc).1 (h1 hc).2)), ⟨⟨rfl, rfl, rfl, trivial⟩, ⟨rfl, trivial⟩, rfl⟩, rfl,
    Step.guarded rfl rfl rfl rfl (fun hc => Does.strip (n' := [(19, (.opt (((decide (p1 ≥ 0)) && (decide (p1 < 8))) && (p2 != 0)) (.ptr 0 (0 + p1.toNat * 1) [p1.toNat])))]) (n := [(19, (.ptr 0 (0 + p1.toNat * 1) [p1.toNat]))]) ⟨(.opt _ _ hc), trivial⟩ (does_load 22 19 0 (0 + p1.toNat * 1) [p1.toNat] (.var (e_a8_u32 p0)) (.int .u32 (p0 p1.toNat)) ⟨rfl, (ixl (h1 hc)), trivial⟩ rfl rfl ty22)), ⟨⟨rfl, rfl, trivial⟩, ⟨rfl, trivial⟩, rfl⟩, rfl,
    Step.guarded rfl rfl rfl rfl (fun hc => does_move (.tmp 2) (.int .u32 p2) trivial), ⟨⟨rfl, rfl, trivial⟩, trivial, rfl⟩, rfl,
    Step.guarded rfl rfl rfl rfl (fun hc => Does.strip (n' := [(20, (.opt (((decide (p1 ≥ 0)) && (decide (p1 < 8))) && (p2 != 0)) (.int .u32 (p0 p1.toNat)))), (21, (.opt (((decide (p1 ≥ 0)) && (decide (p1 < 8))) && (p2 != 0)) (.int .u32 p2)))]) (n := [(20, (.int .u32 (p0 p1.toNat))), (21, (.int .u32 p2))]) ⟨(.opt _ _ hc), (.opt _ _ hc), trivial⟩ (does_bin .eql 22 22 (.tmp 20) (.tmp 21) .u32 (p0 p1.toNat) p2 (.bool ((p0 p1.toNat) == p2)) trivial trivial (bin_eql _ _ _ _))), ⟨⟨rfl, rfl, rfl, trivial⟩, trivial, rfl⟩, rfl,
    Step.plain rfl (does_and 17 22 (((decide (p1 ≥ 0)) && (decide (p1 < 8))) && (p2 != 0)) ((p0 p1.toNat) == p2)), ⟨⟨rfl, rfl, trivial⟩, trivial, rfl⟩, rfl,
    Step.plain rfl (does_assign (.tmp 23) (.bool ((((decide (p1 ≥ 0)) && (decide (p1 < 8))) && (p2 != 0)) && ((p0 p1.toNat) == p2))) trivial), ⟨⟨rfl, trivial⟩, trivial, rfl⟩, rfl, rfl⟩ ?_
  obtain ⟨v2, hv2, H⟩ := lt_of H
  refine aw_cov (cov_prune (s1 := ⟨[(6, (.bool v2))], [], 1⟩) ⟨(by subst hv2; rfl), trivial⟩ trivial (Nat.le_refl _)) ?_
  refine aw_ret ?_
  exact fun a w hr => ⟨_, [(.bool v2)], hr, ⟨⟨_, rfl, .data _ trivial⟩, trivial⟩, by decide, by cases H; rfl⟩

theorem gather_Adopt_spec (p0 : api_Id) (p1 : Int) (p2 : Int) (p3 : api_Packet) (r : Bool) (H : gather_Adopt p0 p1 p2 p3 = some r) : FSpec Try.prog 9 [(e_api_Id p0), (.int .i64 p1), (.int .u32 p2), (e_api_Packet p3)] (.bool r) := by
  refine spec_of (fn := Try.f9) (args := [(e_api_Id p0), (.int .i64 p1), (.int .u32 p2), (e_api_Packet p3)]) Try.func9 rfl (Nat.le_of_ble_eq_true rfl) ?_
  rintro ⟨G, w0, W, S, Sp⟩ hG
  cases hG
  unfold gather_Adopt at H
  refine aw_region (es := [_, _, _]) ⟨Step.plain rfl (does_box 27 (.tmp 0) 0 (e_api_Id p0) trivial rfl), ⟨⟨rfl, trivial⟩, trivial, rfl⟩, rfl,
    Step.plain rfl (does_box 43 (.tmp 3) 1 (e_api_Packet p3) trivial rfl), ⟨⟨rfl, trivial⟩, trivial, rfl⟩, rfl,
    Step.plain rfl (does_assign (.const (.bool false)) (.bool false) (fun _ => rfl)), ⟨trivial, trivial, rfl⟩, rfl, rfl⟩ ?_
  refine aw_cov (cov_prune (s1 := ⟨[(1, (.int .i64 p1)), (2, (.int .u32 p2)), (4, (.ptr 0 0 [])), (7, (.ptr 1 0 []))], [(0, some (.var (e_api_Id p0))), (1, some (.var (e_api_Packet p3)))], 2⟩) ⟨rfl, rfl, rfl, rfl, trivial⟩ ⟨rfl, rfl, trivial⟩ (Nat.le_refl _)) ?_
  obtain ⟨v1, h2, H⟩ := bnd H
  obtain ⟨v3, h4, H⟩ := whn_of H
  refine aw_region (es := [_, _, _, _, _, _, _, _, _, _, _, _, _]) ⟨Step.plain rfl (does_fieldAddr 43 5 21 7 1 0 [] (.var (e_api_Packet p3)) fl43_5), ⟨⟨rfl, trivial⟩, ⟨rfl, trivial⟩, rfl⟩, rfl,
    Step.plain rfl (does_load 27 9 1 (0 + 21) [5] (.var (e_api_Packet p3)) (e_api_Id p3.Promise) ⟨rfl, Nat.le_of_ble_eq_true rfl, trivial⟩ rfl rfl ty27), ⟨⟨rfl, trivial⟩, ⟨rfl, trivial⟩, rfl⟩, rfl,
    Step.plain rfl (does_load 27 4 0 0 [] (.var (e_api_Id p0)) (e_api_Id p0) trivial rfl rfl ty27), ⟨⟨rfl, trivial⟩, ⟨rfl, trivial⟩, rfl⟩, rfl,
    Step.plain rfl (does_call 23 0 (fun _ => .any) (.func 23) [(.tmp 10), (.tmp 11)] [(e_api_Id p3.Promise), (e_api_Id p0)] [] true [(e_api_Id p3.Promise), (e_api_Id p0)] (.int .i64 v1) _ _ rfl fo23 rfl ⟨trivial, trivial, trivial⟩ ⟨.data _ (d_api_Id p3.Promise), .data _ (d_api_Id p0), trivial⟩ (ident_Compare_spec p3.Promise p0 _ h2) trivial), ⟨⟨rfl, rfl, trivial⟩, trivial, rfl⟩, rfl,
    Step.plain rfl (does_bin .gtr 3 3 (.tmp 12) (.const (.int .i64 0)) .i64 v1 0 (.bool (decide (v1 > 0))) trivial (fun _ => rfl) (bin_gtr _ _ _ _)), ⟨⟨rfl, trivial⟩, trivial, rfl⟩, rfl,
    Step.plain rfl (does_move (.tmp 13) (.bool (decide (v1 > 0))) trivial), ⟨⟨rfl, trivial⟩, trivial, rfl⟩, rfl,
    Step.guarded rfl rfl rfl rfl (fun hc => does_fieldAddr 43 6 24 7 1 0 [] (.var (e_api_Packet p3)) fl43_6), ⟨⟨rfl, rfl, trivial⟩, ⟨rfl, trivial⟩, rfl⟩, rfl,
    Step.guarded rfl rfl rfl rfl (fun hc => Does.strip (n' := [(15, (.opt (decide (v1 > 0)) (.ptr 1 (0 + 24) [6])))]) (n := [(15, (.ptr 1 (0 + 24) [6]))]) ⟨(.opt _ _ hc), trivial⟩ (does_load 28 15 1 (0 + 24) [6] (.var (e_api_Packet p3)) (e_a8_u32 p3.Wanted) ⟨rfl, Nat.le_of_ble_eq_true rfl, trivial⟩ rfl rfl ty28)), ⟨⟨rfl, rfl, trivial⟩, ⟨rfl, trivial⟩, rfl⟩, rfl,
    Step.guarded rfl rfl rfl rfl (fun hc => does_move (.tmp 1) (.int .i64 p1) trivial), ⟨⟨rfl, rfl, trivial⟩, trivial, rfl⟩, rfl,
    Step.guarded rfl rfl rfl rfl (fun hc => does_move (.tmp 2) (.int .u32 p2) trivial), ⟨⟨rfl, rfl, trivial⟩, trivial, rfl⟩, rfl,
    Step.guarded rfl rfl rfl rfl (fun hc => Does.strip (n' := [(16, (.opt (decide (v1 > 0)) (e_a8_u32 p3.Wanted))), (17, (.opt (decide (v1 > 0)) (.int .i64 p1))), (18, (.opt (decide (v1 > 0)) (.int .u32 p2)))]) (n := [(16, (e_a8_u32 p3.Wanted)), (17, (.int .i64 p1)), (18, (.int .u32 p2))]) ⟨(.opt _ _ hc), (.opt _ _ hc), (.opt _ _ hc), trivial⟩ (does_call 24 0 (fun _ => .any) (.func 24) [(.tmp 16), (.tmp 17), (.tmp 18)] [(e_a8_u32 p3.Wanted), (.int .i64 p1), (.int .u32 p2)] [] true [(e_a8_u32 p3.Wanted), (.int .i64 p1), (.int .u32 p2)] (.bool v3) _ _ rfl fo24 rfl ⟨trivial, trivial, trivial, trivial⟩ ⟨.data _ (d_a8_u32 p3.Wanted), .data _ trivial, .data _ trivial, trivial⟩ (ident_Has_spec p3.Wanted p1 p2 _ (h4 hc)) trivial)), ⟨⟨rfl, rfl, rfl, rfl, trivial⟩, trivial, rfl⟩, rfl,
    Step.plain rfl (does_and 14 19 (decide (v1 > 0)) v3), ⟨⟨rfl, rfl, trivial⟩, trivial, rfl⟩, rfl,
    Step.plain rfl (does_assign (.tmp 20) (.bool ((decide (v1 > 0)) && v3)) trivial), ⟨⟨rfl, trivial⟩, trivial, rfl⟩, rfl, rfl⟩ ?_
  refine aw_cov (cov_prune (s1 := ⟨[(8, (.bool ((decide (v1 > 0)) && v3)))], [], 2⟩) ⟨rfl, trivial⟩ trivial (Nat.le_refl _)) ?_
  refine aw_ret ?_
  exact fun a w hr => ⟨_, [(.bool ((decide (v1 > 0)) && v3))], hr, ⟨⟨_, rfl, .data _ trivial⟩, trivial⟩, by decide, by cases H; rfl⟩

theorem congressref07_three_spec (p0 : api_Id) (r : (Nat → Int)) (H : congressref07_three p0 = some r) : FSpec Try.prog 25 [(e_api_Id p0)] (e_a3_u32 r) := by
  refine spec_of (fn := Try.f25) (args := [(e_api_Id p0)]) Try.func25 rfl (Nat.le_of_ble_eq_true rfl) ?_
  rintro ⟨G, w0, W, S, Sp⟩ hG
  cases hG
  unfold congressref07_three at H
  refine aw_region (es := [_, _]) ⟨Step.plain rfl (does_box 27 (.tmp 0) 0 (e_api_Id p0) trivial rfl), ⟨⟨rfl, trivial⟩, trivial, rfl⟩, rfl,
    Step.plain rfl (does_alloc 58 1 (e_a3_u32 (fun _ => 0)) zr58), ⟨trivial, trivial, rfl⟩, rfl, rfl⟩ ?_
  refine aw_cov (cov_prune (s1 := ⟨[(1, (.ptr 0 0 [])), (2, (.ptr 1 0 []))], [(0, some (.var (e_api_Id p0))), (1, some (.var (e_a3_u32 (fun _ => 0))))], 2⟩) ⟨rfl, rfl, trivial⟩ ⟨rfl, rfl, trivial⟩ (Nat.le_refl _)) ?_
  refine aw_region (es := [_, _, _, _, _, _, _, _]) ⟨Step.plain rfl (does_fieldAddr 27 0 0 1 0 0 [] (.var (e_api_Id p0)) fl27_0), ⟨⟨rfl, trivial⟩, ⟨rfl, trivial⟩, rfl⟩, rfl,
    Step.plain rfl (does_load 22 3 0 (0 + 0) [0] (.var (e_api_Id p0)) (.int .u32 p0.Epoch) ⟨rfl, Nat.le_of_ble_eq_true rfl, trivial⟩ rfl rfl ty22), ⟨⟨rfl, trivial⟩, ⟨rfl, trivial⟩, rfl⟩, rfl,
    Step.plain rfl (does_fieldAddr 27 1 1 1 0 0 [] (.var (e_api_Id p0)) fl27_1), ⟨⟨rfl, trivial⟩, ⟨rfl, trivial⟩, rfl⟩, rfl,
    Step.plain rfl (does_load 22 5 0 (0 + 1) [1] (.var (e_api_Id p0)) (.int .u32 p0.Coord) ⟨rfl, Nat.le_of_ble_eq_true rfl, trivial⟩ rfl rfl ty22), ⟨⟨rfl, trivial⟩, ⟨rfl, trivial⟩, rfl⟩, rfl,
    Step.plain rfl (does_fieldAddr 27 2 2 1 0 0 [] (.var (e_api_Id p0)) fl27_2), ⟨⟨rfl, trivial⟩, ⟨rfl, trivial⟩, rfl⟩, rfl,
    Step.plain rfl (does_load 22 7 0 (0 + 2) [2] (.var (e_api_Id p0)) (.int .u32 p0.Inc) ⟨rfl, Nat.le_of_ble_eq_true rfl, trivial⟩ rfl rfl ty22), ⟨⟨rfl, trivial⟩, ⟨rfl, trivial⟩, rfl⟩, rfl,
    Step.plain rfl (does_buildT 58 #[(0, (.tmp 4)), (1, (.tmp 6)), (2, (.tmp 8))] [(0, (.tmp 4)), (1, (.tmp 6)), (2, (.tmp 8))] [(0, (.int .u32 p0.Epoch)), (1, (.int .u32 p0.Coord)), (2, (.int .u32 p0.Inc))] (.ar 3 1) (fun j => (.int .u32 ((fun _ => 0) j))) (fun j => (.int .u32 ((aset (fun _ => 0) [(0, p0.Epoch), (1, p0.Coord), (2, p0.Inc)]) j))) rfl bo58 ⟨⟨rfl, trivial⟩, ⟨rfl, trivial⟩, ⟨rfl, trivial⟩, trivial⟩ ⟨⟨Nat.le_of_ble_eq_true rfl, rfl, rfl⟩, ⟨Nat.le_of_ble_eq_true rfl, rfl, rfl⟩, ⟨Nat.le_of_ble_eq_true rfl, rfl, rfl⟩, trivial⟩ (setAll_map (fun z => V.int .u32 z) [(0, p0.Epoch), (1, p0.Coord), (2, p0.Inc)] _)), ⟨⟨rfl, rfl, rfl, trivial⟩, trivial, rfl⟩, rfl,
    Step.plain rfl (does_store 58 2 (.tmp 9) 1 0 [] (.var (e_a3_u32 (fun _ => 0))) (.var (e_a3_u32 (aset (fun _ => 0) [(0, p0.Epoch), (1, p0.Coord), (2, p0.Inc)]))) (e_a3_u32 (aset (fun _ => 0) [(0, p0.Epoch), (1, p0.Coord), (2, p0.Inc)])) true trivial rfl trivial rfl rfl rfl ty58), ⟨⟨rfl, rfl, trivial⟩, ⟨rfl, trivial⟩, rfl⟩, rfl, rfl⟩ ?_
  refine aw_cov (cov_prune (s1 := ⟨[(2, (.ptr 1 0 []))], [(1, some (.var (e_a3_u32 (aset (fun _ => 0) [(0, p0.Epoch), (1, p0.Coord), (2, p0.Inc)]))))], 2⟩) ⟨rfl, trivial⟩ ⟨rfl, trivial⟩ (Nat.le_refl _)) ?_
  refine aw_ret ?_
  exact fun a w hr => ⟨_, [(e_a3_u32 (aset (fun _ => 0) [(0, p0.Epoch), (1, p0.Coord), (2, p0.Inc)]))], hr, ⟨⟨1, _, rfl, rfl, .data _ (d_a3_u32 (aset (fun _ => 0) [(0, p0.Epoch), (1, p0.Coord), (2, p0.Inc)])), ty58⟩, trivial⟩, by decide, by cases H; rfl⟩

theorem congressref07_Compare_spec (p0 : api_Id) (p1 : api_Id) (r : Int) (H : congressref07_Compare p0 p1 = some r) : FSpec Try.prog 10 [(e_api_Id p0), (e_api_Id p1)] (.int .i64 r) := by
  refine spec_of (fn := Try.f10) (args := [(e_api_Id p0), (e_api_Id p1)]) Try.func10 rfl (Nat.le_of_ble_eq_true rfl) ?_
  rintro ⟨G, w0, W, S, Sp⟩ hG
  cases hG
  unfold congressref07_Compare at H
  refine aw_region (es := [_, _, _]) ⟨Step.plain rfl (does_box 27 (.tmp 0) 0 (e_api_Id p0) trivial rfl), ⟨⟨rfl, trivial⟩, trivial, rfl⟩, rfl,
    Step.plain rfl (does_box 27 (.tmp 1) 1 (e_api_Id p1) trivial rfl), ⟨⟨rfl, trivial⟩, trivial, rfl⟩, rfl,
    Step.plain rfl (does_assign (.const (.int .i64 0)) (.int .i64 0) (fun _ => rfl)), ⟨trivial, trivial, rfl⟩, rfl, rfl⟩ ?_
  refine aw_cov (cov_prune (s1 := ⟨[(2, (.ptr 0 0 [])), (3, (.ptr 1 0 []))], [(0, some (.var (e_api_Id p0))), (1, some (.var (e_api_Id p1)))], 2⟩) ⟨rfl, rfl, trivial⟩ ⟨rfl, rfl, trivial⟩ (Nat.le_refl _)) ?_
  obtain ⟨v1, h2, H⟩ := bnd H
  obtain ⟨v3, h4, H⟩ := bnd H
  refine aw_draw (es := [_, _, _, _, _, _, _, _]) (mixed) ⟨Step.plain rfl (does_load 27 2 0 0 [] (.var (e_api_Id p0)) (e_api_Id p0) trivial rfl rfl ty27), ⟨⟨rfl, trivial⟩, ⟨rfl, trivial⟩, rfl⟩, rfl,
    Step.plain rfl (does_call 25 0 (fun _ => .any) (.func 25) [(.tmp 8)] [(e_api_Id p0)] [] true [(e_api_Id p0)] (e_a3_u32 v1) _ _ rfl fo25 rfl ⟨trivial, trivial⟩ ⟨.data _ (d_api_Id p0), trivial⟩ (congressref07_three_spec p0 _ h2) (f_a3_u32 v1)), ⟨⟨rfl, trivial⟩, trivial, rfl⟩, rfl,
    Step.plain rfl (does_load 27 3 1 0 [] (.var (e_api_Id p1)) (e_api_Id p1) trivial rfl rfl ty27), ⟨⟨rfl, trivial⟩, ⟨rfl, trivial⟩, rfl⟩, rfl,
    Step.plain rfl (does_call 25 0 (fun _ => .any) (.func 25) [(.tmp 10)] [(e_api_Id p1)] [] true [(e_api_Id p1)] (e_a3_u32 v3) _ _ rfl fo25 rfl ⟨trivial, trivial⟩ ⟨.data _ (d_api_Id p1), trivial⟩ (congressref07_three_spec p1 _ h4) (f_a3_u32 v3)), ⟨⟨rfl, trivial⟩, trivial, rfl⟩, rfl,
    Step.plain rfl (does_alloc 58 2 (e_a3_u32 (fun _ => 0)) zr58), ⟨trivial, trivial, rfl⟩, rfl,
    Step.plain rfl (does_alloc 58 3 (e_a3_u32 (fun _ => 0)) zr58), ⟨trivial, trivial, rfl⟩, rfl,
    Step.plain rfl (does_store 58 5 (.tmp 9) 2 0 [] (.var (e_a3_u32 (fun _ => 0))) (.var (e_a3_u32 v1)) (e_a3_u32 v1) true trivial rfl trivial rfl rfl rfl ty58), ⟨⟨rfl, rfl, trivial⟩, ⟨rfl, trivial⟩, rfl⟩, rfl,
    Step.plain rfl (does_store 58 6 (.tmp 11) 3 0 [] (.var (e_a3_u32 (fun _ => 0))) (.var (e_a3_u32 v3)) (e_a3_u32 v3) true trivial rfl trivial rfl rfl rfl ty58), ⟨⟨rfl, rfl, trivial⟩, ⟨rfl, trivial⟩, rfl⟩, rfl, rfl⟩ rfl ?_
  refine aw_cov (cov_prune (s1 := ⟨[(5, (.ptr 2 0 [])), (6, (.ptr 3 0 []))], [(2, some (.var (e_a3_u32 v1))), (3, some (.var (e_a3_u32 v3)))], 4⟩) ⟨rfl, rfl, trivial⟩ ⟨rfl, rfl, trivial⟩ (Nat.le_refl _)) ?_
  refine aw_seq ?_
  refine aw_region (es := [_]) ⟨Step.plain rfl (does_assign (.const (.int .i64 0)) (.int .i64 0) (fun _ => rfl)), ⟨trivial, trivial, rfl⟩, rfl, rfl⟩ ?_
  refine aw_cov (cov_prune (s1 := ⟨[(5, (.ptr 2 0 [])), (6, (.ptr 3 0 [])), (7, (.int .i64 0))], [(2, some (.var (e_a3_u32 v1))), (3, some (.var (e_a3_u32 v3)))], 4⟩) ⟨rfl, rfl, rfl, trivial⟩ ⟨rfl, rfl, trivial⟩ (Nat.le_refl _)) ?_
  obtain ⟨wn6, hwn6, Hrn6⟩ := bnd H
  refine aw_meet (fun y11 : Unit => (⟨[], [], 4⟩ : St)) (fun y11 => Fl.nx y11 = wn6) (fun y11 hy => ?_) (aw_block (aw_runs (fun x5 : Int => (⟨[(5, (.ptr 2 0 [])), (6, (.ptr 3 0 [])), (7, (.int .i64 x5))], [(2, some (.var (e_a3_u32 v1))), (3, some (.var (e_a3_u32 v3)))], 4⟩ : St)) hwn6 (cov_prune ⟨rfl, rfl, rfl, trivial⟩ ⟨rfl, rfl, trivial⟩ (Nat.le_of_ble_eq_true rfl)) (fun x5 st H hsn6 => ?_)))
  · have H := nx_of hy Hrn6
    refine nx_seq ?_
    refine aw_region (es := [_]) ⟨Step.plain rfl (does_assign (.const (.int .i64 0)) (.int .i64 0) (fun _ => rfl)), ⟨trivial, trivial, rfl⟩, rfl, rfl⟩ ?_
    refine aw_cov (cov_prune (s1 := ⟨[(4, (.int .i64 0))], [], 4⟩) ⟨rfl, trivial⟩ trivial (Nat.le_refl _)) ?_
    refine aw_ret ?_
    exact fun a w hr => ⟨_, [(.int .i64 0)], hr, ⟨⟨_, rfl, .data _ trivial⟩, trivial⟩, by decide, by cases H; rfl⟩
  · refine aw_seq ?_
    refine aw_region (es := [_, _]) ⟨Step.plain rfl (does_move (.tmp 7) (.int .i64 x5) trivial), ⟨⟨rfl, trivial⟩, trivial, rfl⟩, rfl,
      Step.plain rfl (does_bin .lss 3 3 (.tmp 12) (.const (.int .i64 3)) .i64 x5 3 (.bool (decide (x5 < 3))) trivial (fun _ => rfl) (bin_lss _ _ _ _)), ⟨⟨rfl, trivial⟩, trivial, rfl⟩, rfl, rfl⟩ ?_
    refine aw_cov (cov_prune (s1 := ⟨[(5, (.ptr 2 0 [])), (6, (.ptr 3 0 [])), (7, (.int .i64 x5)), (13, (.bool (decide (x5 < 3))))], [(2, some (.var (e_a3_u32 v1))), (3, some (.var (e_a3_u32 v3)))], 4⟩) ⟨rfl, rfl, rfl, rfl, trivial⟩ ⟨rfl, rfl, trivial⟩ (Nat.le_refl _)) ?_
    refine aw_cond rfl (fun hc => ?_) (fun hc => ?_)
    · replace H := ite_t hc H
      refine aw_skip ?_
      refine nx_seq ?_
      refine aw_seq ?_
      refine aw_block ?_
      refine aw_seq ?_
      obtain ⟨h7, H⟩ := ib_of H
      obtain ⟨h8, H⟩ := ib_of H
      refine aw_draw (es := [_, _, _, _, _, _, _]) (mixed) ⟨Step.plain rfl (does_move (.tmp 7) (.int .i64 x5) trivial), ⟨⟨rfl, trivial⟩, trivial, rfl⟩, rfl,
        Step.plain rfl (does_indexAddr 58 3 1 5 2 0 [] (.var (e_a3_u32 v1)) (.tmp 16) .i64 x5 el58 trivial h7.1 h7.2), ⟨⟨rfl, rfl, trivial⟩, ⟨rfl, trivial⟩, rfl⟩, rfl,
        Step.plain rfl (does_load 22 17 2 (0 + x5.toNat * 1) [x5.toNat] (.var (e_a3_u32 v1)) (.int .u32 (v1 x5.toNat)) ⟨rfl, (ixl h7), trivial⟩ rfl rfl ty22), ⟨⟨rfl, trivial⟩, ⟨rfl, trivial⟩, rfl⟩, rfl,
        Step.plain rfl (does_move (.tmp 7) (.int .i64 x5) trivial), ⟨⟨rfl, trivial⟩, trivial, rfl⟩, rfl,
        Step.plain rfl (does_indexAddr 58 3 1 6 3 0 [] (.var (e_a3_u32 v3)) (.tmp 19) .i64 x5 el58 trivial h8.1 h8.2), ⟨⟨rfl, rfl, trivial⟩, ⟨rfl, trivial⟩, rfl⟩, rfl,
        Step.plain rfl (does_load 22 20 3 (0 + x5.toNat * 1) [x5.toNat] (.var (e_a3_u32 v3)) (.int .u32 (v3 x5.toNat)) ⟨rfl, (ixl h8), trivial⟩ rfl rfl ty22), ⟨⟨rfl, trivial⟩, ⟨rfl, trivial⟩, rfl⟩, rfl,
        Step.plain rfl (does_bin .lss 22 22 (.tmp 18) (.tmp 21) .u32 (v1 x5.toNat) (v3 x5.toNat) (.bool (decide ((v1 x5.toNat) < (v3 x5.toNat)))) trivial trivial (bin_lss _ _ _ _)), ⟨⟨rfl, rfl, trivial⟩, trivial, rfl⟩, rfl, rfl⟩ rfl ?_
      refine aw_cov (cov_prune (s1 := ⟨[(5, (.ptr 2 0 [])), (6, (.ptr 3 0 [])), (7, (.int .i64 x5)), (22, (.bool (decide ((v1 x5.toNat) < (v3 x5.toNat)))))], [(2, some (.var (e_a3_u32 v1))), (3, some (.var (e_a3_u32 v3)))], 4⟩) ⟨rfl, rfl, rfl, rfl, trivial⟩ ⟨rfl, rfl, trivial⟩ (Nat.le_refl _)) ?_
      refine aw_cond rfl (fun hc => ?_) (fun hc => ?_)
      · replace H := ite_t hc H
        refine aw_region (es := [_]) ⟨Step.plain rfl (does_assign (.const (.int .i64 (-1))) (.int .i64 (-1)) (fun _ => rfl)), ⟨trivial, trivial, rfl⟩, rfl, rfl⟩ ?_
        refine aw_cov (cov_prune (s1 := ⟨[(4, (.int .i64 (-1)))], [], 4⟩) ⟨rfl, trivial⟩ trivial (Nat.le_refl _)) ?_
        refine aw_ret ?_
        replace H := rt_of H hsn6 Hrn6
        refine rt_then ?_
        refine rt_blk ?_
        refine rt_then ?_
        refine rt_then ?_
        refine rt_blk ?_
        refine rt_then ?_
        refine rt_then ?_
        exact fun a w hr => ⟨_, [(.int .i64 (-1))], hr, ⟨⟨_, rfl, .data _ trivial⟩, trivial⟩, by decide, by cases H; rfl⟩
      · replace H := ite_f hc H
        refine aw_skip ?_
        refine nx_seq ?_
        obtain ⟨h9, H⟩ := ib_of H
        obtain ⟨h10, H⟩ := ib_of H
        refine aw_draw (es := [_, _, _, _, _, _, _]) (mixed) ⟨Step.plain rfl (does_move (.tmp 7) (.int .i64 x5) trivial), ⟨⟨rfl, trivial⟩, trivial, rfl⟩, rfl,
          Step.plain rfl (does_indexAddr 58 3 1 5 2 0 [] (.var (e_a3_u32 v1)) (.tmp 23) .i64 x5 el58 trivial h9.1 h9.2), ⟨⟨rfl, rfl, trivial⟩, ⟨rfl, trivial⟩, rfl⟩, rfl,
          Step.plain rfl (does_load 22 24 2 (0 + x5.toNat * 1) [x5.toNat] (.var (e_a3_u32 v1)) (.int .u32 (v1 x5.toNat)) ⟨rfl, (ixl h9), trivial⟩ rfl rfl ty22), ⟨⟨rfl, trivial⟩, ⟨rfl, trivial⟩, rfl⟩, rfl,
          Step.plain rfl (does_move (.tmp 7) (.int .i64 x5) trivial), ⟨⟨rfl, trivial⟩, trivial, rfl⟩, rfl,
          Step.plain rfl (does_indexAddr 58 3 1 6 3 0 [] (.var (e_a3_u32 v3)) (.tmp 26) .i64 x5 el58 trivial h10.1 h10.2), ⟨⟨rfl, rfl, trivial⟩, ⟨rfl, trivial⟩, rfl⟩, rfl,
          Step.plain rfl (does_load 22 27 3 (0 + x5.toNat * 1) [x5.toNat] (.var (e_a3_u32 v3)) (.int .u32 (v3 x5.toNat)) ⟨rfl, (ixl h10), trivial⟩ rfl rfl ty22), ⟨⟨rfl, trivial⟩, ⟨rfl, trivial⟩, rfl⟩, rfl,
          Step.plain rfl (does_bin .gtr 22 22 (.tmp 25) (.tmp 28) .u32 (v1 x5.toNat) (v3 x5.toNat) (.bool (decide ((v1 x5.toNat) > (v3 x5.toNat)))) trivial trivial (bin_gtr _ _ _ _)), ⟨⟨rfl, rfl, trivial⟩, trivial, rfl⟩, rfl, rfl⟩ rfl ?_
        refine aw_cov (cov_prune (s1 := ⟨[(5, (.ptr 2 0 [])), (6, (.ptr 3 0 [])), (7, (.int .i64 x5)), (29, (.bool (decide ((v1 x5.toNat) > (v3 x5.toNat)))))], [(2, some (.var (e_a3_u32 v1))), (3, some (.var (e_a3_u32 v3)))], 4⟩) ⟨rfl, rfl, rfl, rfl, trivial⟩ ⟨rfl, rfl, trivial⟩ (Nat.le_refl _)) ?_
        refine aw_cond rfl (fun hc => ?_) (fun hc => ?_)
        · replace H := ite_t hc H
          refine aw_region (es := [_]) ⟨Step.plain rfl (does_assign (.const (.int .i64 1)) (.int .i64 1) (fun _ => rfl)), ⟨trivial, trivial, rfl⟩, rfl, rfl⟩ ?_
          refine aw_cov (cov_prune (s1 := ⟨[(4, (.int .i64 1))], [], 4⟩) ⟨rfl, trivial⟩ trivial (Nat.le_refl _)) ?_
          refine aw_ret ?_
          replace H := rt_of H hsn6 Hrn6
          refine rt_blk ?_
          refine rt_then ?_
          refine rt_then ?_
          refine rt_blk ?_
          refine rt_then ?_
          refine rt_then ?_
          exact fun a w hr => ⟨_, [(.int .i64 1)], hr, ⟨⟨_, rfl, .data _ trivial⟩, trivial⟩, by decide, by cases H; rfl⟩
        · replace H := ite_f hc H
          refine aw_skip ?_
          refine nx_blk ?_
          refine nx_seq ?_
          refine aw_region1 (es := [_, _, _]) ⟨Step.plain rfl (does_move (.tmp 7) (.int .i64 x5) trivial), ⟨⟨rfl, trivial⟩, trivial, rfl⟩, rfl,
            Step.plain rfl (does_bin .add 3 3 (.tmp 14) (.const (.int .i64 1)) .i64 x5 1 (.int .i64 (IntKind.i64.wrap (x5 + 1))) trivial (fun _ => rfl) (bin_add _ _ _ _)), ⟨⟨rfl, trivial⟩, trivial, rfl⟩, rfl,
            Step.plain rfl (does_assign (.tmp 15) (.int .i64 (IntKind.i64.wrap (x5 + 1))) trivial), ⟨⟨rfl, trivial⟩, trivial, rfl⟩, rfl, rfl⟩ ?_
          exact nx_loop ((IntKind.i64.wrap (x5 + 1))) H (cov_prune ⟨rfl, rfl, rfl, trivial⟩ ⟨rfl, rfl, trivial⟩ (Nat.le_of_ble_eq_true rfl))
    · replace H := ite_f hc H
      refine aw_exit ?_
      refine ex_then ?_
      refine ex_then ?_
      refine ex_here ?_
      exact nx_ljoin () H hsn6 (cov_prune trivial trivial (Nat.le_of_ble_eq_true rfl))

theorem congresslaw12_GatherOnce_spec (p0 : api_Core) (p1 : api_Packet) (p2 : (Nat → Int)) (r : Bool) (H : congresslaw12_GatherOnce p0 p1 p2 = some r) : FSpec Try.prog 3 [(e_api_Core p0), (e_api_Packet p1), (e_a8_u32 p2)] (.bool r) := by
  refine spec_of (fn := Try.f3) (args := [(e_api_Core p0), (e_api_Packet p1), (e_a8_u32 p2)]) Try.func3 rfl (Nat.le_of_ble_eq_true rfl) ?_
  rintro ⟨G, w0, W, S, Sp⟩ hG
  cases hG
  unfold congresslaw12_GatherOnce at H
  refine aw_region (es := [_, _, _, _]) ⟨Step.plain rfl (does_box 35 (.tmp 0) 0 (e_api_Core p0) trivial rfl), ⟨⟨rfl, trivial⟩, trivial, rfl⟩, rfl,
    Step.plain rfl (does_box 43 (.tmp 1) 1 (e_api_Packet p1) trivial rfl), ⟨⟨rfl, trivial⟩, trivial, rfl⟩, rfl,
    Step.plain rfl (does_box 28 (.tmp 2) 2 (e_a8_u32 p2) trivial rfl), ⟨⟨rfl, trivial⟩, trivial, rfl⟩, rfl,
    Step.plain rfl (does_assign (.const (.bool false)) (.bool false) (fun _ => rfl)), ⟨trivial, trivial, rfl⟩, rfl, rfl⟩ ?_
  refine aw_cov (cov_prune (s1 := ⟨[(3, (.ptr 0 0 [])), (4, (.ptr 1 0 [])), (5, (.ptr 2 0 []))], [(0, some (.var (e_api_Core p0))), (1, some (.var (e_api_Packet p1))), (2, some (.var (e_a8_u32 p2)))], 3⟩) ⟨rfl, rfl, rfl, trivial⟩ ⟨rfl, rfl, rfl, trivial⟩ (Nat.le_refl _)) ?_
  refine aw_seq ?_
  obtain ⟨v1, h2, H⟩ := bnd H
  refine aw_region (es := [_, _, _, _, _, _, _, _, _, _, _, _]) ⟨Step.plain rfl (does_call 8 0 (fun _ => .any) (.func 8) [] [] [] true [] (.bool v1) _ _ rfl fo8 rfl trivial trivial (congresslaw12_fixed_spec _ h2) trivial), ⟨trivial, trivial, rfl⟩, rfl,
    Step.plain rfl (does_not 4 (.tmp 13) v1 trivial), ⟨⟨rfl, trivial⟩, trivial, rfl⟩, rfl,
    Step.plain rfl (does_move (.tmp 14) (.bool (!v1)) trivial), ⟨⟨rfl, trivial⟩, trivial, rfl⟩, rfl,
    Step.guarded rfl rfl rfl rfl (fun hc => does_fieldAddr 35 0 0 3 0 0 [] (.var (e_api_Core p0)) fl35_0), ⟨⟨rfl, rfl, trivial⟩, ⟨rfl, trivial⟩, rfl⟩, rfl,
    Step.guarded rfl rfl rfl rfl (fun hc => Does.strip (n' := [(16, (.opt (!(!v1)) (.ptr 0 (0 + 0) [0])))]) (n := [(16, (.ptr 0 (0 + 0) [0]))]) ⟨(.opt _ _ hc), trivial⟩ (does_load 3 16 0 (0 + 0) [0] (.var (e_api_Core p0)) (.int .i64 p0.Self) ⟨rfl, Nat.le_of_ble_eq_true rfl, trivial⟩ rfl rfl ty3)), ⟨⟨rfl, rfl, trivial⟩, ⟨rfl, trivial⟩, rfl⟩, rfl,
    Step.guarded rfl rfl rfl rfl (fun hc => Does.strip (n' := [(17, (.opt (!(!v1)) (.int .i64 p0.Self)))]) (n := [(17, (.int .i64 p0.Self))]) ⟨(.opt _ _ hc), trivial⟩ (does_bin .lss 3 3 (.tmp 17) (.const (.int .i64 0)) .i64 p0.Self 0 (.bool (decide (p0.Self < 0))) trivial (fun _ => rfl) (bin_lss _ _ _ _))), ⟨⟨rfl, rfl, trivial⟩, trivial, rfl⟩, rfl,
    Step.plain rfl (does_or 15 18 (!v1) (decide (p0.Self < 0))), ⟨⟨rfl, rfl, trivial⟩, trivial, rfl⟩, rfl,
    Step.plain rfl (does_move (.tmp 19) (.bool ((!v1) || (decide (p0.Self < 0)))) trivial), ⟨⟨rfl, trivial⟩, trivial, rfl⟩, rfl,
    Step.guarded rfl rfl rfl rfl (fun hc => does_fieldAddr 35 0 0 3 0 0 [] (.var (e_api_Core p0)) fl35_0), ⟨⟨rfl, rfl, trivial⟩, ⟨rfl, trivial⟩, rfl⟩, rfl,
    Step.guarded rfl rfl rfl rfl (fun hc => Does.strip (n' := [(21, (.opt (!((!v1) || (decide (p0.Self < 0)))) (.ptr 0 (0 + 0) [0])))]) (n := [(21, (.ptr 0 (0 + 0) [0]))]) ⟨(.opt _ _ hc), trivial⟩ (does_load 3 21 0 (0 + 0) [0] (.var (e_api_Core p0)) (.int .i64 p0.Self) ⟨rfl, Nat.le_of_ble_eq_true rfl, trivial⟩ rfl rfl ty3)), ⟨⟨rfl, rfl, trivial⟩, ⟨rfl, trivial⟩, rfl⟩, rfl,
    Step.guarded rfl rfl rfl rfl (fun hc => Does.strip (n' := [(22, (.opt (!((!v1) || (decide (p0.Self < 0)))) (.int .i64 p0.Self)))]) (n := [(22, (.int .i64 p0.Self))]) ⟨(.opt _ _ hc), trivial⟩ (does_bin .gtr 3 3 (.tmp 22) (.const (.int .i64 7)) .i64 p0.Self 7 (.bool (decide (p0.Self > 7))) trivial (fun _ => rfl) (bin_gtr _ _ _ _))), ⟨⟨rfl, rfl, trivial⟩, trivial, rfl⟩, rfl,
    Step.plain rfl (does_or 20 23 ((!v1) || (decide (p0.Self < 0))) (decide (p0.Self > 7))), ⟨⟨rfl, rfl, trivial⟩, trivial, rfl⟩, rfl, rfl⟩ ?_
  refine aw_cov (cov_prune (s1 := ⟨[(3, (.ptr 0 0 [])), (4, (.ptr 1 0 [])), (5, (.ptr 2 0 [])), (24, (.bool (((!v1) || (decide (p0.Self < 0))) || (decide (p0.Self > 7)))))], [(0, some (.var (e_api_Core p0))), (1, some (.var (e_api_Packet p1))), (2, some (.var (e_a8_u32 p2)))], 3⟩) ⟨rfl, rfl, rfl, rfl, trivial⟩ ⟨rfl, rfl, rfl, trivial⟩ (Nat.le_refl _)) ?_
  refine aw_cond rfl (fun hc => ?_) (fun hc => ?_)
  · replace H := ite_t hc H
    obtain ⟨v3, h4, H⟩ := bnd H
    refine aw_region (es := [_, _]) ⟨Step.plain rfl (does_call 8 0 (fun _ => .any) (.func 8) [] [] [] true [] (.bool v3) _ _ rfl fo8 rfl trivial trivial (congresslaw12_fixed_spec _ h4) trivial), ⟨trivial, trivial, rfl⟩, rfl,
      Step.plain rfl (does_assign (.tmp 25) (.bool v3) trivial), ⟨⟨rfl, trivial⟩, trivial, rfl⟩, rfl, rfl⟩ ?_
    refine aw_cov (cov_prune (s1 := ⟨[(6, (.bool v3))], [], 3⟩) ⟨rfl, trivial⟩ trivial (Nat.le_refl _)) ?_
    refine aw_ret ?_
    refine rt_then ?_
    exact fun a w hr => ⟨_, [(.bool v3)], hr, ⟨⟨_, rfl, .data _ trivial⟩, trivial⟩, by decide, by cases H; rfl⟩
  · replace H := ite_f hc H
    refine aw_skip ?_
    refine nx_seq ?_
    refine aw_seq ?_
    obtain ⟨v5, h6, H⟩ := bnd H
    obtain ⟨v7, h8, H⟩ := whn_of H
    obtain ⟨v9, h10, H⟩ := whn_of H
    refine aw_region (es := [_, _, _, _, _, _, _, _, _, _, _, _, _, _, _, _, _, _, _, _, _, _, _, _, _, _]) ⟨Step.plain rfl (does_fieldAddr 35 8 40 3 0 0 [] (.var (e_api_Core p0)) fl35_8), ⟨⟨rfl, trivial⟩, ⟨rfl, trivial⟩, rfl⟩, rfl,
      Step.plain rfl (does_load 27 26 0 (0 + 40) [8] (.var (e_api_Core p0)) (e_api_Id p0.Promise) ⟨rfl, Nat.le_of_ble_eq_true rfl, trivial⟩ rfl rfl ty27), ⟨⟨rfl, trivial⟩, ⟨rfl, trivial⟩, rfl⟩, rfl,
      Step.plain rfl (does_fieldAddr 35 0 0 3 0 0 [] (.var (e_api_Core p0)) fl35_0), ⟨⟨rfl, trivial⟩, ⟨rfl, trivial⟩, rfl⟩, rfl,
      Step.plain rfl (does_load 3 28 0 (0 + 0) [0] (.var (e_api_Core p0)) (.int .i64 p0.Self) ⟨rfl, Nat.le_of_ble_eq_true rfl, trivial⟩ rfl rfl ty3), ⟨⟨rfl, trivial⟩, ⟨rfl, trivial⟩, rfl⟩, rfl,
      Step.plain rfl (does_fieldAddr 35 2 2 3 0 0 [] (.var (e_api_Core p0)) fl35_2), ⟨⟨rfl, trivial⟩, ⟨rfl, trivial⟩, rfl⟩, rfl,
      Step.plain rfl (does_load 22 30 0 (0 + 2) [2] (.var (e_api_Core p0)) (.int .u32 p0.Own) ⟨rfl, Nat.le_of_ble_eq_true rfl, trivial⟩ rfl rfl ty22), ⟨⟨rfl, trivial⟩, ⟨rfl, trivial⟩, rfl⟩, rfl,
      Step.plain rfl (does_load 43 4 1 0 [] (.var (e_api_Packet p1)) (e_api_Packet p1) trivial rfl rfl ty43), ⟨⟨rfl, trivial⟩, ⟨rfl, trivial⟩, rfl⟩, rfl,
      Step.plain rfl (does_call 9 0 (fun _ => .any) (.func 9) [(.tmp 27), (.tmp 29), (.tmp 31), (.tmp 32)] [(e_api_Id p0.Promise), (.int .i64 p0.Self), (.int .u32 p0.Own), (e_api_Packet p1)] [] true [(e_api_Id p0.Promise), (.int .i64 p0.Self), (.int .u32 p0.Own), (e_api_Packet p1)] (.bool v5) _ _ rfl fo9 rfl ⟨trivial, trivial, trivial, trivial, trivial⟩ ⟨.data _ (d_api_Id p0.Promise), .data _ trivial, .data _ trivial, .data _ (d_api_Packet p1), trivial⟩ (gather_Adopt_spec p0.Promise p0.Self p0.Own p1 _ h6) trivial), ⟨⟨rfl, rfl, rfl, rfl, trivial⟩, trivial, rfl⟩, rfl,
      Step.plain rfl (does_move (.tmp 33) (.bool v5) trivial), ⟨⟨rfl, trivial⟩, trivial, rfl⟩, rfl,
      Step.guarded rfl rfl rfl rfl (fun hc => does_fieldAddr 43 5 21 4 1 0 [] (.var (e_api_Packet p1)) fl43_5), ⟨⟨rfl, rfl, trivial⟩, ⟨rfl, trivial⟩, rfl⟩, rfl,
      Step.guarded rfl rfl rfl rfl (fun hc => Does.strip (n' := [(35, (.opt v5 (.ptr 1 (0 + 21) [5])))]) (n := [(35, (.ptr 1 (0 + 21) [5]))]) ⟨(.opt _ _ hc), trivial⟩ (does_load 27 35 1 (0 + 21) [5] (.var (e_api_Packet p1)) (e_api_Id p1.Promise) ⟨rfl, Nat.le_of_ble_eq_true rfl, trivial⟩ rfl rfl ty27)), ⟨⟨rfl, rfl, trivial⟩, ⟨rfl, trivial⟩, rfl⟩, rfl,
      Step.guarded rfl rfl rfl rfl (fun hc => does_fieldAddr 35 0 0 3 0 0 [] (.var (e_api_Core p0)) fl35_0), ⟨⟨rfl, rfl, trivial⟩, ⟨rfl, trivial⟩, rfl⟩, rfl,
      Step.guarded rfl rfl rfl rfl (fun hc => Does.strip (n' := [(37, (.opt v5 (.ptr 0 (0 + 0) [0])))]) (n := [(37, (.ptr 0 (0 + 0) [0]))]) ⟨(.opt _ _ hc), trivial⟩ (does_load 3 37 0 (0 + 0) [0] (.var (e_api_Core p0)) (.int .i64 p0.Self) ⟨rfl, Nat.le_of_ble_eq_true rfl, trivial⟩ rfl rfl ty3)), ⟨⟨rfl, rfl, trivial⟩, ⟨rfl, trivial⟩, rfl⟩, rfl,
      Step.guarded rfl rfl rfl rfl (fun hc => does_fieldAddr 35 2 2 3 0 0 [] (.var (e_api_Core p0)) fl35_2), ⟨⟨rfl, rfl, trivial⟩, ⟨rfl, trivial⟩, rfl⟩, rfl,
      Step.guarded rfl rfl rfl rfl (fun hc => Does.strip (n' := [(39, (.opt v5 (.ptr 0 (0 + 2) [2])))]) (n := [(39, (.ptr 0 (0 + 2) [2]))]) ⟨(.opt _ _ hc), trivial⟩ (does_load 22 39 0 (0 + 2) [2] (.var (e_api_Core p0)) (.int .u32 p0.Own) ⟨rfl, Nat.le_of_ble_eq_true rfl, trivial⟩ rfl rfl ty22)), ⟨⟨rfl, rfl, trivial⟩, ⟨rfl, trivial⟩, rfl⟩, rfl,
      Step.guarded rfl rfl rfl rfl (fun hc => does_load 43 4 1 0 [] (.var (e_api_Packet p1)) (e_api_Packet p1) trivial rfl rfl ty43), ⟨⟨rfl, rfl, trivial⟩, ⟨rfl, trivial⟩, rfl⟩, rfl,
      Step.guarded rfl rfl rfl rfl (fun hc => Does.strip (n' := [(36, (.opt v5 (e_api_Id p1.Promise))), (38, (.opt v5 (.int .i64 p0.Self))), (40, (.opt v5 (.int .u32 p0.Own))), (41, (.opt v5 (e_api_Packet p1)))]) (n := [(36, (e_api_Id p1.Promise)), (38, (.int .i64 p0.Self)), (40, (.int .u32 p0.Own)), (41, (e_api_Packet p1))]) ⟨(.opt _ _ hc), (.opt _ _ hc), (.opt _ _ hc), (.opt _ _ hc), trivial⟩ (does_call 9 0 (fun _ => .any) (.func 9) [(.tmp 36), (.tmp 38), (.tmp 40), (.tmp 41)] [(e_api_Id p1.Promise), (.int .i64 p0.Self), (.int .u32 p0.Own), (e_api_Packet p1)] [] true [(e_api_Id p1.Promise), (.int .i64 p0.Self), (.int .u32 p0.Own), (e_api_Packet p1)] (.bool v7) _ _ rfl fo9 rfl ⟨trivial, trivial, trivial, trivial, trivial⟩ ⟨.data _ (d_api_Id p1.Promise), .data _ trivial, .data _ trivial, .data _ (d_api_Packet p1), trivial⟩ (gather_Adopt_spec p1.Promise p0.Self p0.Own p1 _ (h8 hc)) trivial)), ⟨⟨rfl, rfl, rfl, rfl, rfl, trivial⟩, trivial, rfl⟩, rfl,
      Step.guarded rfl rfl rfl rfl (fun hc => Does.strip (n' := [(42, (.opt v5 (.bool v7)))]) (n := [(42, (.bool v7))]) ⟨(.opt _ _ hc), trivial⟩ (does_move (.tmp 42) (.bool v7) trivial)), ⟨⟨rfl, rfl, trivial⟩, trivial, rfl⟩, rfl,
      Step.guarded rfl rfl rfl rfl (fun hc => does_fieldAddr 43 5 21 4 1 0 [] (.var (e_api_Packet p1)) fl43_5), ⟨⟨rfl, rfl, trivial⟩, ⟨rfl, trivial⟩, rfl⟩, rfl,
      Step.guarded rfl rfl rfl rfl (fun hc => Does.strip (n' := [(44, (.opt (v5 && (!v7)) (.ptr 1 (0 + 21) [5])))]) (n := [(44, (.ptr 1 (0 + 21) [5]))]) ⟨(.opt _ _ hc), trivial⟩ (does_load 27 44 1 (0 + 21) [5] (.var (e_api_Packet p1)) (e_api_Id p1.Promise) ⟨rfl, Nat.le_of_ble_eq_true rfl, trivial⟩ rfl rfl ty27)), ⟨⟨rfl, rfl, trivial⟩, ⟨rfl, trivial⟩, rfl⟩, rfl,
      Step.guarded rfl rfl rfl rfl (fun hc => does_fieldAddr 35 8 40 3 0 0 [] (.var (e_api_Core p0)) fl35_8), ⟨⟨rfl, rfl, trivial⟩, ⟨rfl, trivial⟩, rfl⟩, rfl,
      Step.guarded rfl rfl rfl rfl (fun hc => Does.strip (n' := [(46, (.opt (v5 && (!v7)) (.ptr 0 (0 + 40) [8])))]) (n := [(46, (.ptr 0 (0 + 40) [8]))]) ⟨(.opt _ _ hc), trivial⟩ (does_load 27 46 0 (0 + 40) [8] (.var (e_api_Core p0)) (e_api_Id p0.Promise) ⟨rfl, Nat.le_of_ble_eq_true rfl, trivial⟩ rfl rfl ty27)), ⟨⟨rfl, rfl, trivial⟩, ⟨rfl, trivial⟩, rfl⟩, rfl,
      Step.guarded rfl rfl rfl rfl (fun hc => Does.strip (n' := [(45, (.opt (v5 && (!v7)) (e_api_Id p1.Promise))), (47, (.opt (v5 && (!v7)) (e_api_Id p0.Promise)))]) (n := [(45, (e_api_Id p1.Promise)), (47, (e_api_Id p0.Promise))]) ⟨(.opt _ _ hc), (.opt _ _ hc), trivial⟩ (does_call 10 0 (fun _ => .any) (.func 10) [(.tmp 45), (.tmp 47)] [(e_api_Id p1.Promise), (e_api_Id p0.Promise)] [] true [(e_api_Id p1.Promise), (e_api_Id p0.Promise)] (.int .i64 v9) _ _ rfl fo10 rfl ⟨trivial, trivial, trivial⟩ ⟨.data _ (d_api_Id p1.Promise), .data _ (d_api_Id p0.Promise), trivial⟩ (congressref07_Compare_spec p1.Promise p0.Promise _ (h10 hc)) trivial)), ⟨⟨rfl, rfl, rfl, trivial⟩, trivial, rfl⟩, rfl,
      Step.guarded rfl rfl rfl rfl (fun hc => Does.strip (n' := [(48, (.opt (v5 && (!v7)) (.int .i64 v9)))]) (n := [(48, (.int .i64 v9))]) ⟨(.opt _ _ hc), trivial⟩ (does_bin .neq 3 3 (.tmp 48) (.const (.int .i64 1)) .i64 v9 1 (.bool (v9 != 1)) trivial (fun _ => rfl) (bin_neq _ _ _ _))), ⟨⟨rfl, rfl, trivial⟩, trivial, rfl⟩, rfl,
      Step.guarded rfl rfl rfl rfl (fun hc => Does.strip (n' := [(43, (.opt v5 (.bool v7))), (49, (.opt (v5 && (!v7)) (.bool (v9 != 1))))]) (n := [(43, (.bool v7)), (49, (.opt (!v7) (.bool (v9 != 1))))]) ⟨(.opt _ _ hc), (.half _ _ hc), trivial⟩ (does_or 43 49 v7 (v9 != 1))), ⟨⟨rfl, rfl, rfl, trivial⟩, trivial, rfl⟩, rfl,
      Step.plain rfl (does_and 34 50 v5 (v7 || (v9 != 1))), ⟨⟨rfl, rfl, trivial⟩, trivial, rfl⟩, rfl, rfl⟩ ?_
    refine aw_cov (cov_prune (s1 := ⟨[(3, (.ptr 0 0 [])), (5, (.ptr 2 0 [])), (51, (.bool (v5 && (v7 || (v9 != 1)))))], [(0, some (.var (e_api_Core p0))), (2, some (.var (e_a8_u32 p2)))], 3⟩) ⟨rfl, rfl, rfl, trivial⟩ ⟨rfl, rfl, trivial⟩ (Nat.le_refl _)) ?_
    refine aw_cond rfl (fun hc => ?_) (fun hc => ?_)
    · replace H := ite_t hc H
      refine aw_region (es := [_]) ⟨Step.plain rfl (does_assign (.const (.bool false)) (.bool false) (fun _ => rfl)), ⟨trivial, trivial, rfl⟩, rfl, rfl⟩ ?_
      refine aw_cov (cov_prune (s1 := ⟨[(6, (.bool false))], [], 3⟩) ⟨rfl, trivial⟩ trivial (Nat.le_refl _)) ?_
      refine aw_ret ?_
      refine rt_then ?_
      exact fun a w hr => ⟨_, [(.bool false)], hr, ⟨⟨_, rfl, .data _ trivial⟩, trivial⟩, by decide, by cases H; rfl⟩
    · replace H := ite_f hc H
      refine aw_skip ?_
      refine nx_seq ?_
      obtain ⟨v11, h12, H⟩ := bnd H
      refine aw_region (es := [_, _, _, _, _, _, _, _, _]) ⟨Step.plain rfl (does_load 35 3 0 0 [] (.var (e_api_Core p0)) (e_api_Core p0) trivial rfl rfl ty35), ⟨⟨rfl, trivial⟩, ⟨rfl, trivial⟩, rfl⟩, rfl,
        Step.plain rfl (does_load 28 5 2 0 [] (.var (e_a8_u32 p2)) (e_a8_u32 p2) trivial rfl rfl ty28), ⟨⟨rfl, trivial⟩, ⟨rfl, trivial⟩, rfl⟩, rfl,
        Step.plain rfl (does_call 11 0 (fun _ => .any) (.func 11) [(.tmp 53), (.tmp 54)] [(e_api_Core p0), (e_a8_u32 p2)] [] true [(e_api_Core p0), (e_a8_u32 p2)] (resV [(e_api_Id v11.1), (.bool v11.2)]) _ _ rfl fo11 rfl ⟨trivial, trivial, trivial⟩ ⟨.data _ (d_api_Core p0), .data _ (d_a8_u32 p2), trivial⟩ (gather_Propose_spec p0 p2 _ h12) (res_flat2 (f_api_Id v11.1) trivial)), ⟨⟨rfl, rfl, trivial⟩, trivial, rfl⟩, rfl,
        Step.plain rfl (does_move (.tmp 55) (resV [(e_api_Id v11.1), (.bool v11.2)]) trivial), ⟨⟨rfl, trivial⟩, trivial, rfl⟩, rfl,
        Step.plain rfl (does_extract 52 0 2 (fun j => [(e_api_Id v11.1), (.bool v11.2)].getD j (.bool false)) (Nat.le_of_ble_eq_true rfl)), ⟨⟨rfl, trivial⟩, trivial, rfl⟩, rfl,
        Step.plain rfl (does_extract 52 1 2 (fun j => [(e_api_Id v11.1), (.bool v11.2)].getD j (.bool false)) (Nat.le_of_ble_eq_true rfl)), ⟨⟨rfl, trivial⟩, trivial, rfl⟩, rfl,
        Step.plain rfl (does_alloc 27 3 (e_api_Id z_api_Id) zr27), ⟨trivial, trivial, rfl⟩, rfl,
        Step.plain rfl (does_store 27 7 (.tmp 56) 3 0 [] (.var (e_api_Id z_api_Id)) (.var (e_api_Id v11.1)) (e_api_Id v11.1) true trivial rfl trivial rfl rfl rfl ty27), ⟨⟨rfl, rfl, trivial⟩, ⟨rfl, trivial⟩, rfl⟩, rfl,
        Step.plain rfl (does_assign (.tmp 57) (.bool v11.2) trivial), ⟨⟨rfl, trivial⟩, trivial, rfl⟩, rfl, rfl⟩ ?_
      refine aw_cov (cov_prune (s1 := ⟨[(3, (.ptr 0 0 [])), (5, (.ptr 2 0 [])), (7, (.ptr 3 0 [])), (8, (.bool v11.2))], [(0, some (.var (e_api_Core p0))), (2, some (.var (e_a8_u32 p2))), (3, some (.var (e_api_Id v11.1)))], 4⟩) ⟨rfl, rfl, rfl, rfl, trivial⟩ ⟨rfl, rfl, rfl, trivial⟩ (Nat.le_refl _)) ?_
      refine aw_seq ?_
      refine aw_region (es := [_, _]) ⟨Step.plain rfl (does_move (.tmp 8) (.bool v11.2) trivial), ⟨⟨rfl, trivial⟩, trivial, rfl⟩, rfl,
        Step.plain rfl (does_not 4 (.tmp 58) v11.2 trivial), ⟨⟨rfl, trivial⟩, trivial, rfl⟩, rfl, rfl⟩ ?_
      refine aw_cov (cov_prune (s1 := ⟨[(3, (.ptr 0 0 [])), (5, (.ptr 2 0 [])), (7, (.ptr 3 0 [])), (59, (.bool (!v11.2)))], [(0, some (.var (e_api_Core p0))), (2, some (.var (e_a8_u32 p2))), (3, some (.var (e_api_Id v11.1)))], 4⟩) ⟨rfl, rfl, rfl, rfl, trivial⟩ ⟨rfl, rfl, rfl, trivial⟩ (Nat.le_refl _)) ?_
      refine aw_cond rfl (fun hc => ?_) (fun hc => ?_)
      · replace H := ite_t hc H
        refine aw_region (es := [_, _, _, _]) ⟨Step.plain rfl (does_load 27 7 3 0 [] (.var (e_api_Id v11.1)) (e_api_Id v11.1) trivial rfl rfl ty27), ⟨⟨rfl, trivial⟩, ⟨rfl, trivial⟩, rfl⟩, rfl,
          Step.plain rfl (does_buildT 27 #[] [] [] (.st [1, 1, 1]) (c_api_Id z_api_Id) (c_api_Id ({ Epoch := 0, Coord := 0, Inc := 0 } : api_Id)) rfl bo27 trivial trivial (by funext j; match j with | 0 => rfl | 1 => rfl | 2 => rfl | _ + 3 => rfl)), ⟨trivial, trivial, rfl⟩, rfl,
          Step.plain rfl (does_eqT false 27 27 (.tmp 60) (.tmp 61) (e_api_Id v11.1) (e_api_Id ({ Epoch := 0, Coord := 0, Inc := 0 } : api_Id)) (e_api_Id z_api_Id) (b_api_Id v11.1 ({ Epoch := 0, Coord := 0, Inc := 0 } : api_Id)) rfl rfl trivial trivial eg27 sh27 (al_api_Id _ _) (al_api_Id _ _) (q_api_Id _ _)), ⟨⟨rfl, rfl, trivial⟩, trivial, rfl⟩, rfl,
          Step.plain rfl (does_assign (.tmp 62) (.bool (b_api_Id v11.1 ({ Epoch := 0, Coord := 0, Inc := 0 } : api_Id))) trivial), ⟨⟨rfl, trivial⟩, trivial, rfl⟩, rfl, rfl⟩ ?_
        refine aw_cov (cov_prune (s1 := ⟨[(6, (.bool (b_api_Id v11.1 ({ Epoch := 0, Coord := 0, Inc := 0 } : api_Id))))], [], 4⟩) ⟨rfl, trivial⟩ trivial (Nat.le_refl _)) ?_
        refine aw_ret ?_
        refine rt_then ?_
        exact fun a w hr => ⟨_, [(.bool (b_api_Id v11.1 ({ Epoch := 0, Coord := 0, Inc := 0 } : api_Id)))], hr, ⟨⟨_, rfl, .data _ trivial⟩, trivial⟩, by decide, by cases H; rfl⟩
      · replace H := ite_f hc H
        refine aw_skip ?_
        refine nx_seq ?_
        refine aw_seq ?_
        refine aw_region (es := [_, _, _, _, _, _]) ⟨Step.plain rfl (does_fieldAddr 35 13 188 3 0 0 [] (.var (e_api_Core p0)) fl35_13), ⟨⟨rfl, trivial⟩, ⟨rfl, trivial⟩, rfl⟩, rfl,
          Step.plain rfl (does_load 22 63 0 (0 + 188) [13] (.var (e_api_Core p0)) (.int .u32 p0.Epoch) ⟨rfl, Nat.le_of_ble_eq_true rfl, trivial⟩ rfl rfl ty22), ⟨⟨rfl, trivial⟩, ⟨rfl, trivial⟩, rfl⟩, rfl,
          Step.plain rfl (does_fieldAddr 35 8 40 3 0 0 [] (.var (e_api_Core p0)) fl35_8), ⟨⟨rfl, trivial⟩, ⟨rfl, trivial⟩, rfl⟩, rfl,
          Step.plain rfl (does_fieldAddr 27 0 0 65 0 (0 + 40) [8] (.var (e_api_Core p0)) fl27_0), ⟨⟨rfl, trivial⟩, ⟨rfl, trivial⟩, rfl⟩, rfl,
          Step.plain rfl (does_load 22 66 0 ((0 + 40) + 0) [8, 0] (.var (e_api_Core p0)) (.int .u32 p0.Promise.Epoch) ⟨rfl, Nat.le_of_ble_eq_true rfl, ⟨rfl, Nat.le_of_ble_eq_true rfl, trivial⟩⟩ rfl rfl ty22), ⟨⟨rfl, trivial⟩, ⟨rfl, trivial⟩, rfl⟩, rfl,
          Step.plain rfl (does_bin .lss 22 22 (.tmp 64) (.tmp 67) .u32 p0.Epoch p0.Promise.Epoch (.bool (decide (p0.Epoch < p0.Promise.Epoch))) trivial trivial (bin_lss _ _ _ _)), ⟨⟨rfl, rfl, trivial⟩, trivial, rfl⟩, rfl, rfl⟩ ?_
        refine aw_cov (cov_prune (s1 := ⟨[(3, (.ptr 0 0 [])), (5, (.ptr 2 0 [])), (7, (.ptr 3 0 [])), (68, (.bool (decide (p0.Epoch < p0.Promise.Epoch))))], [(0, some (.var (e_api_Core p0))), (2, some (.var (e_a8_u32 p2))), (3, some (.var (e_api_Id v11.1)))], 4⟩) ⟨rfl, rfl, rfl, rfl, trivial⟩ ⟨rfl, rfl, rfl, trivial⟩ (Nat.le_refl _)) ?_
        refine aw_cond rfl (fun hc => ?_) (fun hc => ?_)
        · replace H := ite_t hc H
          refine aw_region (es := [_]) ⟨Step.plain rfl (does_assign (.const (.bool true)) (.bool true) (fun _ => rfl)), ⟨trivial, trivial, rfl⟩, rfl, rfl⟩ ?_
          refine aw_cov (cov_prune (s1 := ⟨[(6, (.bool true))], [], 4⟩) ⟨rfl, trivial⟩ trivial (Nat.le_refl _)) ?_
          refine aw_ret ?_
          refine rt_then ?_
          exact fun a w hr => ⟨_, [(.bool true)], hr, ⟨⟨_, rfl, .data _ trivial⟩, trivial⟩, by decide, by cases H; rfl⟩
        · replace H := ite_f hc H
          refine aw_skip ?_
          refine nx_seq ?_
          refine aw_region (es := [_, _, _]) ⟨Step.plain rfl (does_load 35 3 0 0 [] (.var (e_api_Core p0)) (e_api_Core p0) trivial rfl rfl ty35), ⟨⟨rfl, trivial⟩, ⟨rfl, trivial⟩, rfl⟩, rfl,
            Step.plain rfl (does_alloc 35 4 (e_api_Core z_api_Core) zr35), ⟨trivial, trivial, rfl⟩, rfl,
            Step.plain rfl (does_store 35 9 (.tmp 69) 4 0 [] (.var (e_api_Core z_api_Core)) (.var (e_api_Core p0)) (e_api_Core p0) true trivial rfl trivial rfl rfl rfl ty35), ⟨⟨rfl, rfl, trivial⟩, ⟨rfl, trivial⟩, rfl⟩, rfl, rfl⟩ ?_
          refine aw_cov (cov_prune (s1 := ⟨[(3, (.ptr 0 0 [])), (5, (.ptr 2 0 [])), (7, (.ptr 3 0 [])), (9, (.ptr 4 0 []))], [(0, some (.var (e_api_Core p0))), (2, some (.var (e_a8_u32 p2))), (3, some (.var (e_api_Id v11.1))), (4, some (.var (e_api_Core p0)))], 5⟩) ⟨rfl, rfl, rfl, rfl, trivial⟩ ⟨rfl, rfl, rfl, rfl, trivial⟩ (Nat.le_refl _)) ?_
          refine aw_region (es := [_, _, _, _]) ⟨Step.plain rfl (does_fieldAddr 27 0 0 7 3 0 [] (.var (e_api_Id v11.1)) fl27_0), ⟨⟨rfl, trivial⟩, ⟨rfl, trivial⟩, rfl⟩, rfl,
            Step.plain rfl (does_load 22 70 3 (0 + 0) [0] (.var (e_api_Id v11.1)) (.int .u32 v11.1.Epoch) ⟨rfl, Nat.le_of_ble_eq_true rfl, trivial⟩ rfl rfl ty22), ⟨⟨rfl, trivial⟩, ⟨rfl, trivial⟩, rfl⟩, rfl,
            Step.plain rfl (does_fieldAddr 35 13 188 9 4 0 [] (.var (e_api_Core p0)) fl35_13), ⟨⟨rfl, trivial⟩, ⟨rfl, trivial⟩, rfl⟩, rfl,
            Step.plain rfl (does_store 22 72 (.tmp 71) 4 (0 + 188) [13] (.var (e_api_Core p0)) (.var (e_api_Core ({ p0 with Epoch := v11.1.Epoch }))) (.int .u32 v11.1.Epoch) false trivial rfl ⟨rfl, Nat.le_of_ble_eq_true rfl, trivial⟩ rfl rfl (congrArg Box.var (set_cons rfl (st_api_Core_13 _ _))) ty22), ⟨⟨rfl, rfl, trivial⟩, ⟨rfl, trivial⟩, rfl⟩, rfl, rfl⟩ ?_
          refine aw_cov (cov_prune (s1 := ⟨[(3, (.ptr 0 0 [])), (5, (.ptr 2 0 [])), (7, (.ptr 3 0 [])), (9, (.ptr 4 0 []))], [(0, some (.var (e_api_Core p0))), (2, some (.var (e_a8_u32 p2))), (3, some (.var (e_api_Id v11.1))), (4, some (.var (e_api_Core ({ p0 with Epoch := v11.1.Epoch }))))], 5⟩) ⟨rfl, rfl, rfl, rfl, trivial⟩ ⟨rfl, rfl, rfl, rfl, trivial⟩ (Nat.le_refl _)) ?_
          refine aw_region (es := [_, _, _]) ⟨Step.plain rfl (does_load 27 7 3 0 [] (.var (e_api_Id v11.1)) (e_api_Id v11.1) trivial rfl rfl ty27), ⟨⟨rfl, trivial⟩, ⟨rfl, trivial⟩, rfl⟩, rfl,
            Step.plain rfl (does_fieldAddr 35 8 40 9 4 0 [] (.var (e_api_Core ({ p0 with Epoch := v11.1.Epoch }))) fl35_8), ⟨⟨rfl, trivial⟩, ⟨rfl, trivial⟩, rfl⟩, rfl,
            Step.plain rfl (does_store 27 74 (.tmp 73) 4 (0 + 40) [8] (.var (e_api_Core ({ p0 with Epoch := v11.1.Epoch }))) (.var (e_api_Core ({ { p0 with Epoch := v11.1.Epoch } with Promise := v11.1 }))) (e_api_Id v11.1) true trivial rfl ⟨rfl, Nat.le_of_ble_eq_true rfl, trivial⟩ rfl rfl (congrArg Box.var (set_cons rfl (st_api_Core_8 _ _))) ty27), ⟨⟨rfl, rfl, trivial⟩, ⟨rfl, trivial⟩, rfl⟩, rfl, rfl⟩ ?_
          obtain ⟨v13, hv13, H⟩ := lt_of H
          refine aw_cov (cov_prune (s1 := ⟨[(3, (.ptr 0 0 [])), (5, (.ptr 2 0 [])), (7, (.ptr 3 0 [])), (9, (.ptr 4 0 []))], [(0, some (.var (e_api_Core p0))), (2, some (.var (e_a8_u32 p2))), (3, some (.var (e_api_Id v11.1))), (4, some (.var (e_api_Core v13)))], 5⟩) ⟨rfl, rfl, rfl, rfl, trivial⟩ ⟨rfl, rfl, rfl, (by subst hv13; rfl), trivial⟩ (Nat.le_refl _)) ?_
          refine aw_region (es := [_, _, _]) ⟨Step.plain rfl (does_load 28 5 2 0 [] (.var (e_a8_u32 p2)) (e_a8_u32 p2) trivial rfl rfl ty28), ⟨⟨rfl, trivial⟩, ⟨rfl, trivial⟩, rfl⟩, rfl,
            Step.plain rfl (does_fieldAddr 35 9 43 9 4 0 [] (.var (e_api_Core v13)) fl35_9), ⟨⟨rfl, trivial⟩, ⟨rfl, trivial⟩, rfl⟩, rfl,
            Step.plain rfl (does_store 28 76 (.tmp 75) 4 (0 + 43) [9] (.var (e_api_Core v13)) (.var (e_api_Core ({ v13 with Wanted := p2 }))) (e_a8_u32 p2) true trivial rfl ⟨rfl, Nat.le_of_ble_eq_true rfl, trivial⟩ rfl rfl (congrArg Box.var (set_cons rfl (st_api_Core_9 _ _))) ty28), ⟨⟨rfl, rfl, trivial⟩, ⟨rfl, trivial⟩, rfl⟩, rfl, rfl⟩ ?_
          refine aw_cov (cov_prune (s1 := ⟨[(3, (.ptr 0 0 [])), (5, (.ptr 2 0 [])), (7, (.ptr 3 0 [])), (9, (.ptr 4 0 []))], [(0, some (.var (e_api_Core p0))), (2, some (.var (e_a8_u32 p2))), (3, some (.var (e_api_Id v11.1))), (4, some (.var (e_api_Core ({ v13 with Wanted := p2 }))))], 5⟩) ⟨rfl, rfl, rfl, rfl, trivial⟩ ⟨rfl, rfl, rfl, rfl, trivial⟩ (Nat.le_refl _)) ?_
          refine aw_seq ?_
          refine aw_region (es := [_]) ⟨Step.plain rfl (does_assign (.const (.int .i64 0)) (.int .i64 0) (fun _ => rfl)), ⟨trivial, trivial, rfl⟩, rfl, rfl⟩ ?_
          refine aw_cov (cov_prune (s1 := ⟨[(3, (.ptr 0 0 [])), (5, (.ptr 2 0 [])), (7, (.ptr 3 0 [])), (9, (.ptr 4 0 [])), (10, (.int .i64 0))], [(0, some (.var (e_api_Core p0))), (2, some (.var (e_a8_u32 p2))), (3, some (.var (e_api_Id v11.1))), (4, some (.var (e_api_Core ({ v13 with Wanted := p2 }))))], 5⟩) ⟨rfl, rfl, rfl, rfl, rfl, trivial⟩ ⟨rfl, rfl, rfl, rfl, trivial⟩ (Nat.le_refl _)) ?_
          obtain ⟨wn15, hwn15, Hrn15⟩ := bnd H
          refine aw_meet (fun y18 : Unit => (⟨[(3, (.ptr 0 0 [])), (5, (.ptr 2 0 [])), (7, (.ptr 3 0 [])), (9, (.ptr 4 0 []))], [(0, some (.var (e_api_Core p0))), (2, some (.var (e_a8_u32 p2))), (3, some (.var (e_api_Id v11.1))), (4, some (.var (e_api_Core ({ v13 with Wanted := p2 }))))], 5⟩ : St)) (fun y18 => Fl.nx y18 = wn15) (fun y18 hy => ?_) (aw_block (aw_runs (fun x14 : Int => (⟨[(3, (.ptr 0 0 [])), (5, (.ptr 2 0 [])), (7, (.ptr 3 0 [])), (9, (.ptr 4 0 [])), (10, (.int .i64 x14))], [(0, some (.var (e_api_Core p0))), (2, some (.var (e_a8_u32 p2))), (3, some (.var (e_api_Id v11.1))), (4, some (.var (e_api_Core ({ v13 with Wanted := p2 }))))], 5⟩ : St)) hwn15 (cov_prune ⟨rfl, rfl, rfl, rfl, rfl, trivial⟩ ⟨rfl, rfl, rfl, rfl, trivial⟩ (Nat.le_of_ble_eq_true rfl)) (fun x14 st H hsn15 => ?_)))
          · have H := nx_of hy Hrn15
            refine nx_seq ?_
            obtain ⟨v19, h20, H⟩ := bnd H
            refine aw_region (es := [_, _, _, _, _, _, _, _, _]) ⟨Step.plain rfl (does_load 35 9 4 0 [] (.var (e_api_Core ({ v13 with Wanted := p2 }))) (e_api_Core ({ v13 with Wanted := p2 })) trivial rfl rfl ty35), ⟨⟨rfl, trivial⟩, ⟨rfl, trivial⟩, rfl⟩, rfl,
              Step.plain rfl (does_load 28 5 2 0 [] (.var (e_a8_u32 p2)) (e_a8_u32 p2) trivial rfl rfl ty28), ⟨⟨rfl, trivial⟩, ⟨rfl, trivial⟩, rfl⟩, rfl,
              Step.plain rfl (does_call 11 0 (fun _ => .any) (.func 11) [(.tmp 91), (.tmp 92)] [(e_api_Core ({ v13 with Wanted := p2 })), (e_a8_u32 p2)] [] true [(e_api_Core ({ v13 with Wanted := p2 })), (e_a8_u32 p2)] (resV [(e_api_Id v19.1), (.bool v19.2)]) _ _ rfl fo11 rfl ⟨trivial, trivial, trivial⟩ ⟨.data _ (d_api_Core ({ v13 with Wanted := p2 })), .data _ (d_a8_u32 p2), trivial⟩ (gather_Propose_spec ({ v13 with Wanted := p2 }) p2 _ h20) (res_flat2 (f_api_Id v19.1) trivial)), ⟨⟨rfl, rfl, trivial⟩, trivial, rfl⟩, rfl,
              Step.plain rfl (does_move (.tmp 93) (resV [(e_api_Id v19.1), (.bool v19.2)]) trivial), ⟨⟨rfl, trivial⟩, trivial, rfl⟩, rfl,
              Step.plain rfl (does_extract 90 0 2 (fun j => [(e_api_Id v19.1), (.bool v19.2)].getD j (.bool false)) (Nat.le_of_ble_eq_true rfl)), ⟨⟨rfl, trivial⟩, trivial, rfl⟩, rfl,
              Step.plain rfl (does_extract 90 1 2 (fun j => [(e_api_Id v19.1), (.bool v19.2)].getD j (.bool false)) (Nat.le_of_ble_eq_true rfl)), ⟨⟨rfl, trivial⟩, trivial, rfl⟩, rfl,
              Step.plain rfl (does_alloc 27 5 (e_api_Id z_api_Id) zr27), ⟨trivial, trivial, rfl⟩, rfl,
              Step.plain rfl (does_store 27 11 (.tmp 94) 5 0 [] (.var (e_api_Id z_api_Id)) (.var (e_api_Id v19.1)) (e_api_Id v19.1) true trivial rfl trivial rfl rfl rfl ty27), ⟨⟨rfl, rfl, trivial⟩, ⟨rfl, trivial⟩, rfl⟩, rfl,
              Step.plain rfl (does_assign (.tmp 95) (.bool v19.2) trivial), ⟨⟨rfl, trivial⟩, trivial, rfl⟩, rfl, rfl⟩ ?_
            refine aw_cov (cov_prune (s1 := ⟨[(3, (.ptr 0 0 [])), (7, (.ptr 3 0 [])), (12, (.bool v19.2))], [(0, some (.var (e_api_Core p0))), (3, some (.var (e_api_Id v11.1)))], 6⟩) ⟨rfl, rfl, rfl, trivial⟩ ⟨rfl, rfl, trivial⟩ (Nat.le_refl _)) ?_
            obtain ⟨v21, h22, H⟩ := bnd H
            refine aw_region (es := [_, _, _, _, _, _, _, _, _, _]) ⟨Step.plain rfl (does_load 27 7 3 0 [] (.var (e_api_Id v11.1)) (e_api_Id v11.1) trivial rfl rfl ty27), ⟨⟨rfl, trivial⟩, ⟨rfl, trivial⟩, rfl⟩, rfl,
              Step.plain rfl (does_fieldAddr 35 8 40 3 0 0 [] (.var (e_api_Core p0)) fl35_8), ⟨⟨rfl, trivial⟩, ⟨rfl, trivial⟩, rfl⟩, rfl,
              Step.plain rfl (does_load 27 97 0 (0 + 40) [8] (.var (e_api_Core p0)) (e_api_Id p0.Promise) ⟨rfl, Nat.le_of_ble_eq_true rfl, trivial⟩ rfl rfl ty27), ⟨⟨rfl, trivial⟩, ⟨rfl, trivial⟩, rfl⟩, rfl,
              Step.plain rfl (does_call 10 0 (fun _ => .any) (.func 10) [(.tmp 96), (.tmp 98)] [(e_api_Id v11.1), (e_api_Id p0.Promise)] [] true [(e_api_Id v11.1), (e_api_Id p0.Promise)] (.int .i64 v21) _ _ rfl fo10 rfl ⟨trivial, trivial, trivial⟩ ⟨.data _ (d_api_Id v11.1), .data _ (d_api_Id p0.Promise), trivial⟩ (congressref07_Compare_spec v11.1 p0.Promise _ h22) trivial), ⟨⟨rfl, rfl, trivial⟩, trivial, rfl⟩, rfl,
              Step.plain rfl (does_bin .eql 3 3 (.tmp 99) (.const (.int .i64 1)) .i64 v21 1 (.bool (v21 == 1)) trivial (fun _ => rfl) (bin_eql _ _ _ _)), ⟨⟨rfl, trivial⟩, trivial, rfl⟩, rfl,
              Step.plain rfl (does_move (.tmp 100) (.bool (v21 == 1)) trivial), ⟨⟨rfl, trivial⟩, trivial, rfl⟩, rfl,
              Step.guarded rfl rfl rfl rfl (fun hc => does_move (.tmp 12) (.bool v19.2) trivial), ⟨⟨rfl, rfl, trivial⟩, trivial, rfl⟩, rfl,
              Step.guarded rfl rfl rfl rfl (fun hc => Does.strip (n' := [(102, (.opt (v21 == 1) (.bool v19.2)))]) (n := [(102, (.bool v19.2))]) ⟨(.opt _ _ hc), trivial⟩ (does_not 4 (.tmp 102) v19.2 trivial)), ⟨⟨rfl, rfl, trivial⟩, trivial, rfl⟩, rfl,
              Step.plain rfl (does_and 101 103 (v21 == 1) (!v19.2)), ⟨⟨rfl, rfl, trivial⟩, trivial, rfl⟩, rfl,
              Step.plain rfl (does_assign (.tmp 104) (.bool ((v21 == 1) && (!v19.2))) trivial), ⟨⟨rfl, trivial⟩, trivial, rfl⟩, rfl, rfl⟩ ?_
            refine aw_cov (cov_prune (s1 := ⟨[(6, (.bool ((v21 == 1) && (!v19.2))))], [], 6⟩) ⟨rfl, trivial⟩ trivial (Nat.le_refl _)) ?_
            refine aw_ret ?_
            exact fun a w hr => ⟨_, [(.bool ((v21 == 1) && (!v19.2)))], hr, ⟨⟨_, rfl, .data _ trivial⟩, trivial⟩, by decide, by cases H; rfl⟩
          · refine aw_seq ?_
            refine aw_region (es := [_, _]) ⟨Step.plain rfl (does_move (.tmp 10) (.int .i64 x14) trivial), ⟨⟨rfl, trivial⟩, trivial, rfl⟩, rfl,
              Step.plain rfl (does_bin .lss 3 3 (.tmp 77) (.const (.int .i64 8)) .i64 x14 8 (.bool (decide (x14 < 8))) trivial (fun _ => rfl) (bin_lss _ _ _ _)), ⟨⟨rfl, trivial⟩, trivial, rfl⟩, rfl, rfl⟩ ?_
            refine aw_cov (cov_prune (s1 := ⟨[(3, (.ptr 0 0 [])), (5, (.ptr 2 0 [])), (7, (.ptr 3 0 [])), (9, (.ptr 4 0 [])), (10, (.int .i64 x14)), (78, (.bool (decide (x14 < 8))))], [(0, some (.var (e_api_Core p0))), (2, some (.var (e_a8_u32 p2))), (3, some (.var (e_api_Id v11.1))), (4, some (.var (e_api_Core ({ v13 with Wanted := p2 }))))], 5⟩) ⟨rfl, rfl, rfl, rfl, rfl, rfl, trivial⟩ ⟨rfl, rfl, rfl, rfl, trivial⟩ (Nat.le_refl _)) ?_
            refine aw_cond rfl (fun hc => ?_) (fun hc => ?_)
            · replace H := ite_t hc H
              refine aw_skip ?_
              refine nx_seq ?_
              refine aw_seq ?_
              refine aw_block ?_
              obtain ⟨h16, H⟩ := ib_of H
              refine aw_draw (es := [_, _, _, _, _, _, _, _, _]) (mixed) ⟨Step.plain rfl (does_move (.tmp 10) (.int .i64 x14) trivial), ⟨⟨rfl, trivial⟩, trivial, rfl⟩, rfl,
                Step.plain rfl (does_fieldAddr 35 12 60 9 4 0 [] (.var (e_api_Core ({ v13 with Wanted := p2 }))) fl35_12), ⟨⟨rfl, trivial⟩, ⟨rfl, trivial⟩, rfl⟩, rfl,
                Step.plain rfl (does_indexAddr 33 8 16 82 4 (0 + 60) [12] (.var (e_api_Core ({ v13 with Wanted := p2 }))) (.tmp 81) .i64 x14 el33 trivial h16.1 h16.2), ⟨⟨rfl, rfl, trivial⟩, ⟨rfl, trivial⟩, rfl⟩, rfl,
                Step.plain rfl (does_fieldAddr 32 2 4 83 4 ((0 + 60) + x14.toNat * 16) [12, x14.toNat] (.var (e_api_Core ({ v13 with Wanted := p2 }))) fl32_2), ⟨⟨rfl, trivial⟩, ⟨rfl, trivial⟩, rfl⟩, rfl,
                Step.plain rfl (does_fieldAddr 27 0 0 84 4 (((0 + 60) + x14.toNat * 16) + 4) [12, x14.toNat, 2] (.var (e_api_Core ({ v13 with Wanted := p2 }))) fl27_0), ⟨⟨rfl, trivial⟩, ⟨rfl, trivial⟩, rfl⟩, rfl,
                Step.plain rfl (does_load 22 85 4 ((((0 + 60) + x14.toNat * 16) + 4) + 0) [12, x14.toNat, 2, 0] (.var (e_api_Core ({ v13 with Wanted := p2 }))) (.int .u32 ((((({ v13 with Wanted := p2 }).Peers) x14.toNat).Promise).Epoch)) ⟨rfl, Nat.le_of_ble_eq_true rfl, ⟨rfl, (ixl h16), ⟨rfl, Nat.le_of_ble_eq_true rfl, ⟨rfl, Nat.le_of_ble_eq_true rfl, trivial⟩⟩⟩⟩ rfl rfl ty22), ⟨⟨rfl, trivial⟩, ⟨rfl, trivial⟩, rfl⟩, rfl,
                Step.plain rfl (does_fieldAddr 35 13 188 3 0 0 [] (.var (e_api_Core p0)) fl35_13), ⟨⟨rfl, trivial⟩, ⟨rfl, trivial⟩, rfl⟩, rfl,
                Step.plain rfl (does_load 22 87 0 (0 + 188) [13] (.var (e_api_Core p0)) (.int .u32 p0.Epoch) ⟨rfl, Nat.le_of_ble_eq_true rfl, trivial⟩ rfl rfl ty22), ⟨⟨rfl, trivial⟩, ⟨rfl, trivial⟩, rfl⟩, rfl,
                Step.plain rfl (does_bin .gtr 22 22 (.tmp 86) (.tmp 88) .u32 ((((({ v13 with Wanted := p2 }).Peers) x14.toNat).Promise).Epoch) p0.Epoch (.bool (decide (((((({ v13 with Wanted := p2 }).Peers) x14.toNat).Promise).Epoch) > p0.Epoch))) trivial trivial (bin_gtr _ _ _ _)), ⟨⟨rfl, rfl, trivial⟩, trivial, rfl⟩, rfl, rfl⟩ rfl ?_
              obtain ⟨v17, hv17, H⟩ := lt_of H
              refine aw_cov (cov_prune (s1 := ⟨[(3, (.ptr 0 0 [])), (5, (.ptr 2 0 [])), (7, (.ptr 3 0 [])), (9, (.ptr 4 0 [])), (10, (.int .i64 x14)), (89, (.bool v17))], [(0, some (.var (e_api_Core p0))), (2, some (.var (e_a8_u32 p2))), (3, some (.var (e_api_Id v11.1))), (4, some (.var (e_api_Core ({ v13 with Wanted := p2 }))))], 5⟩) ⟨rfl, rfl, rfl, rfl, rfl, (by subst hv17; rfl), trivial⟩ ⟨rfl, rfl, rfl, rfl, trivial⟩ (Nat.le_refl _)) ?_
              refine aw_cond rfl (fun hc => ?_) (fun hc => ?_)
              · replace H := ite_t hc H
                refine aw_region (es := [_]) ⟨Step.plain rfl (does_assign (.const (.bool true)) (.bool true) (fun _ => rfl)), ⟨trivial, trivial, rfl⟩, rfl, rfl⟩ ?_
                refine aw_cov (cov_prune (s1 := ⟨[(6, (.bool true))], [], 5⟩) ⟨rfl, trivial⟩ trivial (Nat.le_refl _)) ?_
                refine aw_ret ?_
                replace H := rt_of H hsn15 Hrn15
                refine rt_blk ?_
                refine rt_then ?_
                refine rt_then ?_
                refine rt_blk ?_
                refine rt_then ?_
                refine rt_then ?_
                exact fun a w hr => ⟨_, [(.bool true)], hr, ⟨⟨_, rfl, .data _ trivial⟩, trivial⟩, by decide, by cases H; rfl⟩
              · replace H := ite_f hc H
                refine aw_skip ?_
                refine nx_blk ?_
                refine nx_seq ?_
                refine aw_region1 (es := [_, _, _]) ⟨Step.plain rfl (does_move (.tmp 10) (.int .i64 x14) trivial), ⟨⟨rfl, trivial⟩, trivial, rfl⟩, rfl,
                  Step.plain rfl (does_bin .add 3 3 (.tmp 79) (.const (.int .i64 1)) .i64 x14 1 (.int .i64 (IntKind.i64.wrap (x14 + 1))) trivial (fun _ => rfl) (bin_add _ _ _ _)), ⟨⟨rfl, trivial⟩, trivial, rfl⟩, rfl,
                  Step.plain rfl (does_assign (.tmp 80) (.int .i64 (IntKind.i64.wrap (x14 + 1))) trivial), ⟨⟨rfl, trivial⟩, trivial, rfl⟩, rfl, rfl⟩ ?_
                exact nx_loop ((IntKind.i64.wrap (x14 + 1))) H (cov_prune ⟨rfl, rfl, rfl, rfl, rfl, trivial⟩ ⟨rfl, rfl, rfl, rfl, trivial⟩ (Nat.le_of_ble_eq_true rfl))
            · replace H := ite_f hc H
              refine aw_exit ?_
              refine ex_then ?_
              refine ex_then ?_
              refine ex_here ?_
              exact nx_ljoin () H hsn15 (cov_prune ⟨rfl, rfl, rfl, rfl, trivial⟩ ⟨rfl, rfl, rfl, rfl, trivial⟩ (Nat.le_of_ble_eq_true rfl))

theorem cut_Union_spec (p0 : (_root_.List (Nat → Int))) (r : (Nat → Int)) (H : cut_Union p0 = some r) : FSpec Try.prog 29 [(e_s_a8_u32 p0)] (e_a8_u32 r) := by
  refine spec_of (fn := Try.f29) (args := [(e_s_a8_u32 p0)]) Try.func29 rfl (Nat.le_of_ble_eq_true rfl) ?_
  rintro ⟨G, w0, W, S, Sp⟩ hG
  cases hG
  unfold cut_Union at H
  refine aw_region (es := [_]) ⟨Step.plain rfl (does_alloc 29 0 (e_a8_u32 (fun _ => 0)) zr29), ⟨trivial, trivial, rfl⟩, rfl, rfl⟩ ?_
  refine aw_cov (cov_prune (s1 := ⟨[(0, (e_s_a8_u32 p0)), (2, (.ptr 0 0 []))], [(0, some (.var (e_a8_u32 (fun _ => 0))))], 1⟩) ⟨rfl, rfl, trivial⟩ ⟨rfl, trivial⟩ (Nat.le_refl _)) ?_
  refine aw_region (es := [_]) ⟨Step.plain rfl (does_alloc 29 1 (e_a8_u32 (fun _ => 0)) zr29), ⟨trivial, trivial, rfl⟩, rfl, rfl⟩ ?_
  refine aw_cov (cov_prune (s1 := ⟨[(0, (e_s_a8_u32 p0)), (2, (.ptr 0 0 [])), (3, (.ptr 1 0 []))], [(0, some (.var (e_a8_u32 (fun _ => 0)))), (1, some (.var (e_a8_u32 (fun _ => 0))))], 2⟩) ⟨rfl, rfl, rfl, trivial⟩ ⟨rfl, rfl, trivial⟩ (Nat.le_refl _)) ?_
  refine aw_seq ?_
  refine aw_region (es := [_, _, _]) ⟨Step.plain rfl (does_move (.tmp 0) (e_s_a8_u32 p0) trivial), ⟨⟨rfl, trivial⟩, trivial, rfl⟩, rfl,
    Step.plain rfl (does_lens 67 8 p0.length 8 (fun j => (e_a8_u32 (p0.getD j (fun _ => 0)))) el67), ⟨⟨rfl, trivial⟩, trivial, rfl⟩, rfl,
    Step.plain rfl (does_move (.const (.int .i64 0)) (.int .i64 0) (fun _ => rfl)), ⟨trivial, trivial, rfl⟩, rfl, rfl⟩ ?_
  refine aw_cov (cov_prune (s1 := ⟨[(2, (.ptr 0 0 [])), (3, (.ptr 1 0 [])), (8, (e_s_a8_u32 p0)), (9, (.int .i64 (p0.length : Int))), (10, (.int .i64 0))], [(0, some (.var (e_a8_u32 (fun _ => 0)))), (1, some (.var (e_a8_u32 (fun _ => 0))))], 2⟩) ⟨rfl, rfl, rfl, rfl, rfl, trivial⟩ ⟨rfl, rfl, trivial⟩ (Nat.le_refl _)) ?_
  obtain ⟨wn2, hwn2, Hrn2⟩ := bnd H
  refine aw_meet (fun y11 : (Nat → Int) => (⟨[(2, (.ptr 0 0 [])), (3, (.ptr 1 0 []))], [(0, some (.var (e_a8_u32 (fun _ => 0)))), (1, some (.var (e_a8_u32 y11)))], 2⟩ : St)) (fun y11 => Fl.nx y11 = wn2) (fun y11 hy => ?_) (aw_block (aw_runs (fun x1 : Int × (Nat → Int) => (⟨[(2, (.ptr 0 0 [])), (3, (.ptr 1 0 [])), (8, (e_s_a8_u32 p0)), (9, (.int .i64 (p0.length : Int))), (10, (.int .i64 x1.1))], [(0, some (.var (e_a8_u32 (fun _ => 0)))), (1, some (.var (e_a8_u32 x1.2)))], 2⟩ : St)) hwn2 (cov_prune ⟨rfl, rfl, rfl, rfl, rfl, trivial⟩ ⟨rfl, rfl, trivial⟩ (Nat.le_of_ble_eq_true rfl)) (fun x1 st H hsn2 => ?_)))
  · have H := nx_of hy Hrn2
    refine nx_seq ?_
    refine aw_region (es := [_, _]) ⟨Step.plain rfl (does_load 29 3 1 0 [] (.var (e_a8_u32 y11)) (e_a8_u32 y11) trivial rfl rfl ty29), ⟨⟨rfl, trivial⟩, ⟨rfl, trivial⟩, rfl⟩, rfl,
      Step.plain rfl (does_store 29 2 (.tmp 28) 0 0 [] (.var (e_a8_u32 (fun _ => 0))) (.var (e_a8_u32 y11)) (e_a8_u32 y11) true trivial rfl trivial rfl rfl rfl ty29), ⟨⟨rfl, rfl, trivial⟩, ⟨rfl, trivial⟩, rfl⟩, rfl, rfl⟩ ?_
    refine aw_cov (cov_prune (s1 := ⟨[(2, (.ptr 0 0 []))], [(0, some (.var (e_a8_u32 y11)))], 2⟩) ⟨rfl, trivial⟩ ⟨rfl, trivial⟩ (Nat.le_refl _)) ?_
    refine aw_ret ?_
    exact fun a w hr => ⟨_, [(e_a8_u32 y11)], hr, ⟨⟨0, _, rfl, rfl, .data _ (d_a8_u32 y11), ty29⟩, trivial⟩, by decide, by cases H; rfl⟩
  · refine aw_region (es := [_]) ⟨Step.plain rfl (does_bin .lss 3 3 (.tmp 10) (.tmp 9) .i64 x1.1 (p0.length : Int) (.bool (decide (x1.1 < (p0.length : Int)))) trivial trivial (bin_lss _ _ _ _)), ⟨⟨rfl, rfl, trivial⟩, trivial, rfl⟩, rfl, rfl⟩ ?_
    refine aw_cov (cov_prune (s1 := ⟨[(2, (.ptr 0 0 [])), (3, (.ptr 1 0 [])), (8, (e_s_a8_u32 p0)), (9, (.int .i64 (p0.length : Int))), (10, (.int .i64 x1.1)), (11, (.bool (decide (x1.1 < (p0.length : Int)))))], [(0, some (.var (e_a8_u32 (fun _ => 0)))), (1, some (.var (e_a8_u32 x1.2)))], 2⟩) ⟨rfl, rfl, rfl, rfl, rfl, rfl, trivial⟩ ⟨rfl, rfl, trivial⟩ (Nat.le_refl _)) ?_
    refine aw_seq ?_
    refine aw_cond rfl (fun hc => ?_) (fun hc => ?_)
    · replace H := ite_t hc H
      refine aw_skip ?_
      refine nx_seq ?_
      refine aw_seq ?_
      refine aw_block ?_
      obtain ⟨h3, H⟩ := ib_of H
      refine aw_region (es := [_, _, _, _]) ⟨Step.plain rfl (does_indexAddrs 67 8 p0.length 8 (fun j => (e_a8_u32 (p0.getD j (fun _ => 0)))) (.tmp 10) .i64 x1.1 el67 trivial h3.1 h3.2), ⟨⟨rfl, rfl, trivial⟩, trivial, rfl⟩, rfl,
        Step.plain rfl (does_loadc 29 12 (e_a8_u32 (p0.getD x1.1.toNat (fun _ => 0))) ty29), ⟨⟨rfl, trivial⟩, trivial, rfl⟩, rfl,
        Step.plain rfl (does_alloc 29 2 (e_a8_u32 (fun _ => 0)) zr29), ⟨trivial, trivial, rfl⟩, rfl,
        Step.plain rfl (does_store 29 5 (.tmp 13) 2 0 [] (.var (e_a8_u32 (fun _ => 0))) (.var (e_a8_u32 (p0.getD x1.1.toNat (fun _ => 0)))) (e_a8_u32 (p0.getD x1.1.toNat (fun _ => 0))) true trivial rfl trivial rfl rfl rfl ty29), ⟨⟨rfl, rfl, trivial⟩, ⟨rfl, trivial⟩, rfl⟩, rfl, rfl⟩ ?_
      refine aw_cov (cov_prune (s1 := ⟨[(2, (.ptr 0 0 [])), (3, (.ptr 1 0 [])), (8, (e_s_a8_u32 p0)), (9, (.int .i64 (p0.length : Int))), (10, (.int .i64 x1.1)), (5, (.ptr 2 0 []))], [(0, some (.var (e_a8_u32 (fun _ => 0)))), (1, some (.var (e_a8_u32 x1.2))), (2, some (.var (e_a8_u32 (p0.getD x1.1.toNat (fun _ => 0)))))], 3⟩) ⟨rfl, rfl, rfl, rfl, rfl, rfl, trivial⟩ ⟨rfl, rfl, rfl, trivial⟩ (Nat.le_refl _)) ?_
      refine aw_region (es := [_, _]) ⟨Step.plain rfl (does_load 29 5 2 0 [] (.var (e_a8_u32 (p0.getD x1.1.toNat (fun _ => 0)))) (e_a8_u32 (p0.getD x1.1.toNat (fun _ => 0))) trivial rfl rfl ty29), ⟨⟨rfl, trivial⟩, ⟨rfl, trivial⟩, rfl⟩, rfl,
        Step.plain rfl (does_move (.const (.int .i64 0)) (.int .i64 0) (fun _ => rfl)), ⟨trivial, trivial, rfl⟩, rfl, rfl⟩ ?_
      refine aw_cov (cov_prune (s1 := ⟨[(2, (.ptr 0 0 [])), (3, (.ptr 1 0 [])), (8, (e_s_a8_u32 p0)), (9, (.int .i64 (p0.length : Int))), (10, (.int .i64 x1.1)), (14, (e_a8_u32 (p0.getD x1.1.toNat (fun _ => 0)))), (15, (.int .i64 0))], [(0, some (.var (e_a8_u32 (fun _ => 0)))), (1, some (.var (e_a8_u32 x1.2)))], 3⟩) ⟨rfl, rfl, rfl, rfl, rfl, rfl, rfl, trivial⟩ ⟨rfl, rfl, trivial⟩ (Nat.le_refl _)) ?_
      obtain ⟨wn5, hwn5, Hrn5⟩ := bnd H
      refine aw_meet (fun y10 : (Nat → Int) => (⟨[(2, (.ptr 0 0 [])), (3, (.ptr 1 0 [])), (8, (e_s_a8_u32 p0)), (9, (.int .i64 (p0.length : Int))), (10, (.int .i64 x1.1))], [(0, some (.var (e_a8_u32 (fun _ => 0)))), (1, some (.var (e_a8_u32 y10)))], 3⟩ : St)) (fun y10 => Fl.nx y10 = wn5) (fun y10 hy => ?_) (aw_block (aw_runs (fun x4 : Int × (Nat → Int) => (⟨[(2, (.ptr 0 0 [])), (3, (.ptr 1 0 [])), (8, (e_s_a8_u32 p0)), (9, (.int .i64 (p0.length : Int))), (10, (.int .i64 x1.1)), (14, (e_a8_u32 (p0.getD x1.1.toNat (fun _ => 0)))), (15, (.int .i64 x4.1))], [(0, some (.var (e_a8_u32 (fun _ => 0)))), (1, some (.var (e_a8_u32 x4.2)))], 3⟩ : St)) hwn5 (cov_prune ⟨rfl, rfl, rfl, rfl, rfl, rfl, rfl, trivial⟩ ⟨rfl, rfl, trivial⟩ (Nat.le_of_ble_eq_true rfl)) (fun x4 st H hsn5 => ?_)))
      · have H := nx_of hy Hrn5
        refine nx_blk ?_
        refine nx_seq ?_
        refine aw_region1 (es := [_, _]) ⟨Step.plain rfl (does_bin .add 3 3 (.tmp 10) (.const (.int .i64 1)) .i64 x1.1 1 (.int .i64 (IntKind.i64.wrap (x1.1 + 1))) trivial (fun _ => rfl) (bin_add _ _ _ _)), ⟨⟨rfl, trivial⟩, trivial, rfl⟩, rfl,
          Step.plain rfl (does_move (.tmp 27) (.int .i64 (IntKind.i64.wrap (x1.1 + 1))) trivial), ⟨⟨rfl, trivial⟩, trivial, rfl⟩, rfl, rfl⟩ ?_
        exact nx_loop ((IntKind.i64.wrap (x1.1 + 1)), y10) H (cov_of (fun i => match i with | 0 => 0 | 1 => 1 | k => k) ⟨⟨_, rfl, ⟨rfl, Nat.le_of_ble_eq_true rfl⟩⟩, ⟨_, rfl, ⟨rfl, Nat.le_of_ble_eq_true rfl⟩⟩, ⟨_, rfl, ⟨rfl, (d_s_a8_u32 _).plain⟩⟩, ⟨_, rfl, ⟨rfl, trivial⟩⟩, ⟨_, rfl, ⟨rfl, trivial⟩⟩, trivial⟩ ⟨⟨Nat.le_of_ble_eq_true rfl, _, _, rfl, rfl, .inl ⟨rfl, (d_a8_u32 _).plain⟩⟩, ⟨Nat.le_of_ble_eq_true rfl, _, _, rfl, rfl, .inl ⟨rfl, (d_a8_u32 _).plain⟩⟩, trivial⟩ rfl)
      · refine aw_region (es := [_]) ⟨Step.plain rfl (does_bin .lss 3 3 (.tmp 15) (.const (.int .i64 8)) .i64 x4.1 8 (.bool (decide (x4.1 < 8))) trivial (fun _ => rfl) (bin_lss _ _ _ _)), ⟨⟨rfl, trivial⟩, trivial, rfl⟩, rfl, rfl⟩ ?_
        refine aw_cov (cov_prune (s1 := ⟨[(2, (.ptr 0 0 [])), (3, (.ptr 1 0 [])), (8, (e_s_a8_u32 p0)), (9, (.int .i64 (p0.length : Int))), (10, (.int .i64 x1.1)), (14, (e_a8_u32 (p0.getD x1.1.toNat (fun _ => 0)))), (15, (.int .i64 x4.1)), (16, (.bool (decide (x4.1 < 8))))], [(0, some (.var (e_a8_u32 (fun _ => 0)))), (1, some (.var (e_a8_u32 x4.2)))], 3⟩) ⟨rfl, rfl, rfl, rfl, rfl, rfl, rfl, rfl, trivial⟩ ⟨rfl, rfl, trivial⟩ (Nat.le_refl _)) ?_
        refine aw_seq ?_
        refine aw_cond rfl (fun hc => ?_) (fun hc => ?_)
        · replace H := ite_t hc H
          refine aw_skip ?_
          refine nx_seq ?_
          refine aw_seq ?_
          refine aw_block ?_
          obtain ⟨h6, H⟩ := ib_of H
          refine aw_region (es := [_, _, _, _]) ⟨Step.plain rfl (does_move (.tmp 15) (.int .i64 x4.1) trivial), ⟨⟨rfl, trivial⟩, trivial, rfl⟩, rfl,
            Step.plain rfl (does_index 29 8 22 1 14 false (fun j => (.int .u32 ((p0.getD x1.1.toNat (fun _ => 0)) j))) (.tmp 15) .i64 x4.1 ua29 ty22 rfl trivial h6.1 h6.2), ⟨⟨rfl, rfl, trivial⟩, trivial, rfl⟩, rfl,
            Step.plain rfl (does_assign (.tmp 17) (.int .i64 x4.1) trivial), ⟨⟨rfl, trivial⟩, trivial, rfl⟩, rfl,
            Step.plain rfl (does_assign (.tmp 18) (.int .u32 ((p0.getD x1.1.toNat (fun _ => 0)) x4.1.toNat)) trivial), ⟨⟨rfl, trivial⟩, trivial, rfl⟩, rfl, rfl⟩ ?_
          refine aw_cov (cov_prune (s1 := ⟨[(2, (.ptr 0 0 [])), (3, (.ptr 1 0 [])), (8, (e_s_a8_u32 p0)), (9, (.int .i64 (p0.length : Int))), (10, (.int .i64 x1.1)), (14, (e_a8_u32 (p0.getD x1.1.toNat (fun _ => 0)))), (15, (.int .i64 x4.1)), (6, (.int .i64 x4.1)), (7, (.int .u32 ((p0.getD x1.1.toNat (fun _ => 0)) x4.1.toNat)))], [(0, some (.var (e_a8_u32 (fun _ => 0)))), (1, some (.var (e_a8_u32 x4.2)))], 3⟩) ⟨rfl, rfl, rfl, rfl, rfl, rfl, rfl, rfl, rfl, trivial⟩ ⟨rfl, rfl, trivial⟩ (Nat.le_refl _)) ?_
          obtain ⟨h7, H⟩ := ib_of H
          obtain ⟨h8, H⟩ := ib_of H
          refine aw_region1 (es := [_, _, _, _, _, _, _, _]) ⟨Step.plain rfl (does_move (.tmp 6) (.int .i64 x4.1) trivial), ⟨⟨rfl, trivial⟩, trivial, rfl⟩, rfl,
            Step.plain rfl (does_move (.tmp 6) (.int .i64 x4.1) trivial), ⟨⟨rfl, trivial⟩, trivial, rfl⟩, rfl,
            Step.plain rfl (does_indexAddr 29 8 1 3 1 0 [] (.var (e_a8_u32 x4.2)) (.tmp 20) .i64 x4.1 el29 trivial h7.1 h7.2), ⟨⟨rfl, rfl, trivial⟩, ⟨rfl, trivial⟩, rfl⟩, rfl,
            Step.plain rfl (does_load 22 21 1 (0 + x4.1.toNat * 1) [x4.1.toNat] (.var (e_a8_u32 x4.2)) (.int .u32 (x4.2 x4.1.toNat)) ⟨rfl, (ixl h7), trivial⟩ rfl rfl ty22), ⟨⟨rfl, trivial⟩, ⟨rfl, trivial⟩, rfl⟩, rfl,
            Step.plain rfl (does_move (.tmp 7) (.int .u32 ((p0.getD x1.1.toNat (fun _ => 0)) x4.1.toNat)) trivial), ⟨⟨rfl, trivial⟩, trivial, rfl⟩, rfl,
            Step.plain rfl (does_max _ _ (.tmp 22) (.tmp 23) rfl .u32 (x4.2 x4.1.toNat) ((p0.getD x1.1.toNat (fun _ => 0)) x4.1.toNat) trivial trivial), ⟨⟨rfl, rfl, trivial⟩, trivial, rfl⟩, rfl,
            Step.plain rfl (does_indexAddr 29 8 1 3 1 0 [] (.var (e_a8_u32 x4.2)) (.tmp 19) .i64 x4.1 el29 trivial h8.1 h8.2), ⟨⟨rfl, rfl, trivial⟩, ⟨rfl, trivial⟩, rfl⟩, rfl,
            Step.plain rfl (does_store 22 25 (.tmp 24) 1 (0 + x4.1.toNat * 1) [x4.1.toNat] (.var (e_a8_u32 x4.2)) (.var (e_a8_u32 (aupd x4.2 x4.1.toNat (if (x4.2 x4.1.toNat) < ((p0.getD x1.1.toNat (fun _ => 0)) x4.1.toNat) then (p0.getD x1.1.toNat (fun _ => 0)) x4.1.toNat else x4.2 x4.1.toNat)))) (.int .u32 (if (x4.2 x4.1.toNat) < ((p0.getD x1.1.toNat (fun _ => 0)) x4.1.toNat) then (p0.getD x1.1.toNat (fun _ => 0)) x4.1.toNat else x4.2 x4.1.toNat)) false trivial rfl ⟨rfl, (ixl h8), trivial⟩ rfl rfl (congrArg Box.var (set_cons rfl (vupd_map (fun z => V.int .u32 z) _ _ _))) ty22), ⟨⟨rfl, rfl, trivial⟩, ⟨rfl, trivial⟩, rfl⟩, rfl, rfl⟩ ?_
          refine nx_blk ?_
          refine nx_seq ?_
          obtain ⟨v9, hv9, H⟩ := lt_of H
          refine aw_cov (cov_prune (s1 := ⟨[(2, (.ptr 0 0 [])), (3, (.ptr 1 0 [])), (8, (e_s_a8_u32 p0)), (9, (.int .i64 (p0.length : Int))), (10, (.int .i64 x1.1)), (14, (e_a8_u32 (p0.getD x1.1.toNat (fun _ => 0)))), (15, (.int .i64 x4.1))], [(0, some (.var (e_a8_u32 (fun _ => 0)))), (1, some (.var (e_a8_u32 v9)))], 3⟩) ⟨rfl, rfl, rfl, rfl, rfl, rfl, rfl, trivial⟩ ⟨rfl, (by subst hv9; rfl), trivial⟩ (Nat.le_refl _)) ?_
          refine aw_region1 (es := [_, _]) ⟨Step.plain rfl (does_bin .add 3 3 (.tmp 15) (.const (.int .i64 1)) .i64 x4.1 1 (.int .i64 (IntKind.i64.wrap (x4.1 + 1))) trivial (fun _ => rfl) (bin_add _ _ _ _)), ⟨⟨rfl, trivial⟩, trivial, rfl⟩, rfl,
            Step.plain rfl (does_move (.tmp 26) (.int .i64 (IntKind.i64.wrap (x4.1 + 1))) trivial), ⟨⟨rfl, trivial⟩, trivial, rfl⟩, rfl, rfl⟩ ?_
          exact nx_loop ((IntKind.i64.wrap (x4.1 + 1)), v9) H (cov_prune ⟨rfl, rfl, rfl, rfl, rfl, rfl, rfl, trivial⟩ ⟨rfl, rfl, trivial⟩ (Nat.le_of_ble_eq_true rfl))
        · replace H := ite_f hc H
          refine aw_exit ?_
          refine ex_then ?_
          refine ex_then ?_
          refine ex_here ?_
          exact nx_ljoin (x4.2) H hsn5 (cov_prune ⟨rfl, rfl, rfl, rfl, rfl, trivial⟩ ⟨rfl, rfl, trivial⟩ (Nat.le_of_ble_eq_true rfl))
    · replace H := ite_f hc H
      refine aw_exit ?_
      refine ex_then ?_
      refine ex_then ?_
      refine ex_here ?_
      exact nx_ljoin (x1.2) H hsn2 (cov_prune ⟨rfl, rfl, trivial⟩ ⟨rfl, rfl, trivial⟩ (Nat.le_of_ble_eq_true rfl))
end Go.Proofs.Yteajgbkgijaebaa
