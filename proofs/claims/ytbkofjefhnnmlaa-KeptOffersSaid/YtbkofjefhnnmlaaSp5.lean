/- Printed by gen.py. Conditions: none. -/
import Derived.Test.YtbkofjefhnnmlaaSp4
import Derived.KernelRfl
set_option linter.unusedVariables false
set_option maxRecDepth 100000
namespace Go.Proofs.Ytbkofjefhnnmlaa
open Go.Eng
set_option maxHeartbeats 1600000
theorem congresslaw10_KeptBlind_spec (p0 : congresslaw10_Was) (p1 : api_Packet) (p2 : (Nat → (Nat → api_Entry))) (r : Bool) (H : congresslaw10_KeptBlind p0 p1 p2 = some r) : FSpec Try.prog 6 [(e_congresslaw10_Was p0), (e_api_Packet p1), (e_a3_a2_api_Entry p2)] (.bool r) := by
  refine spec_of (fn := Try.f6) (args := [(e_congresslaw10_Was p0), (e_api_Packet p1), (e_a3_a2_api_Entry p2)]) Try.func6 rfl (Nat.le_of_ble_eq_true rfl) ?_
  rintro ⟨G, w0, W, S, Sp⟩ hG
  cases hG
  unfold congresslaw10_KeptBlind at H
  refine aw_region (es := [_, _, _, _]) ⟨Step.plain rfl (does_box 28 (.tmp 0) 0 (e_congresslaw10_Was p0) trivial rfl), ⟨⟨rfl, trivial⟩, trivial, rfl⟩, rfl,
    Step.plain rfl (does_box 51 (.tmp 1) 1 (e_api_Packet p1) trivial rfl), ⟨⟨rfl, trivial⟩, trivial, rfl⟩, rfl,
    Step.plain rfl (does_box 34 (.tmp 2) 2 (e_a3_a2_api_Entry p2) trivial rfl), ⟨⟨rfl, trivial⟩, trivial, rfl⟩, rfl,
    Step.plain rfl (does_assign (.const (.bool false)) (.bool false) (fun _ => rfl)), ⟨trivial, trivial, rfl⟩, rfl, rfl⟩ ?_
  refine aw_cov (cov_prune (s1 := ⟨[(3, (.ptr 0 0 [])), (4, (.ptr 1 0 [])), (5, (.ptr 2 0 []))], [(0, some (.var (e_congresslaw10_Was p0))), (1, some (.var (e_api_Packet p1))), (2, some (.var (e_a3_a2_api_Entry p2)))], 3⟩) ⟨rfl, rfl, rfl, trivial⟩ ⟨rfl, rfl, rfl, trivial⟩ (Nat.le_refl _)) ?_
  refine aw_region (es := [_, _, _]) ⟨Step.plain rfl (does_buildT 25 #[] [] [] (.ar 8 1) (fun j => (.int .u32 ((fun _ => 0) j))) (fun j => (.int .u32 ((aset (fun _ => 0) []) j))) rfl bo25 trivial trivial (setAll_map (fun z => V.int .u32 z) [] _)), ⟨trivial, trivial, rfl⟩, rfl,
    Step.plain rfl (does_alloc 25 3 (e_a8_u32 (fun _ => 0)) zr25), ⟨trivial, trivial, rfl⟩, rfl,
    Step.plain rfl (does_store 25 7 (.tmp 18) 3 0 [] (.var (e_a8_u32 (fun _ => 0))) (.var (e_a8_u32 (aset (fun _ => 0) []))) (e_a8_u32 (aset (fun _ => 0) [])) true trivial rfl trivial rfl rfl rfl ty25), ⟨⟨rfl, rfl, trivial⟩, ⟨rfl, trivial⟩, rfl⟩, rfl, rfl⟩ ?_
  refine aw_cov (cov_prune (s1 := ⟨[(3, (.ptr 0 0 [])), (4, (.ptr 1 0 [])), (5, (.ptr 2 0 [])), (7, (.ptr 3 0 []))], [(0, some (.var (e_congresslaw10_Was p0))), (1, some (.var (e_api_Packet p1))), (2, some (.var (e_a3_a2_api_Entry p2))), (3, some (.var (e_a8_u32 (aset (fun _ => 0) []))))], 4⟩) ⟨rfl, rfl, rfl, rfl, trivial⟩ ⟨rfl, rfl, rfl, rfl, trivial⟩ (Nat.le_refl _)) ?_
  refine aw_seq ?_
  refine aw_region (es := [_]) ⟨Step.plain rfl (does_assign (.const (.int .i64 0)) (.int .i64 0) (fun _ => rfl)), ⟨trivial, trivial, rfl⟩, rfl, rfl⟩ ?_
  refine aw_cov (cov_prune (s1 := ⟨[(3, (.ptr 0 0 [])), (4, (.ptr 1 0 [])), (5, (.ptr 2 0 [])), (7, (.ptr 3 0 [])), (8, (.int .i64 0))], [(0, some (.var (e_congresslaw10_Was p0))), (1, some (.var (e_api_Packet p1))), (2, some (.var (e_a3_a2_api_Entry p2))), (3, some (.var (e_a8_u32 (aset (fun _ => 0) []))))], 4⟩) ⟨rfl, rfl, rfl, rfl, rfl, trivial⟩ ⟨rfl, rfl, rfl, rfl, trivial⟩ (Nat.le_refl _)) ?_
  obtain ⟨wn2, hwn2, Hrn2⟩ := bnd H
  refine aw_meet (fun y4 : (Nat → Int) => (⟨[(3, (.ptr 0 0 [])), (4, (.ptr 1 0 [])), (5, (.ptr 2 0 [])), (7, (.ptr 3 0 []))], [(0, some (.var (e_congresslaw10_Was p0))), (1, some (.var (e_api_Packet p1))), (2, some (.var (e_a3_a2_api_Entry p2))), (3, some (.var (e_a8_u32 y4)))], 4⟩ : St)) (fun y4 => Fl.nx y4 = wn2) (fun y4 hy => ?_) (aw_block (aw_runs (fun x1 : Int × (Nat → Int) => (⟨[(3, (.ptr 0 0 [])), (4, (.ptr 1 0 [])), (5, (.ptr 2 0 [])), (7, (.ptr 3 0 [])), (8, (.int .i64 x1.1))], [(0, some (.var (e_congresslaw10_Was p0))), (1, some (.var (e_api_Packet p1))), (2, some (.var (e_a3_a2_api_Entry p2))), (3, some (.var (e_a8_u32 x1.2)))], 4⟩ : St)) hwn2 (cov_prune ⟨rfl, rfl, rfl, rfl, rfl, trivial⟩ ⟨rfl, rfl, rfl, rfl, trivial⟩ (Nat.le_of_ble_eq_true rfl)) (fun x1 st H hsn2 => ?_)))
  · have H := nx_of hy Hrn2
    refine nx_seq ?_
    refine aw_region (es := [_, _, _]) ⟨Step.plain rfl (does_load 51 4 1 0 [] (.var (e_api_Packet p1)) (e_api_Packet p1) trivial rfl rfl ty51), ⟨⟨rfl, trivial⟩, ⟨rfl, trivial⟩, rfl⟩, rfl,
      Step.plain rfl (does_alloc 51 4 (e_api_Packet z_api_Packet) zr51), ⟨trivial, trivial, rfl⟩, rfl,
      Step.plain rfl (does_store 51 9 (.tmp 25) 4 0 [] (.var (e_api_Packet z_api_Packet)) (.var (e_api_Packet p1)) (e_api_Packet p1) true trivial rfl trivial rfl rfl rfl ty51), ⟨⟨rfl, rfl, trivial⟩, ⟨rfl, trivial⟩, rfl⟩, rfl, rfl⟩ ?_
    refine aw_cov (cov_prune (s1 := ⟨[(3, (.ptr 0 0 [])), (4, (.ptr 1 0 [])), (5, (.ptr 2 0 [])), (7, (.ptr 3 0 [])), (9, (.ptr 4 0 []))], [(0, some (.var (e_congresslaw10_Was p0))), (1, some (.var (e_api_Packet p1))), (2, some (.var (e_a3_a2_api_Entry p2))), (3, some (.var (e_a8_u32 y4))), (4, some (.var (e_api_Packet p1)))], 5⟩) ⟨rfl, rfl, rfl, rfl, rfl, trivial⟩ ⟨rfl, rfl, rfl, rfl, rfl, trivial⟩ (Nat.le_refl _)) ?_
    refine aw_region (es := [_, _, _]) ⟨Step.plain rfl (does_load 34 5 2 0 [] (.var (e_a3_a2_api_Entry p2)) (e_a3_a2_api_Entry p2) trivial rfl rfl ty34), ⟨⟨rfl, trivial⟩, ⟨rfl, trivial⟩, rfl⟩, rfl,
      Step.plain rfl (does_fieldAddr 51 10 35 9 4 0 [] (.var (e_api_Packet p1)) fl51_10), ⟨⟨rfl, trivial⟩, ⟨rfl, trivial⟩, rfl⟩, rfl,
      Step.plain rfl (does_store 34 27 (.tmp 26) 4 (0 + 35) [10] (.var (e_api_Packet p1)) (.var (e_api_Packet ({ p1 with Newest := p2 }))) (e_a3_a2_api_Entry p2) true trivial rfl ⟨rfl, Nat.le_of_ble_eq_true rfl, trivial⟩ rfl rfl (congrArg Box.var (set_cons rfl (st_api_Packet_10 _ _))) ty34), ⟨⟨rfl, rfl, trivial⟩, ⟨rfl, trivial⟩, rfl⟩, rfl, rfl⟩ ?_
    refine aw_cov (cov_prune (s1 := ⟨[(3, (.ptr 0 0 [])), (4, (.ptr 1 0 [])), (5, (.ptr 2 0 [])), (7, (.ptr 3 0 [])), (9, (.ptr 4 0 []))], [(0, some (.var (e_congresslaw10_Was p0))), (1, some (.var (e_api_Packet p1))), (2, some (.var (e_a3_a2_api_Entry p2))), (3, some (.var (e_a8_u32 y4))), (4, some (.var (e_api_Packet ({ p1 with Newest := p2 }))))], 5⟩) ⟨rfl, rfl, rfl, rfl, rfl, trivial⟩ ⟨rfl, rfl, rfl, rfl, rfl, trivial⟩ (Nat.le_refl _)) ?_
    refine aw_region (es := [_, _, _]) ⟨Step.plain rfl (does_load 34 5 2 0 [] (.var (e_a3_a2_api_Entry p2)) (e_a3_a2_api_Entry p2) trivial rfl rfl ty34), ⟨⟨rfl, trivial⟩, ⟨rfl, trivial⟩, rfl⟩, rfl,
      Step.plain rfl (does_fieldAddr 51 11 71 9 4 0 [] (.var (e_api_Packet ({ p1 with Newest := p2 }))) fl51_11), ⟨⟨rfl, trivial⟩, ⟨rfl, trivial⟩, rfl⟩, rfl,
      Step.plain rfl (does_store 34 29 (.tmp 28) 4 (0 + 71) [11] (.var (e_api_Packet ({ p1 with Newest := p2 }))) (.var (e_api_Packet ({ { p1 with Newest := p2 } with Older := p2 }))) (e_a3_a2_api_Entry p2) true trivial rfl ⟨rfl, Nat.le_of_ble_eq_true rfl, trivial⟩ rfl rfl (congrArg Box.var (set_cons rfl (st_api_Packet_11 _ _))) ty34), ⟨⟨rfl, rfl, trivial⟩, ⟨rfl, trivial⟩, rfl⟩, rfl, rfl⟩ ?_
    obtain ⟨v5, hv5, H⟩ := lt_of H
    refine aw_cov (cov_prune (s1 := ⟨[(3, (.ptr 0 0 [])), (4, (.ptr 1 0 [])), (5, (.ptr 2 0 [])), (7, (.ptr 3 0 [])), (9, (.ptr 4 0 []))], [(0, some (.var (e_congresslaw10_Was p0))), (1, some (.var (e_api_Packet p1))), (2, some (.var (e_a3_a2_api_Entry p2))), (3, some (.var (e_a8_u32 y4))), (4, some (.var (e_api_Packet v5)))], 5⟩) ⟨rfl, rfl, rfl, rfl, rfl, trivial⟩ ⟨rfl, rfl, rfl, rfl, (by subst hv5; rfl), trivial⟩ (Nat.le_refl _)) ?_
    refine aw_region (es := [_, _, _]) ⟨Step.plain rfl (does_load 34 5 2 0 [] (.var (e_a3_a2_api_Entry p2)) (e_a3_a2_api_Entry p2) trivial rfl rfl ty34), ⟨⟨rfl, trivial⟩, ⟨rfl, trivial⟩, rfl⟩, rfl,
      Step.plain rfl (does_fieldAddr 51 14 109 9 4 0 [] (.var (e_api_Packet v5)) fl51_14), ⟨⟨rfl, trivial⟩, ⟨rfl, trivial⟩, rfl⟩, rfl,
      Step.plain rfl (does_store 34 31 (.tmp 30) 4 (0 + 109) [14] (.var (e_api_Packet v5)) (.var (e_api_Packet ({ v5 with Relay := p2 }))) (e_a3_a2_api_Entry p2) true trivial rfl ⟨rfl, Nat.le_of_ble_eq_true rfl, trivial⟩ rfl rfl (congrArg Box.var (set_cons rfl (st_api_Packet_14 _ _))) ty34), ⟨⟨rfl, rfl, trivial⟩, ⟨rfl, trivial⟩, rfl⟩, rfl, rfl⟩ ?_
    refine aw_cov (cov_prune (s1 := ⟨[(3, (.ptr 0 0 [])), (4, (.ptr 1 0 [])), (5, (.ptr 2 0 [])), (7, (.ptr 3 0 [])), (9, (.ptr 4 0 []))], [(0, some (.var (e_congresslaw10_Was p0))), (1, some (.var (e_api_Packet p1))), (2, some (.var (e_a3_a2_api_Entry p2))), (3, some (.var (e_a8_u32 y4))), (4, some (.var (e_api_Packet ({ v5 with Relay := p2 }))))], 5⟩) ⟨rfl, rfl, rfl, rfl, rfl, trivial⟩ ⟨rfl, rfl, rfl, rfl, rfl, trivial⟩ (Nat.le_refl _)) ?_
    obtain ⟨v6, h7, H⟩ := bnd H
    refine aw_region (es := [_, _, _, _, _, _, _, _, _, _, _, _, _, _, _, _, _]) ⟨Step.plain rfl (does_fieldAddr 28 0 0 3 0 0 [] (.var (e_congresslaw10_Was p0)) fl28_0), ⟨⟨rfl, trivial⟩, ⟨rfl, trivial⟩, rfl⟩, rfl,
      Step.plain rfl (does_load 22 33 0 (0 + 0) [0] (.var (e_congresslaw10_Was p0)) (e_s_api_Kept p0.L) ⟨rfl, Nat.le_of_ble_eq_true rfl, trivial⟩ rfl rfl ty22), ⟨⟨rfl, trivial⟩, ⟨rfl, trivial⟩, rfl⟩, rfl,
      Step.plain rfl (does_fieldAddr 28 1 1 3 0 0 [] (.var (e_congresslaw10_Was p0)) fl28_1), ⟨⟨rfl, trivial⟩, ⟨rfl, trivial⟩, rfl⟩, rfl,
      Step.plain rfl (does_load 25 35 0 (0 + 1) [1] (.var (e_congresslaw10_Was p0)) (e_a8_u32 p0.C) ⟨rfl, Nat.le_of_ble_eq_true rfl, trivial⟩ rfl rfl ty25), ⟨⟨rfl, trivial⟩, ⟨rfl, trivial⟩, rfl⟩, rfl,
      Step.plain rfl (does_fieldAddr 28 2 9 3 0 0 [] (.var (e_congresslaw10_Was p0)) fl28_2), ⟨⟨rfl, trivial⟩, ⟨rfl, trivial⟩, rfl⟩, rfl,
      Step.plain rfl (does_load 26 37 0 (0 + 9) [2] (.var (e_congresslaw10_Was p0)) (e_a8_u32 p0.M) ⟨rfl, Nat.le_of_ble_eq_true rfl, trivial⟩ rfl rfl ty26), ⟨⟨rfl, trivial⟩, ⟨rfl, trivial⟩, rfl⟩, rfl,
      Step.plain rfl (does_load 51 4 1 0 [] (.var (e_api_Packet p1)) (e_api_Packet p1) trivial rfl rfl ty51), ⟨⟨rfl, trivial⟩, ⟨rfl, trivial⟩, rfl⟩, rfl,
      Step.plain rfl (does_load 25 7 3 0 [] (.var (e_a8_u32 y4)) (e_a8_u32 y4) trivial rfl rfl ty25), ⟨⟨rfl, trivial⟩, ⟨rfl, trivial⟩, rfl⟩, rfl,
      Step.plain rfl (does_callO 16 0 (fun _ => .any) (.func 16) [(.tmp 34), (.tmp 36), (.tmp 38), (.tmp 39), (.tmp 40)] [(e_s_api_Kept p0.L), (e_a8_u32 p0.C), (e_a8_u32 p0.M), (e_api_Packet p1), (e_a8_u32 y4)] [] [] true [(e_s_api_Kept p0.L), (e_a8_u32 p0.C), (e_a8_u32 p0.M), (e_api_Packet p1), (e_a8_u32 y4)] _ (resV [(.own 5), (e_a8_u32 v6.2.1), (.own 6)]) _ 5 3 _ _ rfl fo16 rfl ⟨trivial, trivial, trivial, trivial, trivial, trivial⟩ ⟨.ro _ _ (.data _ (d_s_api_Kept p0.L)), .ro _ _ (.data _ (d_a8_u32 p0.C)), .ro _ _ (.data _ (d_a8_u32 p0.M)), .ro _ _ (.data _ (d_api_Packet p1)), .ro _ _ (.data _ (d_a8_u32 y4)), trivial⟩ (kept_Offer_spec p0.L p0.C p0.M p1 y4 _ h7) rfl (by simp) rfl trivial ⟨⟨Nat.le_of_ble_eq_true rfl, _, rfl, fun _ => (f_api_Kept _)⟩, ⟨Nat.le_of_ble_eq_true rfl, _, rfl, fun _ => (f_api_Kept _)⟩, trivial⟩ (.tup _ _ _ (fun j => match j with | 0 => .own 0 (Nat.le_of_ble_eq_true rfl) | 1 => .data _ ((f_a8_u32 v6.2.1)) | 2 => .own 1 (Nat.le_of_ble_eq_true rfl) | _ + 3 => .data _ trivial))), ⟨⟨rfl, rfl, rfl, rfl, rfl, trivial⟩, trivial, rfl⟩, rfl,
      Step.plain rfl (does_move (.tmp 41) (resV [(.own 5), (e_a8_u32 v6.2.1), (.own 6)]) trivial), ⟨⟨rfl, trivial⟩, trivial, rfl⟩, rfl,
      Step.plain rfl (does_extract 32 0 3 (fun j => [(.own 5), (e_a8_u32 v6.2.1), (.own 6)].getD j (.bool false)) (Nat.le_of_ble_eq_true rfl)), ⟨⟨rfl, trivial⟩, trivial, rfl⟩, rfl,
      Step.plain rfl (does_extract 32 1 3 (fun j => [(.own 5), (e_a8_u32 v6.2.1), (.own 6)].getD j (.bool false)) (Nat.le_of_ble_eq_true rfl)), ⟨⟨rfl, trivial⟩, trivial, rfl⟩, rfl,
      Step.plain rfl (does_extract 32 2 3 (fun j => [(.own 5), (e_a8_u32 v6.2.1), (.own 6)].getD j (.bool false)) (Nat.le_of_ble_eq_true rfl)), ⟨⟨rfl, trivial⟩, trivial, rfl⟩, rfl,
      Step.plain rfl (does_alloc 25 8 (e_a8_u32 (fun _ => 0)) zr25), ⟨trivial, trivial, rfl⟩, rfl,
      Step.plain rfl (does_assign (.tmp 42) (.own 5) trivial), ⟨⟨rfl, trivial⟩, trivial, rfl⟩, rfl,
      Step.plain rfl (does_store 25 11 (.tmp 43) 8 0 [] (.var (e_a8_u32 (fun _ => 0))) (.var (e_a8_u32 v6.2.1)) (e_a8_u32 v6.2.1) true trivial rfl trivial rfl rfl rfl ty25), ⟨⟨rfl, rfl, trivial⟩, ⟨rfl, trivial⟩, rfl⟩, rfl,
      Step.plain rfl (does_assign (.tmp 44) (.own 6) trivial), ⟨⟨rfl, trivial⟩, trivial, rfl⟩, rfl, rfl⟩ ?_
    refine aw_cov (cov_prune (s1 := ⟨[(3, (.ptr 0 0 [])), (5, (.ptr 2 0 [])), (7, (.ptr 3 0 [])), (9, (.ptr 4 0 [])), (11, (.ptr 8 0 [])), (10, (.own 5)), (12, (.own 6))], [(0, some (.var (e_congresslaw10_Was p0))), (2, some (.var (e_a3_a2_api_Entry p2))), (3, some (.var (e_a8_u32 y4))), (4, some (.var (e_api_Packet ({ v5 with Relay := p2 })))), (5, some (.arr 38 v6.1.length fun j => (e_api_Kept (v6.1.getD j z_api_Kept)))), (6, some (.arr 38 v6.2.2.length fun j => (e_api_Kept (v6.2.2.getD j z_api_Kept)))), (8, some (.var (e_a8_u32 v6.2.1)))], 9⟩) ⟨rfl, rfl, rfl, rfl, rfl, rfl, rfl, trivial⟩ ⟨rfl, rfl, rfl, rfl, rfl, rfl, rfl, trivial⟩ (Nat.le_refl _)) ?_
    obtain ⟨v8, h9, H⟩ := bnd H
    refine aw_region (es := [_, _, _, _, _, _, _, _, _, _, _, _, _, _, _, _, _]) ⟨Step.plain rfl (does_fieldAddr 28 0 0 3 0 0 [] (.var (e_congresslaw10_Was p0)) fl28_0), ⟨⟨rfl, trivial⟩, ⟨rfl, trivial⟩, rfl⟩, rfl,
      Step.plain rfl (does_load 22 46 0 (0 + 0) [0] (.var (e_congresslaw10_Was p0)) (e_s_api_Kept p0.L) ⟨rfl, Nat.le_of_ble_eq_true rfl, trivial⟩ rfl rfl ty22), ⟨⟨rfl, trivial⟩, ⟨rfl, trivial⟩, rfl⟩, rfl,
      Step.plain rfl (does_fieldAddr 28 1 1 3 0 0 [] (.var (e_congresslaw10_Was p0)) fl28_1), ⟨⟨rfl, trivial⟩, ⟨rfl, trivial⟩, rfl⟩, rfl,
      Step.plain rfl (does_load 25 48 0 (0 + 1) [1] (.var (e_congresslaw10_Was p0)) (e_a8_u32 p0.C) ⟨rfl, Nat.le_of_ble_eq_true rfl, trivial⟩ rfl rfl ty25), ⟨⟨rfl, trivial⟩, ⟨rfl, trivial⟩, rfl⟩, rfl,
      Step.plain rfl (does_fieldAddr 28 2 9 3 0 0 [] (.var (e_congresslaw10_Was p0)) fl28_2), ⟨⟨rfl, trivial⟩, ⟨rfl, trivial⟩, rfl⟩, rfl,
      Step.plain rfl (does_load 26 50 0 (0 + 9) [2] (.var (e_congresslaw10_Was p0)) (e_a8_u32 p0.M) ⟨rfl, Nat.le_of_ble_eq_true rfl, trivial⟩ rfl rfl ty26), ⟨⟨rfl, trivial⟩, ⟨rfl, trivial⟩, rfl⟩, rfl,
      Step.plain rfl (does_load 51 9 4 0 [] (.var (e_api_Packet ({ v5 with Relay := p2 }))) (e_api_Packet ({ v5 with Relay := p2 })) trivial rfl rfl ty51), ⟨⟨rfl, trivial⟩, ⟨rfl, trivial⟩, rfl⟩, rfl,
      Step.plain rfl (does_load 25 7 3 0 [] (.var (e_a8_u32 y4)) (e_a8_u32 y4) trivial rfl rfl ty25), ⟨⟨rfl, trivial⟩, ⟨rfl, trivial⟩, rfl⟩, rfl,
      Step.plain rfl (does_callO 16 0 (fun _ => .any) (.func 16) [(.tmp 47), (.tmp 49), (.tmp 51), (.tmp 52), (.tmp 53)] [(e_s_api_Kept p0.L), (e_a8_u32 p0.C), (e_a8_u32 p0.M), (e_api_Packet ({ v5 with Relay := p2 })), (e_a8_u32 y4)] [] [] true [(e_s_api_Kept p0.L), (e_a8_u32 p0.C), (e_a8_u32 p0.M), (e_api_Packet ({ v5 with Relay := p2 })), (e_a8_u32 y4)] _ (resV [(.own 9), (e_a8_u32 v8.2.1), (.own 10)]) _ 9 3 _ _ rfl fo16 rfl ⟨trivial, trivial, trivial, trivial, trivial, trivial⟩ ⟨.ro _ _ (.data _ (d_s_api_Kept p0.L)), .ro _ _ (.data _ (d_a8_u32 p0.C)), .ro _ _ (.data _ (d_a8_u32 p0.M)), .ro _ _ (.data _ (d_api_Packet ({ v5 with Relay := p2 }))), .ro _ _ (.data _ (d_a8_u32 y4)), trivial⟩ (kept_Offer_spec p0.L p0.C p0.M ({ v5 with Relay := p2 }) y4 _ h9) rfl (by simp) rfl trivial ⟨⟨Nat.le_of_ble_eq_true rfl, _, rfl, fun _ => (f_api_Kept _)⟩, ⟨Nat.le_of_ble_eq_true rfl, _, rfl, fun _ => (f_api_Kept _)⟩, trivial⟩ (.tup _ _ _ (fun j => match j with | 0 => .own 0 (Nat.le_of_ble_eq_true rfl) | 1 => .data _ ((f_a8_u32 v8.2.1)) | 2 => .own 1 (Nat.le_of_ble_eq_true rfl) | _ + 3 => .data _ trivial))), ⟨⟨rfl, rfl, rfl, rfl, rfl, trivial⟩, trivial, rfl⟩, rfl,
      Step.plain rfl (does_move (.tmp 54) (resV [(.own 9), (e_a8_u32 v8.2.1), (.own 10)]) trivial), ⟨⟨rfl, trivial⟩, trivial, rfl⟩, rfl,
      Step.plain rfl (does_extract 45 0 3 (fun j => [(.own 9), (e_a8_u32 v8.2.1), (.own 10)].getD j (.bool false)) (Nat.le_of_ble_eq_true rfl)), ⟨⟨rfl, trivial⟩, trivial, rfl⟩, rfl,
      Step.plain rfl (does_extract 45 1 3 (fun j => [(.own 9), (e_a8_u32 v8.2.1), (.own 10)].getD j (.bool false)) (Nat.le_of_ble_eq_true rfl)), ⟨⟨rfl, trivial⟩, trivial, rfl⟩, rfl,
      Step.plain rfl (does_extract 45 2 3 (fun j => [(.own 9), (e_a8_u32 v8.2.1), (.own 10)].getD j (.bool false)) (Nat.le_of_ble_eq_true rfl)), ⟨⟨rfl, trivial⟩, trivial, rfl⟩, rfl,
      Step.plain rfl (does_alloc 25 12 (e_a8_u32 (fun _ => 0)) zr25), ⟨trivial, trivial, rfl⟩, rfl,
      Step.plain rfl (does_assign (.tmp 55) (.own 9) trivial), ⟨⟨rfl, trivial⟩, trivial, rfl⟩, rfl,
      Step.plain rfl (does_store 25 14 (.tmp 56) 12 0 [] (.var (e_a8_u32 (fun _ => 0))) (.var (e_a8_u32 v8.2.1)) (e_a8_u32 v8.2.1) true trivial rfl trivial rfl rfl rfl ty25), ⟨⟨rfl, rfl, trivial⟩, ⟨rfl, trivial⟩, rfl⟩, rfl,
      Step.plain rfl (does_assign (.tmp 57) (.own 10) trivial), ⟨⟨rfl, trivial⟩, trivial, rfl⟩, rfl, rfl⟩ ?_
    refine aw_cov (cov_prune (s1 := ⟨[(5, (.ptr 2 0 [])), (11, (.ptr 8 0 [])), (10, (.own 5)), (12, (.own 6)), (14, (.ptr 12 0 [])), (13, (.own 9)), (15, (.own 10))], [(2, some (.var (e_a3_a2_api_Entry p2))), (5, some (.arr 38 v6.1.length fun j => (e_api_Kept (v6.1.getD j z_api_Kept)))), (6, some (.arr 38 v6.2.2.length fun j => (e_api_Kept (v6.2.2.getD j z_api_Kept)))), (8, some (.var (e_a8_u32 v6.2.1))), (9, some (.arr 38 v8.1.length fun j => (e_api_Kept (v8.1.getD j z_api_Kept)))), (10, some (.arr 38 v8.2.2.length fun j => (e_api_Kept (v8.2.2.getD j z_api_Kept)))), (12, some (.var (e_a8_u32 v8.2.1)))], 13⟩) ⟨rfl, rfl, rfl, rfl, rfl, rfl, rfl, trivial⟩ ⟨rfl, rfl, rfl, rfl, rfl, rfl, rfl, trivial⟩ (Nat.le_refl _)) ?_
    refine aw_seq ?_
    obtain ⟨v10, h11, H⟩ := bnd H
    refine aw_region (es := [_, _, _, _, _, _, _, _, _, _, _, _, _, _, _, _, _, _, _, _, _]) ⟨Step.plain rfl (does_call 13 0 (fun _ => .any) (.func 13) [] [] [] true [] (.bool v10) _ _ rfl fo13 rfl trivial trivial (congresslaw10_fixed_spec _ h11) trivial), ⟨trivial, trivial, rfl⟩, rfl,
      Step.plain rfl (does_not 4 (.tmp 58) v10 trivial), ⟨⟨rfl, trivial⟩, trivial, rfl⟩, rfl,
      Step.plain rfl (does_move (.tmp 59) (.bool (!v10)) trivial), ⟨⟨rfl, trivial⟩, trivial, rfl⟩, rfl,
      Step.guarded rfl rfl rfl rfl (fun hc => does_load 25 11 8 0 [] (.var (e_a8_u32 v6.2.1)) (e_a8_u32 v6.2.1) trivial rfl rfl ty25), ⟨⟨rfl, rfl, trivial⟩, ⟨rfl, trivial⟩, rfl⟩, rfl,
      Step.guarded rfl rfl rfl rfl (fun hc => does_load 25 14 12 0 [] (.var (e_a8_u32 v8.2.1)) (e_a8_u32 v8.2.1) trivial rfl rfl ty25), ⟨⟨rfl, rfl, trivial⟩, ⟨rfl, trivial⟩, rfl⟩, rfl,
      Step.guarded rfl rfl rfl rfl (fun hc => Does.strip (n' := [(61, (.opt (!(!v10)) (e_a8_u32 v6.2.1))), (62, (.opt (!(!v10)) (e_a8_u32 v8.2.1)))]) (n := [(61, (e_a8_u32 v6.2.1)), (62, (e_a8_u32 v8.2.1))]) ⟨(.opt _ _ hc), (.opt _ _ hc), trivial⟩ (does_eqT true 25 25 (.tmp 61) (.tmp 62) (e_a8_u32 v6.2.1) (e_a8_u32 v8.2.1) (e_a8_u32 (fun _ => 0)) (b_a8_u32 v6.2.1 v8.2.1) rfl rfl trivial trivial eg25 sh25 (al_a8_u32 _ _) (al_a8_u32 _ _) (q_a8_u32 _ _))), ⟨⟨rfl, rfl, rfl, trivial⟩, trivial, rfl⟩, rfl,
      Step.plain rfl (does_or 60 63 (!v10) (!(b_a8_u32 v6.2.1 v8.2.1))), ⟨⟨rfl, rfl, trivial⟩, trivial, rfl⟩, rfl,
      Step.plain rfl (does_move (.tmp 64) (.bool ((!v10) || (!(b_a8_u32 v6.2.1 v8.2.1)))) trivial), ⟨⟨rfl, trivial⟩, trivial, rfl⟩, rfl,
      Step.guarded rfl rfl rfl rfl (fun hc => does_move (.tmp 10) (.own 5) trivial), ⟨⟨rfl, rfl, trivial⟩, trivial, rfl⟩, rfl,
      Step.guarded rfl rfl rfl rfl (fun hc => Does.strip (n' := [(66, (.opt (!((!v10) || (!(b_a8_u32 v6.2.1 v8.2.1)))) (.own 5)))]) (n := [(66, (.own 5))]) ⟨(.opt _ _ hc), trivial⟩ (does_leno 22 38 v6.1.length 66 5 (fun j => (e_api_Kept (v6.1.getD j z_api_Kept))) el22)), ⟨⟨rfl, rfl, trivial⟩, ⟨rfl, trivial⟩, rfl⟩, rfl,
      Step.guarded rfl rfl rfl rfl (fun hc => does_move (.tmp 13) (.own 9) trivial), ⟨⟨rfl, rfl, trivial⟩, trivial, rfl⟩, rfl,
      Step.guarded rfl rfl rfl rfl (fun hc => Does.strip (n' := [(68, (.opt (!((!v10) || (!(b_a8_u32 v6.2.1 v8.2.1)))) (.own 9)))]) (n := [(68, (.own 9))]) ⟨(.opt _ _ hc), trivial⟩ (does_leno 22 38 v8.1.length 68 9 (fun j => (e_api_Kept (v8.1.getD j z_api_Kept))) el22)), ⟨⟨rfl, rfl, trivial⟩, ⟨rfl, trivial⟩, rfl⟩, rfl,
      Step.guarded rfl rfl rfl rfl (fun hc => Does.strip (n' := [(67, (.opt (!((!v10) || (!(b_a8_u32 v6.2.1 v8.2.1)))) (.int .i64 (v6.1.length : Int)))), (69, (.opt (!((!v10) || (!(b_a8_u32 v6.2.1 v8.2.1)))) (.int .i64 (v8.1.length : Int))))]) (n := [(67, (.int .i64 (v6.1.length : Int))), (69, (.int .i64 (v8.1.length : Int)))]) ⟨(.opt _ _ hc), (.opt _ _ hc), trivial⟩ (does_bin .neq 3 3 (.tmp 67) (.tmp 69) .i64 (v6.1.length : Int) (v8.1.length : Int) (.bool ((v6.1.length : Int) != (v8.1.length : Int))) trivial trivial (bin_neq _ _ _ _))), ⟨⟨rfl, rfl, rfl, trivial⟩, trivial, rfl⟩, rfl,
      Step.plain rfl (does_or 65 70 ((!v10) || (!(b_a8_u32 v6.2.1 v8.2.1))) ((v6.1.length : Int) != (v8.1.length : Int))), ⟨⟨rfl, rfl, trivial⟩, trivial, rfl⟩, rfl,
      Step.plain rfl (does_move (.tmp 71) (.bool (((!v10) || (!(b_a8_u32 v6.2.1 v8.2.1))) || ((v6.1.length : Int) != (v8.1.length : Int)))) trivial), ⟨⟨rfl, trivial⟩, trivial, rfl⟩, rfl,
      Step.guarded rfl rfl rfl rfl (fun hc => does_move (.tmp 12) (.own 6) trivial), ⟨⟨rfl, rfl, trivial⟩, trivial, rfl⟩, rfl,
      Step.guarded rfl rfl rfl rfl (fun hc => Does.strip (n' := [(73, (.opt (!(((!v10) || (!(b_a8_u32 v6.2.1 v8.2.1))) || ((v6.1.length : Int) != (v8.1.length : Int)))) (.own 6)))]) (n := [(73, (.own 6))]) ⟨(.opt _ _ hc), trivial⟩ (does_leno 22 38 v6.2.2.length 73 6 (fun j => (e_api_Kept (v6.2.2.getD j z_api_Kept))) el22)), ⟨⟨rfl, rfl, trivial⟩, ⟨rfl, trivial⟩, rfl⟩, rfl,
      Step.guarded rfl rfl rfl rfl (fun hc => does_move (.tmp 15) (.own 10) trivial), ⟨⟨rfl, rfl, trivial⟩, trivial, rfl⟩, rfl,
      Step.guarded rfl rfl rfl rfl (fun hc => Does.strip (n' := [(75, (.opt (!(((!v10) || (!(b_a8_u32 v6.2.1 v8.2.1))) || ((v6.1.length : Int) != (v8.1.length : Int)))) (.own 10)))]) (n := [(75, (.own 10))]) ⟨(.opt _ _ hc), trivial⟩ (does_leno 22 38 v8.2.2.length 75 10 (fun j => (e_api_Kept (v8.2.2.getD j z_api_Kept))) el22)), ⟨⟨rfl, rfl, trivial⟩, ⟨rfl, trivial⟩, rfl⟩, rfl,
      Step.guarded rfl rfl rfl rfl (fun hc => Does.strip (n' := [(74, (.opt (!(((!v10) || (!(b_a8_u32 v6.2.1 v8.2.1))) || ((v6.1.length : Int) != (v8.1.length : Int)))) (.int .i64 (v6.2.2.length : Int)))), (76, (.opt (!(((!v10) || (!(b_a8_u32 v6.2.1 v8.2.1))) || ((v6.1.length : Int) != (v8.1.length : Int)))) (.int .i64 (v8.2.2.length : Int))))]) (n := [(74, (.int .i64 (v6.2.2.length : Int))), (76, (.int .i64 (v8.2.2.length : Int)))]) ⟨(.opt _ _ hc), (.opt _ _ hc), trivial⟩ (does_bin .neq 3 3 (.tmp 74) (.tmp 76) .i64 (v6.2.2.length : Int) (v8.2.2.length : Int) (.bool ((v6.2.2.length : Int) != (v8.2.2.length : Int))) trivial trivial (bin_neq _ _ _ _))), ⟨⟨rfl, rfl, rfl, trivial⟩, trivial, rfl⟩, rfl,
      Step.plain rfl (does_or 72 77 (((!v10) || (!(b_a8_u32 v6.2.1 v8.2.1))) || ((v6.1.length : Int) != (v8.1.length : Int))) ((v6.2.2.length : Int) != (v8.2.2.length : Int))), ⟨⟨rfl, rfl, trivial⟩, trivial, rfl⟩, rfl, rfl⟩ ?_
    obtain ⟨v12, hv12, H⟩ := lt_of H
    refine aw_cov (cov_prune (s1 := ⟨[(5, (.ptr 2 0 [])), (10, (.own 5)), (12, (.own 6)), (13, (.own 9)), (15, (.own 10)), (78, (.bool v12))], [(2, some (.var (e_a3_a2_api_Entry p2))), (5, some (.arr 38 v6.1.length fun j => (e_api_Kept (v6.1.getD j z_api_Kept)))), (6, some (.arr 38 v6.2.2.length fun j => (e_api_Kept (v6.2.2.getD j z_api_Kept)))), (9, some (.arr 38 v8.1.length fun j => (e_api_Kept (v8.1.getD j z_api_Kept)))), (10, some (.arr 38 v8.2.2.length fun j => (e_api_Kept (v8.2.2.getD j z_api_Kept))))], 13⟩) ⟨rfl, rfl, rfl, rfl, rfl, (by subst hv12; rfl), trivial⟩ ⟨rfl, rfl, rfl, rfl, rfl, trivial⟩ (Nat.le_refl _)) ?_
    refine aw_cond rfl (fun hc => ?_) (fun hc => ?_)
    · replace H := ite_t hc H
      refine aw_region (es := [_]) ⟨Step.plain rfl (does_assign (.const (.bool false)) (.bool false) (fun _ => rfl)), ⟨trivial, trivial, rfl⟩, rfl, rfl⟩ ?_
      refine aw_cov (cov_prune (s1 := ⟨[(6, (.bool false))], [], 13⟩) ⟨rfl, trivial⟩ trivial (Nat.le_refl _)) ?_
      refine aw_ret ?_
      refine rt_then ?_
      exact fun a w hr => ⟨_, [(.bool false)], hr, ⟨⟨_, rfl, .data (.bool false) trivial⟩, trivial⟩, by decide, by cases H; rfl⟩
    · replace H := ite_f hc H
      refine aw_skip ?_
      refine nx_seq ?_
      refine aw_seq ?_
      refine aw_region (es := [_]) ⟨Step.plain rfl (does_assign (.const (.int .i64 0)) (.int .i64 0) (fun _ => rfl)), ⟨trivial, trivial, rfl⟩, rfl, rfl⟩ ?_
      refine aw_cov (cov_prune (s1 := ⟨[(5, (.ptr 2 0 [])), (10, (.own 5)), (12, (.own 6)), (13, (.own 9)), (15, (.own 10)), (16, (.int .i64 0))], [(2, some (.var (e_a3_a2_api_Entry p2))), (5, some (.arr 38 v6.1.length fun j => (e_api_Kept (v6.1.getD j z_api_Kept)))), (6, some (.arr 38 v6.2.2.length fun j => (e_api_Kept (v6.2.2.getD j z_api_Kept)))), (9, some (.arr 38 v8.1.length fun j => (e_api_Kept (v8.1.getD j z_api_Kept)))), (10, some (.arr 38 v8.2.2.length fun j => (e_api_Kept (v8.2.2.getD j z_api_Kept))))], 13⟩) ⟨rfl, rfl, rfl, rfl, rfl, rfl, trivial⟩ ⟨rfl, rfl, rfl, rfl, rfl, trivial⟩ (Nat.le_refl _)) ?_
      obtain ⟨wn14, hwn14, Hrn14⟩ := bnd H
      refine aw_meet (fun y20 : Unit => (⟨[(5, (.ptr 2 0 [])), (12, (.own 6)), (15, (.own 10))], [(2, some (.var (e_a3_a2_api_Entry p2))), (6, some (.arr 38 v6.2.2.length fun j => (e_api_Kept (v6.2.2.getD j z_api_Kept)))), (10, some (.arr 38 v8.2.2.length fun j => (e_api_Kept (v8.2.2.getD j z_api_Kept))))], 13⟩ : St)) (fun y20 => Fl.nx y20 = wn14) (fun y20 hy => ?_) (aw_block (aw_runs (fun x13 : Int => (⟨[(5, (.ptr 2 0 [])), (10, (.own 5)), (12, (.own 6)), (13, (.own 9)), (15, (.own 10)), (16, (.int .i64 x13))], [(2, some (.var (e_a3_a2_api_Entry p2))), (5, some (.arr 38 v6.1.length fun j => (e_api_Kept (v6.1.getD j z_api_Kept)))), (6, some (.arr 38 v6.2.2.length fun j => (e_api_Kept (v6.2.2.getD j z_api_Kept)))), (9, some (.arr 38 v8.1.length fun j => (e_api_Kept (v8.1.getD j z_api_Kept)))), (10, some (.arr 38 v8.2.2.length fun j => (e_api_Kept (v8.2.2.getD j z_api_Kept))))], 13⟩ : St)) hwn14 (cov_prune ⟨rfl, rfl, rfl, rfl, rfl, rfl, trivial⟩ ⟨rfl, rfl, rfl, rfl, rfl, trivial⟩ (Nat.le_of_ble_eq_true rfl)) (fun x13 st H hsn14 => ?_)))
      · have H := nx_of hy Hrn14
        refine nx_seq ?_
        refine aw_seq ?_
        refine aw_region (es := [_]) ⟨Step.plain rfl (does_assign (.const (.int .i64 0)) (.int .i64 0) (fun _ => rfl)), ⟨trivial, trivial, rfl⟩, rfl, rfl⟩ ?_
        refine aw_cov (cov_prune (s1 := ⟨[(5, (.ptr 2 0 [])), (12, (.own 6)), (15, (.own 10)), (17, (.int .i64 0))], [(2, some (.var (e_a3_a2_api_Entry p2))), (6, some (.arr 38 v6.2.2.length fun j => (e_api_Kept (v6.2.2.getD j z_api_Kept)))), (10, some (.arr 38 v8.2.2.length fun j => (e_api_Kept (v8.2.2.getD j z_api_Kept))))], 13⟩) ⟨rfl, rfl, rfl, rfl, trivial⟩ ⟨rfl, rfl, rfl, trivial⟩ (Nat.le_refl _)) ?_
        obtain ⟨wn22, hwn22, Hrn22⟩ := bnd H
        refine aw_meet (fun y29 : Unit => (⟨[], [], 13⟩ : St)) (fun y29 => Fl.nx y29 = wn22) (fun y29 hy => ?_) (aw_block (aw_runs (fun x21 : Int => (⟨[(5, (.ptr 2 0 [])), (12, (.own 6)), (15, (.own 10)), (17, (.int .i64 x21))], [(2, some (.var (e_a3_a2_api_Entry p2))), (6, some (.arr 38 v6.2.2.length fun j => (e_api_Kept (v6.2.2.getD j z_api_Kept)))), (10, some (.arr 38 v8.2.2.length fun j => (e_api_Kept (v8.2.2.getD j z_api_Kept))))], 13⟩ : St)) hwn22 (cov_prune ⟨rfl, rfl, rfl, rfl, trivial⟩ ⟨rfl, rfl, rfl, trivial⟩ (Nat.le_of_ble_eq_true rfl)) (fun x21 st H hsn22 => ?_)))
        · have H := nx_of hy Hrn22
          refine nx_seq ?_
          refine aw_region (es := [_]) ⟨Step.plain rfl (does_assign (.const (.bool true)) (.bool true) (fun _ => rfl)), ⟨trivial, trivial, rfl⟩, rfl, rfl⟩ ?_
          refine aw_cov (cov_prune (s1 := ⟨[(6, (.bool true))], [], 13⟩) ⟨rfl, trivial⟩ trivial (Nat.le_refl _)) ?_
          refine aw_ret ?_
          exact fun a w hr => ⟨_, [(.bool true)], hr, ⟨⟨_, rfl, .data (.bool true) trivial⟩, trivial⟩, by decide, by cases H; rfl⟩
        · refine aw_seq ?_
          refine aw_region (es := [_, _, _, _]) ⟨Step.plain rfl (does_move (.tmp 17) (.int .i64 x21) trivial), ⟨⟨rfl, trivial⟩, trivial, rfl⟩, rfl,
            Step.plain rfl (does_move (.tmp 12) (.own 6) trivial), ⟨⟨rfl, trivial⟩, trivial, rfl⟩, rfl,
            Step.plain rfl (does_leno 22 38 v6.2.2.length 110 6 (fun j => (e_api_Kept (v6.2.2.getD j z_api_Kept))) el22), ⟨⟨rfl, trivial⟩, ⟨rfl, trivial⟩, rfl⟩, rfl,
            Step.plain rfl (does_bin .lss 3 3 (.tmp 109) (.tmp 111) .i64 x21 (v6.2.2.length : Int) (.bool (decide (x21 < (v6.2.2.length : Int)))) trivial trivial (bin_lss _ _ _ _)), ⟨⟨rfl, rfl, trivial⟩, trivial, rfl⟩, rfl, rfl⟩ ?_
          refine aw_cov (cov_prune (s1 := ⟨[(5, (.ptr 2 0 [])), (12, (.own 6)), (15, (.own 10)), (17, (.int .i64 x21)), (112, (.bool (decide (x21 < (v6.2.2.length : Int)))))], [(2, some (.var (e_a3_a2_api_Entry p2))), (6, some (.arr 38 v6.2.2.length fun j => (e_api_Kept (v6.2.2.getD j z_api_Kept)))), (10, some (.arr 38 v8.2.2.length fun j => (e_api_Kept (v8.2.2.getD j z_api_Kept))))], 13⟩) ⟨rfl, rfl, rfl, rfl, rfl, trivial⟩ ⟨rfl, rfl, rfl, trivial⟩ (Nat.le_refl _)) ?_
          refine aw_cond rfl (fun hc => ?_) (fun hc => ?_)
          · replace H := ite_t hc H
            refine aw_skip ?_
            refine nx_seq ?_
            refine aw_seq ?_
            refine aw_block ?_
            obtain ⟨h23, H⟩ := ib_of H
            obtain ⟨h24, H⟩ := ib_of H
            obtain ⟨h25, H⟩ := ibg_of H
            obtain ⟨h26, H⟩ := ibg_of H
            obtain ⟨h27, H⟩ := ibg_of H
            refine aw_draw (es := [_, _, _, _, _, _, _, _, _, _, _, _, _, _, _, _, _, _, _, _, _, _, _, _, _, _, _, _, _, _, _, _, _]) (mixed) ⟨Step.plain rfl (does_move (.tmp 12) (.own 6) trivial), ⟨⟨rfl, trivial⟩, trivial, rfl⟩, rfl,
              Step.plain rfl (does_move (.tmp 17) (.int .i64 x21) trivial), ⟨⟨rfl, trivial⟩, trivial, rfl⟩, rfl,
              Step.plain rfl (does_indexAddro 22 38 v6.2.2.length 115 6 (fun j => (e_api_Kept (v6.2.2.getD j z_api_Kept))) (.tmp 116) .i64 x21 el22 trivial h23.1 h23.2), ⟨⟨rfl, rfl, trivial⟩, ⟨rfl, trivial⟩, rfl⟩, rfl,
              Step.plain rfl (does_fieldAddr 36 0 0 117 6 (x21.toNat * 38) [x21.toNat] (.arr 38 v6.2.2.length fun j => (e_api_Kept (v6.2.2.getD j z_api_Kept))) fl36_0), ⟨⟨rfl, trivial⟩, ⟨rfl, trivial⟩, rfl⟩, rfl,
              Step.plain rfl (does_load 3 118 6 ((x21.toNat * 38) + 0) [x21.toNat, 0] (.arr 38 v6.2.2.length fun j => (e_api_Kept (v6.2.2.getD j z_api_Kept))) (.int .i64 ((v6.2.2.getD x21.toNat z_api_Kept).From)) ⟨(ixl h23), ⟨rfl, Nat.le_of_ble_eq_true rfl, trivial⟩⟩ rfl rfl ty3), ⟨⟨rfl, trivial⟩, ⟨rfl, trivial⟩, rfl⟩, rfl,
              Step.plain rfl (does_move (.tmp 15) (.own 10) trivial), ⟨⟨rfl, trivial⟩, trivial, rfl⟩, rfl,
              Step.plain rfl (does_move (.tmp 17) (.int .i64 x21) trivial), ⟨⟨rfl, trivial⟩, trivial, rfl⟩, rfl,
              Step.plain rfl (does_indexAddro 22 38 v8.2.2.length 120 10 (fun j => (e_api_Kept (v8.2.2.getD j z_api_Kept))) (.tmp 121) .i64 x21 el22 trivial h24.1 h24.2), ⟨⟨rfl, rfl, trivial⟩, ⟨rfl, trivial⟩, rfl⟩, rfl,
              Step.plain rfl (does_fieldAddr 36 0 0 122 10 (x21.toNat * 38) [x21.toNat] (.arr 38 v8.2.2.length fun j => (e_api_Kept (v8.2.2.getD j z_api_Kept))) fl36_0), ⟨⟨rfl, trivial⟩, ⟨rfl, trivial⟩, rfl⟩, rfl,
              Step.plain rfl (does_load 3 123 10 ((x21.toNat * 38) + 0) [x21.toNat, 0] (.arr 38 v8.2.2.length fun j => (e_api_Kept (v8.2.2.getD j z_api_Kept))) (.int .i64 ((v8.2.2.getD x21.toNat z_api_Kept).From)) ⟨(ixl h24), ⟨rfl, Nat.le_of_ble_eq_true rfl, trivial⟩⟩ rfl rfl ty3), ⟨⟨rfl, trivial⟩, ⟨rfl, trivial⟩, rfl⟩, rfl,
              Step.plain rfl (does_bin .neq 3 3 (.tmp 119) (.tmp 124) .i64 ((v6.2.2.getD x21.toNat z_api_Kept).From) ((v8.2.2.getD x21.toNat z_api_Kept).From) (.bool (((v6.2.2.getD x21.toNat z_api_Kept).From) != ((v8.2.2.getD x21.toNat z_api_Kept).From))) trivial trivial (bin_neq _ _ _ _)), ⟨⟨rfl, rfl, trivial⟩, trivial, rfl⟩, rfl,
              Step.plain rfl (does_move (.tmp 125) (.bool (((v6.2.2.getD x21.toNat z_api_Kept).From) != ((v8.2.2.getD x21.toNat z_api_Kept).From))) trivial), ⟨⟨rfl, trivial⟩, trivial, rfl⟩, rfl,
              Step.guarded rfl rfl rfl rfl (fun hc => does_move (.tmp 12) (.own 6) trivial), ⟨⟨rfl, rfl, trivial⟩, trivial, rfl⟩, rfl,
              Step.guarded rfl rfl rfl rfl (fun hc => does_move (.tmp 17) (.int .i64 x21) trivial), ⟨⟨rfl, rfl, trivial⟩, trivial, rfl⟩, rfl,
              Step.guarded rfl rfl rfl rfl (fun hc => Does.strip (n' := [(127, (.opt (!(((v6.2.2.getD x21.toNat z_api_Kept).From) != ((v8.2.2.getD x21.toNat z_api_Kept).From))) (.own 6))), (128, (.opt (!(((v6.2.2.getD x21.toNat z_api_Kept).From) != ((v8.2.2.getD x21.toNat z_api_Kept).From))) (.int .i64 x21)))]) (n := [(127, (.own 6)), (128, (.int .i64 x21))]) ⟨(.opt _ _ hc), (.opt _ _ hc), trivial⟩ (does_indexAddro 22 38 v6.2.2.length 127 6 (fun j => (e_api_Kept (v6.2.2.getD j z_api_Kept))) (.tmp 128) .i64 x21 el22 trivial (h25 hc).1 (h25 hc).2)), ⟨⟨rfl, rfl, rfl, trivial⟩, ⟨rfl, trivial⟩, rfl⟩, rfl,
              Step.guarded rfl rfl rfl rfl (fun hc => Does.strip (n' := [(129, (.opt (!(((v6.2.2.getD x21.toNat z_api_Kept).From) != ((v8.2.2.getD x21.toNat z_api_Kept).From))) (.ptr 6 (x21.toNat * 38) [x21.toNat])))]) (n := [(129, (.ptr 6 (x21.toNat * 38) [x21.toNat]))]) ⟨(.opt _ _ hc), trivial⟩ (does_fieldAddr 36 1 1 129 6 (x21.toNat * 38) [x21.toNat] (.arr 38 v6.2.2.length fun j => (e_api_Kept (v6.2.2.getD j z_api_Kept))) fl36_1)), ⟨⟨rfl, rfl, trivial⟩, ⟨rfl, trivial⟩, rfl⟩, rfl,
              Step.guarded rfl rfl rfl rfl (fun hc => Does.strip (n' := [(130, (.opt (!(((v6.2.2.getD x21.toNat z_api_Kept).From) != ((v8.2.2.getD x21.toNat z_api_Kept).From))) (.ptr 6 ((x21.toNat * 38) + 1) [x21.toNat, 1])))]) (n := [(130, (.ptr 6 ((x21.toNat * 38) + 1) [x21.toNat, 1]))]) ⟨(.opt _ _ hc), trivial⟩ (does_load 23 130 6 ((x21.toNat * 38) + 1) [x21.toNat, 1] (.arr 38 v6.2.2.length fun j => (e_api_Kept (v6.2.2.getD j z_api_Kept))) (.int .u32 ((v6.2.2.getD x21.toNat z_api_Kept).Round)) ⟨(ixl (h25 hc)), ⟨rfl, Nat.le_of_ble_eq_true rfl, trivial⟩⟩ rfl rfl ty23)), ⟨⟨rfl, rfl, trivial⟩, ⟨rfl, trivial⟩, rfl⟩, rfl,
              Step.guarded rfl rfl rfl rfl (fun hc => does_move (.tmp 15) (.own 10) trivial), ⟨⟨rfl, rfl, trivial⟩, trivial, rfl⟩, rfl,
              Step.guarded rfl rfl rfl rfl (fun hc => does_move (.tmp 17) (.int .i64 x21) trivial), ⟨⟨rfl, rfl, trivial⟩, trivial, rfl⟩, rfl,
              Step.guarded rfl rfl rfl rfl (fun hc => Does.strip (n' := [(132, (.opt (!(((v6.2.2.getD x21.toNat z_api_Kept).From) != ((v8.2.2.getD x21.toNat z_api_Kept).From))) (.own 10))), (133, (.opt (!(((v6.2.2.getD x21.toNat z_api_Kept).From) != ((v8.2.2.getD x21.toNat z_api_Kept).From))) (.int .i64 x21)))]) (n := [(132, (.own 10)), (133, (.int .i64 x21))]) ⟨(.opt _ _ hc), (.opt _ _ hc), trivial⟩ (does_indexAddro 22 38 v8.2.2.length 132 10 (fun j => (e_api_Kept (v8.2.2.getD j z_api_Kept))) (.tmp 133) .i64 x21 el22 trivial (h26 hc).1 (h26 hc).2)), ⟨⟨rfl, rfl, rfl, trivial⟩, ⟨rfl, trivial⟩, rfl⟩, rfl,
              Step.guarded rfl rfl rfl rfl (fun hc => Does.strip (n' := [(134, (.opt (!(((v6.2.2.getD x21.toNat z_api_Kept).From) != ((v8.2.2.getD x21.toNat z_api_Kept).From))) (.ptr 10 (x21.toNat * 38) [x21.toNat])))]) (n := [(134, (.ptr 10 (x21.toNat * 38) [x21.toNat]))]) ⟨(.opt _ _ hc), trivial⟩ (does_fieldAddr 36 1 1 134 10 (x21.toNat * 38) [x21.toNat] (.arr 38 v8.2.2.length fun j => (e_api_Kept (v8.2.2.getD j z_api_Kept))) fl36_1)), ⟨⟨rfl, rfl, trivial⟩, ⟨rfl, trivial⟩, rfl⟩, rfl,
              Step.guarded rfl rfl rfl rfl (fun hc => Does.strip (n' := [(135, (.opt (!(((v6.2.2.getD x21.toNat z_api_Kept).From) != ((v8.2.2.getD x21.toNat z_api_Kept).From))) (.ptr 10 ((x21.toNat * 38) + 1) [x21.toNat, 1])))]) (n := [(135, (.ptr 10 ((x21.toNat * 38) + 1) [x21.toNat, 1]))]) ⟨(.opt _ _ hc), trivial⟩ (does_load 23 135 10 ((x21.toNat * 38) + 1) [x21.toNat, 1] (.arr 38 v8.2.2.length fun j => (e_api_Kept (v8.2.2.getD j z_api_Kept))) (.int .u32 ((v8.2.2.getD x21.toNat z_api_Kept).Round)) ⟨(ixl (h26 hc)), ⟨rfl, Nat.le_of_ble_eq_true rfl, trivial⟩⟩ rfl rfl ty23)), ⟨⟨rfl, rfl, trivial⟩, ⟨rfl, trivial⟩, rfl⟩, rfl,
              Step.guarded rfl rfl rfl rfl (fun hc => Does.strip (n' := [(131, (.opt (!(((v6.2.2.getD x21.toNat z_api_Kept).From) != ((v8.2.2.getD x21.toNat z_api_Kept).From))) (.int .u32 ((v6.2.2.getD x21.toNat z_api_Kept).Round)))), (136, (.opt (!(((v6.2.2.getD x21.toNat z_api_Kept).From) != ((v8.2.2.getD x21.toNat z_api_Kept).From))) (.int .u32 ((v8.2.2.getD x21.toNat z_api_Kept).Round))))]) (n := [(131, (.int .u32 ((v6.2.2.getD x21.toNat z_api_Kept).Round))), (136, (.int .u32 ((v8.2.2.getD x21.toNat z_api_Kept).Round)))]) ⟨(.opt _ _ hc), (.opt _ _ hc), trivial⟩ (does_bin .neq 23 23 (.tmp 131) (.tmp 136) .u32 ((v6.2.2.getD x21.toNat z_api_Kept).Round) ((v8.2.2.getD x21.toNat z_api_Kept).Round) (.bool (((v6.2.2.getD x21.toNat z_api_Kept).Round) != ((v8.2.2.getD x21.toNat z_api_Kept).Round))) trivial trivial (bin_neq _ _ _ _))), ⟨⟨rfl, rfl, rfl, trivial⟩, trivial, rfl⟩, rfl,
              Step.plain rfl (does_or 126 137 (((v6.2.2.getD x21.toNat z_api_Kept).From) != ((v8.2.2.getD x21.toNat z_api_Kept).From)) (((v6.2.2.getD x21.toNat z_api_Kept).Round) != ((v8.2.2.getD x21.toNat z_api_Kept).Round))), ⟨⟨rfl, rfl, trivial⟩, trivial, rfl⟩, rfl,
              Step.plain rfl (does_move (.tmp 138) (.bool ((((v6.2.2.getD x21.toNat z_api_Kept).From) != ((v8.2.2.getD x21.toNat z_api_Kept).From)) || (((v6.2.2.getD x21.toNat z_api_Kept).Round) != ((v8.2.2.getD x21.toNat z_api_Kept).Round)))) trivial), ⟨⟨rfl, trivial⟩, trivial, rfl⟩, rfl,
              Step.guarded rfl rfl rfl rfl (fun hc => does_move (.tmp 15) (.own 10) trivial), ⟨⟨rfl, rfl, trivial⟩, trivial, rfl⟩, rfl,
              Step.guarded rfl rfl rfl rfl (fun hc => does_move (.tmp 17) (.int .i64 x21) trivial), ⟨⟨rfl, rfl, trivial⟩, trivial, rfl⟩, rfl,
              Step.guarded rfl rfl rfl rfl (fun hc => Does.strip (n' := [(140, (.opt (!((((v6.2.2.getD x21.toNat z_api_Kept).From) != ((v8.2.2.getD x21.toNat z_api_Kept).From)) || (((v6.2.2.getD x21.toNat z_api_Kept).Round) != ((v8.2.2.getD x21.toNat z_api_Kept).Round)))) (.own 10))), (141, (.opt (!((((v6.2.2.getD x21.toNat z_api_Kept).From) != ((v8.2.2.getD x21.toNat z_api_Kept).From)) || (((v6.2.2.getD x21.toNat z_api_Kept).Round) != ((v8.2.2.getD x21.toNat z_api_Kept).Round)))) (.int .i64 x21)))]) (n := [(140, (.own 10)), (141, (.int .i64 x21))]) ⟨(.opt _ _ hc), (.opt _ _ hc), trivial⟩ (does_indexAddro 22 38 v8.2.2.length 140 10 (fun j => (e_api_Kept (v8.2.2.getD j z_api_Kept))) (.tmp 141) .i64 x21 el22 trivial (h27 hc).1 (h27 hc).2)), ⟨⟨rfl, rfl, rfl, trivial⟩, ⟨rfl, trivial⟩, rfl⟩, rfl,
              Step.guarded rfl rfl rfl rfl (fun hc => Does.strip (n' := [(142, (.opt (!((((v6.2.2.getD x21.toNat z_api_Kept).From) != ((v8.2.2.getD x21.toNat z_api_Kept).From)) || (((v6.2.2.getD x21.toNat z_api_Kept).Round) != ((v8.2.2.getD x21.toNat z_api_Kept).Round)))) (.ptr 10 (x21.toNat * 38) [x21.toNat])))]) (n := [(142, (.ptr 10 (x21.toNat * 38) [x21.toNat]))]) ⟨(.opt _ _ hc), trivial⟩ (does_fieldAddr 36 2 2 142 10 (x21.toNat * 38) [x21.toNat] (.arr 38 v8.2.2.length fun j => (e_api_Kept (v8.2.2.getD j z_api_Kept))) fl36_2)), ⟨⟨rfl, rfl, trivial⟩, ⟨rfl, trivial⟩, rfl⟩, rfl,
              Step.guarded rfl rfl rfl rfl (fun hc => Does.strip (n' := [(143, (.opt (!((((v6.2.2.getD x21.toNat z_api_Kept).From) != ((v8.2.2.getD x21.toNat z_api_Kept).From)) || (((v6.2.2.getD x21.toNat z_api_Kept).Round) != ((v8.2.2.getD x21.toNat z_api_Kept).Round)))) (.ptr 10 ((x21.toNat * 38) + 2) [x21.toNat, 2])))]) (n := [(143, (.ptr 10 ((x21.toNat * 38) + 2) [x21.toNat, 2]))]) ⟨(.opt _ _ hc), trivial⟩ (does_load 34 143 10 ((x21.toNat * 38) + 2) [x21.toNat, 2] (.arr 38 v8.2.2.length fun j => (e_api_Kept (v8.2.2.getD j z_api_Kept))) (e_a3_a2_api_Entry ((v8.2.2.getD x21.toNat z_api_Kept).Frame)) ⟨(ixl (h27 hc)), ⟨rfl, Nat.le_of_ble_eq_true rfl, trivial⟩⟩ rfl rfl ty34)), ⟨⟨rfl, rfl, trivial⟩, ⟨rfl, trivial⟩, rfl⟩, rfl,
              Step.guarded rfl rfl rfl rfl (fun hc => does_load 34 5 2 0 [] (.var (e_a3_a2_api_Entry p2)) (e_a3_a2_api_Entry p2) trivial rfl rfl ty34), ⟨⟨rfl, rfl, trivial⟩, ⟨rfl, trivial⟩, rfl⟩, rfl,
              Step.guarded rfl rfl rfl rfl (fun hc => Does.strip (n' := [(144, (.opt (!((((v6.2.2.getD x21.toNat z_api_Kept).From) != ((v8.2.2.getD x21.toNat z_api_Kept).From)) || (((v6.2.2.getD x21.toNat z_api_Kept).Round) != ((v8.2.2.getD x21.toNat z_api_Kept).Round)))) (e_a3_a2_api_Entry ((v8.2.2.getD x21.toNat z_api_Kept).Frame)))), (145, (.opt (!((((v6.2.2.getD x21.toNat z_api_Kept).From) != ((v8.2.2.getD x21.toNat z_api_Kept).From)) || (((v6.2.2.getD x21.toNat z_api_Kept).Round) != ((v8.2.2.getD x21.toNat z_api_Kept).Round)))) (e_a3_a2_api_Entry p2)))]) (n := [(144, (e_a3_a2_api_Entry ((v8.2.2.getD x21.toNat z_api_Kept).Frame))), (145, (e_a3_a2_api_Entry p2))]) ⟨(.opt _ _ hc), (.opt _ _ hc), trivial⟩ (does_eqT true 34 34 (.tmp 144) (.tmp 145) (e_a3_a2_api_Entry ((v8.2.2.getD x21.toNat z_api_Kept).Frame)) (e_a3_a2_api_Entry p2) (e_a3_a2_api_Entry (fun _ => (fun _ => z_api_Entry))) (b_a3_a2_api_Entry ((v8.2.2.getD x21.toNat z_api_Kept).Frame) p2) rfl rfl trivial trivial eg34 sh34 (al_a3_a2_api_Entry _ _) (al_a3_a2_api_Entry _ _) (q_a3_a2_api_Entry _ _))), ⟨⟨rfl, rfl, rfl, trivial⟩, trivial, rfl⟩, rfl,
              Step.plain rfl (does_or 139 146 ((((v6.2.2.getD x21.toNat z_api_Kept).From) != ((v8.2.2.getD x21.toNat z_api_Kept).From)) || (((v6.2.2.getD x21.toNat z_api_Kept).Round) != ((v8.2.2.getD x21.toNat z_api_Kept).Round))) (!(b_a3_a2_api_Entry ((v8.2.2.getD x21.toNat z_api_Kept).Frame) p2))), ⟨⟨rfl, rfl, trivial⟩, trivial, rfl⟩, rfl, rfl⟩ rfl ?_
            obtain ⟨v28, hv28, H⟩ := lt_of H
            refine aw_cov (cov_prune (s1 := ⟨[(5, (.ptr 2 0 [])), (12, (.own 6)), (15, (.own 10)), (17, (.int .i64 x21)), (147, (.bool v28))], [(2, some (.var (e_a3_a2_api_Entry p2))), (6, some (.arr 38 v6.2.2.length fun j => (e_api_Kept (v6.2.2.getD j z_api_Kept)))), (10, some (.arr 38 v8.2.2.length fun j => (e_api_Kept (v8.2.2.getD j z_api_Kept))))], 13⟩) ⟨rfl, rfl, rfl, rfl, (by subst hv28; rfl), trivial⟩ ⟨rfl, rfl, rfl, trivial⟩ (Nat.le_refl _)) ?_
            refine aw_cond rfl (fun hc => ?_) (fun hc => ?_)
            · replace H := ite_t hc H
              refine aw_region (es := [_]) ⟨Step.plain rfl (does_assign (.const (.bool false)) (.bool false) (fun _ => rfl)), ⟨trivial, trivial, rfl⟩, rfl, rfl⟩ ?_
              refine aw_cov (cov_prune (s1 := ⟨[(6, (.bool false))], [], 13⟩) ⟨rfl, trivial⟩ trivial (Nat.le_refl _)) ?_
              refine aw_ret ?_
              replace H := rt_of H hsn22 Hrn22
              refine rt_blk ?_
              refine rt_then ?_
              refine rt_then ?_
              refine rt_blk ?_
              refine rt_then ?_
              refine rt_then ?_
              exact fun a w hr => ⟨_, [(.bool false)], hr, ⟨⟨_, rfl, .data (.bool false) trivial⟩, trivial⟩, by decide, by cases H; rfl⟩
            · replace H := ite_f hc H
              refine aw_skip ?_
              refine nx_blk ?_
              refine nx_seq ?_
              refine aw_region1 (es := [_, _, _]) ⟨Step.plain rfl (does_move (.tmp 17) (.int .i64 x21) trivial), ⟨⟨rfl, trivial⟩, trivial, rfl⟩, rfl,
                Step.plain rfl (does_bin .add 3 3 (.tmp 113) (.const (.int .i64 1)) .i64 x21 1 (.int .i64 (IntKind.i64.wrap (x21 + 1))) trivial (fun _ => rfl) (bin_add _ _ _ _)), ⟨⟨rfl, trivial⟩, trivial, rfl⟩, rfl,
                Step.plain rfl (does_assign (.tmp 114) (.int .i64 (IntKind.i64.wrap (x21 + 1))) trivial), ⟨⟨rfl, trivial⟩, trivial, rfl⟩, rfl, rfl⟩ ?_
              exact nx_loop ((IntKind.i64.wrap (x21 + 1))) H (cov_prune ⟨rfl, rfl, rfl, rfl, trivial⟩ ⟨rfl, rfl, rfl, trivial⟩ (Nat.le_of_ble_eq_true rfl))
          · replace H := ite_f hc H
            refine aw_exit ?_
            refine ex_then ?_
            refine ex_then ?_
            refine ex_here ?_
            exact nx_ljoin () H hsn22 (cov_prune trivial trivial (Nat.le_of_ble_eq_true rfl))
      · refine aw_seq ?_
        refine aw_region (es := [_, _, _, _]) ⟨Step.plain rfl (does_move (.tmp 16) (.int .i64 x13) trivial), ⟨⟨rfl, trivial⟩, trivial, rfl⟩, rfl,
          Step.plain rfl (does_move (.tmp 10) (.own 5) trivial), ⟨⟨rfl, trivial⟩, trivial, rfl⟩, rfl,
          Step.plain rfl (does_leno 22 38 v6.1.length 80 5 (fun j => (e_api_Kept (v6.1.getD j z_api_Kept))) el22), ⟨⟨rfl, trivial⟩, ⟨rfl, trivial⟩, rfl⟩, rfl,
          Step.plain rfl (does_bin .lss 3 3 (.tmp 79) (.tmp 81) .i64 x13 (v6.1.length : Int) (.bool (decide (x13 < (v6.1.length : Int)))) trivial trivial (bin_lss _ _ _ _)), ⟨⟨rfl, rfl, trivial⟩, trivial, rfl⟩, rfl, rfl⟩ ?_
        refine aw_cov (cov_prune (s1 := ⟨[(5, (.ptr 2 0 [])), (10, (.own 5)), (12, (.own 6)), (13, (.own 9)), (15, (.own 10)), (16, (.int .i64 x13)), (82, (.bool (decide (x13 < (v6.1.length : Int)))))], [(2, some (.var (e_a3_a2_api_Entry p2))), (5, some (.arr 38 v6.1.length fun j => (e_api_Kept (v6.1.getD j z_api_Kept)))), (6, some (.arr 38 v6.2.2.length fun j => (e_api_Kept (v6.2.2.getD j z_api_Kept)))), (9, some (.arr 38 v8.1.length fun j => (e_api_Kept (v8.1.getD j z_api_Kept)))), (10, some (.arr 38 v8.2.2.length fun j => (e_api_Kept (v8.2.2.getD j z_api_Kept))))], 13⟩) ⟨rfl, rfl, rfl, rfl, rfl, rfl, rfl, trivial⟩ ⟨rfl, rfl, rfl, rfl, rfl, trivial⟩ (Nat.le_refl _)) ?_
        refine aw_cond rfl (fun hc => ?_) (fun hc => ?_)
        · replace H := ite_t hc H
          refine aw_skip ?_
          refine nx_seq ?_
          refine aw_seq ?_
          refine aw_block ?_
          obtain ⟨h15, H⟩ := ib_of H
          obtain ⟨h16, H⟩ := ib_of H
          obtain ⟨h17, H⟩ := ibg_of H
          obtain ⟨h18, H⟩ := ibg_of H
          refine aw_draw (es := [_, _, _, _, _, _, _, _, _, _, _, _, _, _, _, _, _, _, _, _, _, _, _, _]) (mixed) ⟨Step.plain rfl (does_move (.tmp 10) (.own 5) trivial), ⟨⟨rfl, trivial⟩, trivial, rfl⟩, rfl,
            Step.plain rfl (does_move (.tmp 16) (.int .i64 x13) trivial), ⟨⟨rfl, trivial⟩, trivial, rfl⟩, rfl,
            Step.plain rfl (does_indexAddro 22 38 v6.1.length 85 5 (fun j => (e_api_Kept (v6.1.getD j z_api_Kept))) (.tmp 86) .i64 x13 el22 trivial h15.1 h15.2), ⟨⟨rfl, rfl, trivial⟩, ⟨rfl, trivial⟩, rfl⟩, rfl,
            Step.plain rfl (does_fieldAddr 36 0 0 87 5 (x13.toNat * 38) [x13.toNat] (.arr 38 v6.1.length fun j => (e_api_Kept (v6.1.getD j z_api_Kept))) fl36_0), ⟨⟨rfl, trivial⟩, ⟨rfl, trivial⟩, rfl⟩, rfl,
            Step.plain rfl (does_load 3 88 5 ((x13.toNat * 38) + 0) [x13.toNat, 0] (.arr 38 v6.1.length fun j => (e_api_Kept (v6.1.getD j z_api_Kept))) (.int .i64 ((v6.1.getD x13.toNat z_api_Kept).From)) ⟨(ixl h15), ⟨rfl, Nat.le_of_ble_eq_true rfl, trivial⟩⟩ rfl rfl ty3), ⟨⟨rfl, trivial⟩, ⟨rfl, trivial⟩, rfl⟩, rfl,
            Step.plain rfl (does_move (.tmp 13) (.own 9) trivial), ⟨⟨rfl, trivial⟩, trivial, rfl⟩, rfl,
            Step.plain rfl (does_move (.tmp 16) (.int .i64 x13) trivial), ⟨⟨rfl, trivial⟩, trivial, rfl⟩, rfl,
            Step.plain rfl (does_indexAddro 22 38 v8.1.length 90 9 (fun j => (e_api_Kept (v8.1.getD j z_api_Kept))) (.tmp 91) .i64 x13 el22 trivial h16.1 h16.2), ⟨⟨rfl, rfl, trivial⟩, ⟨rfl, trivial⟩, rfl⟩, rfl,
            Step.plain rfl (does_fieldAddr 36 0 0 92 9 (x13.toNat * 38) [x13.toNat] (.arr 38 v8.1.length fun j => (e_api_Kept (v8.1.getD j z_api_Kept))) fl36_0), ⟨⟨rfl, trivial⟩, ⟨rfl, trivial⟩, rfl⟩, rfl,
            Step.plain rfl (does_load 3 93 9 ((x13.toNat * 38) + 0) [x13.toNat, 0] (.arr 38 v8.1.length fun j => (e_api_Kept (v8.1.getD j z_api_Kept))) (.int .i64 ((v8.1.getD x13.toNat z_api_Kept).From)) ⟨(ixl h16), ⟨rfl, Nat.le_of_ble_eq_true rfl, trivial⟩⟩ rfl rfl ty3), ⟨⟨rfl, trivial⟩, ⟨rfl, trivial⟩, rfl⟩, rfl,
            Step.plain rfl (does_bin .neq 3 3 (.tmp 89) (.tmp 94) .i64 ((v6.1.getD x13.toNat z_api_Kept).From) ((v8.1.getD x13.toNat z_api_Kept).From) (.bool (((v6.1.getD x13.toNat z_api_Kept).From) != ((v8.1.getD x13.toNat z_api_Kept).From))) trivial trivial (bin_neq _ _ _ _)), ⟨⟨rfl, rfl, trivial⟩, trivial, rfl⟩, rfl,
            Step.plain rfl (does_move (.tmp 95) (.bool (((v6.1.getD x13.toNat z_api_Kept).From) != ((v8.1.getD x13.toNat z_api_Kept).From))) trivial), ⟨⟨rfl, trivial⟩, trivial, rfl⟩, rfl,
            Step.guarded rfl rfl rfl rfl (fun hc => does_move (.tmp 10) (.own 5) trivial), ⟨⟨rfl, rfl, trivial⟩, trivial, rfl⟩, rfl,
            Step.guarded rfl rfl rfl rfl (fun hc => does_move (.tmp 16) (.int .i64 x13) trivial), ⟨⟨rfl, rfl, trivial⟩, trivial, rfl⟩, rfl,
            Step.guarded rfl rfl rfl rfl (fun hc => Does.strip (n' := [(97, (.opt (!(((v6.1.getD x13.toNat z_api_Kept).From) != ((v8.1.getD x13.toNat z_api_Kept).From))) (.own 5))), (98, (.opt (!(((v6.1.getD x13.toNat z_api_Kept).From) != ((v8.1.getD x13.toNat z_api_Kept).From))) (.int .i64 x13)))]) (n := [(97, (.own 5)), (98, (.int .i64 x13))]) ⟨(.opt _ _ hc), (.opt _ _ hc), trivial⟩ (does_indexAddro 22 38 v6.1.length 97 5 (fun j => (e_api_Kept (v6.1.getD j z_api_Kept))) (.tmp 98) .i64 x13 el22 trivial (h17 hc).1 (h17 hc).2)), ⟨⟨rfl, rfl, rfl, trivial⟩, ⟨rfl, trivial⟩, rfl⟩, rfl,
            Step.guarded rfl rfl rfl rfl (fun hc => Does.strip (n' := [(99, (.opt (!(((v6.1.getD x13.toNat z_api_Kept).From) != ((v8.1.getD x13.toNat z_api_Kept).From))) (.ptr 5 (x13.toNat * 38) [x13.toNat])))]) (n := [(99, (.ptr 5 (x13.toNat * 38) [x13.toNat]))]) ⟨(.opt _ _ hc), trivial⟩ (does_fieldAddr 36 1 1 99 5 (x13.toNat * 38) [x13.toNat] (.arr 38 v6.1.length fun j => (e_api_Kept (v6.1.getD j z_api_Kept))) fl36_1)), ⟨⟨rfl, rfl, trivial⟩, ⟨rfl, trivial⟩, rfl⟩, rfl,
            Step.guarded rfl rfl rfl rfl (fun hc => Does.strip (n' := [(100, (.opt (!(((v6.1.getD x13.toNat z_api_Kept).From) != ((v8.1.getD x13.toNat z_api_Kept).From))) (.ptr 5 ((x13.toNat * 38) + 1) [x13.toNat, 1])))]) (n := [(100, (.ptr 5 ((x13.toNat * 38) + 1) [x13.toNat, 1]))]) ⟨(.opt _ _ hc), trivial⟩ (does_load 23 100 5 ((x13.toNat * 38) + 1) [x13.toNat, 1] (.arr 38 v6.1.length fun j => (e_api_Kept (v6.1.getD j z_api_Kept))) (.int .u32 ((v6.1.getD x13.toNat z_api_Kept).Round)) ⟨(ixl (h17 hc)), ⟨rfl, Nat.le_of_ble_eq_true rfl, trivial⟩⟩ rfl rfl ty23)), ⟨⟨rfl, rfl, trivial⟩, ⟨rfl, trivial⟩, rfl⟩, rfl,
            Step.guarded rfl rfl rfl rfl (fun hc => does_move (.tmp 13) (.own 9) trivial), ⟨⟨rfl, rfl, trivial⟩, trivial, rfl⟩, rfl,
            Step.guarded rfl rfl rfl rfl (fun hc => does_move (.tmp 16) (.int .i64 x13) trivial), ⟨⟨rfl, rfl, trivial⟩, trivial, rfl⟩, rfl,
            Step.guarded rfl rfl rfl rfl (fun hc => Does.strip (n' := [(102, (.opt (!(((v6.1.getD x13.toNat z_api_Kept).From) != ((v8.1.getD x13.toNat z_api_Kept).From))) (.own 9))), (103, (.opt (!(((v6.1.getD x13.toNat z_api_Kept).From) != ((v8.1.getD x13.toNat z_api_Kept).From))) (.int .i64 x13)))]) (n := [(102, (.own 9)), (103, (.int .i64 x13))]) ⟨(.opt _ _ hc), (.opt _ _ hc), trivial⟩ (does_indexAddro 22 38 v8.1.length 102 9 (fun j => (e_api_Kept (v8.1.getD j z_api_Kept))) (.tmp 103) .i64 x13 el22 trivial (h18 hc).1 (h18 hc).2)), ⟨⟨rfl, rfl, rfl, trivial⟩, ⟨rfl, trivial⟩, rfl⟩, rfl,
            Step.guarded rfl rfl rfl rfl (fun hc => Does.strip (n' := [(104, (.opt (!(((v6.1.getD x13.toNat z_api_Kept).From) != ((v8.1.getD x13.toNat z_api_Kept).From))) (.ptr 9 (x13.toNat * 38) [x13.toNat])))]) (n := [(104, (.ptr 9 (x13.toNat * 38) [x13.toNat]))]) ⟨(.opt _ _ hc), trivial⟩ (does_fieldAddr 36 1 1 104 9 (x13.toNat * 38) [x13.toNat] (.arr 38 v8.1.length fun j => (e_api_Kept (v8.1.getD j z_api_Kept))) fl36_1)), ⟨⟨rfl, rfl, trivial⟩, ⟨rfl, trivial⟩, rfl⟩, rfl,
            Step.guarded rfl rfl rfl rfl (fun hc => Does.strip (n' := [(105, (.opt (!(((v6.1.getD x13.toNat z_api_Kept).From) != ((v8.1.getD x13.toNat z_api_Kept).From))) (.ptr 9 ((x13.toNat * 38) + 1) [x13.toNat, 1])))]) (n := [(105, (.ptr 9 ((x13.toNat * 38) + 1) [x13.toNat, 1]))]) ⟨(.opt _ _ hc), trivial⟩ (does_load 23 105 9 ((x13.toNat * 38) + 1) [x13.toNat, 1] (.arr 38 v8.1.length fun j => (e_api_Kept (v8.1.getD j z_api_Kept))) (.int .u32 ((v8.1.getD x13.toNat z_api_Kept).Round)) ⟨(ixl (h18 hc)), ⟨rfl, Nat.le_of_ble_eq_true rfl, trivial⟩⟩ rfl rfl ty23)), ⟨⟨rfl, rfl, trivial⟩, ⟨rfl, trivial⟩, rfl⟩, rfl,
            Step.guarded rfl rfl rfl rfl (fun hc => Does.strip (n' := [(101, (.opt (!(((v6.1.getD x13.toNat z_api_Kept).From) != ((v8.1.getD x13.toNat z_api_Kept).From))) (.int .u32 ((v6.1.getD x13.toNat z_api_Kept).Round)))), (106, (.opt (!(((v6.1.getD x13.toNat z_api_Kept).From) != ((v8.1.getD x13.toNat z_api_Kept).From))) (.int .u32 ((v8.1.getD x13.toNat z_api_Kept).Round))))]) (n := [(101, (.int .u32 ((v6.1.getD x13.toNat z_api_Kept).Round))), (106, (.int .u32 ((v8.1.getD x13.toNat z_api_Kept).Round)))]) ⟨(.opt _ _ hc), (.opt _ _ hc), trivial⟩ (does_bin .neq 23 23 (.tmp 101) (.tmp 106) .u32 ((v6.1.getD x13.toNat z_api_Kept).Round) ((v8.1.getD x13.toNat z_api_Kept).Round) (.bool (((v6.1.getD x13.toNat z_api_Kept).Round) != ((v8.1.getD x13.toNat z_api_Kept).Round))) trivial trivial (bin_neq _ _ _ _))), ⟨⟨rfl, rfl, rfl, trivial⟩, trivial, rfl⟩, rfl,
            Step.plain rfl (does_or 96 107 (((v6.1.getD x13.toNat z_api_Kept).From) != ((v8.1.getD x13.toNat z_api_Kept).From)) (((v6.1.getD x13.toNat z_api_Kept).Round) != ((v8.1.getD x13.toNat z_api_Kept).Round))), ⟨⟨rfl, rfl, trivial⟩, trivial, rfl⟩, rfl, rfl⟩ rfl ?_
          obtain ⟨v19, hv19, H⟩ := lt_of H
          refine aw_cov (cov_prune (s1 := ⟨[(5, (.ptr 2 0 [])), (10, (.own 5)), (12, (.own 6)), (13, (.own 9)), (15, (.own 10)), (16, (.int .i64 x13)), (108, (.bool v19))], [(2, some (.var (e_a3_a2_api_Entry p2))), (5, some (.arr 38 v6.1.length fun j => (e_api_Kept (v6.1.getD j z_api_Kept)))), (6, some (.arr 38 v6.2.2.length fun j => (e_api_Kept (v6.2.2.getD j z_api_Kept)))), (9, some (.arr 38 v8.1.length fun j => (e_api_Kept (v8.1.getD j z_api_Kept)))), (10, some (.arr 38 v8.2.2.length fun j => (e_api_Kept (v8.2.2.getD j z_api_Kept))))], 13⟩) ⟨rfl, rfl, rfl, rfl, rfl, rfl, (by subst hv19; rfl), trivial⟩ ⟨rfl, rfl, rfl, rfl, rfl, trivial⟩ (Nat.le_refl _)) ?_
          refine aw_cond rfl (fun hc => ?_) (fun hc => ?_)
          · replace H := ite_t hc H
            refine aw_region (es := [_]) ⟨Step.plain rfl (does_assign (.const (.bool false)) (.bool false) (fun _ => rfl)), ⟨trivial, trivial, rfl⟩, rfl, rfl⟩ ?_
            refine aw_cov (cov_prune (s1 := ⟨[(6, (.bool false))], [], 13⟩) ⟨rfl, trivial⟩ trivial (Nat.le_refl _)) ?_
            refine aw_ret ?_
            replace H := rt_of H hsn14 Hrn14
            refine rt_blk ?_
            refine rt_then ?_
            refine rt_then ?_
            refine rt_blk ?_
            refine rt_then ?_
            refine rt_then ?_
            exact fun a w hr => ⟨_, [(.bool false)], hr, ⟨⟨_, rfl, .data (.bool false) trivial⟩, trivial⟩, by decide, by cases H; rfl⟩
          · replace H := ite_f hc H
            refine aw_skip ?_
            refine nx_blk ?_
            refine nx_seq ?_
            refine aw_region1 (es := [_, _, _]) ⟨Step.plain rfl (does_move (.tmp 16) (.int .i64 x13) trivial), ⟨⟨rfl, trivial⟩, trivial, rfl⟩, rfl,
              Step.plain rfl (does_bin .add 3 3 (.tmp 83) (.const (.int .i64 1)) .i64 x13 1 (.int .i64 (IntKind.i64.wrap (x13 + 1))) trivial (fun _ => rfl) (bin_add _ _ _ _)), ⟨⟨rfl, trivial⟩, trivial, rfl⟩, rfl,
              Step.plain rfl (does_assign (.tmp 84) (.int .i64 (IntKind.i64.wrap (x13 + 1))) trivial), ⟨⟨rfl, trivial⟩, trivial, rfl⟩, rfl, rfl⟩ ?_
            exact nx_loop ((IntKind.i64.wrap (x13 + 1))) H (cov_prune ⟨rfl, rfl, rfl, rfl, rfl, rfl, trivial⟩ ⟨rfl, rfl, rfl, rfl, rfl, trivial⟩ (Nat.le_of_ble_eq_true rfl))
        · replace H := ite_f hc H
          refine aw_exit ?_
          refine ex_then ?_
          refine ex_then ?_
          refine ex_here ?_
          exact nx_ljoin () H hsn14 (cov_prune ⟨rfl, rfl, rfl, trivial⟩ ⟨rfl, rfl, rfl, trivial⟩ (Nat.le_of_ble_eq_true rfl))
  · refine aw_seq ?_
    refine aw_region (es := [_, _]) ⟨Step.plain rfl (does_move (.tmp 8) (.int .i64 x1.1) trivial), ⟨⟨rfl, trivial⟩, trivial, rfl⟩, rfl,
      Step.plain rfl (does_bin .lss 3 3 (.tmp 19) (.const (.int .i64 8)) .i64 x1.1 8 (.bool (decide (x1.1 < 8))) trivial (fun _ => rfl) (bin_lss _ _ _ _)), ⟨⟨rfl, trivial⟩, trivial, rfl⟩, rfl, rfl⟩ ?_
    refine aw_cov (cov_prune (s1 := ⟨[(3, (.ptr 0 0 [])), (4, (.ptr 1 0 [])), (5, (.ptr 2 0 [])), (7, (.ptr 3 0 [])), (8, (.int .i64 x1.1)), (20, (.bool (decide (x1.1 < 8))))], [(0, some (.var (e_congresslaw10_Was p0))), (1, some (.var (e_api_Packet p1))), (2, some (.var (e_a3_a2_api_Entry p2))), (3, some (.var (e_a8_u32 x1.2)))], 4⟩) ⟨rfl, rfl, rfl, rfl, rfl, rfl, trivial⟩ ⟨rfl, rfl, rfl, rfl, trivial⟩ (Nat.le_refl _)) ?_
    refine aw_cond rfl (fun hc => ?_) (fun hc => ?_)
    · replace H := ite_t hc H
      refine aw_skip ?_
      refine nx_seq ?_
      refine aw_seq ?_
      refine aw_block ?_
      obtain ⟨h3, H⟩ := ib_of H
      refine aw_region1 (es := [_, _, _]) ⟨Step.plain rfl (does_move (.tmp 8) (.int .i64 x1.1) trivial), ⟨⟨rfl, trivial⟩, trivial, rfl⟩, rfl,
        Step.plain rfl (does_indexAddr 25 8 1 7 3 0 [] (.var (e_a8_u32 x1.2)) (.tmp 23) .i64 x1.1 el25 trivial h3.1 h3.2), ⟨⟨rfl, rfl, trivial⟩, ⟨rfl, trivial⟩, rfl⟩, rfl,
        Step.plain rfl (does_store 23 24 (.const (.int .u32 4294967295)) 3 (0 + x1.1.toNat * 1) [x1.1.toNat] (.var (e_a8_u32 x1.2)) (.var (e_a8_u32 (aupd x1.2 x1.1.toNat 4294967295))) (.int .u32 4294967295) false (fun _ => rfl) rfl ⟨rfl, (ixl h3), trivial⟩ rfl rfl (congrArg Box.var (set_cons rfl (vupd_map (fun z => V.int .u32 z) _ _ _))) ty23), ⟨⟨rfl, trivial⟩, ⟨rfl, trivial⟩, rfl⟩, rfl, rfl⟩ ?_
      refine nx_blk ?_
      refine nx_seq ?_
      refine aw_cov (cov_prune (s1 := ⟨[(3, (.ptr 0 0 [])), (4, (.ptr 1 0 [])), (5, (.ptr 2 0 [])), (7, (.ptr 3 0 [])), (8, (.int .i64 x1.1))], [(0, some (.var (e_congresslaw10_Was p0))), (1, some (.var (e_api_Packet p1))), (2, some (.var (e_a3_a2_api_Entry p2))), (3, some (.var (e_a8_u32 (aupd x1.2 x1.1.toNat 4294967295))))], 4⟩) ⟨rfl, rfl, rfl, rfl, rfl, trivial⟩ ⟨rfl, rfl, rfl, rfl, trivial⟩ (Nat.le_refl _)) ?_
      refine aw_region1 (es := [_, _, _]) ⟨Step.plain rfl (does_move (.tmp 8) (.int .i64 x1.1) trivial), ⟨⟨rfl, trivial⟩, trivial, rfl⟩, rfl,
        Step.plain rfl (does_bin .add 3 3 (.tmp 21) (.const (.int .i64 1)) .i64 x1.1 1 (.int .i64 (IntKind.i64.wrap (x1.1 + 1))) trivial (fun _ => rfl) (bin_add _ _ _ _)), ⟨⟨rfl, trivial⟩, trivial, rfl⟩, rfl,
        Step.plain rfl (does_assign (.tmp 22) (.int .i64 (IntKind.i64.wrap (x1.1 + 1))) trivial), ⟨⟨rfl, trivial⟩, trivial, rfl⟩, rfl, rfl⟩ ?_
      exact nx_loop ((IntKind.i64.wrap (x1.1 + 1)), aupd x1.2 x1.1.toNat 4294967295) H (cov_prune ⟨rfl, rfl, rfl, rfl, rfl, trivial⟩ ⟨rfl, rfl, rfl, rfl, trivial⟩ (Nat.le_of_ble_eq_true rfl))
    · replace H := ite_f hc H
      refine aw_exit ?_
      refine ex_then ?_
      refine ex_then ?_
      refine ex_here ?_
      exact nx_ljoin (x1.2) H hsn2 (cov_prune ⟨rfl, rfl, rfl, rfl, trivial⟩ ⟨rfl, rfl, rfl, rfl, trivial⟩ (Nat.le_of_ble_eq_true rfl))
end Go.Proofs.Ytbkofjefhnnmlaa
