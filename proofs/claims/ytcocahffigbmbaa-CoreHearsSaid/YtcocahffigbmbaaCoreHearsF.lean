/- A part of the proof of the law. Put together by a tool (shake.py) out of our own texts. Conditions: none. -/
import Derived.Test.YtcocahffigbmbaaCoreHearsE
import Derived.OpenShut
import Derived.ChangeOld
import Derived.SizedLaws
set_option linter.unusedVariables false
set_option linter.unusedSimpArgs false
section
set_option linter.unusedVariables false
set_option maxRecDepth 100000
namespace Go.Proofs.Ytcocahffigbmbaa
open Go.Eng
set_option maxHeartbeats 1600000
theorem congressref13_promise_spec (p0 : congressref13_State) (p1 : api_Id) (p2 : (Nat → Int)) (r : congressref13_State) (H : congressref13_promise p0 p1 p2 = some r) : FSpecO Try.prog 41 [(.agg (.st [189, 1]) (vupd (c_congressref13_State p0) 1 (.own 0))), (e_api_Id p1), (e_a8_u32 p2)] [(0, some (.arr 50 p0.Told.length fun j => (e_api_Happen (p0.Told.getD j z_api_Happen))))] 1 (.agg (.st [189, 1]) (vupd (c_congressref13_State r) 1 (.own 0))) [(0, some (.arr 50 r.Told.length fun j => (e_api_Happen (r.Told.getD j z_api_Happen))))] 2 := by
  refine specO_of (fn := Try.f41) (args := [(.agg (.st [189, 1]) (vupd (c_congressref13_State p0) 1 (.own 0))), (e_api_Id p1), (e_a8_u32 p2)]) Try.func41 rfl (nl rfl) ?_
  rintro ⟨G, w0, W, S, Sp, gx⟩ hG
  cases hG
  unfold congressref13_promise at H
  refine aw_region (r_p (does_box 89 (.tmp 0) 1 (.agg (.st [189, 1]) (vupd (c_congressref13_State p0) 1 (.own 0))) trivial rfl) m10 rfl <| r_p (does_box 27 (.tmp 1) 2 (e_api_Id p1) trivial rfl) m10 rfl <| r_p (does_box 28 (.tmp 2) 3 (e_a8_u32 p2) trivial rfl) m10 rfl <| r_0 (does_alloc 89 4 (e_congressref13_State z_congressref13_State) zr89) rfl rfl <| r_e) ?_
  refine aw_cov (cov_prune (s1 := ⟨[(3, _), (4, _), (5, _), (6, _)], [(0, some _), (1, some _), (2, some _), (3, some _), (4, some _)], 5, []⟩) a4 a5 (Nat.le_refl _)) ?_
  refine aw_region (r_lv rfl rfl ty27 rfl <| r_fa (.ptr 1 (0 + 0) [0]) fl89_0 rfl rfl rfl rfl <| r_fa (.ptr 1 ((0 + 0) + 40) [0, 8]) fl35_8 rfl rfl rfl rfl <| r_st (.var (.agg (.st [189, 1]) (vupd (c_congressref13_State ({ p0 with C := { p0.C with Promise := p1 } })) 1 (.own 0)))) rfl rfl a1 trivial rfl ⟨rfl, nl rfl, ⟨rfl, nl rfl, trivial⟩⟩ rfl rfl (congrArg Box.var (set_cons (w := (e_api_Core (({ p0 with C := { p0.C with Promise := p1 } }).C))) (set_cons rfl (st_api_Core_8 _ _)) (fe2 rfl rfl (fun _ => rfl)))) ty27 rfl <| r_e) ?_
  obtain ⟨v1, hv1, H⟩ := lt_of H
  refine aw_cov (cov_prune (s1 := ⟨[(3, _), (5, _), (6, _)], [(0, some _), (1, some (.var (.agg (.st [189, 1]) (vupd (c_congressref13_State v1) 1 (.own 0))))), (3, some _), (4, some _)], 5, []⟩) a3 ⟨rfl, (by subst hv1; rfl), rfl, rfl, trivial⟩ (Nat.le_refl _)) ?_
  refine aw_region (r_lv rfl rfl ty28 rfl <| r_fa (.ptr 1 (0 + 0) [0]) fl89_0 rfl rfl rfl rfl <| r_fa (.ptr 1 ((0 + 0) + 43) [0, 9]) fl35_9 rfl rfl rfl rfl <| r_st (.var (.agg (.st [189, 1]) (vupd (c_congressref13_State ({ v1 with C := { v1.C with Wanted := p2 } })) 1 (.own 0)))) rfl rfl a1 trivial rfl ⟨rfl, nl rfl, ⟨rfl, nl rfl, trivial⟩⟩ rfl rfl (congrArg Box.var (set_cons (w := (e_api_Core (({ v1 with C := { v1.C with Wanted := p2 } }).C))) (set_cons rfl (st_api_Core_9 _ _)) (fe2 rfl rfl (fun _ => rfl)))) ty28 rfl <| r_e) ?_
  obtain ⟨v2, hv2, H⟩ := lt_of H
  refine aw_cov (cov_prune (s1 := ⟨[(3, _), (6, _)], [(0, some _), (1, some (.var (.agg (.st [189, 1]) (vupd (c_congressref13_State v2) 1 (.own 0))))), (4, some _)], 5, []⟩) a2 ⟨rfl, (by subst hv2; rfl), rfl, trivial⟩ (Nat.le_refl _)) ?_
  refine aw_region (r_fa (.ptr 1 (0 + 0) [0]) fl89_0 rfl rfl rfl rfl <| r_fa (.ptr 1 ((0 + 0) + 31) [0, 6]) fl35_6 rfl rfl rfl rfl <| r_ld (e_a8_u32 v2.C.Count) rfl rfl ⟨rfl, nl rfl, ⟨rfl, nl rfl, trivial⟩⟩ rfl rfl ty29 rfl <| r_fa (.ptr 1 (0 + 0) [0]) fl89_0 rfl rfl rfl rfl <| r_fa (.ptr 1 ((0 + 0) + 51) [0, 10]) fl35_10 rfl rfl rfl rfl <| r_st (.var (.agg (.st [189, 1]) (vupd (c_congressref13_State ({ v2 with C := { v2.C with Cut := v2.C.Count } })) 1 (.own 0)))) rfl rfl a1 trivial rfl ⟨rfl, nl rfl, ⟨rfl, nl rfl, trivial⟩⟩ rfl rfl (congrArg Box.var (set_cons (w := (e_api_Core (({ v2 with C := { v2.C with Cut := v2.C.Count } }).C))) (set_cons rfl (st_api_Core_10 _ _)) (fe2 rfl rfl (fun _ => rfl)))) ty29 rfl <| r_e) ?_
  obtain ⟨v3, hv3, H⟩ := lt_of H
  refine aw_cov (cov_prune (s1 := ⟨[(3, _), (6, _)], [(0, some _), (1, some (.var (.agg (.st [189, 1]) (vupd (c_congressref13_State v3) 1 (.own 0))))), (4, some _)], 5, []⟩) a2 ⟨rfl, (by subst hv3; rfl), rfl, trivial⟩ (Nat.le_refl _)) ?_
  refine aw_region (r_fa (.ptr 1 (0 + 0) [0]) fl89_0 rfl rfl rfl rfl <| r_fa (.ptr 1 ((0 + 0) + 59) [0, 11]) fl35_11 rfl rfl rfl rfl <| r_st (.var (.agg (.st [189, 1]) (vupd (c_congressref13_State ({ v3 with C := { v3.C with Ready := false } })) 1 (.own 0)))) rfl rfl trivial (u := (.bool false)) (fun _ => rfl) rfl ⟨rfl, nl rfl, ⟨rfl, nl rfl, trivial⟩⟩ rfl rfl (congrArg Box.var (set_cons (w := (e_api_Core (({ v3 with C := { v3.C with Ready := false } }).C))) (set_cons rfl (st_api_Core_11 _ _)) (fe2 rfl rfl (fun _ => rfl)))) ty4 rfl <| r_e) ?_
  obtain ⟨v4, hv4, H⟩ := lt_of H
  refine aw_cov (cov_prune (s1 := ⟨[(3, _), (6, _)], [(0, some _), (1, some (.var (.agg (.st [189, 1]) (vupd (c_congressref13_State v4) 1 (.own 0))))), (4, some _)], 5, []⟩) a2 ⟨rfl, (by subst hv4; rfl), rfl, trivial⟩ (Nat.le_refl _)) ?_
  refine aw_region (r_lv rfl rfl ty89 rfl <| r_sv rfl rfl rfl rfl rfl rfl ty89 rfl <| r_e) ?_
  refine aw_cov (cov_prune (s1 := ⟨[(6, _)], [(0, some _), (4, some _)], 5, []⟩) a1 a2 (Nat.le_refl _)) ?_
  refine aw_ret ?_
  exact fun a w hr => ⟨_, [(.agg (.st [189, 1]) (vupd (c_congressref13_State ({ v4 with Told := p0.Told } : congressref13_State)) 1 (.own 0)))], reach_of hr (cov_to (s1 := ⟨[(6, (.ptr 1 0 []))], [(0, some (.arr 50 p0.Told.length fun j => (e_api_Happen (p0.Told.getD j z_api_Happen)))), (1, some (.var (.agg (.st [189, 1]) (vupd (c_congressref13_State ({ v4 with Told := p0.Told } : congressref13_State)) 1 (.own 0)))))], 2, []⟩) (fun i => match i with | 0 => 0 | 1 => 4 | k => k) [] ⟨⟨_, rfl, .ptr 1 _ _ _ _ (nl rfl) rfl rfl⟩, trivial⟩ ⟨⟨nl rfl, _, _, rfl, rfl, boxTo_arr (fun _ => (d_api_Happen _))⟩, ⟨nl rfl, _, _, rfl, rfl, (boxTo_st (.agg _ _ _ (fun j => match j with | 0 => .plain _ ((d_api_Core _).plain) | 1 => .own 0 _ _ (nl rfl) rfl rfl (Box.like_refl _) | _ + 2 => .plain _ trivial)))⟩, trivial⟩ rfl rfl), ⟨⟨1, rfl, rfl, ty89⟩, trivial⟩, by decide, by cases H; rfl, by cases H; exact ⟨rfl, trivial⟩, nl rfl⟩
theorem congressref10_Is_spec (p0 : (Nat → Int)) (p1 : Int) (r : Bool) (H : congressref10_Is p0 p1 = some r) : FSpec Try.prog 82 [(e_a8_u32 p0), (.int .i64 p1)] (.bool r) := by
  refine spec_of (fn := Try.f82) (args := [(e_a8_u32 p0), (.int .i64 p1)]) Try.func82 rfl (nl rfl) ?_
  rintro ⟨G, w0, W, S, Sp, gx⟩ hG
  cases hG
  unfold congressref10_Is at H
  refine aw_region (r_p (does_box 28 (.tmp 0) 0 (e_a8_u32 p0) trivial rfl) m10 rfl <| r_0 (does_assign (.const (.bool false)) (.bool false) (fun _ => rfl)) rfl rfl <| r_e) ?_
  refine aw_cov (cov_prune (s1 := ⟨[(1, _), (2, _)], [(0, some _)], 1, []⟩) a2 a1 (Nat.le_refl _)) ?_
  obtain ⟨h1, H⟩ := ibg_of H
  refine aw_region (r_mv rfl rfl <| r_p (does_bin .geq 3 3 (.tmp 5) (.const (.int .i64 0)) .i64 p1 0 (.bool (decide (p1 ≥ 0))) trivial (fun _ => rfl) (bin_geq _ _ _ _)) m10 rfl <| r_mv rfl rfl <| r_gmv rfl rfl rfl rfl rfl rfl <| r_g [(8, _)] [(8, _)] [] rfl rfl m20 rfl (fun hc => ⟨(.opt _ _ hc), trivial⟩) (fun hc => does_bin .lss 3 3 (.tmp 8) (.const (.int .i64 8)) .i64 p1 8 (.bool (decide (p1 < 8))) trivial (fun _ => rfl) (bin_lss _ _ _ _)) rfl <| r_p (does_and 7 9 (decide (p1 ≥ 0)) (decide (p1 < 8))) m20 rfl <| r_mv rfl rfl <| r_gmv rfl rfl rfl rfl rfl rfl <| r_g [(2, _), (12, _)] [(2, _), (12, _)] [(0, _)] rfl rfl m31 rfl (fun hc => ⟨(.same _), (.opt _ _ hc), trivial⟩) (fun hc => does_indexAddr 28 8 1 2 0 0 [] (.var (e_a8_u32 p0)) (.tmp 12) .i64 p1 el28 trivial (h1 hc).1 (h1 hc).2) rfl <| r_gld (.int .u32 (p0 p1.toNat)) rfl rfl rfl rfl rfl (fun hc => .opt _ _ hc) rfl (fun hc => ⟨rfl, (ixl (h1 hc)), trivial⟩) rfl rfl ty22 rfl <| r_g [(14, _)] [(14, _)] [] rfl rfl m20 rfl (fun hc => ⟨(.opt _ _ hc), trivial⟩) (fun hc => does_bin .neq 22 22 (.tmp 14) (.const (.int .u32 0)) .u32 (p0 p1.toNat) 0 (.bool ((p0 p1.toNat) != 0)) trivial (fun _ => rfl) (bin_neq _ _ _ _)) rfl <| r_p (does_and 11 15 ((decide (p1 ≥ 0)) && (decide (p1 < 8))) ((p0 p1.toNat) != 0)) m20 rfl <| r_as rfl rfl <| r_e) ?_
  refine aw_cov (cov_prune (s1 := ⟨[(4, _)], [], 1, []⟩) a1 trivial (Nat.le_refl _)) ?_
  refine aw_ret ?_
  exact fun a w hr => ⟨_, [(.bool (((decide (p1 ≥ 0)) && (decide (p1 < 8))) && ((p0 p1.toNat) != 0)))], hr, ⟨⟨_, rfl, .data (.bool (((decide (p1 ≥ 0)) && (decide (p1 < 8))) && ((p0 p1.toNat) != 0))) trivial⟩, trivial⟩, by decide, by cases H; rfl⟩
theorem congressref10_Take_spec (p0 : (_root_.List api_Kept)) (p1 : (Nat → Int)) (p2 : (Nat → Int)) (p3 : api_Kept) (r : (_root_.List api_Kept) × (Nat → Int) × Bool) (H : congressref10_Take p0 p1 p2 p3 = some r) : FSpec Try.prog 44 [(e_s_api_Kept p0), (e_a8_u32 p1), (e_a8_u32 p2), (e_api_Kept p3)] (resV [(e_s_api_Kept r.1), (e_a8_u32 r.2.1), (.bool r.2.2)]) := by
  refine spec_of (fn := Try.f44) (args := [(e_s_api_Kept p0), (e_a8_u32 p1), (e_a8_u32 p2), (e_api_Kept p3)]) Try.func44 rfl (nl rfl) ?_
  rintro ⟨G, w0, W, S, Sp, gx⟩ hG
  cases hG
  unfold congressref10_Take at H
  refine aw_region (r_p (does_box 29 (.tmp 1) 0 (e_a8_u32 p1) trivial rfl) m10 rfl <| r_p (does_box 28 (.tmp 2) 1 (e_a8_u32 p2) trivial rfl) m10 rfl <| r_p (does_box 64 (.tmp 3) 2 (e_api_Kept p3) trivial rfl) m10 rfl <| r_0 (does_nil false 3 38 (fun j => (e_api_Kept (([] : _root_.List api_Kept).getD j z_api_Kept)))) rfl rfl <| r_0 (does_alloc 29 4 (e_a8_u32 (fun _ => 0)) zr29) rfl rfl <| r_0 (does_assign (.const (.bool false)) (.bool false) (fun _ => rfl)) rfl rfl <| r_e) ?_
  refine aw_cov (cov_prune (s1 := ⟨[(0, _), (5, _), (6, _), (7, _), (9, _)], [(0, some _), (1, some _), (2, some _), (4, some _)], 5, []⟩) a5 a4 (Nat.le_refl _)) ?_
  refine aw_seq ?_
  obtain ⟨v1, h2, H⟩ := bnd H
  obtain ⟨h3, H⟩ := ibg_of H
  refine aw_draw (mixed) (r_lv rfl rfl ty28 rfl <| r_fa (.ptr 2 (0 + 0) [0]) fl64_0 rfl rfl rfl rfl <| r_ld (.int .i64 p3.From) rfl rfl ⟨rfl, nl rfl, trivial⟩ rfl rfl ty3 rfl <| r_ca [_, _] [_, _] (nob := []) (flat := true) (congressref10_Is_spec p2 _ _ h2) rfl rfl m20 fo82 ⟨trivial, trivial, trivial⟩ ⟨.data _ (d_a8_u32 _), .data _ trivial, trivial⟩ trivial rfl <| r_p (does_not 4 (.tmp 16) v1 trivial) m10 rfl <| r_mv rfl rfl <| r_gfa (.ptr 2 (0 + 1) [1]) fl64_1 rfl rfl rfl rfl rfl (fun _ => .same _) rfl rfl rfl <| r_gld (.int .u32 p3.Round) rfl rfl rfl rfl rfl (fun hc => .opt _ _ hc) rfl (fun hc => ⟨rfl, nl rfl, trivial⟩) rfl rfl ty22 rfl <| r_g [(20, _)] [(20, _)] [] rfl rfl m20 rfl (fun hc => ⟨(.opt _ _ hc), trivial⟩) (fun hc => does_convInt 22 36 (.tmp 20) .u32 .u64 p3.Round trivial rfl rfl) rfl <| r_gfa (.ptr 2 (0 + 0) [0]) fl64_0 rfl rfl rfl rfl rfl (fun _ => .same _) rfl rfl rfl <| r_gld (.int .i64 p3.From) rfl rfl rfl rfl rfl (fun hc => .opt _ _ hc) rfl (fun hc => ⟨rfl, nl rfl, trivial⟩) rfl rfl ty3 rfl <| r_g [(5, _), (23, _)] [(5, _), (23, _)] [(0, _)] rfl rfl m31 rfl (fun hc => ⟨(.same _), (.opt _ _ hc), trivial⟩) (fun hc => does_indexAddr 29 8 1 5 0 0 [] (.var (e_a8_u32 p1)) (.tmp 23) .i64 p3.From el29 trivial (h3 hc).1 (h3 hc).2) rfl <| r_gld (.int .u32 (p1 p3.From.toNat)) rfl rfl rfl rfl rfl (fun hc => .opt _ _ hc) rfl (fun hc => ⟨rfl, (ixl (h3 hc)), trivial⟩) rfl rfl ty22 rfl <| r_g [(25, _)] [(25, _)] [] rfl rfl m20 rfl (fun hc => ⟨(.opt _ _ hc), trivial⟩) (fun hc => does_convInt 22 36 (.tmp 25) .u32 .u64 (p1 p3.From.toNat) trivial rfl rfl) rfl <| r_g [(26, _)] [(26, _)] [] rfl rfl m20 rfl (fun hc => ⟨(.opt _ _ hc), trivial⟩) (fun hc => does_bin .add 36 36 (.tmp 26) (.const (.int .u64 1)) .u64 (IntKind.u64.wrap (p1 p3.From.toNat)) 1 (.int .u64 (IntKind.u64.wrap ((IntKind.u64.wrap (p1 p3.From.toNat)) + 1))) trivial (fun _ => rfl) (bin_add _ _ _ _)) rfl <| r_g [(21, _), (27, _)] [(21, _), (27, _)] [] rfl rfl m30 rfl (fun hc => ⟨(.opt _ _ hc), (.opt _ _ hc), trivial⟩) (fun hc => does_bin .neq 36 36 (.tmp 21) (.tmp 27) .u64 (IntKind.u64.wrap (p3.Round)) (IntKind.u64.wrap ((IntKind.u64.wrap (p1 p3.From.toNat)) + 1)) (.bool ((IntKind.u64.wrap (p3.Round)) != (IntKind.u64.wrap ((IntKind.u64.wrap (p1 p3.From.toNat)) + 1)))) trivial trivial (bin_neq _ _ _ _)) rfl <| r_p (does_or 18 28 (!v1) ((IntKind.u64.wrap (p3.Round)) != (IntKind.u64.wrap ((IntKind.u64.wrap (p1 p3.From.toNat)) + 1)))) m20 rfl <| r_e) rfl ?_
  obtain ⟨v4, hv4, H⟩ := lt_of H
  refine aw_cov (cov_prune (s1 := ⟨[(0, _), (5, _), (7, _), (9, _), (29, (.bool v4))], [(0, some _), (2, some _), (4, some _)], 5, []⟩) ⟨rfl, rfl, rfl, rfl, (by subst hv4; rfl), trivial⟩ a3 (Nat.le_refl _)) ?_
  refine aw_cond rfl (fun hc => ?_) (fun hc => ?_)
  · replace H := ite_t hc H
    refine aw_draw (mixed) (r_mv rfl rfl <| r_lv rfl rfl ty29 rfl <| r_as rfl rfl <| r_sv rfl rfl rfl rfl rfl rfl ty29 rfl <| r_0 (does_assign (.const (.bool false)) (.bool false) (fun _ => rfl)) rfl rfl <| r_e) rfl ?_
    refine aw_cov (cov_prune (s1 := ⟨[(9, _), (8, _), (10, _)], [(4, some _)], 5, []⟩) a3 a1 (Nat.le_refl _)) ?_
    refine aw_ret ?_
    refine rt_then ?_
    exact fun a w hr => ⟨_, [(e_s_api_Kept p0), (e_a8_u32 p1), (.bool false)], hr, ⟨⟨_, rfl, .data (e_s_api_Kept p0) (d_s_api_Kept p0)⟩, ⟨4, _, rfl, rfl, .data _ (d_a8_u32 p1), ty29⟩, ⟨_, rfl, .data (.bool false) trivial⟩, trivial⟩, by decide, by cases H; rfl⟩
  · replace H := ite_f hc H
    refine aw_skip ?_
    refine nx_seq ?_
    refine aw_region (r_0 (does_buildOwn 30 0 38 5 (e_api_Kept z_api_Kept) (fun j => (e_api_Kept (([] : _root_.List api_Kept).getD j z_api_Kept))) #[] [] [] rfl so30 (by decide) trivial trivial (fun j h => match j, h with  | k + 0, h => (nlt h).elim)) rfl rfl <| r_as rfl rfl <| r_e) ?_
    refine aw_cov (cov_prune (s1 := ⟨[(0, _), (5, _), (7, _), (9, _), (11, _)], [(0, some _), (2, some _), (4, some _), (5, some _)], 6, []⟩) a5 a4 (Nat.le_refl _)) ?_
    refine aw_seq ?_
    refine aw_region (r_0 (does_assign (.const (.int .i64 0)) (.int .i64 0) (fun _ => rfl)) rfl rfl <| r_e) ?_
    refine aw_cov (cov_prune (s1 := ⟨[(0, _), (5, _), (7, _), (9, _), (11, _), (12, _)], [(0, some _), (2, some _), (4, some _), (5, some _)], 6, []⟩) a6 a4 (Nat.le_refl _)) ?_
    obtain ⟨wn6, hwn6, Hrn6⟩ := bnd H
    refine aw_meet (fun y14 : _root_.List api_Kept => (⟨[(5, (.ptr 0 0 [])), (7, (.ptr 2 0 [])), (9, (.ptr 4 0 [])), (11, (.own 5))], [(0, some (.var (e_a8_u32 p1))), (2, some (.var (e_api_Kept p3))), (4, some (.var (e_a8_u32 (fun _ => 0)))), (5, some (.arr 38 y14.length fun j => (e_api_Kept (y14.getD j z_api_Kept))))], 6, []⟩ : St)) (fun y14 => Fl.nx y14 = wn6) (fun y14 hy => ?_) (aw_block (aw_runs (fun x5 : Int × _root_.List api_Kept => (⟨[(0, (e_s_api_Kept p0)), (5, (.ptr 0 0 [])), (7, (.ptr 2 0 [])), (9, (.ptr 4 0 [])), (11, (.own 5)), (12, (.int .i64 x5.1))], [(0, some (.var (e_a8_u32 p1))), (2, some (.var (e_api_Kept p3))), (4, some (.var (e_a8_u32 (fun _ => 0)))), (5, some (.arr 38 x5.2.length fun j => (e_api_Kept (x5.2.getD j z_api_Kept))))], 6, []⟩ : St)) hwn6 (cov_prune a6 a4 (nl rfl)) (fun x5 st H hsn6 => ?_)))
    · have H := nx_of hy Hrn6
      refine nx_seq ?_
      obtain ⟨h15, H⟩ := fit_of H
      refine aw_region (r_mv rfl rfl <| r_lv rfl rfl ty64 rfl <| r_p (does_buildSl 30 1 38 (e_api_Kept z_api_Kept) (fun j => (e_api_Kept (([p3] : _root_.List api_Kept).getD j z_api_Kept))) #[(0, (.tmp 68))] [(0, (.tmp 68))] [(0, (e_api_Kept p3))] rfl so30 (by decide) ⟨a1, trivial⟩ ⟨⟨nl rfl, rfl, rfl⟩, trivial⟩ (fun j h => match j, h with | 0, _ => rfl | k + 1, h => (nlt h).elim)) m10 rfl <| r_p (does_appendL e_api_Kept z_api_Kept y14 ([p3] : _root_.List api_Kept) 30 38 352 5 6 67 69 ap30 h15) m21 rfl <| r_as rfl rfl <| r_e) ?_
      refine aw_cov (cov_prune (s1 := ⟨[(5, _), (7, _), (9, _), (11, _)], [(0, some _), (2, some _), (4, some _), (6, some _)], 7, []⟩) a4 a4 (Nat.le_refl _)) ?_
      obtain ⟨h16, H⟩ := ib_of H
      refine aw_region (r_fa (.ptr 2 (0 + 0) [0]) fl64_0 rfl rfl rfl rfl <| r_ld (.int .i64 p3.From) rfl rfl ⟨rfl, nl rfl, trivial⟩ rfl rfl ty3 rfl <| r_fa (.ptr 2 (0 + 1) [1]) fl64_1 rfl rfl rfl rfl <| r_ld (.int .u32 p3.Round) rfl rfl ⟨rfl, nl rfl, trivial⟩ rfl rfl ty22 rfl <| r_p (does_indexAddr 29 8 1 5 0 0 [] (.var (e_a8_u32 p1)) (.tmp 72) .i64 p3.From el29 trivial h16.1 h16.2) m21 rfl <| r_st (.var (e_a8_u32 (aupd p1 p3.From.toNat p3.Round))) rfl rfl a1 trivial rfl ⟨rfl, (ixl h16), trivial⟩ rfl rfl (congrArg Box.var (set_cons rfl (vupd_map (fun z => V.int .u32 z) _ _ _))) ty22 rfl <| r_e) ?_
      refine aw_cov (cov_prune (s1 := ⟨[(5, _), (9, _), (11, _)], [(0, some _), (4, some _), (6, some _)], 7, []⟩) a3 a3 (Nat.le_refl _)) ?_
      refine aw_draw (mixed) (r_mv rfl rfl <| r_lv rfl rfl ty29 rfl <| r_as rfl rfl <| r_sv rfl rfl rfl rfl rfl rfl ty29 rfl <| r_0 (does_assign (.const (.bool true)) (.bool true) (fun _ => rfl)) rfl rfl <| r_e) rfl ?_
      refine aw_cov (cov_prune (s1 := ⟨[(9, _), (8, _), (10, _)], [(4, some _), (6, some _)], 7, []⟩) a3 a2 (Nat.le_refl _)) ?_
      refine aw_ret ?_
      exact fun a w hr => ⟨_, [(e_s_api_Kept (y14 ++ ([p3] : _root_.List api_Kept))), (e_a8_u32 (aupd p1 p3.From.toNat p3.Round)), (.bool true)], hr, ⟨⟨_, rfl, .own _ _ _ _ rfl (fun _ => (d_api_Kept _))⟩, ⟨4, _, rfl, rfl, .data _ (d_a8_u32 (aupd p1 p3.From.toNat p3.Round)), ty29⟩, ⟨_, rfl, .data (.bool true) trivial⟩, trivial⟩, by decide, by cases H; rfl⟩
    · refine aw_seq ?_
      refine aw_region (r_mv rfl rfl <| r_mv rfl rfl <| r_p (does_lens 30 38 p0.length 34 (fun j => (e_api_Kept (p0.getD j z_api_Kept))) el30) m10 rfl <| r_p (does_bin .lss 3 3 (.tmp 33) (.tmp 35) .i64 x5.1 (p0.length : Int) (.bool (decide (x5.1 < (p0.length : Int)))) trivial trivial (bin_lss _ _ _ _)) m20 rfl <| r_e) ?_
      refine aw_cov (cov_prune (s1 := ⟨[(0, _), (5, _), (7, _), (9, _), (11, _), (12, _), (36, _)], [(0, some _), (2, some _), (4, some _), (5, some _)], 6, []⟩) a7 a4 (Nat.le_refl _)) ?_
      refine aw_cond rfl (fun hc => ?_) (fun hc => ?_)
      · replace H := ite_t hc H
        refine aw_skip ?_
        refine nx_seq ?_
        refine aw_seq ?_
        refine aw_jn (fun x13 : _root_.List api_Kept => (⟨[(0, (e_s_api_Kept p0)), (5, (.ptr 0 0 [])), (7, (.ptr 2 0 [])), (9, (.ptr 4 0 [])), (11, (.own 5)), (12, (.int .i64 x5.1))], [(0, some (.var (e_a8_u32 p1))), (2, some (.var (e_api_Kept p3))), (4, some (.var (e_a8_u32 (fun _ => 0)))), (5, some (.arr 38 x13.length fun j => (e_api_Kept (x13.getD j z_api_Kept))))], 7, []⟩ : St)) H (fun x13 H => ?_) (fun j7 H => ?_)
        · refine nx_seq ?_
          refine aw_region1 (r_mv rfl rfl <| r_p (does_bin .add 3 3 (.tmp 37) (.const (.int .i64 1)) .i64 x5.1 1 (.int .i64 (IntKind.i64.wrap (x5.1 + 1))) trivial (fun _ => rfl) (bin_add _ _ _ _)) m10 rfl <| r_as rfl rfl <| r_e) ?_
          exact nx_loop ((IntKind.i64.wrap (x5.1 + 1)), x13) H (cov_of (fun i => match i with | 0 => 0 | 2 => 2 | 4 => 4 | 5 => 5 | k => k) ⟨⟨_, rfl, ⟨rfl, (d_s_api_Kept _).plain⟩⟩, ⟨_, rfl, ⟨rfl, nl rfl⟩⟩, ⟨_, rfl, ⟨rfl, nl rfl⟩⟩, ⟨_, rfl, ⟨rfl, nl rfl⟩⟩, ⟨_, rfl, ⟨rfl, nl rfl⟩⟩, ⟨_, rfl, a1⟩, trivial⟩ ⟨⟨nl rfl, _, _, rfl, rfl, .inl ⟨rfl, (d_a8_u32 _).plain⟩⟩, ⟨nl rfl, _, _, rfl, rfl, .inl ⟨rfl, (d_api_Kept _).plain⟩⟩, ⟨nl rfl, _, _, rfl, rfl, .inl ⟨rfl, (d_a8_u32 _).plain⟩⟩, ⟨nl rfl, _, _, rfl, rfl, ⟨rfl, rfl, fun _ => .inl ⟨rfl, (d_api_Kept _).plain⟩⟩⟩, trivial⟩ rfl)
        · refine aw_block ?_
          obtain ⟨h8, H⟩ := ib_of H
          obtain ⟨h9, H⟩ := ibg_of H
          refine aw_draw (mixed) (r_mv rfl rfl <| r_mv rfl rfl <| r_p (does_indexAddrs 30 38 p0.length 39 (fun j => (e_api_Kept (p0.getD j z_api_Kept))) (.tmp 40) .i64 x5.1 el30 trivial h8.1 h8.2) m20 rfl <| r_p (does_fieldAddrc 64 0 0 41 (e_api_Kept (p0.getD x5.1.toNat z_api_Kept)) fl64_0 rfl (nl rfl) rfl) m10 rfl <| r_p (does_loadc 3 42 (.int .i64 ((p0.getD x5.1.toNat z_api_Kept).From)) ty3) m10 rfl <| r_fa (.ptr 2 (0 + 0) [0]) fl64_0 rfl rfl rfl rfl <| r_ld (.int .i64 p3.From) rfl rfl ⟨rfl, nl rfl, trivial⟩ rfl rfl ty3 rfl <| r_p (does_bin .neq 3 3 (.tmp 43) (.tmp 45) .i64 ((p0.getD x5.1.toNat z_api_Kept).From) p3.From (.bool (((p0.getD x5.1.toNat z_api_Kept).From) != p3.From)) trivial trivial (bin_neq _ _ _ _)) m20 rfl <| r_mv rfl rfl <| r_gmv rfl rfl rfl rfl rfl rfl <| r_gmv rfl rfl rfl rfl rfl rfl <| r_g [(48, _), (49, _)] [(48, _), (49, _)] [] rfl rfl m30 rfl (fun hc => ⟨(.opt _ _ hc), (.opt _ _ hc), trivial⟩) (fun hc => does_indexAddrs 30 38 p0.length 48 (fun j => (e_api_Kept (p0.getD j z_api_Kept))) (.tmp 49) .i64 x5.1 el30 trivial (h9 hc).1 (h9 hc).2) rfl <| r_g [(50, _)] [(50, _)] [] rfl rfl m20 rfl (fun hc => ⟨(.opt _ _ hc), trivial⟩) (fun hc => does_fieldAddrc 64 1 1 50 (e_api_Kept (p0.getD x5.1.toNat z_api_Kept)) fl64_1 rfl (nl rfl) rfl) rfl <| r_g [(51, _)] [(51, _)] [] rfl rfl m20 rfl (fun hc => ⟨(.opt _ _ hc), trivial⟩) (fun hc => does_loadc 22 51 (.int .u32 ((p0.getD x5.1.toNat z_api_Kept).Round)) ty22) rfl <| r_g [(52, _)] [(52, _)] [] rfl rfl m20 rfl (fun hc => ⟨(.opt _ _ hc), trivial⟩) (fun hc => does_convInt 22 36 (.tmp 52) .u32 .u64 ((p0.getD x5.1.toNat z_api_Kept).Round) trivial rfl rfl) rfl <| r_g [(53, _)] [(53, _)] [] rfl rfl m20 rfl (fun hc => ⟨(.opt _ _ hc), trivial⟩) (fun hc => does_bin .add 36 36 (.tmp 53) (.const (.int .u64 3)) .u64 (IntKind.u64.wrap ((p0.getD x5.1.toNat z_api_Kept).Round)) 3 (.int .u64 (IntKind.u64.wrap ((IntKind.u64.wrap ((p0.getD x5.1.toNat z_api_Kept).Round)) + 3))) trivial (fun _ => rfl) (bin_add _ _ _ _)) rfl <| r_gfa (.ptr 2 (0 + 1) [1]) fl64_1 rfl rfl rfl rfl rfl (fun _ => .same _) rfl rfl rfl <| r_gld (.int .u32 p3.Round) rfl rfl rfl rfl rfl (fun hc => .opt _ _ hc) rfl (fun hc => ⟨rfl, nl rfl, trivial⟩) rfl rfl ty22 rfl <| r_g [(56, _)] [(56, _)] [] rfl rfl m20 rfl (fun hc => ⟨(.opt _ _ hc), trivial⟩) (fun hc => does_convInt 22 36 (.tmp 56) .u32 .u64 p3.Round trivial rfl rfl) rfl <| r_g [(54, _), (57, _)] [(54, _), (57, _)] [] rfl rfl m30 rfl (fun hc => ⟨(.opt _ _ hc), (.opt _ _ hc), trivial⟩) (fun hc => does_bin .gtr 36 36 (.tmp 54) (.tmp 57) .u64 (IntKind.u64.wrap ((IntKind.u64.wrap ((p0.getD x5.1.toNat z_api_Kept).Round)) + 3)) (IntKind.u64.wrap (p3.Round)) (.bool (decide ((IntKind.u64.wrap ((IntKind.u64.wrap ((p0.getD x5.1.toNat z_api_Kept).Round)) + 3)) > (IntKind.u64.wrap (p3.Round))))) trivial trivial (bin_gtr _ _ _ _)) rfl <| r_p (does_or 47 58 (((p0.getD x5.1.toNat z_api_Kept).From) != p3.From) (decide ((IntKind.u64.wrap ((IntKind.u64.wrap ((p0.getD x5.1.toNat z_api_Kept).Round)) + 3)) > (IntKind.u64.wrap (p3.Round))))) m20 rfl <| r_e) rfl ?_
          obtain ⟨v10, hv10, H⟩ := lt_of H
          refine aw_cov (cov_prune (s1 := ⟨[(0, _), (5, _), (7, _), (9, _), (11, _), (12, _), (59, (.bool v10))], [(0, some _), (2, some _), (4, some _), (5, some _)], 6, []⟩) ⟨rfl, rfl, rfl, rfl, rfl, rfl, (by subst hv10; rfl), trivial⟩ a4 (Nat.le_refl _)) ?_
          refine aw_cond rfl (fun hc => ?_) (fun hc => ?_)
          · replace H := ite_t hc H
            obtain ⟨h11, H⟩ := ib_of H
            obtain ⟨h12, H⟩ := fit_of H
            refine aw_region1 (r_mv rfl rfl <| r_mv rfl rfl <| r_mv rfl rfl <| r_p (does_indexAddrs 30 38 p0.length 61 (fun j => (e_api_Kept (p0.getD j z_api_Kept))) (.tmp 62) .i64 x5.1 el30 trivial h11.1 h11.2) m20 rfl <| r_p (does_loadc 64 63 (e_api_Kept (p0.getD x5.1.toNat z_api_Kept)) ty64) m10 rfl <| r_p (does_buildSl 30 1 38 (e_api_Kept z_api_Kept) (fun j => (e_api_Kept (([p0.getD x5.1.toNat z_api_Kept] : _root_.List api_Kept).getD j z_api_Kept))) #[(0, (.tmp 64))] [(0, (.tmp 64))] [(0, (e_api_Kept (p0.getD x5.1.toNat z_api_Kept)))] rfl so30 (by decide) ⟨a1, trivial⟩ ⟨⟨nl rfl, rfl, rfl⟩, trivial⟩ (fun j h => match j, h with | 0, _ => rfl | k + 1, h => (nlt h).elim)) m10 rfl <| r_p (does_appendL e_api_Kept z_api_Kept x5.2 ([p0.getD x5.1.toNat z_api_Kept] : _root_.List api_Kept) 30 38 352 5 6 60 65 ap30 h12) m21 rfl <| r_as rfl rfl <| r_e) ?_
            refine nx_blk ?_
            exact nx_join ((x5.2 ++ ([p0.getD x5.1.toNat z_api_Kept] : _root_.List api_Kept))) H (cov_of (fun i => match i with | 0 => 0 | 2 => 2 | 4 => 4 | 5 => 6 | k => k) ⟨⟨_, rfl, ⟨rfl, (d_s_api_Kept _).plain⟩⟩, ⟨_, rfl, ⟨rfl, nl rfl⟩⟩, ⟨_, rfl, ⟨rfl, nl rfl⟩⟩, ⟨_, rfl, ⟨rfl, nl rfl⟩⟩, ⟨_, rfl, ⟨rfl, nl rfl⟩⟩, ⟨_, rfl, a1⟩, trivial⟩ ⟨⟨nl rfl, _, _, rfl, rfl, .inl ⟨rfl, (d_a8_u32 _).plain⟩⟩, ⟨nl rfl, _, _, rfl, rfl, .inl ⟨rfl, (d_api_Kept _).plain⟩⟩, ⟨nl rfl, _, _, rfl, rfl, .inl ⟨rfl, (d_a8_u32 _).plain⟩⟩, ⟨nl rfl, _, _, rfl, rfl, ⟨rfl, rfl, fun _ => .inl ⟨rfl, (d_api_Kept _).plain⟩⟩⟩, trivial⟩ rfl)
          · replace H := ite_f hc H
            refine aw_skip ?_
            refine nx_blk ?_
            exact nx_join (x5.2) H (cov_of (fun i => match i with | 0 => 0 | 2 => 2 | 4 => 4 | 5 => 5 | k => k) ⟨⟨_, rfl, ⟨rfl, (d_s_api_Kept _).plain⟩⟩, ⟨_, rfl, ⟨rfl, nl rfl⟩⟩, ⟨_, rfl, ⟨rfl, nl rfl⟩⟩, ⟨_, rfl, ⟨rfl, nl rfl⟩⟩, ⟨_, rfl, ⟨rfl, nl rfl⟩⟩, ⟨_, rfl, a1⟩, trivial⟩ ⟨⟨nl rfl, _, _, rfl, rfl, .inl ⟨rfl, (d_a8_u32 _).plain⟩⟩, ⟨nl rfl, _, _, rfl, rfl, .inl ⟨rfl, (d_api_Kept _).plain⟩⟩, ⟨nl rfl, _, _, rfl, rfl, .inl ⟨rfl, (d_a8_u32 _).plain⟩⟩, ⟨nl rfl, _, _, rfl, rfl, ⟨rfl, rfl, fun _ => .inl ⟨rfl, (d_api_Kept _).plain⟩⟩⟩, trivial⟩ rfl)
      · replace H := ite_f hc H
        refine aw_exit ?_
        refine ex_then ?_
        refine ex_then ?_
        refine ex_here ?_
        exact nx_ljoin (x5.2) H hsn6 (cov_prune a4 a4 (nl rfl))
end Go.Proofs.Ytcocahffigbmbaa
end

section
set_option linter.unusedVariables false
set_option maxRecDepth 100000
namespace Go.Proofs.Ytcocahffigbmbaa
open Go.Eng
set_option maxHeartbeats 1600000
theorem congressref10_Same_spec (p0 : (_root_.List api_Kept)) (p1 : (_root_.List api_Kept)) (r : Bool) (H : congressref10_Same p0 p1 = some r) : FSpec Try.prog 45 [(e_s_api_Kept p0), (e_s_api_Kept p1)] (.bool r) := by
  refine spec_of (fn := Try.f45) (args := [(e_s_api_Kept p0), (e_s_api_Kept p1)]) Try.func45 rfl (nl rfl) ?_
  rintro ⟨G, w0, W, S, Sp, gx⟩ hG
  cases hG
  unfold congressref10_Same at H
  refine aw_region (r_0 (does_assign (.const (.bool false)) (.bool false) (fun _ => rfl)) rfl rfl <| r_e) ?_
  refine aw_cov (cov_prune (s1 := ⟨[(0, _), (1, _)], [], 0, []⟩) a2 trivial (Nat.le_refl _)) ?_
  refine aw_seq ?_
  refine aw_region (r_mv rfl rfl <| r_p (does_lens 30 38 p0.length 6 (fun j => (e_api_Kept (p0.getD j z_api_Kept))) el30) m10 rfl <| r_mv rfl rfl <| r_p (does_lens 30 38 p1.length 8 (fun j => (e_api_Kept (p1.getD j z_api_Kept))) el30) m10 rfl <| r_p (does_bin .neq 3 3 (.tmp 7) (.tmp 9) .i64 (p0.length : Int) (p1.length : Int) (.bool ((p0.length : Int) != (p1.length : Int))) trivial trivial (bin_neq _ _ _ _)) m20 rfl <| r_e) ?_
  refine aw_cov (cov_prune (s1 := ⟨[(0, _), (1, _), (10, _)], [], 0, []⟩) a3 trivial (Nat.le_refl _)) ?_
  refine aw_cond rfl (fun hc => ?_) (fun hc => ?_)
  · replace H := ite_t hc H
    refine aw_region (r_0 (does_assign (.const (.bool false)) (.bool false) (fun _ => rfl)) rfl rfl <| r_e) ?_
    refine aw_cov (cov_prune (s1 := ⟨[(4, _)], [], 0, []⟩) a1 trivial (Nat.le_refl _)) ?_
    refine aw_ret ?_
    refine rt_then ?_
    exact fun a w hr => ⟨_, [(.bool false)], hr, ⟨⟨_, rfl, .data (.bool false) trivial⟩, trivial⟩, by decide, by cases H; rfl⟩
  · replace H := ite_f hc H
    refine aw_skip ?_
    refine nx_seq ?_
    refine aw_seq ?_
    refine aw_region (r_0 (does_assign (.const (.int .i64 0)) (.int .i64 0) (fun _ => rfl)) rfl rfl <| r_e) ?_
    refine aw_cov (cov_prune (s1 := ⟨[(0, _), (1, _), (5, _)], [], 0, []⟩) a3 trivial (Nat.le_refl _)) ?_
    obtain ⟨wn2, hwn2, Hrn2⟩ := bnd H
    refine aw_meet (fun y6 : Unit => (⟨[], [], 0, []⟩ : St)) (fun y6 => Fl.nx y6 = wn2) (fun y6 hy => ?_) (aw_block (aw_runs (fun x1 : Int => (⟨[(0, (e_s_api_Kept p0)), (1, (e_s_api_Kept p1)), (5, (.int .i64 x1))], [], 0, []⟩ : St)) hwn2 (cov_prune a3 trivial (nl rfl)) (fun x1 st H hsn2 => ?_)))
    · have H := nx_of hy Hrn2
      refine nx_seq ?_
      refine aw_region (r_0 (does_assign (.const (.bool true)) (.bool true) (fun _ => rfl)) rfl rfl <| r_e) ?_
      refine aw_cov (cov_prune (s1 := ⟨[(4, _)], [], 0, []⟩) a1 trivial (Nat.le_refl _)) ?_
      refine aw_ret ?_
      exact fun a w hr => ⟨_, [(.bool true)], hr, ⟨⟨_, rfl, .data (.bool true) trivial⟩, trivial⟩, by decide, by cases H; rfl⟩
    · refine aw_seq ?_
      refine aw_region (r_mv rfl rfl <| r_mv rfl rfl <| r_p (does_lens 30 38 p0.length 12 (fun j => (e_api_Kept (p0.getD j z_api_Kept))) el30) m10 rfl <| r_p (does_bin .lss 3 3 (.tmp 11) (.tmp 13) .i64 x1 (p0.length : Int) (.bool (decide (x1 < (p0.length : Int)))) trivial trivial (bin_lss _ _ _ _)) m20 rfl <| r_e) ?_
      refine aw_cov (cov_prune (s1 := ⟨[(0, _), (1, _), (5, _), (14, _)], [], 0, []⟩) a4 trivial (Nat.le_refl _)) ?_
      refine aw_cond rfl (fun hc => ?_) (fun hc => ?_)
      · replace H := ite_t hc H
        refine aw_skip ?_
        refine nx_seq ?_
        refine aw_seq ?_
        refine aw_block ?_
        obtain ⟨h3, H⟩ := ib_of H
        obtain ⟨h4, H⟩ := ib_of H
        refine aw_draw (mixed) (r_mv rfl rfl <| r_mv rfl rfl <| r_p (does_indexAddrs 30 38 p0.length 17 (fun j => (e_api_Kept (p0.getD j z_api_Kept))) (.tmp 18) .i64 x1 el30 trivial h3.1 h3.2) m20 rfl <| r_p (does_loadc 64 19 (e_api_Kept (p0.getD x1.toNat z_api_Kept)) ty64) m10 rfl <| r_mv rfl rfl <| r_mv rfl rfl <| r_p (does_indexAddrs 30 38 p1.length 21 (fun j => (e_api_Kept (p1.getD j z_api_Kept))) (.tmp 22) .i64 x1 el30 trivial h4.1 h4.2) m20 rfl <| r_p (does_loadc 64 23 (e_api_Kept (p1.getD x1.toNat z_api_Kept)) ty64) m10 rfl <| r_eq true rfl rfl rfl rfl eg64 sh64 (al_api_Kept _ _) (al_api_Kept _ _) (q_api_Kept _ _) rfl <| r_e) rfl ?_
        obtain ⟨v5, hv5, H⟩ := lt_of H
        refine aw_cov (cov_prune (s1 := ⟨[(0, _), (1, _), (5, _), (25, (.bool v5))], [], 0, []⟩) ⟨rfl, rfl, rfl, (by subst hv5; rfl), trivial⟩ trivial (Nat.le_refl _)) ?_
        refine aw_cond rfl (fun hc => ?_) (fun hc => ?_)
        · replace H := ite_t hc H
          refine aw_region (r_0 (does_assign (.const (.bool false)) (.bool false) (fun _ => rfl)) rfl rfl <| r_e) ?_
          refine aw_cov (cov_prune (s1 := ⟨[(4, _)], [], 0, []⟩) a1 trivial (Nat.le_refl _)) ?_
          refine aw_ret ?_
          replace H := rt_of H hsn2 Hrn2
          refine rt_blk ?_
          refine rt_then ?_
          refine rt_then ?_
          refine rt_blk ?_
          refine rt_then ?_
          refine rt_then ?_
          exact fun a w hr => ⟨_, [(.bool false)], hr, ⟨⟨_, rfl, .data (.bool false) trivial⟩, trivial⟩, by decide, by cases H; rfl⟩
        · replace H := ite_f hc H
          refine aw_skip ?_
          refine nx_blk ?_
          refine nx_seq ?_
          refine aw_region1 (r_mv rfl rfl <| r_p (does_bin .add 3 3 (.tmp 15) (.const (.int .i64 1)) .i64 x1 1 (.int .i64 (IntKind.i64.wrap (x1 + 1))) trivial (fun _ => rfl) (bin_add _ _ _ _)) m10 rfl <| r_as rfl rfl <| r_e) ?_
          exact nx_loop ((IntKind.i64.wrap (x1 + 1))) H (cov_prune a3 trivial (nl rfl))
      · replace H := ite_f hc H
        refine aw_exit ?_
        refine ex_then ?_
        refine ex_then ?_
        refine ex_here ?_
        exact nx_ljoin () H hsn2 (cov_prune trivial trivial (nl rfl))
theorem congressref13_Is_spec (p0 : api_Core) (p1 : api_Core) (r : Bool) (H : congressref13_Is p0 p1 = some r) : FSpec Try.prog 13 [(e_api_Core p0), (e_api_Core p1)] (.bool r) := by
  refine spec_of (fn := Try.f13) (args := [(e_api_Core p0), (e_api_Core p1)]) Try.func13 rfl (nl rfl) ?_
  rintro ⟨G, w0, W, S, Sp, gx⟩ hG
  cases hG
  unfold congressref13_Is at H
  refine aw_region (r_p (does_box 35 (.tmp 0) 0 (e_api_Core p0) trivial rfl) m10 rfl <| r_p (does_box 35 (.tmp 1) 1 (e_api_Core p1) trivial rfl) m10 rfl <| r_0 (does_assign (.const (.bool false)) (.bool false) (fun _ => rfl)) rfl rfl <| r_e) ?_
  refine aw_cov (cov_prune (s1 := ⟨[(2, _), (3, _)], [(0, some _), (1, some _)], 2, []⟩) a2 a2 (Nat.le_refl _)) ?_
  refine aw_region (r_fa (.ptr 0 (0 + 0) [0]) fl35_0 rfl rfl rfl rfl <| r_ld (.int .i64 p0.Self) rfl rfl ⟨rfl, nl rfl, trivial⟩ rfl rfl ty3 rfl <| r_fa (.ptr 1 (0 + 0) [0]) fl35_0 rfl rfl rfl rfl <| r_ld (.int .i64 p1.Self) rfl rfl ⟨rfl, nl rfl, trivial⟩ rfl rfl ty3 rfl <| r_p (does_bin .eql 3 3 (.tmp 7) (.tmp 9) .i64 p0.Self p1.Self (.bool (p0.Self == p1.Self)) trivial trivial (bin_eql _ _ _ _)) m20 rfl <| r_mv rfl rfl <| r_gfa (.ptr 0 (0 + 1) [1]) fl35_1 rfl rfl rfl rfl rfl (fun _ => .same _) rfl rfl rfl <| r_gld (.int .i64 p0.Wait) rfl rfl rfl rfl rfl (fun hc => .opt _ _ hc) rfl (fun hc => ⟨rfl, nl rfl, trivial⟩) rfl rfl ty3 rfl <| r_gfa (.ptr 1 (0 + 1) [1]) fl35_1 rfl rfl rfl rfl rfl (fun _ => .same _) rfl rfl rfl <| r_gld (.int .i64 p1.Wait) rfl rfl rfl rfl rfl (fun hc => .opt _ _ hc) rfl (fun hc => ⟨rfl, nl rfl, trivial⟩) rfl rfl ty3 rfl <| r_g [(13, _), (15, _)] [(13, _), (15, _)] [] rfl rfl m30 rfl (fun hc => ⟨(.opt _ _ hc), (.opt _ _ hc), trivial⟩) (fun hc => does_bin .eql 3 3 (.tmp 13) (.tmp 15) .i64 p0.Wait p1.Wait (.bool (p0.Wait == p1.Wait)) trivial trivial (bin_eql _ _ _ _)) rfl <| r_p (does_and 11 16 (p0.Self == p1.Self) (p0.Wait == p1.Wait)) m20 rfl <| r_mv rfl rfl <| r_gfa (.ptr 0 (0 + 2) [2]) fl35_2 rfl rfl rfl rfl rfl (fun _ => .same _) rfl rfl rfl <| r_gld (.int .u32 p0.Own) rfl rfl rfl rfl rfl (fun hc => .opt _ _ hc) rfl (fun hc => ⟨rfl, nl rfl, trivial⟩) rfl rfl ty22 rfl <| r_gfa (.ptr 1 (0 + 2) [2]) fl35_2 rfl rfl rfl rfl rfl (fun _ => .same _) rfl rfl rfl <| r_gld (.int .u32 p1.Own) rfl rfl rfl rfl rfl (fun hc => .opt _ _ hc) rfl (fun hc => ⟨rfl, nl rfl, trivial⟩) rfl rfl ty22 rfl <| r_g [(20, _), (22, _)] [(20, _), (22, _)] [] rfl rfl m30 rfl (fun hc => ⟨(.opt _ _ hc), (.opt _ _ hc), trivial⟩) (fun hc => does_bin .eql 22 22 (.tmp 20) (.tmp 22) .u32 p0.Own p1.Own (.bool (p0.Own == p1.Own)) trivial trivial (bin_eql _ _ _ _)) rfl <| r_p (does_and 18 23 ((p0.Self == p1.Self) && (p0.Wait == p1.Wait)) (p0.Own == p1.Own)) m20 rfl <| r_mv rfl rfl <| r_gfa (.ptr 0 (0 + 3) [3]) fl35_3 rfl rfl rfl rfl rfl (fun _ => .same _) rfl rfl rfl <| r_gld (e_api_Beat p0.Beat) rfl rfl rfl rfl rfl (fun hc => .opt _ _ hc) rfl (fun hc => ⟨rfl, nl rfl, trivial⟩) rfl rfl ty25 rfl <| r_gfa (.ptr 1 (0 + 3) [3]) fl35_3 rfl rfl rfl rfl rfl (fun _ => .same _) rfl rfl rfl <| r_gld (e_api_Beat p1.Beat) rfl rfl rfl rfl rfl (fun hc => .opt _ _ hc) rfl (fun hc => ⟨rfl, nl rfl, trivial⟩) rfl rfl ty25 rfl <| r_geq false rfl rfl rfl rfl rfl rfl (fun hc => .opt _ _ hc) (fun hc => .opt _ _ hc) rfl rfl eg25 sh25 (al_api_Beat _ _) (al_api_Beat _ _) (q_api_Beat _ _) rfl <| r_p (does_and 25 30 (((p0.Self == p1.Self) && (p0.Wait == p1.Wait)) && (p0.Own == p1.Own)) (b_api_Beat p0.Beat p1.Beat)) m20 rfl <| r_mv rfl rfl <| r_gfa (.ptr 0 (0 + 20) [4]) fl35_4 rfl rfl rfl rfl rfl (fun _ => .same _) rfl rfl rfl <| r_gld (e_api_Id p0.Conf) rfl rfl rfl rfl rfl (fun hc => .opt _ _ hc) rfl (fun hc => ⟨rfl, nl rfl, trivial⟩) rfl rfl ty27 rfl <| r_gfa (.ptr 1 (0 + 20) [4]) fl35_4 rfl rfl rfl rfl rfl (fun _ => .same _) rfl rfl rfl <| r_gld (e_api_Id p1.Conf) rfl rfl rfl rfl rfl (fun hc => .opt _ _ hc) rfl (fun hc => ⟨rfl, nl rfl, trivial⟩) rfl rfl ty27 rfl <| r_geq false rfl rfl rfl rfl rfl rfl (fun hc => .opt _ _ hc) (fun hc => .opt _ _ hc) rfl rfl eg27 sh27 (al_api_Id _ _) (al_api_Id _ _) (q_api_Id _ _) rfl <| r_p (does_and 32 37 ((((p0.Self == p1.Self) && (p0.Wait == p1.Wait)) && (p0.Own == p1.Own)) && (b_api_Beat p0.Beat p1.Beat)) (b_api_Id p0.Conf p1.Conf)) m20 rfl <| r_mv rfl rfl <| r_gfa (.ptr 0 (0 + 23) [5]) fl35_5 rfl rfl rfl rfl rfl (fun _ => .same _) rfl rfl rfl <| r_gld (e_a8_u32 p0.Members) rfl rfl rfl rfl rfl (fun hc => .opt _ _ hc) rfl (fun hc => ⟨rfl, nl rfl, trivial⟩) rfl rfl ty28 rfl <| r_gfa (.ptr 1 (0 + 23) [5]) fl35_5 rfl rfl rfl rfl rfl (fun _ => .same _) rfl rfl rfl <| r_gld (e_a8_u32 p1.Members) rfl rfl rfl rfl rfl (fun hc => .opt _ _ hc) rfl (fun hc => ⟨rfl, nl rfl, trivial⟩) rfl rfl ty28 rfl <| r_geq false rfl rfl rfl rfl rfl rfl (fun hc => .opt _ _ hc) (fun hc => .opt _ _ hc) rfl rfl eg28 sh28 (al_a8_u32 _ _) (al_a8_u32 _ _) (q_a8_u32 _ _) rfl <| r_p (does_and 39 44 (((((p0.Self == p1.Self) && (p0.Wait == p1.Wait)) && (p0.Own == p1.Own)) && (b_api_Beat p0.Beat p1.Beat)) && (b_api_Id p0.Conf p1.Conf)) (b_a8_u32 p0.Members p1.Members)) m20 rfl <| r_mv rfl rfl <| r_gfa (.ptr 0 (0 + 31) [6]) fl35_6 rfl rfl rfl rfl rfl (fun _ => .same _) rfl rfl rfl <| r_gld (e_a8_u32 p0.Count) rfl rfl rfl rfl rfl (fun hc => .opt _ _ hc) rfl (fun hc => ⟨rfl, nl rfl, trivial⟩) rfl rfl ty29 rfl <| r_gfa (.ptr 1 (0 + 31) [6]) fl35_6 rfl rfl rfl rfl rfl (fun _ => .same _) rfl rfl rfl <| r_gld (e_a8_u32 p1.Count) rfl rfl rfl rfl rfl (fun hc => .opt _ _ hc) rfl (fun hc => ⟨rfl, nl rfl, trivial⟩) rfl rfl ty29 rfl <| r_geq false rfl rfl rfl rfl rfl rfl (fun hc => .opt _ _ hc) (fun hc => .opt _ _ hc) rfl rfl eg29 sh29 (al_a8_u32 _ _) (al_a8_u32 _ _) (q_a8_u32 _ _) rfl <| r_p (does_and 46 51 ((((((p0.Self == p1.Self) && (p0.Wait == p1.Wait)) && (p0.Own == p1.Own)) && (b_api_Beat p0.Beat p1.Beat)) && (b_api_Id p0.Conf p1.Conf)) && (b_a8_u32 p0.Members p1.Members)) (b_a8_u32 p0.Count p1.Count)) m20 rfl <| r_as rfl rfl <| r_e) ?_
  obtain ⟨v1, hv1, H⟩ := lt_of H
  refine aw_cov (cov_prune (s1 := ⟨[(2, _), (3, _), (5, (.bool v1))], [(0, some _), (1, some _)], 2, []⟩) ⟨rfl, rfl, (by subst hv1; rfl), trivial⟩ a2 (Nat.le_refl _)) ?_
  obtain ⟨v2, h3, H⟩ := whn_of H
  refine aw_region (r_mv rfl rfl <| r_mv rfl rfl <| r_gfa (.ptr 0 (0 + 39) [7]) fl35_7 rfl rfl rfl rfl rfl (fun _ => .same _) rfl rfl rfl <| r_gld (e_s_api_Kept p0.Kept) rfl rfl rfl rfl rfl (fun hc => .opt _ _ hc) rfl (fun hc => ⟨rfl, nl rfl, trivial⟩) rfl rfl ty30 rfl <| r_gfa (.ptr 1 (0 + 39) [7]) fl35_7 rfl rfl rfl rfl rfl (fun _ => .same _) rfl rfl rfl <| r_gld (e_s_api_Kept p1.Kept) rfl rfl rfl rfl rfl (fun hc => .opt _ _ hc) rfl (fun hc => ⟨rfl, nl rfl, trivial⟩) rfl rfl ty30 rfl <| r_g [(56, _), (58, _)] [(56, _), (58, _)] [] rfl rfl m30 rfl (fun hc => ⟨(.opt _ _ hc), (.opt _ _ hc), trivial⟩) (fun hc => does_call 45 0 (fun _ => .any) (.func 45) [(.tmp 56), (.tmp 58)] [(e_s_api_Kept p0.Kept), (e_s_api_Kept p1.Kept)] [] true [(e_s_api_Kept p0.Kept), (e_s_api_Kept p1.Kept)] (.bool v2) _ _ rfl fo45 rfl ⟨trivial, trivial, trivial⟩ ⟨.data _ (d_s_api_Kept p0.Kept), .data _ (d_s_api_Kept p1.Kept), trivial⟩ (congressref10_Same_spec p0.Kept p1.Kept _ (h3 hc)) trivial) rfl <| r_p (does_and 54 59 v1 v2) m20 rfl <| r_mv rfl rfl <| r_gfa (.ptr 0 (0 + 40) [8]) fl35_8 rfl rfl rfl rfl rfl (fun _ => .same _) rfl rfl rfl <| r_gld (e_api_Id p0.Promise) rfl rfl rfl rfl rfl (fun hc => .opt _ _ hc) rfl (fun hc => ⟨rfl, nl rfl, trivial⟩) rfl rfl ty27 rfl <| r_gfa (.ptr 1 (0 + 40) [8]) fl35_8 rfl rfl rfl rfl rfl (fun _ => .same _) rfl rfl rfl <| r_gld (e_api_Id p1.Promise) rfl rfl rfl rfl rfl (fun hc => .opt _ _ hc) rfl (fun hc => ⟨rfl, nl rfl, trivial⟩) rfl rfl ty27 rfl <| r_geq false rfl rfl rfl rfl rfl rfl (fun hc => .opt _ _ hc) (fun hc => .opt _ _ hc) rfl rfl eg27 sh27 (al_api_Id _ _) (al_api_Id _ _) (q_api_Id _ _) rfl <| r_p (does_and 61 66 (v1 && v2) (b_api_Id p0.Promise p1.Promise)) m20 rfl <| r_mv rfl rfl <| r_gfa (.ptr 0 (0 + 43) [9]) fl35_9 rfl rfl rfl rfl rfl (fun _ => .same _) rfl rfl rfl <| r_gld (e_a8_u32 p0.Wanted) rfl rfl rfl rfl rfl (fun hc => .opt _ _ hc) rfl (fun hc => ⟨rfl, nl rfl, trivial⟩) rfl rfl ty28 rfl <| r_gfa (.ptr 1 (0 + 43) [9]) fl35_9 rfl rfl rfl rfl rfl (fun _ => .same _) rfl rfl rfl <| r_gld (e_a8_u32 p1.Wanted) rfl rfl rfl rfl rfl (fun hc => .opt _ _ hc) rfl (fun hc => ⟨rfl, nl rfl, trivial⟩) rfl rfl ty28 rfl <| r_geq false rfl rfl rfl rfl rfl rfl (fun hc => .opt _ _ hc) (fun hc => .opt _ _ hc) rfl rfl eg28 sh28 (al_a8_u32 _ _) (al_a8_u32 _ _) (q_a8_u32 _ _) rfl <| r_p (does_and 68 73 ((v1 && v2) && (b_api_Id p0.Promise p1.Promise)) (b_a8_u32 p0.Wanted p1.Wanted)) m20 rfl <| r_mv rfl rfl <| r_gfa (.ptr 0 (0 + 51) [10]) fl35_10 rfl rfl rfl rfl rfl (fun _ => .same _) rfl rfl rfl <| r_gld (e_a8_u32 p0.Cut) rfl rfl rfl rfl rfl (fun hc => .opt _ _ hc) rfl (fun hc => ⟨rfl, nl rfl, trivial⟩) rfl rfl ty29 rfl <| r_gfa (.ptr 1 (0 + 51) [10]) fl35_10 rfl rfl rfl rfl rfl (fun _ => .same _) rfl rfl rfl <| r_gld (e_a8_u32 p1.Cut) rfl rfl rfl rfl rfl (fun hc => .opt _ _ hc) rfl (fun hc => ⟨rfl, nl rfl, trivial⟩) rfl rfl ty29 rfl <| r_geq false rfl rfl rfl rfl rfl rfl (fun hc => .opt _ _ hc) (fun hc => .opt _ _ hc) rfl rfl eg29 sh29 (al_a8_u32 _ _) (al_a8_u32 _ _) (q_a8_u32 _ _) rfl <| r_p (does_and 75 80 (((v1 && v2) && (b_api_Id p0.Promise p1.Promise)) && (b_a8_u32 p0.Wanted p1.Wanted)) (b_a8_u32 p0.Cut p1.Cut)) m20 rfl <| r_mv rfl rfl <| r_gfa (.ptr 0 (0 + 59) [11]) fl35_11 rfl rfl rfl rfl rfl (fun _ => .same _) rfl rfl rfl <| r_gld (.bool p0.Ready) rfl rfl rfl rfl rfl (fun hc => .opt _ _ hc) rfl (fun hc => ⟨rfl, nl rfl, trivial⟩) rfl rfl ty4 rfl <| r_gfa (.ptr 1 (0 + 59) [11]) fl35_11 rfl rfl rfl rfl rfl (fun _ => .same _) rfl rfl rfl <| r_gld (.bool p1.Ready) rfl rfl rfl rfl rfl (fun hc => .opt _ _ hc) rfl (fun hc => ⟨rfl, nl rfl, trivial⟩) rfl rfl ty4 rfl <| r_g [(84, _), (86, _)] [(84, _), (86, _)] [] rfl rfl m30 rfl (fun hc => ⟨(.opt _ _ hc), (.opt _ _ hc), trivial⟩) (fun hc => does_eqBool false 4 4 (.tmp 84) (.tmp 86) p0.Ready p1.Ready trivial trivial rfl) rfl <| r_p (does_and 82 87 ((((v1 && v2) && (b_api_Id p0.Promise p1.Promise)) && (b_a8_u32 p0.Wanted p1.Wanted)) && (b_a8_u32 p0.Cut p1.Cut)) (p0.Ready == p1.Ready)) m20 rfl <| r_mv rfl rfl <| r_gfa (.ptr 0 (0 + 60) [12]) fl35_12 rfl rfl rfl rfl rfl (fun _ => .same _) rfl rfl rfl <| r_gld (e_a8_api_Peer p0.Peers) rfl rfl rfl rfl rfl (fun hc => .opt _ _ hc) rfl (fun hc => ⟨rfl, nl rfl, trivial⟩) rfl rfl ty33 rfl <| r_gfa (.ptr 1 (0 + 60) [12]) fl35_12 rfl rfl rfl rfl rfl (fun _ => .same _) rfl rfl rfl <| r_gld (e_a8_api_Peer p1.Peers) rfl rfl rfl rfl rfl (fun hc => .opt _ _ hc) rfl (fun hc => ⟨rfl, nl rfl, trivial⟩) rfl rfl ty33 rfl <| r_geq false rfl rfl rfl rfl rfl rfl (fun hc => .opt _ _ hc) (fun hc => .opt _ _ hc) rfl rfl eg33 sh33 (al_a8_api_Peer _ _) (al_a8_api_Peer _ _) (q_a8_api_Peer _ _) rfl <| r_p (does_and 89 94 (((((v1 && v2) && (b_api_Id p0.Promise p1.Promise)) && (b_a8_u32 p0.Wanted p1.Wanted)) && (b_a8_u32 p0.Cut p1.Cut)) && (p0.Ready == p1.Ready)) (b_a8_api_Peer p0.Peers p1.Peers)) m20 rfl <| r_mv rfl rfl <| r_gfa (.ptr 0 (0 + 188) [13]) fl35_13 rfl rfl rfl rfl rfl (fun _ => .same _) rfl rfl rfl <| r_gld (.int .u32 p0.Epoch) rfl rfl rfl rfl rfl (fun hc => .opt _ _ hc) rfl (fun hc => ⟨rfl, nl rfl, trivial⟩) rfl rfl ty22 rfl <| r_gfa (.ptr 1 (0 + 188) [13]) fl35_13 rfl rfl rfl rfl rfl (fun _ => .same _) rfl rfl rfl <| r_gld (.int .u32 p1.Epoch) rfl rfl rfl rfl rfl (fun hc => .opt _ _ hc) rfl (fun hc => ⟨rfl, nl rfl, trivial⟩) rfl rfl ty22 rfl <| r_g [(98, _), (100, _)] [(98, _), (100, _)] [] rfl rfl m30 rfl (fun hc => ⟨(.opt _ _ hc), (.opt _ _ hc), trivial⟩) (fun hc => does_bin .eql 22 22 (.tmp 98) (.tmp 100) .u32 p0.Epoch p1.Epoch (.bool (p0.Epoch == p1.Epoch)) trivial trivial (bin_eql _ _ _ _)) rfl <| r_p (does_and 96 101 ((((((v1 && v2) && (b_api_Id p0.Promise p1.Promise)) && (b_a8_u32 p0.Wanted p1.Wanted)) && (b_a8_u32 p0.Cut p1.Cut)) && (p0.Ready == p1.Ready)) && (b_a8_api_Peer p0.Peers p1.Peers)) (p0.Epoch == p1.Epoch)) m20 rfl <| r_as rfl rfl <| r_e) ?_
  obtain ⟨v4, hv4, H⟩ := lt_of H
  refine aw_cov (cov_prune (s1 := ⟨[(4, (.bool v4))], [], 2, []⟩) ⟨(by subst hv4; rfl), trivial⟩ trivial (Nat.le_refl _)) ?_
  refine aw_ret ?_
  exact fun a w hr => ⟨_, [(.bool v4)], hr, ⟨⟨_, rfl, .data (.bool v4) trivial⟩, trivial⟩, by decide, by cases H; rfl⟩
theorem congressref13_Told_spec (p0 : (_root_.List api_Happen)) (p1 : (_root_.List api_Happen)) (r : Bool) (H : congressref13_Told p0 p1 = some r) : FSpec Try.prog 14 [(e_s_api_Happen p0), (e_s_api_Happen p1)] (.bool r) := by
  refine spec_of (fn := Try.f14) (args := [(e_s_api_Happen p0), (e_s_api_Happen p1)]) Try.func14 rfl (nl rfl) ?_
  rintro ⟨G, w0, W, S, Sp, gx⟩ hG
  cases hG
  unfold congressref13_Told at H
  refine aw_region (r_0 (does_assign (.const (.bool false)) (.bool false) (fun _ => rfl)) rfl rfl <| r_e) ?_
  refine aw_cov (cov_prune (s1 := ⟨[(0, _), (1, _)], [], 0, []⟩) a2 trivial (Nat.le_refl _)) ?_
  refine aw_seq ?_
  refine aw_region (r_mv rfl rfl <| r_p (does_lens 44 50 p0.length 6 (fun j => (e_api_Happen (p0.getD j z_api_Happen))) el44) m10 rfl <| r_mv rfl rfl <| r_p (does_lens 44 50 p1.length 8 (fun j => (e_api_Happen (p1.getD j z_api_Happen))) el44) m10 rfl <| r_p (does_bin .neq 3 3 (.tmp 7) (.tmp 9) .i64 (p0.length : Int) (p1.length : Int) (.bool ((p0.length : Int) != (p1.length : Int))) trivial trivial (bin_neq _ _ _ _)) m20 rfl <| r_e) ?_
  refine aw_cov (cov_prune (s1 := ⟨[(0, _), (1, _), (10, _)], [], 0, []⟩) a3 trivial (Nat.le_refl _)) ?_
  refine aw_cond rfl (fun hc => ?_) (fun hc => ?_)
  · replace H := ite_t hc H
    refine aw_region (r_0 (does_assign (.const (.bool false)) (.bool false) (fun _ => rfl)) rfl rfl <| r_e) ?_
    refine aw_cov (cov_prune (s1 := ⟨[(4, _)], [], 0, []⟩) a1 trivial (Nat.le_refl _)) ?_
    refine aw_ret ?_
    refine rt_then ?_
    exact fun a w hr => ⟨_, [(.bool false)], hr, ⟨⟨_, rfl, .data (.bool false) trivial⟩, trivial⟩, by decide, by cases H; rfl⟩
  · replace H := ite_f hc H
    refine aw_skip ?_
    refine nx_seq ?_
    refine aw_seq ?_
    refine aw_region (r_0 (does_assign (.const (.int .i64 0)) (.int .i64 0) (fun _ => rfl)) rfl rfl <| r_e) ?_
    refine aw_cov (cov_prune (s1 := ⟨[(0, _), (1, _), (5, _)], [], 0, []⟩) a3 trivial (Nat.le_refl _)) ?_
    obtain ⟨wn2, hwn2, Hrn2⟩ := bnd H
    refine aw_meet (fun y6 : Unit => (⟨[], [], 0, []⟩ : St)) (fun y6 => Fl.nx y6 = wn2) (fun y6 hy => ?_) (aw_block (aw_runs (fun x1 : Int => (⟨[(0, (e_s_api_Happen p0)), (1, (e_s_api_Happen p1)), (5, (.int .i64 x1))], [], 0, []⟩ : St)) hwn2 (cov_prune a3 trivial (nl rfl)) (fun x1 st H hsn2 => ?_)))
    · have H := nx_of hy Hrn2
      refine nx_seq ?_
      refine aw_region (r_0 (does_assign (.const (.bool true)) (.bool true) (fun _ => rfl)) rfl rfl <| r_e) ?_
      refine aw_cov (cov_prune (s1 := ⟨[(4, _)], [], 0, []⟩) a1 trivial (Nat.le_refl _)) ?_
      refine aw_ret ?_
      exact fun a w hr => ⟨_, [(.bool true)], hr, ⟨⟨_, rfl, .data (.bool true) trivial⟩, trivial⟩, by decide, by cases H; rfl⟩
    · refine aw_seq ?_
      refine aw_region (r_mv rfl rfl <| r_mv rfl rfl <| r_p (does_lens 44 50 p0.length 12 (fun j => (e_api_Happen (p0.getD j z_api_Happen))) el44) m10 rfl <| r_p (does_bin .lss 3 3 (.tmp 11) (.tmp 13) .i64 x1 (p0.length : Int) (.bool (decide (x1 < (p0.length : Int)))) trivial trivial (bin_lss _ _ _ _)) m20 rfl <| r_e) ?_
      refine aw_cov (cov_prune (s1 := ⟨[(0, _), (1, _), (5, _), (14, _)], [], 0, []⟩) a4 trivial (Nat.le_refl _)) ?_
      refine aw_cond rfl (fun hc => ?_) (fun hc => ?_)
      · replace H := ite_t hc H
        refine aw_skip ?_
        refine nx_seq ?_
        refine aw_seq ?_
        refine aw_block ?_
        obtain ⟨h3, H⟩ := ib_of H
        obtain ⟨h4, H⟩ := ib_of H
        refine aw_draw (mixed) (r_mv rfl rfl <| r_mv rfl rfl <| r_p (does_indexAddrs 44 50 p0.length 17 (fun j => (e_api_Happen (p0.getD j z_api_Happen))) (.tmp 18) .i64 x1 el44 trivial h3.1 h3.2) m20 rfl <| r_p (does_loadc 66 19 (e_api_Happen (p0.getD x1.toNat z_api_Happen)) ty66) m10 rfl <| r_mv rfl rfl <| r_mv rfl rfl <| r_p (does_indexAddrs 44 50 p1.length 21 (fun j => (e_api_Happen (p1.getD j z_api_Happen))) (.tmp 22) .i64 x1 el44 trivial h4.1 h4.2) m20 rfl <| r_p (does_loadc 66 23 (e_api_Happen (p1.getD x1.toNat z_api_Happen)) ty66) m10 rfl <| r_eq true rfl rfl rfl rfl eg66 sh66 (al_api_Happen _ _) (al_api_Happen _ _) (q_api_Happen _ _) rfl <| r_e) rfl ?_
        obtain ⟨v5, hv5, H⟩ := lt_of H
        refine aw_cov (cov_prune (s1 := ⟨[(0, _), (1, _), (5, _), (25, (.bool v5))], [], 0, []⟩) ⟨rfl, rfl, rfl, (by subst hv5; rfl), trivial⟩ trivial (Nat.le_refl _)) ?_
        refine aw_cond rfl (fun hc => ?_) (fun hc => ?_)
        · replace H := ite_t hc H
          refine aw_region (r_0 (does_assign (.const (.bool false)) (.bool false) (fun _ => rfl)) rfl rfl <| r_e) ?_
          refine aw_cov (cov_prune (s1 := ⟨[(4, _)], [], 0, []⟩) a1 trivial (Nat.le_refl _)) ?_
          refine aw_ret ?_
          replace H := rt_of H hsn2 Hrn2
          refine rt_blk ?_
          refine rt_then ?_
          refine rt_then ?_
          refine rt_blk ?_
          refine rt_then ?_
          refine rt_then ?_
          exact fun a w hr => ⟨_, [(.bool false)], hr, ⟨⟨_, rfl, .data (.bool false) trivial⟩, trivial⟩, by decide, by cases H; rfl⟩
        · replace H := ite_f hc H
          refine aw_skip ?_
          refine nx_blk ?_
          refine nx_seq ?_
          refine aw_region1 (r_mv rfl rfl <| r_p (does_bin .add 3 3 (.tmp 15) (.const (.int .i64 1)) .i64 x1 1 (.int .i64 (IntKind.i64.wrap (x1 + 1))) trivial (fun _ => rfl) (bin_add _ _ _ _)) m10 rfl <| r_as rfl rfl <| r_e) ?_
          exact nx_loop ((IntKind.i64.wrap (x1 + 1))) H (cov_prune a3 trivial (nl rfl))
      · replace H := ite_f hc H
        refine aw_exit ?_
        refine ex_then ?_
        refine ex_then ?_
        refine ex_here ?_
        exact nx_ljoin () H hsn2 (cov_prune trivial trivial (nl rfl))
end Go.Proofs.Ytcocahffigbmbaa
end

section
set_option linter.unusedVariables false
set_option maxRecDepth 100000
namespace Go.Proofs.Ytcocahffigbmbaa
open Go.Eng
set_option maxHeartbeats 1600000
theorem congressref08_Hear_spec (p0 : api_Beat) (p1 : Int) (p2 : Int) (r : api_Beat × Bool) (H : congressref08_Hear p0 p1 p2 = some r) : FSpec Try.prog 56 [(e_api_Beat p0), (.int .i64 p1), (.int .u32 p2)] (resV [(e_api_Beat r.1), (.bool r.2)]) := by
  refine spec_of (fn := Try.f56) (args := [(e_api_Beat p0), (.int .i64 p1), (.int .u32 p2)]) Try.func56 rfl (nl rfl) ?_
  rintro ⟨G, w0, W, S, Sp, gx⟩ hG
  cases hG
  unfold congressref08_Hear at H
  refine aw_region (r_p (does_box 25 (.tmp 0) 0 (e_api_Beat p0) trivial rfl) m10 rfl <| r_0 (does_alloc 25 1 (e_api_Beat z_api_Beat) zr25) rfl rfl <| r_0 (does_assign (.const (.bool false)) (.bool false) (fun _ => rfl)) rfl rfl <| r_e) ?_
  refine aw_cov (cov_prune (s1 := ⟨[(1, _), (2, _), (3, _), (6, _)], [(0, some _), (1, some _)], 2, []⟩) a4 a2 (Nat.le_refl _)) ?_
  refine aw_seq ?_
  refine aw_region (r_mv rfl rfl <| r_p (does_bin .lss 3 3 (.tmp 8) (.const (.int .i64 0)) .i64 p1 0 (.bool (decide (p1 < 0))) trivial (fun _ => rfl) (bin_lss _ _ _ _)) m10 rfl <| r_mv rfl rfl <| r_gmv rfl rfl rfl rfl rfl rfl <| r_g [(11, _)] [(11, _)] [] rfl rfl m20 rfl (fun hc => ⟨(.opt _ _ hc), trivial⟩) (fun hc => does_bin .gtr 3 3 (.tmp 11) (.const (.int .i64 7)) .i64 p1 7 (.bool (decide (p1 > 7))) trivial (fun _ => rfl) (bin_gtr _ _ _ _)) rfl <| r_p (does_or 10 12 (decide (p1 < 0)) (decide (p1 > 7))) m20 rfl <| r_mv rfl rfl <| r_gmv rfl rfl rfl rfl rfl rfl <| r_g [(15, _)] [(15, _)] [] rfl rfl m20 rfl (fun hc => ⟨(.opt _ _ hc), trivial⟩) (fun hc => does_bin .eql 22 22 (.tmp 15) (.const (.int .u32 0)) .u32 p2 0 (.bool (p2 == 0)) trivial (fun _ => rfl) (bin_eql _ _ _ _)) rfl <| r_p (does_or 14 16 ((decide (p1 < 0)) || (decide (p1 > 7))) (p2 == 0)) m20 rfl <| r_mv rfl rfl <| r_gfa (.ptr 0 (0 + 0) [0]) fl25_0 rfl rfl rfl rfl rfl (fun _ => .same _) rfl rfl rfl <| r_gld (.int .u32 p0.Now) rfl rfl rfl rfl rfl (fun hc => .opt _ _ hc) rfl (fun hc => ⟨rfl, nl rfl, trivial⟩) rfl rfl ty22 rfl <| r_g [(20, _)] [(20, _)] [] rfl rfl m20 rfl (fun hc => ⟨(.opt _ _ hc), trivial⟩) (fun hc => does_bin .eql 22 22 (.tmp 20) (.const (.int .u32 0)) .u32 p0.Now 0 (.bool (p0.Now == 0)) trivial (fun _ => rfl) (bin_eql _ _ _ _)) rfl <| r_p (does_or 18 21 (((decide (p1 < 0)) || (decide (p1 > 7))) || (p2 == 0)) (p0.Now == 0)) m20 rfl <| r_e) ?_
  obtain ⟨v1, hv1, H⟩ := lt_of H
  refine aw_cov (cov_prune (s1 := ⟨[(1, _), (2, _), (3, _), (6, _), (22, (.bool v1))], [(0, some _), (1, some _)], 2, []⟩) ⟨rfl, rfl, rfl, rfl, (by subst hv1; rfl), trivial⟩ a2 (Nat.le_refl _)) ?_
  refine aw_cond rfl (fun hc => ?_) (fun hc => ?_)
  · replace H := ite_t hc H
    refine aw_region (r_lv rfl rfl ty25 rfl <| r_sv rfl rfl rfl rfl rfl rfl ty25 rfl <| r_0 (does_assign (.const (.bool false)) (.bool false) (fun _ => rfl)) rfl rfl <| r_e) ?_
    refine aw_cov (cov_prune (s1 := ⟨[(6, _), (7, _)], [(1, some _)], 2, []⟩) a2 a1 (Nat.le_refl _)) ?_
    refine aw_ret ?_
    refine rt_then ?_
    exact fun a w hr => ⟨_, [(e_api_Beat p0), (.bool false)], hr, ⟨⟨1, _, rfl, rfl, .data _ (d_api_Beat p0), ty25⟩, ⟨_, rfl, .data (.bool false) trivial⟩, trivial⟩, by decide, by cases H; rfl⟩
  · replace H := ite_f hc H
    refine aw_skip ?_
    refine nx_seq ?_
    refine aw_seq ?_
    obtain ⟨h2, H⟩ := ib_of H
    refine aw_region (r_mv rfl rfl <| r_mv rfl rfl <| r_fa (.ptr 0 (0 + 9) [2]) fl25_2 rfl rfl rfl rfl <| r_p (does_indexAddr 23 8 1 26 0 (0 + 9) [2] (.var (e_api_Beat p0)) (.tmp 25) .i64 p1 el23 trivial h2.1 h2.2) m21 rfl <| r_ld (.int .u32 (p0.Inc p1.toNat)) rfl rfl ⟨rfl, nl rfl, ⟨rfl, (ixl h2), trivial⟩⟩ rfl rfl ty22 rfl <| r_p (does_bin .lss 22 22 (.tmp 24) (.tmp 28) .u32 p2 (p0.Inc p1.toNat) (.bool (decide (p2 < (p0.Inc p1.toNat)))) trivial trivial (bin_lss _ _ _ _)) m20 rfl <| r_e) ?_
    refine aw_cov (cov_prune (s1 := ⟨[(1, _), (2, _), (3, _), (6, _), (29, _)], [(0, some _), (1, some _)], 2, []⟩) a5 a2 (Nat.le_refl _)) ?_
    refine aw_cond rfl (fun hc => ?_) (fun hc => ?_)
    · replace H := ite_t hc H
      refine aw_region (r_lv rfl rfl ty25 rfl <| r_sv rfl rfl rfl rfl rfl rfl ty25 rfl <| r_0 (does_assign (.const (.bool false)) (.bool false) (fun _ => rfl)) rfl rfl <| r_e) ?_
      refine aw_cov (cov_prune (s1 := ⟨[(6, _), (7, _)], [(1, some _)], 2, []⟩) a2 a1 (Nat.le_refl _)) ?_
      refine aw_ret ?_
      refine rt_then ?_
      exact fun a w hr => ⟨_, [(e_api_Beat p0), (.bool false)], hr, ⟨⟨1, _, rfl, rfl, .data _ (d_api_Beat p0), ty25⟩, ⟨_, rfl, .data (.bool false) trivial⟩, trivial⟩, by decide, by cases H; rfl⟩
    · replace H := ite_f hc H
      refine aw_skip ?_
      refine nx_seq ?_
      obtain ⟨h3, H⟩ := ib_of H
      refine aw_region (r_mv rfl rfl <| r_fa (.ptr 0 (0 + 0) [0]) fl25_0 rfl rfl rfl rfl <| r_ld (.int .u32 p0.Now) rfl rfl ⟨rfl, nl rfl, trivial⟩ rfl rfl ty22 rfl <| r_fa (.ptr 0 (0 + 1) [1]) fl25_1 rfl rfl rfl rfl <| r_p (does_indexAddr 23 8 1 34 0 (0 + 1) [1] (.var (e_api_Beat p0)) (.tmp 31) .i64 p1 el23 trivial h3.1 h3.2) m21 rfl <| r_st (.var (e_api_Beat ({ p0 with Heard := aupd p0.Heard p1.toNat p0.Now }))) rfl rfl a1 trivial rfl ⟨rfl, nl rfl, ⟨rfl, (ixl h3), trivial⟩⟩ rfl rfl (congrArg Box.var (set_cons (set_cons rfl (vupd_map (fun z => V.int .u32 z) _ _ _)) (st_api_Beat_1 _ _))) ty22 rfl <| r_e) ?_
      refine aw_cov (cov_prune (s1 := ⟨[(1, _), (2, _), (3, _), (6, _)], [(0, some _), (1, some _)], 2, []⟩) a4 a2 (Nat.le_refl _)) ?_
      obtain ⟨h4, H⟩ := ib_of H
      refine aw_region (r_mv rfl rfl <| r_mv rfl rfl <| r_fa (.ptr 0 (0 + 9) [2]) fl25_2 rfl rfl rfl rfl <| r_p (does_indexAddr 23 8 1 38 0 (0 + 9) [2] (.var (e_api_Beat ({ p0 with Heard := aupd p0.Heard p1.toNat p0.Now }))) (.tmp 36) .i64 p1 el23 trivial h4.1 h4.2) m21 rfl <| r_st (.var (e_api_Beat ({ { p0 with Heard := aupd p0.Heard p1.toNat p0.Now } with Inc := aupd (({ p0 with Heard := aupd p0.Heard p1.toNat p0.Now }).Inc) p1.toNat p2 }))) rfl rfl a1 trivial rfl ⟨rfl, nl rfl, ⟨rfl, (ixl h4), trivial⟩⟩ rfl rfl (congrArg Box.var (set_cons (set_cons rfl (vupd_map (fun z => V.int .u32 z) _ _ _)) (st_api_Beat_2 _ _))) ty22 rfl <| r_e) ?_
      obtain ⟨v5, hv5, H⟩ := lt_of H
      refine aw_cov (cov_prune (s1 := ⟨[(3, _), (6, _)], [(0, some (.var (e_api_Beat v5))), (1, some _)], 2, []⟩) a2 ⟨(by subst hv5; rfl), rfl, trivial⟩ (Nat.le_refl _)) ?_
      refine aw_region (r_lv rfl rfl ty25 rfl <| r_sv rfl rfl rfl rfl rfl rfl ty25 rfl <| r_0 (does_assign (.const (.bool true)) (.bool true) (fun _ => rfl)) rfl rfl <| r_e) ?_
      refine aw_cov (cov_prune (s1 := ⟨[(6, _), (7, _)], [(1, some _)], 2, []⟩) a2 a1 (Nat.le_refl _)) ?_
      refine aw_ret ?_
      exact fun a w hr => ⟨_, [(e_api_Beat v5), (.bool true)], hr, ⟨⟨1, _, rfl, rfl, .data _ (d_api_Beat v5), ty25⟩, ⟨_, rfl, .data (.bool true) trivial⟩, trivial⟩, by decide, by cases H; rfl⟩
theorem congressref12_Update_spec (p0 : api_Peer) (p1 : api_Packet) (r : api_Peer) (H : congressref12_Update p0 p1 = some r) : FSpec Try.prog 57 [(e_api_Peer p0), (e_api_Packet p1)] (e_api_Peer r) := by
  refine spec_of (fn := Try.f57) (args := [(e_api_Peer p0), (e_api_Packet p1)]) Try.func57 rfl (nl rfl) ?_
  rintro ⟨G, w0, W, S, Sp, gx⟩ hG
  cases hG
  unfold congressref12_Update at H
  refine aw_region (r_p (does_box 32 (.tmp 0) 0 (e_api_Peer p0) trivial rfl) m10 rfl <| r_p (does_box 50 (.tmp 1) 1 (e_api_Packet p1) trivial rfl) m10 rfl <| r_0 (does_alloc 32 2 (e_api_Peer z_api_Peer) zr32) rfl rfl <| r_e) ?_
  refine aw_cov (cov_prune (s1 := ⟨[(2, _), (3, _), (4, _)], [(0, some _), (1, some _), (2, some _)], 3, []⟩) a3 a3 (Nat.le_refl _)) ?_
  refine aw_seq ?_
  refine aw_region (r_fa (.ptr 1 (0 + 1) [1]) fl50_1 rfl rfl rfl rfl <| r_ld (.int .u32 p1.Inc) rfl rfl ⟨rfl, nl rfl, trivial⟩ rfl rfl ty22 rfl <| r_fa (.ptr 0 (0 + 0) [0]) fl32_0 rfl rfl rfl rfl <| r_ld (.int .u32 p0.Inc) rfl rfl ⟨rfl, nl rfl, trivial⟩ rfl rfl ty22 rfl <| r_p (does_bin .lss 22 22 (.tmp 8) (.tmp 10) .u32 p1.Inc p0.Inc (.bool (decide (p1.Inc < p0.Inc))) trivial trivial (bin_lss _ _ _ _)) m20 rfl <| r_e) ?_
  refine aw_cov (cov_prune (s1 := ⟨[(2, _), (3, _), (4, _), (11, _)], [(0, some _), (1, some _), (2, some _)], 3, []⟩) a4 a3 (Nat.le_refl _)) ?_
  refine aw_cond rfl (fun hc => ?_) (fun hc => ?_)
  · replace H := ite_t hc H
    refine aw_region (r_lv rfl rfl ty32 rfl <| r_sv rfl rfl rfl rfl rfl rfl ty32 rfl <| r_e) ?_
    refine aw_cov (cov_prune (s1 := ⟨[(4, _)], [(2, some _)], 3, []⟩) a1 a1 (Nat.le_refl _)) ?_
    refine aw_ret ?_
    refine rt_then ?_
    exact fun a w hr => ⟨_, [(e_api_Peer p0)], hr, ⟨⟨2, _, rfl, rfl, .data _ (d_api_Peer p0), ty32⟩, trivial⟩, by decide, by cases H; rfl⟩
  · replace H := ite_f hc H
    refine aw_skip ?_
    refine nx_seq ?_
    obtain ⟨v1, h2, H⟩ := bnd H
    refine aw_region (r_fa (.ptr 1 (0 + 21) [5]) fl50_5 rfl rfl rfl rfl <| r_ld (e_api_Id p1.Promise) rfl rfl ⟨rfl, nl rfl, trivial⟩ rfl rfl ty27 rfl <| r_fa (.ptr 0 (0 + 4) [2]) fl32_2 rfl rfl rfl rfl <| r_ld (e_api_Id p0.Promise) rfl rfl ⟨rfl, nl rfl, trivial⟩ rfl rfl ty27 rfl <| r_ca [_, _] [_, _] (nob := []) (flat := true) (congressref07_Compare_spec _ _ _ h2) rfl rfl m20 fo23 ⟨trivial, trivial, trivial⟩ ⟨.data _ (d_api_Id _), .data _ (d_api_Id _), trivial⟩ trivial rfl <| r_as rfl rfl <| r_e) ?_
    refine aw_cov (cov_prune (s1 := ⟨[(2, _), (3, _), (4, _), (5, _)], [(0, some _), (1, some _), (2, some _)], 3, []⟩) a4 a3 (Nat.le_refl _)) ?_
    refine aw_seq ?_
    refine aw_region (r_fa (.ptr 1 (0 + 1) [1]) fl50_1 rfl rfl rfl rfl <| r_ld (.int .u32 p1.Inc) rfl rfl ⟨rfl, nl rfl, trivial⟩ rfl rfl ty22 rfl <| r_fa (.ptr 0 (0 + 0) [0]) fl32_0 rfl rfl rfl rfl <| r_ld (.int .u32 p0.Inc) rfl rfl ⟨rfl, nl rfl, trivial⟩ rfl rfl ty22 rfl <| r_p (does_bin .gtr 22 22 (.tmp 19) (.tmp 21) .u32 p1.Inc p0.Inc (.bool (decide (p1.Inc > p0.Inc))) trivial trivial (bin_gtr _ _ _ _)) m20 rfl <| r_mv rfl rfl <| r_gmv rfl rfl rfl rfl rfl rfl <| r_g [(24, _)] [(24, _)] [] rfl rfl m20 rfl (fun hc => ⟨(.opt _ _ hc), trivial⟩) (fun hc => does_bin .eql 3 3 (.tmp 24) (.const (.int .i64 1)) .i64 v1 1 (.bool (v1 == 1)) trivial (fun _ => rfl) (bin_eql _ _ _ _)) rfl <| r_p (does_or 23 25 (decide (p1.Inc > p0.Inc)) (v1 == 1)) m20 rfl <| r_e) ?_
    refine aw_cov (cov_prune (s1 := ⟨[(2, _), (3, _), (4, _), (5, _), (26, _)], [(0, some _), (1, some _), (2, some _)], 3, []⟩) a5 a3 (Nat.le_refl _)) ?_
    refine aw_cond rfl (fun hc => ?_) (fun hc => ?_)
    · replace H := ite_t hc H
      refine aw_region (r_fa (.ptr 1 (0 + 1) [1]) fl50_1 rfl rfl rfl rfl <| r_ld (.int .u32 p1.Inc) rfl rfl ⟨rfl, nl rfl, trivial⟩ rfl rfl ty22 rfl <| r_fa (.ptr 1 (0 + 2) [2]) fl50_2 rfl rfl rfl rfl <| r_ld (e_api_Id p1.Conf) rfl rfl ⟨rfl, nl rfl, trivial⟩ rfl rfl ty27 rfl <| r_fa (.ptr 1 (0 + 21) [5]) fl50_5 rfl rfl rfl rfl <| r_ld (e_api_Id p1.Promise) rfl rfl ⟨rfl, nl rfl, trivial⟩ rfl rfl ty27 rfl <| r_fa (.ptr 1 (0 + 13) [4]) fl50_4 rfl rfl rfl rfl <| r_ld (e_a8_u32 p1.Count) rfl rfl ⟨rfl, nl rfl, trivial⟩ rfl rfl ty29 rfl <| r_fa (.ptr 1 (0 + 32) [7]) fl50_7 rfl rfl rfl rfl <| r_ld (.bool p1.Ready) rfl rfl ⟨rfl, nl rfl, trivial⟩ rfl rfl ty4 rfl <| r_p (does_buildT 32 #[(0, (.tmp 28)), (1, (.tmp 30)), (2, (.tmp 32)), (3, (.tmp 34)), (4, (.tmp 36))] [(0, (.tmp 28)), (1, (.tmp 30)), (2, (.tmp 32)), (3, (.tmp 34)), (4, (.tmp 36))] [(0, (.int .u32 p1.Inc)), (1, (e_api_Id p1.Conf)), (2, (e_api_Id p1.Promise)), (3, (e_a8_u32 p1.Count)), (4, (.bool p1.Ready))] (.st [1, 3, 3, 8, 1]) (c_api_Peer z_api_Peer) (c_api_Peer ({ Inc := p1.Inc, Conf := p1.Conf, Promise := p1.Promise, Cut := p1.Count, Ready := p1.Ready } : api_Peer)) rfl bo32 ⟨a1, a1, a1, a1, a1, trivial⟩ ⟨⟨nl rfl, rfl, rfl⟩, ⟨nl rfl, rfl, rfl⟩, ⟨nl rfl, rfl, rfl⟩, ⟨nl rfl, rfl, rfl⟩, ⟨nl rfl, rfl, rfl⟩, trivial⟩ (fe5 rfl rfl rfl rfl rfl (fun _ => rfl))) ⟨a5, trivial, rfl⟩ rfl <| r_sv rfl rfl rfl rfl rfl rfl ty32 rfl <| r_e) ?_
      obtain ⟨v3, hv3, H⟩ := lt_of H
      refine aw_cov (cov_prune (s1 := ⟨[(4, _)], [(2, some (.var (e_api_Peer v3)))], 3, []⟩) a1 ⟨(by subst hv3; rfl), trivial⟩ (Nat.le_refl _)) ?_
      refine aw_ret ?_
      refine rt_then ?_
      exact fun a w hr => ⟨_, [(e_api_Peer v3)], hr, ⟨⟨2, _, rfl, rfl, .data _ (d_api_Peer v3), ty32⟩, trivial⟩, by decide, by cases H; rfl⟩
    · replace H := ite_f hc H
      refine aw_skip ?_
      refine nx_seq ?_
      refine aw_seq ?_
      refine aw_region (r_mv rfl rfl <| r_p (does_bin .eql 3 3 (.tmp 38) (.const (.int .i64 (-1))) .i64 v1 (-1) (.bool (v1 == (-1))) trivial (fun _ => rfl) (bin_eql _ _ _ _)) m10 rfl <| r_e) ?_
      refine aw_cov (cov_prune (s1 := ⟨[(2, _), (3, _), (4, _), (39, _)], [(0, some _), (1, some _), (2, some _)], 3, []⟩) a4 a3 (Nat.le_refl _)) ?_
      refine aw_cond rfl (fun hc => ?_) (fun hc => ?_)
      · replace H := ite_t hc H
        refine aw_region (r_lv rfl rfl ty32 rfl <| r_sv rfl rfl rfl rfl rfl rfl ty32 rfl <| r_e) ?_
        refine aw_cov (cov_prune (s1 := ⟨[(4, _)], [(2, some _)], 3, []⟩) a1 a1 (Nat.le_refl _)) ?_
        refine aw_ret ?_
        refine rt_then ?_
        exact fun a w hr => ⟨_, [(e_api_Peer p0)], hr, ⟨⟨2, _, rfl, rfl, .data _ (d_api_Peer p0), ty32⟩, trivial⟩, by decide, by cases H; rfl⟩
      · replace H := ite_f hc H
        refine aw_skip ?_
        refine nx_seq ?_
        obtain ⟨v4, h5, H⟩ := bnd H
        refine aw_region (r_fa (.ptr 1 (0 + 2) [2]) fl50_2 rfl rfl rfl rfl <| r_ld (e_api_Id p1.Conf) rfl rfl ⟨rfl, nl rfl, trivial⟩ rfl rfl ty27 rfl <| r_fa (.ptr 0 (0 + 1) [1]) fl32_1 rfl rfl rfl rfl <| r_ld (e_api_Id p0.Conf) rfl rfl ⟨rfl, nl rfl, trivial⟩ rfl rfl ty27 rfl <| r_ca [_, _] [_, _] (nob := []) (flat := true) (congressref07_Compare_spec _ _ _ h5) rfl rfl m20 fo23 ⟨trivial, trivial, trivial⟩ ⟨.data _ (d_api_Id _), .data _ (d_api_Id _), trivial⟩ trivial rfl <| r_as rfl rfl <| r_e) ?_
        refine aw_cov (cov_prune (s1 := ⟨[(2, _), (3, _), (4, _), (6, _)], [(0, some _), (1, some _), (2, some _)], 3, []⟩) a4 a3 (Nat.le_refl _)) ?_
        refine aw_seq ?_
        refine aw_region (r_mv rfl rfl <| r_p (does_bin .eql 3 3 (.tmp 46) (.const (.int .i64 0)) .i64 v4 0 (.bool (v4 == 0)) trivial (fun _ => rfl) (bin_eql _ _ _ _)) m10 rfl <| r_e) ?_
        refine aw_cov (cov_prune (s1 := ⟨[(2, _), (3, _), (4, _), (6, _), (47, _)], [(0, some _), (1, some _), (2, some _)], 3, []⟩) a5 a3 (Nat.le_refl _)) ?_
        refine aw_jn (fun x9 : api_Peer => (⟨[(2, (.ptr 0 0 [])), (3, (.ptr 1 0 [])), (4, (.ptr 2 0 [])), (6, (.int .i64 v4))], [(0, some (.var (e_api_Peer x9))), (1, some (.var (e_api_Packet p1))), (2, some (.var (e_api_Peer z_api_Peer)))], 3, []⟩ : St)) H (fun x9 H => ?_) (fun j6 H => ?_)
        · refine nx_seq ?_
          refine aw_seq ?_
          refine aw_region (r_mv rfl rfl <| r_p (does_bin .eql 3 3 (.tmp 55) (.const (.int .i64 1)) .i64 v4 1 (.bool (v4 == 1)) trivial (fun _ => rfl) (bin_eql _ _ _ _)) m10 rfl <| r_e) ?_
          refine aw_cov (cov_prune (s1 := ⟨[(2, _), (3, _), (4, _), (56, _)], [(0, some _), (1, some _), (2, some _)], 3, []⟩) a4 a3 (Nat.le_refl _)) ?_
          refine aw_jn (fun x11 : api_Peer => (⟨[(2, (.ptr 0 0 [])), (3, (.ptr 1 0 [])), (4, (.ptr 2 0 []))], [(0, some (.var (e_api_Peer x11))), (1, some (.var (e_api_Packet p1))), (2, some (.var (e_api_Peer z_api_Peer)))], 3, []⟩ : St)) H (fun x11 H => ?_) (fun j10 H => ?_)
          · refine nx_seq ?_
            refine aw_seq ?_
            refine aw_region (r_fa (.ptr 1 (0 + 32) [7]) fl50_7 rfl rfl rfl rfl <| r_ld (.bool p1.Ready) rfl rfl ⟨rfl, nl rfl, trivial⟩ rfl rfl ty4 rfl <| r_e) ?_
            refine aw_cov (cov_prune (s1 := ⟨[(2, _), (4, _), (64, _)], [(0, some _), (2, some _)], 3, []⟩) a3 a2 (Nat.le_refl _)) ?_
            refine aw_jn (fun x13 : api_Peer => (⟨[(2, (.ptr 0 0 [])), (4, (.ptr 2 0 []))], [(0, some (.var (e_api_Peer x13))), (2, some (.var (e_api_Peer z_api_Peer)))], 3, []⟩ : St)) H (fun x13 H => ?_) (fun j12 H => ?_)
            · refine nx_seq ?_
              refine aw_region (r_lv rfl rfl ty32 rfl <| r_sv rfl rfl rfl rfl rfl rfl ty32 rfl <| r_e) ?_
              refine aw_cov (cov_prune (s1 := ⟨[(4, _)], [(2, some _)], 3, []⟩) a1 a1 (Nat.le_refl _)) ?_
              refine aw_ret ?_
              exact fun a w hr => ⟨_, [(e_api_Peer x13)], hr, ⟨⟨2, _, rfl, rfl, .data _ (d_api_Peer x13), ty32⟩, trivial⟩, by decide, by cases H; rfl⟩
            · refine aw_cond rfl (fun hc => ?_) (fun hc => ?_)
              · replace H := ite_t hc H
                refine aw_region1 (r_fa (.ptr 0 (0 + 15) [4]) fl32_4 rfl rfl rfl rfl <| r_st (.var (e_api_Peer ({ x11 with Ready := true }))) rfl rfl trivial (u := (.bool true)) (fun _ => rfl) rfl ⟨rfl, nl rfl, trivial⟩ rfl rfl (congrArg Box.var (set_cons rfl (st_api_Peer_4 _ _))) ty4 rfl <| r_e) ?_
                exact nx_join ({ x11 with Ready := true }) H (cov_prune a2 a2 (nl rfl))
              · replace H := ite_f hc H
                refine aw_skip ?_
                exact nx_join (x11) H (cov_prune a2 a2 (nl rfl))
          · refine aw_cond rfl (fun hc => ?_) (fun hc => ?_)
            · replace H := ite_t hc H
              refine aw_region (r_fa (.ptr 1 (0 + 2) [2]) fl50_2 rfl rfl rfl rfl <| r_ld (e_api_Id p1.Conf) rfl rfl ⟨rfl, nl rfl, trivial⟩ rfl rfl ty27 rfl <| r_fa (.ptr 0 (0 + 1) [1]) fl32_1 rfl rfl rfl rfl <| r_st (.var (e_api_Peer ({ x9 with Conf := p1.Conf }))) rfl rfl a1 trivial rfl ⟨rfl, nl rfl, trivial⟩ rfl rfl (congrArg Box.var (set_cons rfl (st_api_Peer_1 _ _))) ty27 rfl <| r_e) ?_
              refine aw_cov (cov_prune (s1 := ⟨[(2, _), (3, _), (4, _)], [(0, some _), (1, some _), (2, some _)], 3, []⟩) a3 a3 (Nat.le_refl _)) ?_
              refine aw_region1 (r_fa (.ptr 1 (0 + 13) [4]) fl50_4 rfl rfl rfl rfl <| r_ld (e_a8_u32 p1.Count) rfl rfl ⟨rfl, nl rfl, trivial⟩ rfl rfl ty29 rfl <| r_fa (.ptr 0 (0 + 7) [3]) fl32_3 rfl rfl rfl rfl <| r_st (.var (e_api_Peer ({ { x9 with Conf := p1.Conf } with Cut := p1.Count }))) rfl rfl a1 trivial rfl ⟨rfl, nl rfl, trivial⟩ rfl rfl (congrArg Box.var (set_cons rfl (st_api_Peer_3 _ _))) ty29 rfl <| r_e) ?_
              exact nx_join ({ { x9 with Conf := p1.Conf } with Cut := p1.Count }) H (cov_prune ⟨rfl, rfl, rfl, trivial⟩ ⟨rfl, rfl, rfl, trivial⟩ (nl rfl))
            · replace H := ite_f hc H
              refine aw_skip ?_
              exact nx_join (x9) H (cov_prune a3 a3 (nl rfl))
        · refine aw_cond rfl (fun hc => ?_) (fun hc => ?_)
          · replace H := ite_t hc H
            obtain ⟨v7, h8, H⟩ := bnd H
            refine aw_region1 (r_fa (.ptr 0 (0 + 7) [3]) fl32_3 rfl rfl rfl rfl <| r_ld (e_a8_u32 p0.Cut) rfl rfl ⟨rfl, nl rfl, trivial⟩ rfl rfl ty29 rfl <| r_fa (.ptr 1 (0 + 13) [4]) fl50_4 rfl rfl rfl rfl <| r_ld (e_a8_u32 p1.Count) rfl rfl ⟨rfl, nl rfl, trivial⟩ rfl rfl ty29 rfl <| r_p (does_buildSl 131 2 8 (e_a8_u32 (fun _ => 0)) (fun j => (e_a8_u32 (([p0.Cut, p1.Count] : _root_.List (Nat → Int)).getD j (fun _ => 0)))) #[(0, (.tmp 49)), (1, (.tmp 51))] [(0, (.tmp 49)), (1, (.tmp 51))] [(0, (e_a8_u32 p0.Cut)), (1, (e_a8_u32 p1.Count))] rfl so131 (by decide) ⟨a1, a1, trivial⟩ ⟨⟨nl rfl, rfl, rfl⟩, ⟨nl rfl, rfl, rfl⟩, trivial⟩ (fun j h => match j, h with | 0, _ => rfl | 1, _ => rfl | k + 2, h => (nlt h).elim)) m20 rfl <| r_ca [_] [_] (nob := []) (flat := true) (congressref11_Union_spec _ _ h8) rfl rfl m10 fo88 ⟨trivial, trivial⟩ ⟨.data _ (d_s_a8_u32 _), trivial⟩ (f_a8_u32 v7) rfl <| r_fa (.ptr 0 (0 + 7) [3]) fl32_3 rfl rfl rfl rfl <| r_st (.var (e_api_Peer ({ p0 with Cut := v7 }))) rfl rfl a1 trivial rfl ⟨rfl, nl rfl, trivial⟩ rfl rfl (congrArg Box.var (set_cons rfl (st_api_Peer_3 _ _))) ty29 rfl <| r_e) ?_
            exact nx_join ({ p0 with Cut := v7 }) H (cov_prune a4 a3 (nl rfl))
          · replace H := ite_f hc H
            refine aw_skip ?_
            exact nx_join (p0) H (cov_prune a4 a3 (nl rfl))
theorem congressref12_Adopt_spec (p0 : api_Id) (p1 : Int) (p2 : Int) (p3 : api_Packet) (r : Bool) (H : congressref12_Adopt p0 p1 p2 p3 = some r) : FSpec Try.prog 58 [(e_api_Id p0), (.int .i64 p1), (.int .u32 p2), (e_api_Packet p3)] (.bool r) := by
  refine spec_of (fn := Try.f58) (args := [(e_api_Id p0), (.int .i64 p1), (.int .u32 p2), (e_api_Packet p3)]) Try.func58 rfl (nl rfl) ?_
  rintro ⟨G, w0, W, S, Sp, gx⟩ hG
  cases hG
  unfold congressref12_Adopt at H
  refine aw_region (r_p (does_box 27 (.tmp 0) 0 (e_api_Id p0) trivial rfl) m10 rfl <| r_p (does_box 50 (.tmp 3) 1 (e_api_Packet p3) trivial rfl) m10 rfl <| r_0 (does_assign (.const (.bool false)) (.bool false) (fun _ => rfl)) rfl rfl <| r_e) ?_
  refine aw_cov (cov_prune (s1 := ⟨[(1, _), (2, _), (4, _), (7, _)], [(0, some _), (1, some _)], 2, []⟩) a4 a2 (Nat.le_refl _)) ?_
  refine aw_seq ?_
  refine aw_region (r_mv rfl rfl <| r_p (does_bin .lss 3 3 (.tmp 9) (.const (.int .i64 0)) .i64 p1 0 (.bool (decide (p1 < 0))) trivial (fun _ => rfl) (bin_lss _ _ _ _)) m10 rfl <| r_mv rfl rfl <| r_gmv rfl rfl rfl rfl rfl rfl <| r_g [(12, _)] [(12, _)] [] rfl rfl m20 rfl (fun hc => ⟨(.opt _ _ hc), trivial⟩) (fun hc => does_bin .gtr 3 3 (.tmp 12) (.const (.int .i64 7)) .i64 p1 7 (.bool (decide (p1 > 7))) trivial (fun _ => rfl) (bin_gtr _ _ _ _)) rfl <| r_p (does_or 11 13 (decide (p1 < 0)) (decide (p1 > 7))) m20 rfl <| r_mv rfl rfl <| r_gmv rfl rfl rfl rfl rfl rfl <| r_g [(16, _)] [(16, _)] [] rfl rfl m20 rfl (fun hc => ⟨(.opt _ _ hc), trivial⟩) (fun hc => does_bin .eql 22 22 (.tmp 16) (.const (.int .u32 0)) .u32 p2 0 (.bool (p2 == 0)) trivial (fun _ => rfl) (bin_eql _ _ _ _)) rfl <| r_p (does_or 15 17 ((decide (p1 < 0)) || (decide (p1 > 7))) (p2 == 0)) m20 rfl <| r_e) ?_
  refine aw_cov (cov_prune (s1 := ⟨[(1, _), (2, _), (4, _), (7, _), (18, _)], [(0, some _), (1, some _)], 2, []⟩) a5 a2 (Nat.le_refl _)) ?_
  refine aw_cond rfl (fun hc => ?_) (fun hc => ?_)
  · replace H := ite_t hc H
    refine aw_region (r_0 (does_assign (.const (.bool false)) (.bool false) (fun _ => rfl)) rfl rfl <| r_e) ?_
    refine aw_cov (cov_prune (s1 := ⟨[(8, _)], [], 2, []⟩) a1 trivial (Nat.le_refl _)) ?_
    refine aw_ret ?_
    refine rt_then ?_
    exact fun a w hr => ⟨_, [(.bool false)], hr, ⟨⟨_, rfl, .data (.bool false) trivial⟩, trivial⟩, by decide, by cases H; rfl⟩
  · replace H := ite_f hc H
    refine aw_skip ?_
    refine nx_seq ?_
    obtain ⟨v1, h2, H⟩ := bnd H
    obtain ⟨h3, H⟩ := ibg_of H
    refine aw_region (r_fa (.ptr 1 (0 + 21) [5]) fl50_5 rfl rfl rfl rfl <| r_ld (e_api_Id p3.Promise) rfl rfl ⟨rfl, nl rfl, trivial⟩ rfl rfl ty27 rfl <| r_lv rfl rfl ty27 rfl <| r_ca [_, _] [_, _] (nob := []) (flat := true) (congressref07_Compare_spec _ p0 _ h2) rfl rfl m20 fo23 ⟨trivial, trivial, trivial⟩ ⟨.data _ (d_api_Id _), .data _ (d_api_Id _), trivial⟩ trivial rfl <| r_p (does_bin .eql 3 3 (.tmp 22) (.const (.int .i64 1)) .i64 v1 1 (.bool (v1 == 1)) trivial (fun _ => rfl) (bin_eql _ _ _ _)) m10 rfl <| r_mv rfl rfl <| r_gmv rfl rfl rfl rfl rfl rfl <| r_gfa (.ptr 1 (0 + 24) [6]) fl50_6 rfl rfl rfl rfl rfl (fun _ => .same _) rfl rfl rfl <| r_g [(26, _), (25, _)] [(26, _), (25, _)] [(1, _)] rfl rfl m31 rfl (fun hc => ⟨(.opt _ _ hc), (.opt _ _ hc), trivial⟩) (fun hc => does_indexAddr 28 8 1 26 1 (0 + 24) [6] (.var (e_api_Packet p3)) (.tmp 25) .i64 p1 el28 trivial (h3 hc).1 (h3 hc).2) rfl <| r_gld (.int .u32 (p3.Wanted p1.toNat)) rfl rfl rfl rfl rfl (fun hc => .opt _ _ hc) rfl (fun hc => ⟨rfl, nl rfl, ⟨rfl, (ixl (h3 hc)), trivial⟩⟩) rfl rfl ty22 rfl <| r_gmv rfl rfl rfl rfl rfl rfl <| r_g [(28, _), (29, _)] [(28, _), (29, _)] [] rfl rfl m30 rfl (fun hc => ⟨(.opt _ _ hc), (.opt _ _ hc), trivial⟩) (fun hc => does_bin .eql 22 22 (.tmp 28) (.tmp 29) .u32 (p3.Wanted p1.toNat) p2 (.bool ((p3.Wanted p1.toNat) == p2)) trivial trivial (bin_eql _ _ _ _)) rfl <| r_p (does_and 24 30 (v1 == 1) ((p3.Wanted p1.toNat) == p2)) m20 rfl <| r_as rfl rfl <| r_e) ?_
    refine aw_cov (cov_prune (s1 := ⟨[(8, _)], [], 2, []⟩) a1 trivial (Nat.le_refl _)) ?_
    refine aw_ret ?_
    exact fun a w hr => ⟨_, [(.bool ((v1 == 1) && ((p3.Wanted p1.toNat) == p2)))], hr, ⟨⟨_, rfl, .data (.bool ((v1 == 1) && ((p3.Wanted p1.toNat) == p2))) trivial⟩, trivial⟩, by decide, by cases H; rfl⟩
end Go.Proofs.Ytcocahffigbmbaa
end

section
set_option linter.unusedVariables false
set_option maxRecDepth 100000
namespace Go.Proofs.Ytcocahffigbmbaa
open Go.Eng
set_option maxHeartbeats 1600000
theorem congressref10_offer_spec (p0 : congressref10_State) (p1 : (Nat → Int)) (p2 : api_Kept) (p3 : (Nat → Int)) (r : congressref10_State) (H : congressref10_offer p0 p1 p2 p3 = some r) : FSpecO Try.prog 102 [(.agg (.st [1, 8, 1]) (vupd (c_congressref10_State p0) 2 (.own 0))), (e_a8_u32 p1), (e_api_Kept p2), (e_a8_u32 p3)] [(0, some (.arr 38 p0.Taken.length fun j => (e_api_Kept (p0.Taken.getD j z_api_Kept))))] 1 (.agg (.st [1, 8, 1]) (vupd (c_congressref10_State r) 2 (.own 0))) [(0, some (.arr 38 r.Taken.length fun j => (e_api_Kept (r.Taken.getD j z_api_Kept))))] 2 := by
  refine specO_of (fn := Try.f102) (args := [(.agg (.st [1, 8, 1]) (vupd (c_congressref10_State p0) 2 (.own 0))), (e_a8_u32 p1), (e_api_Kept p2), (e_a8_u32 p3)]) Try.func102 rfl (nl rfl) ?_
  rintro ⟨G, w0, W, S, Sp, gx⟩ hG
  cases hG
  unfold congressref10_offer at H
  refine aw_region (r_p (does_box 143 (.tmp 0) 1 (.agg (.st [1, 8, 1]) (vupd (c_congressref10_State p0) 2 (.own 0))) trivial rfl) m10 rfl <| r_p (does_box 28 (.tmp 1) 2 (e_a8_u32 p1) trivial rfl) m10 rfl <| r_p (does_box 64 (.tmp 2) 3 (e_api_Kept p2) trivial rfl) m10 rfl <| r_p (does_box 29 (.tmp 3) 4 (e_a8_u32 p3) trivial rfl) m10 rfl <| r_0 (does_alloc 143 5 (e_congressref10_State z_congressref10_State) zr143) rfl rfl <| r_e) ?_
  refine aw_cov (cov_prune (s1 := ⟨[(4, _), (5, _), (6, _), (7, _), (8, _)], [(0, some _), (1, some _), (2, some _), (3, some _), (4, some _), (5, some _)], 6, []⟩) a5 a6 (Nat.le_refl _)) ?_
  refine aw_seq ?_
  obtain ⟨h1, H⟩ := ibg_of H
  refine aw_draw (mixed) (r_fa (.ptr 3 (0 + 0) [0]) fl64_0 rfl rfl rfl rfl <| r_ld (.int .i64 p2.From) rfl rfl ⟨rfl, nl rfl, trivial⟩ rfl rfl ty3 rfl <| r_p (does_bin .lss 3 3 (.tmp 13) (.const (.int .i64 0)) .i64 p2.From 0 (.bool (decide (p2.From < 0))) trivial (fun _ => rfl) (bin_lss _ _ _ _)) m10 rfl <| r_mv rfl rfl <| r_gfa (.ptr 3 (0 + 0) [0]) fl64_0 rfl rfl rfl rfl rfl (fun _ => .same _) rfl rfl rfl <| r_gld (.int .i64 p2.From) rfl rfl rfl rfl rfl (fun hc => .opt _ _ hc) rfl (fun hc => ⟨rfl, nl rfl, trivial⟩) rfl rfl ty3 rfl <| r_g [(17, _)] [(17, _)] [] rfl rfl m20 rfl (fun hc => ⟨(.opt _ _ hc), trivial⟩) (fun hc => does_bin .gtr 3 3 (.tmp 17) (.const (.int .i64 7)) .i64 p2.From 7 (.bool (decide (p2.From > 7))) trivial (fun _ => rfl) (bin_gtr _ _ _ _)) rfl <| r_p (does_or 15 18 (decide (p2.From < 0)) (decide (p2.From > 7))) m20 rfl <| r_mv rfl rfl <| r_gfa (.ptr 3 (0 + 1) [1]) fl64_1 rfl rfl rfl rfl rfl (fun _ => .same _) rfl rfl rfl <| r_gld (.int .u32 p2.Round) rfl rfl rfl rfl rfl (fun hc => .opt _ _ hc) rfl (fun hc => ⟨rfl, nl rfl, trivial⟩) rfl rfl ty22 rfl <| r_gfa (.ptr 3 (0 + 0) [0]) fl64_0 rfl rfl rfl rfl rfl (fun _ => .same _) rfl rfl rfl <| r_gld (.int .i64 p2.From) rfl rfl rfl rfl rfl (fun hc => .opt _ _ hc) rfl (fun hc => ⟨rfl, nl rfl, trivial⟩) rfl rfl ty3 rfl <| r_g [(24, _)] [(24, _)] [] rfl rfl m20 rfl (fun hc => ⟨(.opt _ _ hc), trivial⟩) (fun hc => does_bin .rem 3 3 (.tmp 24) (.const (.int .i64 8)) .i64 p2.From 8 (.int .i64 (p2.From.tmod 8)) trivial (fun _ => rfl) (bin_rem _ _ _ _ (by decide))) rfl <| r_g [(7, _), (25, _)] [(7, _), (25, _)] [(4, _)] rfl rfl m31 rfl (fun hc => ⟨(.same _), (.opt _ _ hc), trivial⟩) (fun hc => does_indexAddr 29 8 1 7 4 0 [] (.var (e_a8_u32 p3)) (.tmp 25) .i64 (p2.From.tmod 8) el29 trivial (h1 hc).1 (h1 hc).2) rfl <| r_gld (.int .u32 (p3 ((p2.From.tmod 8).toNat))) rfl rfl rfl rfl rfl (fun hc => .opt _ _ hc) rfl (fun hc => ⟨rfl, (ixl (h1 hc)), trivial⟩) rfl rfl ty22 rfl <| r_g [(22, _), (27, _)] [(22, _), (27, _)] [] rfl rfl m30 rfl (fun hc => ⟨(.opt _ _ hc), (.opt _ _ hc), trivial⟩) (fun hc => does_bin .gtr 22 22 (.tmp 22) (.tmp 27) .u32 p2.Round (p3 ((p2.From.tmod 8).toNat)) (.bool (decide (p2.Round > (p3 ((p2.From.tmod 8).toNat))))) trivial trivial (bin_gtr _ _ _ _)) rfl <| r_p (does_or 20 28 ((decide (p2.From < 0)) || (decide (p2.From > 7))) (decide (p2.Round > (p3 ((p2.From.tmod 8).toNat))))) m20 rfl <| r_e) rfl ?_
  obtain ⟨v2, hv2, H⟩ := lt_of H
  refine aw_cov (cov_prune (s1 := ⟨[(4, _), (5, _), (6, _), (8, _), (29, (.bool v2))], [(0, some _), (1, some _), (2, some _), (3, some _), (5, some _)], 6, []⟩) ⟨rfl, rfl, rfl, rfl, (by subst hv2; rfl), trivial⟩ a5 (Nat.le_refl _)) ?_
  refine aw_cond rfl (fun hc => ?_) (fun hc => ?_)
  · replace H := ite_t hc H
    refine aw_region (r_lv rfl rfl ty143 rfl <| r_sv rfl rfl rfl rfl rfl rfl ty143 rfl <| r_e) ?_
    refine aw_cov (cov_prune (s1 := ⟨[(8, _)], [(0, some _), (5, some _)], 6, []⟩) a1 a2 (Nat.le_refl _)) ?_
    refine aw_ret ?_
    refine rt_then ?_
    exact fun a w hr => ⟨_, [(.agg (.st [1, 8, 1]) (vupd (c_congressref10_State ({ p0 with Taken := p0.Taken } : congressref10_State)) 2 (.own 0)))], reach_of hr (cov_to (s1 := ⟨[(8, (.ptr 1 0 []))], [(0, some (.arr 38 p0.Taken.length fun j => (e_api_Kept (p0.Taken.getD j z_api_Kept)))), (1, some (.var (.agg (.st [1, 8, 1]) (vupd (c_congressref10_State ({ p0 with Taken := p0.Taken } : congressref10_State)) 2 (.own 0)))))], 2, []⟩) (fun i => match i with | 0 => 0 | 1 => 5 | k => k) [] ⟨⟨_, rfl, .ptr 1 _ _ _ _ (nl rfl) rfl rfl⟩, trivial⟩ ⟨⟨nl rfl, _, _, rfl, rfl, boxTo_arr (fun _ => (d_api_Kept _))⟩, ⟨nl rfl, _, _, rfl, rfl, (boxTo_st (.agg _ _ _ (fun j => match j with | 0 => .plain _ ((d_s_api_Kept _).plain) | 1 => .plain _ ((d_a8_u32 _).plain) | 2 => .own 0 _ _ (nl rfl) rfl rfl (Box.like_refl _) | _ + 3 => .plain _ trivial)))⟩, trivial⟩ rfl rfl), ⟨⟨1, rfl, rfl, ty143⟩, trivial⟩, by decide, by cases H; rfl, by cases H; exact ⟨rfl, trivial⟩, nl rfl⟩
  · replace H := ite_f hc H
    refine aw_skip ?_
    refine nx_seq ?_
    obtain ⟨v3, h4, H⟩ := bnd H
    refine aw_region (r_fa (.ptr 1 (0 + 0) [0]) fl143_0 rfl rfl rfl rfl <| r_ld (e_s_api_Kept p0.L) rfl rfl ⟨rfl, nl rfl, trivial⟩ rfl rfl ty30 rfl <| r_fa (.ptr 1 (0 + 1) [1]) fl143_1 rfl rfl rfl rfl <| r_ld (e_a8_u32 p0.C) rfl rfl ⟨rfl, nl rfl, trivial⟩ rfl rfl ty29 rfl <| r_lv rfl rfl ty28 rfl <| r_lv rfl rfl ty64 rfl <| r_ca [_, _, _, _] [_, _, _, _] (nob := []) (flat := false) (congressref10_Take_spec _ _ p1 p2 _ h4) rfl rfl ⟨a4, trivial, rfl⟩ fo44 ⟨trivial, trivial, trivial, trivial, trivial⟩ ⟨.data _ (d_s_api_Kept _), .data _ (d_a8_u32 _), .data _ (d_a8_u32 _), .data _ (d_api_Kept _), trivial⟩ (res_data3 (d_s_api_Kept v3.1) (d_a8_u32 v3.2.1) trivial) rfl <| r_mv rfl rfl <| r_ex (e_s_api_Kept v3.1) rfl (nl rfl) rfl rfl <| r_ex (e_a8_u32 v3.2.1) rfl (nl rfl) rfl rfl <| r_ex (.bool v3.2.2) rfl (nl rfl) rfl rfl <| r_0 (does_alloc 29 6 (e_a8_u32 (fun _ => 0)) zr29) rfl rfl <| r_as rfl rfl <| r_sv rfl rfl rfl rfl rfl rfl ty29 rfl <| r_as rfl rfl <| r_e) ?_
    refine aw_cov (cov_prune (s1 := ⟨[(4, _), (6, _), (8, _), (10, _), (9, _), (11, _)], [(0, some _), (1, some _), (3, some _), (5, some _), (6, some _)], 7, []⟩) a6 a5 (Nat.le_refl _)) ?_
    refine aw_seq ?_
    refine aw_region (r_mv rfl rfl <| r_e) ?_
    refine aw_cov (cov_prune (s1 := ⟨[(4, _), (6, _), (8, _), (10, _), (9, _), (42, _)], [(0, some _), (1, some _), (3, some _), (5, some _), (6, some _)], 7, []⟩) a6 a5 (Nat.le_refl _)) ?_
    refine aw_jn (fun x8 : congressref10_State × _root_.List api_Kept => (⟨[(4, (.ptr 1 0 [])), (8, (.ptr 5 0 []))], [(1, some (.var (.agg (.st [1, 8, 1]) (vupd (c_congressref10_State x8.1) 2 (.own 0))))), (0, some (.arr 38 x8.2.length fun j => (e_api_Kept (x8.2.getD j z_api_Kept)))), (5, some (.var (e_congressref10_State z_congressref10_State)))], 8, []⟩ : St)) H (fun x8 H => ?_) (fun j5 H => ?_)
    · refine nx_seq ?_
      refine aw_region (r_lv rfl rfl ty143 rfl <| r_sv rfl rfl rfl rfl rfl rfl ty143 rfl <| r_e) ?_
      refine aw_cov (cov_prune (s1 := ⟨[(8, _)], [(0, some _), (5, some _)], 8, []⟩) a1 a2 (Nat.le_refl _)) ?_
      refine aw_ret ?_
      exact fun a w hr => ⟨_, [(.agg (.st [1, 8, 1]) (vupd (c_congressref10_State ({ x8.1 with Taken := x8.2 } : congressref10_State)) 2 (.own 0)))], reach_of hr (cov_to (s1 := ⟨[(8, (.ptr 1 0 []))], [(0, some (.arr 38 x8.2.length fun j => (e_api_Kept (x8.2.getD j z_api_Kept)))), (1, some (.var (.agg (.st [1, 8, 1]) (vupd (c_congressref10_State ({ x8.1 with Taken := x8.2 } : congressref10_State)) 2 (.own 0)))))], 2, []⟩) (fun i => match i with | 0 => 0 | 1 => 5 | k => k) [] ⟨⟨_, rfl, .ptr 1 _ _ _ _ (nl rfl) rfl rfl⟩, trivial⟩ ⟨⟨nl rfl, _, _, rfl, rfl, boxTo_arr (fun _ => (d_api_Kept _))⟩, ⟨nl rfl, _, _, rfl, rfl, (boxTo_st (.agg _ _ _ (fun j => match j with | 0 => .plain _ ((d_s_api_Kept _).plain) | 1 => .plain _ ((d_a8_u32 _).plain) | 2 => .own 0 _ _ (nl rfl) rfl rfl (Box.like_refl _) | _ + 3 => .plain _ trivial)))⟩, trivial⟩ rfl rfl), ⟨⟨1, rfl, rfl, ty143⟩, trivial⟩, by decide, by cases H; rfl, by cases H; exact ⟨rfl, trivial⟩, nl rfl⟩
    · refine aw_cond rfl (fun hc => ?_) (fun hc => ?_)
      · replace H := ite_t hc H
        refine aw_region (r_mv rfl rfl <| r_fa (.ptr 1 (0 + 0) [0]) fl143_0 rfl rfl rfl rfl <| r_st (.var (.agg (.st [1, 8, 1]) (vupd (c_congressref10_State ({ p0 with L := v3.1 })) 2 (.own 0)))) rfl rfl a1 trivial rfl ⟨rfl, nl rfl, trivial⟩ rfl rfl (congrArg Box.var (set_cons (w := (e_s_api_Kept (({ p0 with L := v3.1 }).L))) rfl (fe3 rfl rfl rfl (fun _ => rfl)))) ty30 rfl <| r_e) ?_
        refine aw_cov (cov_prune (s1 := ⟨[(4, _), (6, _), (8, _), (10, _)], [(0, some _), (1, some _), (3, some _), (5, some _), (6, some _)], 7, []⟩) a4 a5 (Nat.le_refl _)) ?_
        refine aw_region (r_lv rfl rfl ty29 rfl <| r_fa (.ptr 1 (0 + 1) [1]) fl143_1 rfl rfl rfl rfl <| r_st (.var (.agg (.st [1, 8, 1]) (vupd (c_congressref10_State ({ { p0 with L := v3.1 } with C := v3.2.1 })) 2 (.own 0)))) rfl rfl a1 trivial rfl ⟨rfl, nl rfl, trivial⟩ rfl rfl (congrArg Box.var (set_cons (w := (e_a8_u32 (({ { p0 with L := v3.1 } with C := v3.2.1 }).C))) rfl (fe3 rfl rfl rfl (fun _ => rfl)))) ty29 rfl <| r_e) ?_
        obtain ⟨v6, hv6, H⟩ := lt_of H
        refine aw_cov (cov_prune (s1 := ⟨[(4, _), (6, _), (8, _)], [(0, some _), (1, some (.var (.agg (.st [1, 8, 1]) (vupd (c_congressref10_State v6) 2 (.own 0))))), (3, some _), (5, some _)], 7, []⟩) a3 ⟨rfl, (by subst hv6; rfl), rfl, rfl, trivial⟩ (Nat.le_refl _)) ?_
        obtain ⟨h7, H⟩ := fit_of H
        refine aw_region1 (r_fa (.ptr 1 (0 + 9) [2]) fl143_2 rfl rfl rfl rfl <| r_ld (.own 0) rfl rfl ⟨rfl, nl rfl, trivial⟩ rfl rfl ty30 rfl <| r_lv rfl rfl ty64 rfl <| r_p (does_buildSl 30 1 38 (e_api_Kept z_api_Kept) (fun j => (e_api_Kept (([p2] : _root_.List api_Kept).getD j z_api_Kept))) #[(0, (.tmp 49))] [(0, (.tmp 49))] [(0, (e_api_Kept p2))] rfl so30 (by decide) ⟨a1, trivial⟩ ⟨⟨nl rfl, rfl, rfl⟩, trivial⟩ (fun j h => match j, h with | 0, _ => rfl | k + 1, h => (nlt h).elim)) m10 rfl <| r_p (does_appendL e_api_Kept z_api_Kept p0.Taken ([p2] : _root_.List api_Kept) 30 38 352 0 7 48 50 ap30 h7) m21 rfl <| r_fa (.ptr 1 (0 + 9) [2]) fl143_2 rfl rfl rfl rfl <| r_p (does_storeO 30 52 (.tmp 51) 1 (0 + 9) [2] (.var (.agg (.st [1, 8, 1]) (vupd (c_congressref10_State v6) 2 (.own 0)))) (.var (.agg (.st [1, 8, 1]) (vupd (c_congressref10_State v6) 2 (.own 7)))) 7 38 (p0.Taken ++ ([p2] : _root_.List api_Kept)).length (fun j => (e_api_Kept ((p0.Taken ++ ([p2] : _root_.List api_Kept)).getD j z_api_Kept))) (.own 7) rfl false trivial ⟨rfl, nl rfl, trivial⟩ rfl rfl (congrArg Box.var (set_cons (w := (.own 7)) rfl (fe3 rfl rfl rfl (fun _ => rfl)))) ty30) ⟨a2, a2, rfl⟩ rfl <| r_e) ?_
        exact nx_join (v6, (p0.Taken ++ ([p2] : _root_.List api_Kept))) H (cov_to (fun i => match i with | 1 => 1 | 0 => 7 | 5 => 5 | k => k) [] ⟨⟨_, rfl, .ptr 1 _ _ _ _ (nl rfl) rfl rfl⟩, ⟨_, rfl, .ptr 5 _ _ _ _ (nl rfl) rfl rfl⟩, trivial⟩ ⟨⟨nl rfl, _, _, rfl, rfl, (boxTo_st (.agg _ _ _ (fun j => match j with | 0 => .plain _ ((d_s_api_Kept _).plain) | 1 => .plain _ ((d_a8_u32 _).plain) | 2 => .own 0 _ _ (nl rfl) rfl rfl (Box.like_refl _) | _ + 3 => .plain _ trivial)))⟩, ⟨nl rfl, _, _, rfl, rfl, boxTo_arr (fun _ => (d_api_Kept _))⟩, ⟨nl rfl, _, _, rfl, rfl, boxTo_var ((d_congressref10_State _).plain)⟩, trivial⟩ rfl rfl)
      · replace H := ite_f hc H
        refine aw_skip ?_
        exact nx_join (p0, p0.Taken) H (cov_to (fun i => match i with | 1 => 1 | 0 => 0 | 5 => 5 | k => k) [] ⟨⟨_, rfl, .ptr 1 _ _ _ _ (nl rfl) rfl rfl⟩, ⟨_, rfl, .ptr 5 _ _ _ _ (nl rfl) rfl rfl⟩, trivial⟩ ⟨⟨nl rfl, _, _, rfl, rfl, (boxTo_st (.agg _ _ _ (fun j => match j with | 0 => .plain _ ((d_s_api_Kept _).plain) | 1 => .plain _ ((d_a8_u32 _).plain) | 2 => .own 0 _ _ (nl rfl) rfl rfl (Box.like_refl _) | _ + 3 => .plain _ trivial)))⟩, ⟨nl rfl, _, _, rfl, rfl, boxTo_arr (fun _ => (d_api_Kept _))⟩, ⟨nl rfl, _, _, rfl, rfl, boxTo_var ((d_congressref10_State _).plain)⟩, trivial⟩ rfl rfl)
theorem congressref10_Offer_spec (p0 : (_root_.List api_Kept)) (p1 : (Nat → Int)) (p2 : (Nat → Int)) (p3 : api_Packet) (p4 : (Nat → Int)) (r : (_root_.List api_Kept) × (Nat → Int) × (_root_.List api_Kept)) (H : congressref10_Offer p0 p1 p2 p3 p4 = some r) : FSpecO Try.prog 89 [(e_s_api_Kept p0), (e_a8_u32 p1), (e_a8_u32 p2), (e_api_Packet p3), (e_a8_u32 p4)] [] 0 (resV [(e_s_api_Kept r.1), (e_a8_u32 r.2.1), (.own 0)]) [(0, some (.arr 38 r.2.2.length fun j => (e_api_Kept (r.2.2.getD j z_api_Kept))))] 2 := by
  refine specO_of (fn := Try.f89) (args := [(e_s_api_Kept p0), (e_a8_u32 p1), (e_a8_u32 p2), (e_api_Packet p3), (e_a8_u32 p4)]) Try.func89 rfl (nl rfl) ?_
  rintro ⟨G, w0, W, S, Sp, gx⟩ hG
  cases hG
  unfold congressref10_Offer at H
  refine aw_region (r_p (does_box 29 (.tmp 1) 0 (e_a8_u32 p1) trivial rfl) m10 rfl <| r_p (does_box 28 (.tmp 2) 1 (e_a8_u32 p2) trivial rfl) m10 rfl <| r_p (does_box 50 (.tmp 3) 2 (e_api_Packet p3) trivial rfl) m10 rfl <| r_p (does_box 29 (.tmp 4) 3 (e_a8_u32 p4) trivial rfl) m10 rfl <| r_0 (does_nil false 4 38 (fun j => (e_api_Kept (([] : _root_.List api_Kept).getD j z_api_Kept)))) rfl rfl <| r_0 (does_alloc 29 5 (e_a8_u32 (fun _ => 0)) zr29) rfl rfl <| r_0 (does_nil false 6 38 (fun j => (e_api_Kept (([] : _root_.List api_Kept).getD j z_api_Kept)))) rfl rfl <| r_e) ?_
  refine aw_cov (cov_prune (s1 := ⟨[(0, _), (6, _), (7, _), (8, _), (9, _), (11, _)], [(0, some _), (1, some _), (2, some _), (3, some _), (5, some _)], 7, []⟩) a6 a5 (Nat.le_refl _)) ?_
  refine aw_region (r_mv rfl rfl <| r_lv rfl rfl ty29 rfl <| r_p (does_buildN 143 #[(0, (.tmp 14)), (1, (.tmp 15))] [(0, (.tmp 14)), (1, (.tmp 15))] [(0, (e_s_api_Kept p0)), (1, (e_a8_u32 p1))] (.st [1, 8, 1]) (c_congressref10_State z_congressref10_State) (vupd (c_congressref10_State ({ L := p0, C := p1, Taken := [] } : congressref10_State)) 2 (.own 7)) (fun j => (e_api_Kept (([] : _root_.List api_Kept).getD j z_api_Kept))) (fun j => (e_api_Kept (([] : _root_.List api_Kept).getD j z_api_Kept))) 2 38 7 rfl bo143 ⟨a1, a1, trivial⟩ ⟨⟨nl rfl, rfl, rfl⟩, ⟨nl rfl, rfl, rfl⟩, trivial⟩ (nl rfl) rfl (fe3 rfl rfl rfl (fun _ => rfl))) m20 rfl <| r_0 (does_alloc 143 8 (e_congressref10_State z_congressref10_State) zr143) rfl rfl <| r_sv rfl rfl rfl rfl rfl rfl ty143 rfl <| r_e) ?_
  refine aw_cov (cov_prune (s1 := ⟨[(7, _), (8, _), (9, _), (11, _), (13, _)], [(1, some _), (2, some _), (3, some _), (5, some _), (7, some _), (8, some _)], 9, []⟩) a5 a6 (Nat.le_refl _)) ?_
  refine aw_seq ?_
  refine aw_region (r_fa (.ptr 2 (0 + 34) [9]) fl50_9 rfl rfl rfl rfl <| r_ld (.int .u32 p3.Round) rfl rfl ⟨rfl, nl rfl, trivial⟩ rfl rfl ty22 rfl <| r_p (does_bin .gtr 22 22 (.tmp 18) (.const (.int .u32 1)) .u32 p3.Round 1 (.bool (decide (p3.Round > 1))) trivial (fun _ => rfl) (bin_gtr _ _ _ _)) m10 rfl <| r_e) ?_
  refine aw_cov (cov_prune (s1 := ⟨[(7, _), (8, _), (9, _), (11, _), (13, _), (19, _)], [(1, some _), (2, some _), (3, some _), (5, some _), (7, some _), (8, some _)], 9, []⟩) a6 a6 (Nat.le_refl _)) ?_
  refine aw_jn (fun x4 : congressref10_State × _root_.List api_Kept => (⟨[(7, (.ptr 1 0 [])), (8, (.ptr 2 0 [])), (9, (.ptr 3 0 [])), (11, (.ptr 5 0 [])), (13, (.ptr 8 0 []))], [(1, some (.var (e_a8_u32 p2))), (2, some (.var (e_api_Packet p3))), (3, some (.var (e_a8_u32 p4))), (5, some (.var (e_a8_u32 (fun _ => 0)))), (8, some (.var (.agg (.st [1, 8, 1]) (vupd (c_congressref10_State x4.1) 2 (.own 7))))), (7, some (.arr 38 x4.2.length fun j => (e_api_Kept (x4.2.getD j z_api_Kept))))], 11, []⟩ : St)) H (fun x4 H => ?_) (fun j1 H => ?_)
  · refine nx_seq ?_
    obtain ⟨v5, h6, H⟩ := bnd H
    refine aw_region (r_lv rfl rfl ty143 rfl <| r_lv rfl rfl ty28 rfl <| r_fa (.ptr 2 (0 + 0) [0]) fl50_0 rfl rfl rfl rfl <| r_ld (.int .u32 p3.From) rfl rfl ⟨rfl, nl rfl, trivial⟩ rfl rfl ty22 rfl <| r_p (does_convInt 22 3 (.tmp 36) .u32 .i64 p3.From trivial rfl rfl) m10 rfl <| r_fa (.ptr 2 (0 + 34) [9]) fl50_9 rfl rfl rfl rfl <| r_ld (.int .u32 p3.Round) rfl rfl ⟨rfl, nl rfl, trivial⟩ rfl rfl ty22 rfl <| r_fa (.ptr 2 (0 + 35) [10]) fl50_10 rfl rfl rfl rfl <| r_ld (e_a3_a2_api_Entry p3.Newest) rfl rfl ⟨rfl, nl rfl, trivial⟩ rfl rfl ty41 rfl <| r_p (does_buildT 64 #[(0, (.tmp 37)), (1, (.tmp 39)), (2, (.tmp 41))] [(0, (.tmp 37)), (1, (.tmp 39)), (2, (.tmp 41))] [(0, (.int .i64 (IntKind.i64.wrap (p3.From)))), (1, (.int .u32 p3.Round)), (2, (e_a3_a2_api_Entry p3.Newest))] (.st [1, 1, 36]) (c_api_Kept z_api_Kept) (c_api_Kept ({ From := (IntKind.i64.wrap (p3.From)), Round := p3.Round, Frame := p3.Newest } : api_Kept)) rfl bo64 ⟨a1, a1, a1, trivial⟩ ⟨⟨nl rfl, rfl, rfl⟩, ⟨nl rfl, rfl, rfl⟩, ⟨nl rfl, rfl, rfl⟩, trivial⟩ (fe3 rfl rfl rfl (fun _ => rfl))) m30 rfl <| r_lv rfl rfl ty29 rfl <| r_p (does_callO 102 0 (fun _ => .any) (.func 102) [(.tmp 33), (.tmp 34), (.tmp 42), (.tmp 43)] [(.agg (.st [1, 8, 1]) (vupd (c_congressref10_State x4.1) 2 (.own 7))), (e_a8_u32 p2), (e_api_Kept ({ From := (IntKind.i64.wrap (p3.From)), Round := p3.Round, Frame := p3.Newest } : api_Kept)), (e_a8_u32 p4)] [] [(7, (.arr 38 x4.2.length fun j => (e_api_Kept (x4.2.getD j z_api_Kept))))] false [(.agg (.st [1, 8, 1]) (vupd (c_congressref10_State ({ x4.1 with Taken := x4.2 } : congressref10_State)) 2 (.own 0))), (e_a8_u32 p2), (e_api_Kept ({ From := (IntKind.i64.wrap (p3.From)), Round := p3.Round, Frame := p3.Newest } : api_Kept)), (e_a8_u32 p4)] _ (.agg (.st [1, 8, 1]) (vupd (c_congressref10_State v5) 2 (.own 11))) _ 11 2 _ _ rfl fo102 rfl ⟨trivial, trivial, trivial, trivial, trivial⟩ ⟨(.agg _ _ _ (fun j => match j with | 0 => .ro _ _ (.data (e_s_api_Kept (({ x4.1 with Taken := x4.2 } : congressref10_State).L)) ((d_s_api_Kept _))) | 1 => .ro _ _ (.data (e_a8_u32 (({ x4.1 with Taken := x4.2 } : congressref10_State).C)) ((d_a8_u32 _))) | 2 => .mv 0 _ rfl | _ + 3 => .ro _ _ (.data _ trivial))), .ro _ _ (.data _ (d_a8_u32 p2)), .ro _ _ (.data _ (d_api_Kept ({ From := (IntKind.i64.wrap (p3.From)), Round := p3.Round, Frame := p3.Newest } : api_Kept))), .ro _ _ (.data _ (d_a8_u32 p4)), trivial⟩ (congressref10_offer_spec ({ x4.1 with Taken := x4.2 } : congressref10_State) p2 ({ From := (IntKind.i64.wrap (p3.From)), Round := p3.Round, Frame := p3.Newest } : api_Kept) p4 _ h6) rfl (by simp) rfl ⟨(fun _ => (f_api_Kept _)), trivial⟩ ⟨⟨nl rfl, _, rfl, fun _ => (f_api_Kept _)⟩, trivial⟩ (.agg _ _ _ (fun j => match j with | 0 => .data _ ((d_s_api_Kept _)) | 1 => .data _ ((d_a8_u32 _)) | 2 => .own 0 (nl rfl) | _ + 3 => .data _ trivial))) ⟨a4, a1, rfl⟩ rfl <| r_sv rfl rfl rfl rfl rfl rfl ty143 rfl <| r_e) ?_
    refine aw_cov (cov_prune (s1 := ⟨[(7, _), (8, _), (9, _), (11, _), (13, _)], [(1, some _), (2, some _), (3, some _), (5, some _), (8, some _), (11, some _)], 13, []⟩) a5 a6 (Nat.le_refl _)) ?_
    obtain ⟨v7, h8, H⟩ := bnd H
    refine aw_region (r_lv rfl rfl ty143 rfl <| r_lv rfl rfl ty28 rfl <| r_fa (.ptr 2 (0 + 107) [12]) fl50_12 rfl rfl rfl rfl <| r_ld (.int .u32 p3.RelayOf) rfl rfl ⟨rfl, nl rfl, trivial⟩ rfl rfl ty22 rfl <| r_p (does_convInt 22 3 (.tmp 48) .u32 .i64 p3.RelayOf trivial rfl rfl) m10 rfl <| r_fa (.ptr 2 (0 + 108) [13]) fl50_13 rfl rfl rfl rfl <| r_ld (.int .u32 p3.RelayRound) rfl rfl ⟨rfl, nl rfl, trivial⟩ rfl rfl ty22 rfl <| r_fa (.ptr 2 (0 + 109) [14]) fl50_14 rfl rfl rfl rfl <| r_ld (e_a3_a2_api_Entry p3.Relay) rfl rfl ⟨rfl, nl rfl, trivial⟩ rfl rfl ty41 rfl <| r_p (does_buildT 64 #[(0, (.tmp 49)), (1, (.tmp 51)), (2, (.tmp 53))] [(0, (.tmp 49)), (1, (.tmp 51)), (2, (.tmp 53))] [(0, (.int .i64 (IntKind.i64.wrap (p3.RelayOf)))), (1, (.int .u32 p3.RelayRound)), (2, (e_a3_a2_api_Entry p3.Relay))] (.st [1, 1, 36]) (c_api_Kept z_api_Kept) (c_api_Kept ({ From := (IntKind.i64.wrap (p3.RelayOf)), Round := p3.RelayRound, Frame := p3.Relay } : api_Kept)) rfl bo64 ⟨a1, a1, a1, trivial⟩ ⟨⟨nl rfl, rfl, rfl⟩, ⟨nl rfl, rfl, rfl⟩, ⟨nl rfl, rfl, rfl⟩, trivial⟩ (fe3 rfl rfl rfl (fun _ => rfl))) m30 rfl <| r_lv rfl rfl ty29 rfl <| r_p (does_callO 102 0 (fun _ => .any) (.func 102) [(.tmp 45), (.tmp 46), (.tmp 54), (.tmp 55)] [(.agg (.st [1, 8, 1]) (vupd (c_congressref10_State v5) 2 (.own 11))), (e_a8_u32 p2), (e_api_Kept ({ From := (IntKind.i64.wrap (p3.RelayOf)), Round := p3.RelayRound, Frame := p3.Relay } : api_Kept)), (e_a8_u32 p4)] [] [(11, (.arr 38 v5.Taken.length fun j => (e_api_Kept (v5.Taken.getD j z_api_Kept))))] false [(.agg (.st [1, 8, 1]) (vupd (c_congressref10_State ({ v5 with Taken := v5.Taken } : congressref10_State)) 2 (.own 0))), (e_a8_u32 p2), (e_api_Kept ({ From := (IntKind.i64.wrap (p3.RelayOf)), Round := p3.RelayRound, Frame := p3.Relay } : api_Kept)), (e_a8_u32 p4)] _ (.agg (.st [1, 8, 1]) (vupd (c_congressref10_State v7) 2 (.own 13))) _ 13 2 _ _ rfl fo102 rfl ⟨trivial, trivial, trivial, trivial, trivial⟩ ⟨(.agg _ _ _ (fun j => match j with | 0 => .ro _ _ (.data (e_s_api_Kept (({ v5 with Taken := v5.Taken } : congressref10_State).L)) ((d_s_api_Kept _))) | 1 => .ro _ _ (.data (e_a8_u32 (({ v5 with Taken := v5.Taken } : congressref10_State).C)) ((d_a8_u32 _))) | 2 => .mv 0 _ rfl | _ + 3 => .ro _ _ (.data _ trivial))), .ro _ _ (.data _ (d_a8_u32 p2)), .ro _ _ (.data _ (d_api_Kept ({ From := (IntKind.i64.wrap (p3.RelayOf)), Round := p3.RelayRound, Frame := p3.Relay } : api_Kept))), .ro _ _ (.data _ (d_a8_u32 p4)), trivial⟩ (congressref10_offer_spec ({ v5 with Taken := v5.Taken } : congressref10_State) p2 ({ From := (IntKind.i64.wrap (p3.RelayOf)), Round := p3.RelayRound, Frame := p3.Relay } : api_Kept) p4 _ h8) rfl (by simp) rfl ⟨(fun _ => (f_api_Kept _)), trivial⟩ ⟨⟨nl rfl, _, rfl, fun _ => (f_api_Kept _)⟩, trivial⟩ (.agg _ _ _ (fun j => match j with | 0 => .data _ ((d_s_api_Kept _)) | 1 => .data _ ((d_a8_u32 _)) | 2 => .own 0 (nl rfl) | _ + 3 => .data _ trivial))) ⟨a4, a1, rfl⟩ rfl <| r_sv rfl rfl rfl rfl rfl rfl ty143 rfl <| r_e) ?_
    refine aw_cov (cov_prune (s1 := ⟨[(11, _), (13, _)], [(5, some _), (8, some _), (13, some _)], 15, []⟩) a2 a3 (Nat.le_refl _)) ?_
    refine aw_draw (mixed) (r_fa (.ptr 8 (0 + 0) [0]) fl143_0 rfl rfl rfl rfl <| r_ld (e_s_api_Kept v7.L) rfl rfl ⟨rfl, nl rfl, trivial⟩ rfl rfl ty30 rfl <| r_fa (.ptr 8 (0 + 1) [1]) fl143_1 rfl rfl rfl rfl <| r_ld (e_a8_u32 v7.C) rfl rfl ⟨rfl, nl rfl, trivial⟩ rfl rfl ty29 rfl <| r_fa (.ptr 8 (0 + 9) [2]) fl143_2 rfl rfl rfl rfl <| r_ld (.own 13) rfl rfl ⟨rfl, nl rfl, trivial⟩ rfl rfl ty30 rfl <| r_as rfl rfl <| r_sv rfl rfl rfl rfl rfl rfl ty29 rfl <| r_as rfl rfl <| r_e) rfl ?_
    refine aw_cov (cov_prune (s1 := ⟨[(11, _), (10, _), (12, _)], [(5, some _), (13, some _)], 15, []⟩) a3 a2 (Nat.le_refl _)) ?_
    refine aw_ret ?_
    exact fun a w hr => ⟨_, [(e_s_api_Kept v7.L), (e_a8_u32 v7.C), (.own 0)], reach_of hr (cov_to (s1 := ⟨[(10, (e_s_api_Kept v7.L)), (11, (.ptr 1 0 [])), (12, (.own 0))], [(1, some (.var (e_a8_u32 v7.C))), (0, some (.arr 38 v7.Taken.length fun j => (e_api_Kept (v7.Taken.getD j z_api_Kept))))], 2, []⟩) (fun i => match i with | 1 => 5 | 0 => 13 | k => k) [] ⟨⟨_, rfl, .plain _ ((d_s_api_Kept v7.L).plain)⟩, ⟨_, rfl, .ptr 1 _ _ _ _ (nl rfl) rfl rfl⟩, ⟨_, rfl, .own 0 _ _ (nl rfl) rfl rfl (Box.like_refl _)⟩, trivial⟩ ⟨⟨nl rfl, _, _, rfl, rfl, boxTo_var ((d_a8_u32 _).plain)⟩, ⟨nl rfl, _, _, rfl, rfl, boxTo_arr (fun _ => (d_api_Kept _))⟩, trivial⟩ rfl rfl), ⟨rfl, ⟨1, rfl, rfl, ty29⟩, rfl, trivial⟩, by decide, by cases H; rfl, by cases H; exact a1, nl rfl⟩
  · refine aw_cond rfl (fun hc => ?_) (fun hc => ?_)
    · replace H := ite_t hc H
      obtain ⟨v2, h3, H⟩ := bnd H
      refine aw_region1 (r_lv rfl rfl ty143 rfl <| r_lv rfl rfl ty28 rfl <| r_fa (.ptr 2 (0 + 0) [0]) fl50_0 rfl rfl rfl rfl <| r_ld (.int .u32 p3.From) rfl rfl ⟨rfl, nl rfl, trivial⟩ rfl rfl ty22 rfl <| r_p (does_convInt 22 3 (.tmp 23) .u32 .i64 p3.From trivial rfl rfl) m10 rfl <| r_fa (.ptr 2 (0 + 34) [9]) fl50_9 rfl rfl rfl rfl <| r_ld (.int .u32 p3.Round) rfl rfl ⟨rfl, nl rfl, trivial⟩ rfl rfl ty22 rfl <| r_p (does_bin .sub 22 22 (.tmp 26) (.const (.int .u32 1)) .u32 p3.Round 1 (.int .u32 (IntKind.u32.wrap (p3.Round - 1))) trivial (fun _ => rfl) (bin_sub _ _ _ _)) m10 rfl <| r_fa (.ptr 2 (0 + 71) [11]) fl50_11 rfl rfl rfl rfl <| r_ld (e_a3_a2_api_Entry p3.Older) rfl rfl ⟨rfl, nl rfl, trivial⟩ rfl rfl ty41 rfl <| r_p (does_buildT 64 #[(0, (.tmp 24)), (1, (.tmp 27)), (2, (.tmp 29))] [(0, (.tmp 24)), (1, (.tmp 27)), (2, (.tmp 29))] [(0, (.int .i64 (IntKind.i64.wrap (p3.From)))), (1, (.int .u32 (IntKind.u32.wrap (p3.Round - 1)))), (2, (e_a3_a2_api_Entry p3.Older))] (.st [1, 1, 36]) (c_api_Kept z_api_Kept) (c_api_Kept ({ From := (IntKind.i64.wrap (p3.From)), Round := (IntKind.u32.wrap (p3.Round - 1)), Frame := p3.Older } : api_Kept)) rfl bo64 ⟨a1, a1, a1, trivial⟩ ⟨⟨nl rfl, rfl, rfl⟩, ⟨nl rfl, rfl, rfl⟩, ⟨nl rfl, rfl, rfl⟩, trivial⟩ (fe3 rfl rfl rfl (fun _ => rfl))) m30 rfl <| r_lv rfl rfl ty29 rfl <| r_p (does_callO 102 0 (fun _ => .any) (.func 102) [(.tmp 20), (.tmp 21), (.tmp 30), (.tmp 31)] [(.agg (.st [1, 8, 1]) (vupd (c_congressref10_State ({ L := p0, C := p1, Taken := [] } : congressref10_State)) 2 (.own 7))), (e_a8_u32 p2), (e_api_Kept ({ From := (IntKind.i64.wrap (p3.From)), Round := (IntKind.u32.wrap (p3.Round - 1)), Frame := p3.Older } : api_Kept)), (e_a8_u32 p4)] [] [(7, (.arr 38 ([] : _root_.List api_Kept).length fun j => (e_api_Kept (([] : _root_.List api_Kept).getD j z_api_Kept))))] false [(.agg (.st [1, 8, 1]) (vupd (c_congressref10_State ({ ({ L := p0, C := p1, Taken := [] } : congressref10_State) with Taken := ([] : _root_.List api_Kept) } : congressref10_State)) 2 (.own 0))), (e_a8_u32 p2), (e_api_Kept ({ From := (IntKind.i64.wrap (p3.From)), Round := (IntKind.u32.wrap (p3.Round - 1)), Frame := p3.Older } : api_Kept)), (e_a8_u32 p4)] _ (.agg (.st [1, 8, 1]) (vupd (c_congressref10_State v2) 2 (.own 9))) _ 9 2 _ _ rfl fo102 rfl ⟨trivial, trivial, trivial, trivial, trivial⟩ ⟨(.agg _ _ _ (fun j => match j with | 0 => .ro _ _ (.data (e_s_api_Kept (({ ({ L := p0, C := p1, Taken := [] } : congressref10_State) with Taken := ([] : _root_.List api_Kept) } : congressref10_State).L)) ((d_s_api_Kept _))) | 1 => .ro _ _ (.data (e_a8_u32 (({ ({ L := p0, C := p1, Taken := [] } : congressref10_State) with Taken := ([] : _root_.List api_Kept) } : congressref10_State).C)) ((d_a8_u32 _))) | 2 => .mv 0 _ rfl | _ + 3 => .ro _ _ (.data _ trivial))), .ro _ _ (.data _ (d_a8_u32 p2)), .ro _ _ (.data _ (d_api_Kept ({ From := (IntKind.i64.wrap (p3.From)), Round := (IntKind.u32.wrap (p3.Round - 1)), Frame := p3.Older } : api_Kept))), .ro _ _ (.data _ (d_a8_u32 p4)), trivial⟩ (congressref10_offer_spec ({ ({ L := p0, C := p1, Taken := [] } : congressref10_State) with Taken := ([] : _root_.List api_Kept) } : congressref10_State) p2 ({ From := (IntKind.i64.wrap (p3.From)), Round := (IntKind.u32.wrap (p3.Round - 1)), Frame := p3.Older } : api_Kept) p4 _ h3) rfl (by simp) rfl ⟨(fun _ => (f_api_Kept _)), trivial⟩ ⟨⟨nl rfl, _, rfl, fun _ => (f_api_Kept _)⟩, trivial⟩ (.agg _ _ _ (fun j => match j with | 0 => .data _ ((d_s_api_Kept _)) | 1 => .data _ ((d_a8_u32 _)) | 2 => .own 0 (nl rfl) | _ + 3 => .data _ trivial))) ⟨a4, a1, rfl⟩ rfl <| r_sv rfl rfl rfl rfl rfl rfl ty143 rfl <| r_e) ?_
      exact nx_join (v2, v2.Taken) H (cov_to (fun i => match i with | 1 => 1 | 2 => 2 | 3 => 3 | 5 => 5 | 8 => 8 | 7 => 9 | k => k) [] ⟨⟨_, rfl, .ptr 1 _ _ _ _ (nl rfl) rfl rfl⟩, ⟨_, rfl, .ptr 2 _ _ _ _ (nl rfl) rfl rfl⟩, ⟨_, rfl, .ptr 3 _ _ _ _ (nl rfl) rfl rfl⟩, ⟨_, rfl, .ptr 5 _ _ _ _ (nl rfl) rfl rfl⟩, ⟨_, rfl, .ptr 8 _ _ _ _ (nl rfl) rfl rfl⟩, trivial⟩ ⟨⟨nl rfl, _, _, rfl, rfl, boxTo_var ((d_a8_u32 _).plain)⟩, ⟨nl rfl, _, _, rfl, rfl, boxTo_var ((d_api_Packet _).plain)⟩, ⟨nl rfl, _, _, rfl, rfl, boxTo_var ((d_a8_u32 _).plain)⟩, ⟨nl rfl, _, _, rfl, rfl, boxTo_var ((d_a8_u32 _).plain)⟩, ⟨nl rfl, _, _, rfl, rfl, (boxTo_st (.agg _ _ _ (fun j => match j with | 0 => .plain _ ((d_s_api_Kept _).plain) | 1 => .plain _ ((d_a8_u32 _).plain) | 2 => .own 7 _ _ (nl rfl) rfl rfl (Box.like_refl _) | _ + 3 => .plain _ trivial)))⟩, ⟨nl rfl, _, _, rfl, rfl, boxTo_arr (fun _ => (d_api_Kept _))⟩, trivial⟩ rfl rfl)
    · replace H := ite_f hc H
      refine aw_skip ?_
      exact nx_join (({ L := p0, C := p1, Taken := [] } : congressref10_State), ([] : _root_.List api_Kept)) H (cov_to (fun i => match i with | 1 => 1 | 2 => 2 | 3 => 3 | 5 => 5 | 8 => 8 | 7 => 7 | k => k) [] ⟨⟨_, rfl, .ptr 1 _ _ _ _ (nl rfl) rfl rfl⟩, ⟨_, rfl, .ptr 2 _ _ _ _ (nl rfl) rfl rfl⟩, ⟨_, rfl, .ptr 3 _ _ _ _ (nl rfl) rfl rfl⟩, ⟨_, rfl, .ptr 5 _ _ _ _ (nl rfl) rfl rfl⟩, ⟨_, rfl, .ptr 8 _ _ _ _ (nl rfl) rfl rfl⟩, trivial⟩ ⟨⟨nl rfl, _, _, rfl, rfl, boxTo_var ((d_a8_u32 _).plain)⟩, ⟨nl rfl, _, _, rfl, rfl, boxTo_var ((d_api_Packet _).plain)⟩, ⟨nl rfl, _, _, rfl, rfl, boxTo_var ((d_a8_u32 _).plain)⟩, ⟨nl rfl, _, _, rfl, rfl, boxTo_var ((d_a8_u32 _).plain)⟩, ⟨nl rfl, _, _, rfl, rfl, (boxTo_st (.agg _ _ _ (fun j => match j with | 0 => .plain _ ((d_s_api_Kept _).plain) | 1 => .plain _ ((d_a8_u32 _).plain) | 2 => .own 7 _ _ (nl rfl) rfl rfl (Box.like_refl _) | _ + 3 => .plain _ trivial)))⟩, ⟨nl rfl, _, _, rfl, rfl, boxTo_arr (fun _ => (d_api_Kept _))⟩, trivial⟩ rfl rfl)
theorem congressref13_take_spec (p0 : congressref13_State) (p1 : api_Packet) (p2 : (Nat → Int)) (r : congressref13_State) (H : congressref13_take p0 p1 p2 = some r) : FSpecO Try.prog 59 [(.agg (.st [189, 1]) (vupd (c_congressref13_State p0) 1 (.own 0))), (e_api_Packet p1), (e_a8_u32 p2)] [(0, some (.arr 50 p0.Told.length fun j => (e_api_Happen (p0.Told.getD j z_api_Happen))))] 1 (.agg (.st [189, 1]) (vupd (c_congressref13_State r) 1 (.own 0))) [(0, some (.arr 50 r.Told.length fun j => (e_api_Happen (r.Told.getD j z_api_Happen))))] 2 := by
  refine specO_of (fn := Try.f59) (args := [(.agg (.st [189, 1]) (vupd (c_congressref13_State p0) 1 (.own 0))), (e_api_Packet p1), (e_a8_u32 p2)]) Try.func59 rfl (nl rfl) ?_
  rintro ⟨G, w0, W, S, Sp, gx⟩ hG
  cases hG
  unfold congressref13_take at H
  refine aw_region (r_p (does_box 89 (.tmp 0) 1 (.agg (.st [189, 1]) (vupd (c_congressref13_State p0) 1 (.own 0))) trivial rfl) m10 rfl <| r_p (does_box 50 (.tmp 1) 2 (e_api_Packet p1) trivial rfl) m10 rfl <| r_p (does_box 29 (.tmp 2) 3 (e_a8_u32 p2) trivial rfl) m10 rfl <| r_0 (does_alloc 89 4 (e_congressref13_State z_congressref13_State) zr89) rfl rfl <| r_e) ?_
  refine aw_cov (cov_prune (s1 := ⟨[(3, _), (4, _), (5, _), (6, _)], [(0, some _), (1, some _), (2, some _), (3, some _), (4, some _)], 5, []⟩) a4 a5 (Nat.le_refl _)) ?_
  obtain ⟨v1, h2, H⟩ := bnd H
  refine aw_region (r_fa (.ptr 1 (0 + 0) [0]) fl89_0 rfl rfl rfl rfl <| r_fa (.ptr 1 ((0 + 0) + 39) [0, 7]) fl35_7 rfl rfl rfl rfl <| r_ld (e_s_api_Kept p0.C.Kept) rfl rfl ⟨rfl, nl rfl, ⟨rfl, nl rfl, trivial⟩⟩ rfl rfl ty30 rfl <| r_fa (.ptr 1 (0 + 0) [0]) fl89_0 rfl rfl rfl rfl <| r_fa (.ptr 1 ((0 + 0) + 31) [0, 6]) fl35_6 rfl rfl rfl rfl <| r_ld (e_a8_u32 p0.C.Count) rfl rfl ⟨rfl, nl rfl, ⟨rfl, nl rfl, trivial⟩⟩ rfl rfl ty29 rfl <| r_fa (.ptr 1 (0 + 0) [0]) fl89_0 rfl rfl rfl rfl <| r_fa (.ptr 1 ((0 + 0) + 23) [0, 5]) fl35_5 rfl rfl rfl rfl <| r_ld (e_a8_u32 p0.C.Members) rfl rfl ⟨rfl, nl rfl, ⟨rfl, nl rfl, trivial⟩⟩ rfl rfl ty28 rfl <| r_lv rfl rfl ty50 rfl <| r_lv rfl rfl ty29 rfl <| r_p (does_callO 89 0 (fun _ => .any) (.func 89) [(.tmp 14), (.tmp 17), (.tmp 20), (.tmp 21), (.tmp 22)] [(e_s_api_Kept p0.C.Kept), (e_a8_u32 p0.C.Count), (e_a8_u32 p0.C.Members), (e_api_Packet p1), (e_a8_u32 p2)] [] [] false [(e_s_api_Kept p0.C.Kept), (e_a8_u32 p0.C.Count), (e_a8_u32 p0.C.Members), (e_api_Packet p1), (e_a8_u32 p2)] _ (resV [(e_s_api_Kept v1.1), (e_a8_u32 v1.2.1), (.own 5)]) _ 5 2 _ _ rfl fo89 rfl ⟨trivial, trivial, trivial, trivial, trivial, trivial⟩ ⟨.ro _ _ (.data _ (d_s_api_Kept p0.C.Kept)), .ro _ _ (.data _ (d_a8_u32 p0.C.Count)), .ro _ _ (.data _ (d_a8_u32 p0.C.Members)), .ro _ _ (.data _ (d_api_Packet p1)), .ro _ _ (.data _ (d_a8_u32 p2)), trivial⟩ (congressref10_Offer_spec p0.C.Kept p0.C.Count p0.C.Members p1 p2 _ h2) rfl (by simp) rfl trivial ⟨⟨nl rfl, _, rfl, fun _ => (f_api_Kept _)⟩, trivial⟩ (.tup _ _ _ (fun j => match j with | 0 => .data _ ((d_s_api_Kept v1.1)) | 1 => .data _ ((d_a8_u32 v1.2.1)) | 2 => .own 0 (nl rfl) | _ + 3 => .data _ trivial))) ⟨a5, trivial, rfl⟩ rfl <| r_mv rfl rfl <| r_ex (e_s_api_Kept v1.1) rfl (nl rfl) rfl rfl <| r_ex (e_a8_u32 v1.2.1) rfl (nl rfl) rfl rfl <| r_ex (.own 5) rfl (nl rfl) rfl rfl <| r_0 (does_alloc 29 7 (e_a8_u32 (fun _ => 0)) zr29) rfl rfl <| r_as rfl rfl <| r_sv rfl rfl rfl rfl rfl rfl ty29 rfl <| r_as rfl rfl <| r_e) ?_
  refine aw_cov (cov_prune (s1 := ⟨[(3, _), (6, _), (8, _), (7, _), (9, _)], [(0, some _), (1, some _), (4, some _), (5, some _), (7, some _)], 8, []⟩) a5 a5 (Nat.le_refl _)) ?_
  refine aw_region (r_mv rfl rfl <| r_fa (.ptr 1 (0 + 0) [0]) fl89_0 rfl rfl rfl rfl <| r_fa (.ptr 1 ((0 + 0) + 39) [0, 7]) fl35_7 rfl rfl rfl rfl <| r_st (.var (.agg (.st [189, 1]) (vupd (c_congressref13_State ({ p0 with C := { p0.C with Kept := v1.1 } })) 1 (.own 0)))) rfl rfl a1 trivial rfl ⟨rfl, nl rfl, ⟨rfl, nl rfl, trivial⟩⟩ rfl rfl (congrArg Box.var (set_cons (w := (e_api_Core (({ p0 with C := { p0.C with Kept := v1.1 } }).C))) (set_cons rfl (st_api_Core_7 _ _)) (fe2 rfl rfl (fun _ => rfl)))) ty30 rfl <| r_e) ?_
  obtain ⟨v3, hv3, H⟩ := lt_of H
  refine aw_cov (cov_prune (s1 := ⟨[(3, _), (6, _), (8, _), (9, _)], [(0, some _), (1, some (.var (.agg (.st [189, 1]) (vupd (c_congressref13_State v3) 1 (.own 0))))), (4, some _), (5, some _), (7, some _)], 8, []⟩) a4 ⟨rfl, (by subst hv3; rfl), rfl, rfl, rfl, trivial⟩ (Nat.le_refl _)) ?_
  refine aw_region (r_lv rfl rfl ty29 rfl <| r_fa (.ptr 1 (0 + 0) [0]) fl89_0 rfl rfl rfl rfl <| r_fa (.ptr 1 ((0 + 0) + 31) [0, 6]) fl35_6 rfl rfl rfl rfl <| r_st (.var (.agg (.st [189, 1]) (vupd (c_congressref13_State ({ v3 with C := { v3.C with Count := v1.2.1 } })) 1 (.own 0)))) rfl rfl a1 trivial rfl ⟨rfl, nl rfl, ⟨rfl, nl rfl, trivial⟩⟩ rfl rfl (congrArg Box.var (set_cons (w := (e_api_Core (({ v3 with C := { v3.C with Count := v1.2.1 } }).C))) (set_cons rfl (st_api_Core_6 _ _)) (fe2 rfl rfl (fun _ => rfl)))) ty29 rfl <| r_e) ?_
  obtain ⟨v4, hv4, H⟩ := lt_of H
  refine aw_cov (cov_prune (s1 := ⟨[(3, _), (6, _), (9, _)], [(0, some _), (1, some (.var (.agg (.st [189, 1]) (vupd (c_congressref13_State v4) 1 (.own 0))))), (4, some _), (5, some _)], 8, []⟩) a3 ⟨rfl, (by subst hv4; rfl), rfl, rfl, trivial⟩ (Nat.le_refl _)) ?_
  refine aw_seq ?_
  refine aw_region (r_0 (does_assign (.const (.int .i64 0)) (.int .i64 0) (fun _ => rfl)) rfl rfl <| r_e) ?_
  refine aw_cov (cov_prune (s1 := ⟨[(3, _), (6, _), (9, _), (10, _)], [(0, some _), (1, some _), (4, some _), (5, some _)], 8, []⟩) a4 a4 (Nat.le_refl _)) ?_
  obtain ⟨wn6, hwn6, Hrn6⟩ := bnd H
  refine aw_meet (fun y10 : _root_.List api_Happen => (⟨[(3, (.ptr 1 0 [])), (6, (.ptr 4 0 []))], [(1, some (.var (.agg (.st [189, 1]) (vupd (c_congressref13_State v4) 1 (.own 0))))), (0, some (.arr 50 y10.length fun j => (e_api_Happen (y10.getD j z_api_Happen)))), (4, some (.var (e_congressref13_State z_congressref13_State)))], 8, []⟩ : St)) (fun y10 => Fl.nx y10 = wn6) (fun y10 hy => ?_) (aw_block (aw_runs (fun x5 : Int × _root_.List api_Happen => (⟨[(3, (.ptr 1 0 [])), (6, (.ptr 4 0 [])), (9, (.own 5)), (10, (.int .i64 x5.1))], [(0, some (.arr 50 x5.2.length fun j => (e_api_Happen (x5.2.getD j z_api_Happen)))), (1, some (.var (.agg (.st [189, 1]) (vupd (c_congressref13_State v4) 1 (.own 0))))), (4, some (.var (e_congressref13_State z_congressref13_State))), (5, some (.arr 38 v1.2.2.length fun j => (e_api_Kept (v1.2.2.getD j z_api_Kept))))], 8, []⟩ : St)) hwn6 (cov_prune a4 a4 (nl rfl)) (fun x5 st H hsn6 => ?_)))
  · have H := nx_of hy Hrn6
    refine nx_seq ?_
    refine aw_region (r_lv rfl rfl ty89 rfl <| r_sv rfl rfl rfl rfl rfl rfl ty89 rfl <| r_e) ?_
    refine aw_cov (cov_prune (s1 := ⟨[(6, _)], [(0, some _), (4, some _)], 8, []⟩) a1 a2 (Nat.le_refl _)) ?_
    refine aw_ret ?_
    exact fun a w hr => ⟨_, [(.agg (.st [189, 1]) (vupd (c_congressref13_State ({ v4 with Told := y10 } : congressref13_State)) 1 (.own 0)))], reach_of hr (cov_to (s1 := ⟨[(6, (.ptr 1 0 []))], [(0, some (.arr 50 y10.length fun j => (e_api_Happen (y10.getD j z_api_Happen)))), (1, some (.var (.agg (.st [189, 1]) (vupd (c_congressref13_State ({ v4 with Told := y10 } : congressref13_State)) 1 (.own 0)))))], 2, []⟩) (fun i => match i with | 0 => 0 | 1 => 4 | k => k) [] ⟨⟨_, rfl, .ptr 1 _ _ _ _ (nl rfl) rfl rfl⟩, trivial⟩ ⟨⟨nl rfl, _, _, rfl, rfl, boxTo_arr (fun _ => (d_api_Happen _))⟩, ⟨nl rfl, _, _, rfl, rfl, (boxTo_st (.agg _ _ _ (fun j => match j with | 0 => .plain _ ((d_api_Core _).plain) | 1 => .own 0 _ _ (nl rfl) rfl rfl (Box.like_refl _) | _ + 2 => .plain _ trivial)))⟩, trivial⟩ rfl rfl), ⟨⟨1, rfl, rfl, ty89⟩, trivial⟩, by decide, by cases H; rfl, by cases H; exact ⟨rfl, trivial⟩, nl rfl⟩
  · refine aw_seq ?_
    refine aw_region (r_mv rfl rfl <| r_mv rfl rfl <| r_p (does_leno 30 38 v1.2.2.length 34 5 (fun j => (e_api_Kept (v1.2.2.getD j z_api_Kept))) el30) m11 rfl <| r_p (does_bin .lss 3 3 (.tmp 33) (.tmp 35) .i64 x5.1 (v1.2.2.length : Int) (.bool (decide (x5.1 < (v1.2.2.length : Int)))) trivial trivial (bin_lss _ _ _ _)) m20 rfl <| r_e) ?_
    refine aw_cov (cov_prune (s1 := ⟨[(3, _), (6, _), (9, _), (10, _), (36, _)], [(0, some _), (1, some _), (4, some _), (5, some _)], 8, []⟩) a5 a4 (Nat.le_refl _)) ?_
    refine aw_cond rfl (fun hc => ?_) (fun hc => ?_)
    · replace H := ite_t hc H
      refine aw_skip ?_
      refine nx_seq ?_
      refine aw_seq ?_
      refine aw_block ?_
      obtain ⟨h7, H⟩ := ib_of H
      obtain ⟨h8, H⟩ := fit_of H
      refine aw_draw1 (mixed) (r_fa (.ptr 1 (0 + 189) [1]) fl89_1 rfl rfl rfl rfl <| r_ld (.own 0) rfl rfl ⟨rfl, nl rfl, trivial⟩ rfl rfl ty44 rfl <| r_mv rfl rfl <| r_mv rfl rfl <| r_p (does_indexAddro 30 38 v1.2.2.length 41 5 (fun j => (e_api_Kept (v1.2.2.getD j z_api_Kept))) (.tmp 42) .i64 x5.1 el30 trivial h7.1 h7.2) m21 rfl <| r_ld (e_api_Kept (v1.2.2.getD x5.1.toNat z_api_Kept)) rfl rfl ⟨(ixl h7), trivial⟩ rfl rfl ty64 rfl <| r_p (does_buildT 66 #[(1, (.tmp 44))] [(1, (.tmp 44))] [(1, (e_api_Kept (v1.2.2.getD x5.1.toNat z_api_Kept)))] (.st [1, 38, 3, 8]) (c_api_Happen z_api_Happen) (c_api_Happen ({ View := false, Kept := v1.2.2.getD x5.1.toNat z_api_Kept, Conf := z_api_Id, Members := (fun _ => 0) } : api_Happen)) rfl bo66 ⟨a1, trivial⟩ ⟨⟨nl rfl, rfl, rfl⟩, trivial⟩ (fe4 rfl rfl rfl rfl (fun _ => rfl))) m10 rfl <| r_p (does_buildSl 44 1 50 (e_api_Happen z_api_Happen) (fun j => (e_api_Happen (([({ View := false, Kept := v1.2.2.getD x5.1.toNat z_api_Kept, Conf := z_api_Id, Members := (fun _ => 0) } : api_Happen)] : _root_.List api_Happen).getD j z_api_Happen))) #[(0, (.tmp 45))] [(0, (.tmp 45))] [(0, (e_api_Happen ({ View := false, Kept := v1.2.2.getD x5.1.toNat z_api_Kept, Conf := z_api_Id, Members := (fun _ => 0) } : api_Happen)))] rfl so44 (by decide) ⟨a1, trivial⟩ ⟨⟨nl rfl, rfl, rfl⟩, trivial⟩ (fun j h => match j, h with | 0, _ => rfl | k + 1, h => (nlt h).elim)) m10 rfl <| r_p (does_appendL e_api_Happen z_api_Happen x5.2 ([({ View := false, Kept := v1.2.2.getD x5.1.toNat z_api_Kept, Conf := z_api_Id, Members := (fun _ => 0) } : api_Happen)] : _root_.List api_Happen) 44 50 408 0 8 40 46 ap44 h8) m21 rfl <| r_fa (.ptr 1 (0 + 189) [1]) fl89_1 rfl rfl rfl rfl <| r_p (does_storeO 44 48 (.tmp 47) 1 (0 + 189) [1] (.var (.agg (.st [189, 1]) (vupd (c_congressref13_State v4) 1 (.own 0)))) (.var (.agg (.st [189, 1]) (vupd (c_congressref13_State v4) 1 (.own 8)))) 8 50 (x5.2 ++ ([({ View := false, Kept := v1.2.2.getD x5.1.toNat z_api_Kept, Conf := z_api_Id, Members := (fun _ => 0) } : api_Happen)] : _root_.List api_Happen)).length (fun j => (e_api_Happen ((x5.2 ++ ([({ View := false, Kept := v1.2.2.getD x5.1.toNat z_api_Kept, Conf := z_api_Id, Members := (fun _ => 0) } : api_Happen)] : _root_.List api_Happen)).getD j z_api_Happen))) (.own 8) rfl false trivial ⟨rfl, nl rfl, trivial⟩ rfl rfl (congrArg Box.var (set_cons (w := (.own 8)) rfl (fe2 rfl rfl (fun _ => rfl)))) ty44) ⟨a2, a2, rfl⟩ rfl <| r_e) rfl ?_
      refine nx_blk ?_
      refine nx_seq ?_
      obtain ⟨v9, hv9, H⟩ := lt_of H
      refine aw_cov (cov_prune (s1 := ⟨[(3, _), (6, _), (9, _), (10, _)], [(1, some _), (4, some _), (5, some _), (8, some (.arr 50 v9.length fun j => (e_api_Happen (v9.getD j z_api_Happen))))], 9, []⟩) a4 ⟨rfl, rfl, rfl, (by subst hv9; rfl), trivial⟩ (Nat.le_refl _)) ?_
      refine aw_region1 (r_mv rfl rfl <| r_p (does_bin .add 3 3 (.tmp 37) (.const (.int .i64 1)) .i64 x5.1 1 (.int .i64 (IntKind.i64.wrap (x5.1 + 1))) trivial (fun _ => rfl) (bin_add _ _ _ _)) m10 rfl <| r_as rfl rfl <| r_e) ?_
      exact nx_loop ((IntKind.i64.wrap (x5.1 + 1)), v9) H (cov_to (fun i => match i with | 0 => 8 | 1 => 1 | 4 => 4 | 5 => 5 | k => k) [] ⟨⟨_, rfl, .ptr 1 _ _ _ _ (nl rfl) rfl rfl⟩, ⟨_, rfl, .ptr 4 _ _ _ _ (nl rfl) rfl rfl⟩, ⟨_, rfl, .own 5 _ _ (nl rfl) rfl rfl (Box.like_refl _)⟩, ⟨_, rfl, .plain _ (trivial)⟩, trivial⟩ ⟨⟨nl rfl, _, _, rfl, rfl, boxTo_arr (fun _ => (d_api_Happen _))⟩, ⟨nl rfl, _, _, rfl, rfl, (boxTo_st (.agg _ _ _ (fun j => match j with | 0 => .plain _ ((d_api_Core _).plain) | 1 => .own 0 _ _ (nl rfl) rfl rfl (Box.like_refl _) | _ + 2 => .plain _ trivial)))⟩, ⟨nl rfl, _, _, rfl, rfl, boxTo_var ((d_congressref13_State _).plain)⟩, ⟨nl rfl, _, _, rfl, rfl, boxTo_arr (fun _ => (d_api_Kept _))⟩, trivial⟩ rfl rfl)
    · replace H := ite_f hc H
      refine aw_exit ?_
      refine ex_then ?_
      refine ex_then ?_
      refine ex_here ?_
      exact nx_ljoin (x5.2) H hsn6 (cov_prune a2 a3 (nl rfl))
end Go.Proofs.Ytcocahffigbmbaa
end

section
set_option linter.unusedVariables false
set_option maxRecDepth 100000
namespace Go.Proofs.Ytcocahffigbmbaa
open Go.Eng
set_option maxHeartbeats 1600000
theorem congressref13_Receive_spec (p0 : api_Core) (p1 : api_Packet) (r : api_Core × Bool × (_root_.List api_Happen)) (H : congressref13_Receive p0 p1 = some r) : FSpecO Try.prog 19 [(e_api_Core p0), (e_api_Packet p1)] [] 0 (resV [(e_api_Core r.1), (.bool r.2.1), (.own 0)]) [(0, some (.arr 50 r.2.2.length fun j => (e_api_Happen (r.2.2.getD j z_api_Happen))))] 2 := by
  refine specO_of (fn := Try.f19) (args := [(e_api_Core p0), (e_api_Packet p1)]) Try.func19 rfl (nl rfl) ?_
  rintro ⟨G, w0, W, S, Sp, gx⟩ hG
  cases hG
  unfold congressref13_Receive at H
  refine aw_region (r_p (does_box 35 (.tmp 0) 0 (e_api_Core p0) trivial rfl) m10 rfl <| r_p (does_box 50 (.tmp 1) 1 (e_api_Packet p1) trivial rfl) m10 rfl <| r_0 (does_alloc 35 2 (e_api_Core z_api_Core) zr35) rfl rfl <| r_0 (does_assign (.const (.bool false)) (.bool false) (fun _ => rfl)) rfl rfl <| r_0 (does_nil false 3 50 (fun j => (e_api_Happen (([] : _root_.List api_Happen).getD j z_api_Happen)))) rfl rfl <| r_e) ?_
  refine aw_cov (cov_prune (s1 := ⟨[(2, _), (3, _), (4, _)], [(0, some _), (1, some _), (2, some _)], 4, []⟩) a3 a3 (Nat.le_refl _)) ?_
  refine aw_seq ?_
  obtain ⟨v1, h2, H⟩ := bnd H
  refine aw_region (r_lv rfl rfl ty35 rfl <| r_ca [_] [_] (nob := []) (flat := true) (congressref13_Fits_spec p0 _ h2) rfl rfl m10 fo10 ⟨trivial, trivial⟩ ⟨.data _ (d_api_Core _), trivial⟩ trivial rfl <| r_p (does_not 4 (.tmp 13) v1 trivial) m10 rfl <| r_mv rfl rfl <| r_gfa (.ptr 1 (0 + 0) [0]) fl50_0 rfl rfl rfl rfl rfl (fun _ => .same _) rfl rfl rfl <| r_gld (.int .u32 p1.From) rfl rfl rfl rfl rfl (fun hc => .opt _ _ hc) rfl (fun hc => ⟨rfl, nl rfl, trivial⟩) rfl rfl ty22 rfl <| r_g [(17, _)] [(17, _)] [] rfl rfl m20 rfl (fun hc => ⟨(.opt _ _ hc), trivial⟩) (fun hc => does_bin .gtr 22 22 (.tmp 17) (.const (.int .u32 7)) .u32 p1.From 7 (.bool (decide (p1.From > 7))) trivial (fun _ => rfl) (bin_gtr _ _ _ _)) rfl <| r_p (does_or 15 18 (!v1) (decide (p1.From > 7))) m20 rfl <| r_mv rfl rfl <| r_gfa (.ptr 1 (0 + 0) [0]) fl50_0 rfl rfl rfl rfl rfl (fun _ => .same _) rfl rfl rfl <| r_gld (.int .u32 p1.From) rfl rfl rfl rfl rfl (fun hc => .opt _ _ hc) rfl (fun hc => ⟨rfl, nl rfl, trivial⟩) rfl rfl ty22 rfl <| r_g [(22, _)] [(22, _)] [] rfl rfl m20 rfl (fun hc => ⟨(.opt _ _ hc), trivial⟩) (fun hc => does_convInt 22 3 (.tmp 22) .u32 .i64 p1.From trivial rfl rfl) rfl <| r_gfa (.ptr 0 (0 + 0) [0]) fl35_0 rfl rfl rfl rfl rfl (fun _ => .same _) rfl rfl rfl <| r_gld (.int .i64 p0.Self) rfl rfl rfl rfl rfl (fun hc => .opt _ _ hc) rfl (fun hc => ⟨rfl, nl rfl, trivial⟩) rfl rfl ty3 rfl <| r_g [(23, _), (25, _)] [(23, _), (25, _)] [] rfl rfl m30 rfl (fun hc => ⟨(.opt _ _ hc), (.opt _ _ hc), trivial⟩) (fun hc => does_bin .eql 3 3 (.tmp 23) (.tmp 25) .i64 (IntKind.i64.wrap (p1.From)) p0.Self (.bool ((IntKind.i64.wrap (p1.From)) == p0.Self)) trivial trivial (bin_eql _ _ _ _)) rfl <| r_p (does_or 20 26 ((!v1) || (decide (p1.From > 7))) ((IntKind.i64.wrap (p1.From)) == p0.Self)) m20 rfl <| r_e) ?_
  obtain ⟨v3, hv3, H⟩ := lt_of H
  refine aw_cov (cov_prune (s1 := ⟨[(2, _), (3, _), (4, _), (27, (.bool v3))], [(0, some _), (1, some _), (2, some _)], 4, []⟩) ⟨rfl, rfl, rfl, (by subst hv3; rfl), trivial⟩ a3 (Nat.le_refl _)) ?_
  refine aw_cond rfl (fun hc => ?_) (fun hc => ?_)
  · replace H := ite_t hc H
    refine aw_region (r_lv rfl rfl ty35 rfl <| r_sv rfl rfl rfl rfl rfl rfl ty35 rfl <| r_0 (does_assign (.const (.bool false)) (.bool false) (fun _ => rfl)) rfl rfl <| r_0 (does_nil false 4 50 (fun j => (e_api_Happen (([] : _root_.List api_Happen).getD j z_api_Happen)))) rfl rfl <| r_e) ?_
    refine aw_cov (cov_prune (s1 := ⟨[(4, _), (5, _), (6, _)], [(2, some _), (4, some _)], 5, []⟩) a3 a2 (Nat.le_refl _)) ?_
    refine aw_ret ?_
    refine rt_then ?_
    exact fun a w hr => ⟨_, [(e_api_Core p0), (.bool false), (.own 0)], reach_of hr (cov_to (s1 := ⟨[(4, (.ptr 1 0 [])), (5, (.bool false)), (6, (.own 0))], [(1, some (.var (e_api_Core p0))), (0, some (.arr 50 ([] : _root_.List api_Happen).length fun j => (e_api_Happen (([] : _root_.List api_Happen).getD j z_api_Happen))))], 2, []⟩) (fun i => match i with | 1 => 2 | 0 => 4 | k => k) [] ⟨⟨_, rfl, .ptr 1 _ _ _ _ (nl rfl) rfl rfl⟩, ⟨_, rfl, .plain _ (trivial)⟩, ⟨_, rfl, .own 0 _ _ (nl rfl) rfl rfl (Box.like_refl _)⟩, trivial⟩ ⟨⟨nl rfl, _, _, rfl, rfl, boxTo_var ((d_api_Core _).plain)⟩, ⟨nl rfl, _, _, rfl, rfl, boxTo_arr (fun _ => (d_api_Happen _))⟩, trivial⟩ rfl rfl), ⟨⟨1, rfl, rfl, ty35⟩, rfl, rfl, trivial⟩, by decide, by cases H; rfl, by cases H; exact a1, nl rfl⟩
  · replace H := ite_f hc H
    refine aw_skip ?_
    refine nx_seq ?_
    obtain ⟨v4, h5, H⟩ := bnd H
    refine aw_region (r_fa (.ptr 0 (0 + 3) [3]) fl35_3 rfl rfl rfl rfl <| r_ld (e_api_Beat p0.Beat) rfl rfl ⟨rfl, nl rfl, trivial⟩ rfl rfl ty25 rfl <| r_fa (.ptr 1 (0 + 0) [0]) fl50_0 rfl rfl rfl rfl <| r_ld (.int .u32 p1.From) rfl rfl ⟨rfl, nl rfl, trivial⟩ rfl rfl ty22 rfl <| r_p (does_convInt 22 3 (.tmp 33) .u32 .i64 p1.From trivial rfl rfl) m10 rfl <| r_fa (.ptr 1 (0 + 1) [1]) fl50_1 rfl rfl rfl rfl <| r_ld (.int .u32 p1.Inc) rfl rfl ⟨rfl, nl rfl, trivial⟩ rfl rfl ty22 rfl <| r_ca [_, _, _] [_, _, _] (nob := []) (flat := true) (congressref08_Hear_spec _ _ _ _ h5) rfl rfl m30 fo56 ⟨trivial, trivial, trivial, trivial⟩ ⟨.data _ (d_api_Beat _), .data _ trivial, .data _ trivial, trivial⟩ (res_flat2 (f_api_Beat v4.1) trivial) rfl <| r_mv rfl rfl <| r_ex (e_api_Beat v4.1) rfl (nl rfl) rfl rfl <| r_ex (.bool v4.2) rfl (nl rfl) rfl rfl <| r_0 (does_alloc 25 4 (e_api_Beat z_api_Beat) zr25) rfl rfl <| r_sv rfl rfl rfl rfl rfl rfl ty25 rfl <| r_as rfl rfl <| r_e) ?_
    refine aw_cov (cov_prune (s1 := ⟨[(2, _), (3, _), (4, _), (7, _), (8, _)], [(0, some _), (1, some _), (2, some _), (4, some _)], 5, []⟩) a5 a4 (Nat.le_refl _)) ?_
    refine aw_seq ?_
    refine aw_region (r_mv rfl rfl <| r_p (does_not 4 (.tmp 40) v4.2 trivial) m10 rfl <| r_e) ?_
    refine aw_cov (cov_prune (s1 := ⟨[(2, _), (3, _), (4, _), (7, _), (41, _)], [(0, some _), (1, some _), (2, some _), (4, some _)], 5, []⟩) a5 a4 (Nat.le_refl _)) ?_
    refine aw_cond rfl (fun hc => ?_) (fun hc => ?_)
    · replace H := ite_t hc H
      refine aw_region (r_lv rfl rfl ty35 rfl <| r_sv rfl rfl rfl rfl rfl rfl ty35 rfl <| r_0 (does_assign (.const (.bool false)) (.bool false) (fun _ => rfl)) rfl rfl <| r_0 (does_nil false 5 50 (fun j => (e_api_Happen (([] : _root_.List api_Happen).getD j z_api_Happen)))) rfl rfl <| r_e) ?_
      refine aw_cov (cov_prune (s1 := ⟨[(4, _), (5, _), (6, _)], [(2, some _), (5, some _)], 6, []⟩) a3 a2 (Nat.le_refl _)) ?_
      refine aw_ret ?_
      refine rt_then ?_
      exact fun a w hr => ⟨_, [(e_api_Core p0), (.bool false), (.own 0)], reach_of hr (cov_to (s1 := ⟨[(4, (.ptr 1 0 [])), (5, (.bool false)), (6, (.own 0))], [(1, some (.var (e_api_Core p0))), (0, some (.arr 50 ([] : _root_.List api_Happen).length fun j => (e_api_Happen (([] : _root_.List api_Happen).getD j z_api_Happen))))], 2, []⟩) (fun i => match i with | 1 => 2 | 0 => 5 | k => k) [] ⟨⟨_, rfl, .ptr 1 _ _ _ _ (nl rfl) rfl rfl⟩, ⟨_, rfl, .plain _ (trivial)⟩, ⟨_, rfl, .own 0 _ _ (nl rfl) rfl rfl (Box.like_refl _)⟩, trivial⟩ ⟨⟨nl rfl, _, _, rfl, rfl, boxTo_var ((d_api_Core _).plain)⟩, ⟨nl rfl, _, _, rfl, rfl, boxTo_arr (fun _ => (d_api_Happen _))⟩, trivial⟩ rfl rfl), ⟨⟨1, rfl, rfl, ty35⟩, rfl, rfl, trivial⟩, by decide, by cases H; rfl, by cases H; exact a1, nl rfl⟩
    · replace H := ite_f hc H
      refine aw_skip ?_
      refine nx_seq ?_
      refine aw_region (r_lv rfl rfl ty35 rfl <| r_p (does_buildN 89 #[(0, (.tmp 43))] [(0, (.tmp 43))] [(0, (e_api_Core p0))] (.st [189, 1]) (c_congressref13_State z_congressref13_State) (vupd (c_congressref13_State ({ C := p0, Told := [] } : congressref13_State)) 1 (.own 5)) (fun j => (e_api_Happen (([] : _root_.List api_Happen).getD j z_api_Happen))) (fun j => (e_api_Happen (([] : _root_.List api_Happen).getD j z_api_Happen))) 1 50 5 rfl bo89 ⟨a1, trivial⟩ ⟨⟨nl rfl, rfl, rfl⟩, trivial⟩ (nl rfl) rfl (fe2 rfl rfl (fun _ => rfl))) m10 rfl <| r_0 (does_alloc 89 6 (e_congressref13_State z_congressref13_State) zr89) rfl rfl <| r_sv rfl rfl rfl rfl rfl rfl ty89 rfl <| r_e) ?_
      refine aw_cov (cov_prune (s1 := ⟨[(2, _), (3, _), (4, _), (7, _), (9, _)], [(0, some _), (1, some _), (2, some _), (4, some _), (5, some _), (6, some _)], 7, []⟩) a5 a6 (Nat.le_refl _)) ?_
      refine aw_region (r_lv rfl rfl ty25 rfl <| r_fa (.ptr 6 (0 + 0) [0]) fl89_0 rfl rfl rfl rfl <| r_fa (.ptr 6 ((0 + 0) + 3) [0, 3]) fl35_3 rfl rfl rfl rfl <| r_st (.var (.agg (.st [189, 1]) (vupd (c_congressref13_State ({ ({ C := p0, Told := [] } : congressref13_State) with C := { ({ C := p0, Told := [] } : congressref13_State).C with Beat := v4.1 } })) 1 (.own 5)))) rfl rfl a1 trivial rfl ⟨rfl, nl rfl, ⟨rfl, nl rfl, trivial⟩⟩ rfl rfl (congrArg Box.var (set_cons (w := (e_api_Core (({ ({ C := p0, Told := [] } : congressref13_State) with C := { ({ C := p0, Told := [] } : congressref13_State).C with Beat := v4.1 } }).C))) (set_cons rfl (st_api_Core_3 _ _)) (fe2 rfl rfl (fun _ => rfl)))) ty25 rfl <| r_e) ?_
      obtain ⟨v6, hv6, H⟩ := lt_of H
      refine aw_cov (cov_prune (s1 := ⟨[(2, _), (3, _), (4, _), (9, _)], [(0, some _), (1, some _), (2, some _), (5, some _), (6, some (.var (.agg (.st [189, 1]) (vupd (c_congressref13_State v6) 1 (.own 5)))))], 7, []⟩) a4 ⟨rfl, rfl, rfl, rfl, (by subst hv6; rfl), trivial⟩ (Nat.le_refl _)) ?_
      obtain ⟨h7, H⟩ := ib_of H
      obtain ⟨v8, h9, H⟩ := bnd H
      obtain ⟨h10, H⟩ := ib_of H
      refine aw_draw (mixed) (r_fa (.ptr 1 (0 + 0) [0]) fl50_0 rfl rfl rfl rfl <| r_ld (.int .u32 p1.From) rfl rfl ⟨rfl, nl rfl, trivial⟩ rfl rfl ty22 rfl <| r_fa (.ptr 1 (0 + 0) [0]) fl50_0 rfl rfl rfl rfl <| r_ld (.int .u32 p1.From) rfl rfl ⟨rfl, nl rfl, trivial⟩ rfl rfl ty22 rfl <| r_fa (.ptr 0 (0 + 60) [12]) fl35_12 rfl rfl rfl rfl <| r_p (does_indexAddr 33 8 16 52 0 (0 + 60) [12] (.var (e_api_Core p0)) (.tmp 51) .u32 p1.From el33 trivial h7.1 h7.2) m21 rfl <| r_ld (e_api_Peer (p0.Peers p1.From.toNat)) rfl rfl ⟨rfl, nl rfl, ⟨rfl, (ixl h7), trivial⟩⟩ rfl rfl ty32 rfl <| r_lv rfl rfl ty50 rfl <| r_ca [_, _] [_, _] (nob := []) (flat := true) (congressref12_Update_spec _ p1 _ h9) rfl rfl m20 fo57 ⟨trivial, trivial, trivial⟩ ⟨.data _ (d_api_Peer _), .data _ (d_api_Packet _), trivial⟩ (f_api_Peer v8) rfl <| r_fa (.ptr 6 (0 + 0) [0]) fl89_0 rfl rfl rfl rfl <| r_fa (.ptr 6 ((0 + 0) + 60) [0, 12]) fl35_12 rfl rfl rfl rfl <| r_p (does_indexAddr 33 8 16 58 6 ((0 + 0) + 60) [0, 12] (.var (.agg (.st [189, 1]) (vupd (c_congressref13_State v6) 1 (.own 5)))) (.tmp 49) .u32 p1.From el33 trivial h10.1 h10.2) m21 rfl <| r_st (.var (.agg (.st [189, 1]) (vupd (c_congressref13_State ({ v6 with C := { v6.C with Peers := aupd v6.C.Peers p1.From.toNat v8 } })) 1 (.own 5)))) rfl rfl a1 trivial rfl ⟨rfl, nl rfl, ⟨rfl, nl rfl, ⟨rfl, (ixl h10), trivial⟩⟩⟩ rfl rfl (congrArg Box.var (set_cons (w := (e_api_Core (({ v6 with C := { v6.C with Peers := aupd v6.C.Peers p1.From.toNat v8 } }).C))) (set_cons (set_cons rfl (vupd_map e_api_Peer _ _ _)) (st_api_Core_12 _ _)) (fe2 rfl rfl (fun _ => rfl)))) ty32 rfl <| r_e) rfl ?_
      obtain ⟨v11, hv11, H⟩ := lt_of H
      refine aw_cov (cov_prune (s1 := ⟨[(2, _), (3, _), (4, _), (9, _)], [(0, some _), (1, some _), (2, some _), (5, some _), (6, some (.var (.agg (.st [189, 1]) (vupd (c_congressref13_State v11) 1 (.own 5)))))], 7, []⟩) a4 ⟨rfl, rfl, rfl, rfl, (by subst hv11; rfl), trivial⟩ (Nat.le_refl _)) ?_
      refine aw_region (r_fa (.ptr 0 (0 + 188) [13]) fl35_13 rfl rfl rfl rfl <| r_ld (.int .u32 p0.Epoch) rfl rfl ⟨rfl, nl rfl, trivial⟩ rfl rfl ty22 rfl <| r_fa (.ptr 1 (0 + 33) [8]) fl50_8 rfl rfl rfl rfl <| r_ld (.int .u32 p1.Epoch) rfl rfl ⟨rfl, nl rfl, trivial⟩ rfl rfl ty22 rfl <| r_fa (.ptr 1 (0 + 21) [5]) fl50_5 rfl rfl rfl rfl <| r_fa (.ptr 1 ((0 + 21) + 0) [5, 0]) fl27_0 rfl rfl rfl rfl <| r_ld (.int .u32 p1.Promise.Epoch) rfl rfl ⟨rfl, nl rfl, ⟨rfl, nl rfl, trivial⟩⟩ rfl rfl ty22 rfl <| r_p (does_max _ _ (.tmp 63) (.tmp 66) rfl .u32 p1.Epoch p1.Promise.Epoch trivial trivial) m20 rfl <| r_p (does_max _ _ (.tmp 61) (.tmp 67) rfl .u32 p0.Epoch (if p1.Epoch < p1.Promise.Epoch then p1.Promise.Epoch else p1.Epoch) trivial trivial) m20 rfl <| r_fa (.ptr 6 (0 + 0) [0]) fl89_0 rfl rfl rfl rfl <| r_fa (.ptr 6 ((0 + 0) + 188) [0, 13]) fl35_13 rfl rfl rfl rfl <| r_st (.var (.agg (.st [189, 1]) (vupd (c_congressref13_State ({ v11 with C := { v11.C with Epoch := (if p0.Epoch < (if p1.Epoch < p1.Promise.Epoch then p1.Promise.Epoch else p1.Epoch) then (if p1.Epoch < p1.Promise.Epoch then p1.Promise.Epoch else p1.Epoch) else p0.Epoch) } })) 1 (.own 5)))) rfl rfl a1 trivial rfl ⟨rfl, nl rfl, ⟨rfl, nl rfl, trivial⟩⟩ rfl rfl (congrArg Box.var (set_cons (w := (e_api_Core (({ v11 with C := { v11.C with Epoch := (if p0.Epoch < (if p1.Epoch < p1.Promise.Epoch then p1.Promise.Epoch else p1.Epoch) then (if p1.Epoch < p1.Promise.Epoch then p1.Promise.Epoch else p1.Epoch) else p0.Epoch) } }).C))) (set_cons rfl (st_api_Core_13 _ _)) (fe2 rfl rfl (fun _ => rfl)))) ty22 rfl <| r_e) ?_
      obtain ⟨v12, hv12, H⟩ := lt_of H
      refine aw_cov (cov_prune (s1 := ⟨[(2, _), (3, _), (4, _), (9, _)], [(0, some _), (1, some _), (2, some _), (5, some _), (6, some (.var (.agg (.st [189, 1]) (vupd (c_congressref13_State v12) 1 (.own 5)))))], 7, []⟩) a4 ⟨rfl, rfl, rfl, rfl, (by subst hv12; rfl), trivial⟩ (Nat.le_refl _)) ?_
      refine aw_seq ?_
      obtain ⟨v13, h14, H⟩ := bnd H
      refine aw_region (r_fa (.ptr 0 (0 + 40) [8]) fl35_8 rfl rfl rfl rfl <| r_ld (e_api_Id p0.Promise) rfl rfl ⟨rfl, nl rfl, trivial⟩ rfl rfl ty27 rfl <| r_fa (.ptr 0 (0 + 0) [0]) fl35_0 rfl rfl rfl rfl <| r_ld (.int .i64 p0.Self) rfl rfl ⟨rfl, nl rfl, trivial⟩ rfl rfl ty3 rfl <| r_fa (.ptr 0 (0 + 2) [2]) fl35_2 rfl rfl rfl rfl <| r_ld (.int .u32 p0.Own) rfl rfl ⟨rfl, nl rfl, trivial⟩ rfl rfl ty22 rfl <| r_lv rfl rfl ty50 rfl <| r_ca [_, _, _, _] [_, _, _, _] (nob := []) (flat := true) (congressref12_Adopt_spec _ _ _ p1 _ h14) rfl rfl ⟨a4, trivial, rfl⟩ fo58 ⟨trivial, trivial, trivial, trivial, trivial⟩ ⟨.data _ (d_api_Id _), .data _ trivial, .data _ trivial, .data _ (d_api_Packet _), trivial⟩ trivial rfl <| r_e) ?_
      refine aw_cov (cov_prune (s1 := ⟨[(2, _), (3, _), (4, _), (9, _), (78, _)], [(0, some _), (1, some _), (2, some _), (5, some _), (6, some _)], 7, []⟩) a5 a5 (Nat.le_refl _)) ?_
      refine aw_jn (fun x18 : congressref13_State × _root_.List api_Happen => (⟨[(2, (.ptr 0 0 [])), (3, (.ptr 1 0 [])), (4, (.ptr 2 0 [])), (9, (.ptr 6 0 []))], [(0, some (.var (e_api_Core p0))), (1, some (.var (e_api_Packet p1))), (2, some (.var (e_api_Core z_api_Core))), (6, some (.var (.agg (.st [189, 1]) (vupd (c_congressref13_State x18.1) 1 (.own 5))))), (5, some (.arr 50 x18.2.length fun j => (e_api_Happen (x18.2.getD j z_api_Happen))))], 9, []⟩ : St)) H (fun x18 H => ?_) (fun j15 H => ?_)
      · refine nx_seq ?_
        refine aw_seq ?_
        refine aw_region (r_fa (.ptr 1 (0 + 2) [2]) fl50_2 rfl rfl rfl rfl <| r_ld (e_api_Id p1.Conf) rfl rfl ⟨rfl, nl rfl, trivial⟩ rfl rfl ty27 rfl <| r_fa (.ptr 6 (0 + 0) [0]) fl89_0 rfl rfl rfl rfl <| r_fa (.ptr 6 ((0 + 0) + 20) [0, 4]) fl35_4 rfl rfl rfl rfl <| r_ld (e_api_Id x18.1.C.Conf) rfl rfl ⟨rfl, nl rfl, ⟨rfl, nl rfl, trivial⟩⟩ rfl rfl ty27 rfl <| r_eq false rfl rfl rfl rfl eg27 sh27 (al_api_Id _ _) (al_api_Id _ _) (q_api_Id _ _) rfl <| r_e) ?_
        refine aw_cov (cov_prune (s1 := ⟨[(2, _), (3, _), (4, _), (9, _), (90, _)], [(0, some _), (1, some _), (2, some _), (6, some _), (5, some _)], 9, []⟩) a5 a5 (Nat.le_refl _)) ?_
        refine aw_jn (fun x33 : congressref13_State × _root_.List api_Happen => (⟨[(4, (.ptr 2 0 [])), (9, (.ptr 6 0 []))], [(2, some (.var (e_api_Core z_api_Core))), (6, some (.var (.agg (.st [189, 1]) (vupd (c_congressref13_State x33.1) 1 (.own 5))))), (5, some (.arr 50 x33.2.length fun j => (e_api_Happen (x33.2.getD j z_api_Happen))))], 12, []⟩ : St)) H (fun x33 H => ?_) (fun j19 H => ?_)
        · refine nx_seq ?_
          obtain ⟨v34, h35, H⟩ := bnd H
          refine aw_region (r_lv rfl rfl ty89 rfl <| r_p (does_callO 42 0 (fun _ => .any) (.func 42) [(.tmp 130)] [(.agg (.st [189, 1]) (vupd (c_congressref13_State x33.1) 1 (.own 5)))] [] [(5, (.arr 50 x33.2.length fun j => (e_api_Happen (x33.2.getD j z_api_Happen))))] false [(.agg (.st [189, 1]) (vupd (c_congressref13_State ({ x33.1 with Told := x33.2 } : congressref13_State)) 1 (.own 0)))] _ (.agg (.st [189, 1]) (vupd (c_congressref13_State v34) 1 (.own 12))) _ 12 2 _ _ rfl fo42 rfl ⟨trivial, trivial⟩ ⟨(.agg _ _ _ (fun j => match j with | 0 => .ro _ _ (.data (e_api_Core (({ x33.1 with Told := x33.2 } : congressref13_State).C)) ((d_api_Core _))) | 1 => .mv 0 _ rfl | _ + 2 => .ro _ _ (.data _ trivial))), trivial⟩ (congressref13_goOn_spec ({ x33.1 with Told := x33.2 } : congressref13_State) _ h35) rfl (by simp) rfl ⟨(fun _ => (f_api_Happen _)), trivial⟩ ⟨⟨nl rfl, _, rfl, fun _ => (f_api_Happen _)⟩, trivial⟩ (.agg _ _ _ (fun j => match j with | 0 => .data _ ((d_api_Core _)) | 1 => .own 0 (nl rfl) | _ + 2 => .data _ trivial))) m11 rfl <| r_sv rfl rfl rfl rfl rfl rfl ty89 rfl <| r_e) ?_
          refine aw_cov (cov_prune (s1 := ⟨[(4, _), (9, _)], [(2, some _), (6, some _), (12, some _)], 14, []⟩) a2 a3 (Nat.le_refl _)) ?_
          refine aw_draw (mixed) (r_fa (.ptr 6 (0 + 0) [0]) fl89_0 rfl rfl rfl rfl <| r_ld (e_api_Core v34.C) rfl rfl ⟨rfl, nl rfl, trivial⟩ rfl rfl ty35 rfl <| r_fa (.ptr 6 (0 + 189) [1]) fl89_1 rfl rfl rfl rfl <| r_ld (.own 12) rfl rfl ⟨rfl, nl rfl, trivial⟩ rfl rfl ty44 rfl <| r_sv rfl rfl rfl rfl rfl rfl ty35 rfl <| r_0 (does_assign (.const (.bool true)) (.bool true) (fun _ => rfl)) rfl rfl <| r_as rfl rfl <| r_e) rfl ?_
          refine aw_cov (cov_prune (s1 := ⟨[(4, _), (5, _), (6, _)], [(2, some _), (12, some _)], 14, []⟩) a3 a2 (Nat.le_refl _)) ?_
          refine aw_ret ?_
          exact fun a w hr => ⟨_, [(e_api_Core v34.C), (.bool true), (.own 0)], reach_of hr (cov_to (s1 := ⟨[(4, (.ptr 1 0 [])), (5, (.bool true)), (6, (.own 0))], [(1, some (.var (e_api_Core v34.C))), (0, some (.arr 50 v34.Told.length fun j => (e_api_Happen (v34.Told.getD j z_api_Happen))))], 2, []⟩) (fun i => match i with | 1 => 2 | 0 => 12 | k => k) [] ⟨⟨_, rfl, .ptr 1 _ _ _ _ (nl rfl) rfl rfl⟩, ⟨_, rfl, .plain _ (trivial)⟩, ⟨_, rfl, .own 0 _ _ (nl rfl) rfl rfl (Box.like_refl _)⟩, trivial⟩ ⟨⟨nl rfl, _, _, rfl, rfl, boxTo_var ((d_api_Core _).plain)⟩, ⟨nl rfl, _, _, rfl, rfl, boxTo_arr (fun _ => (d_api_Happen _))⟩, trivial⟩ rfl rfl), ⟨⟨1, rfl, rfl, ty35⟩, rfl, rfl, trivial⟩, by decide, by cases H; rfl, by cases H; exact a1, nl rfl⟩
        · refine aw_cond rfl (fun hc => ?_) (fun hc => ?_)
          · replace H := ite_t hc H
            refine aw_region (r_fa (.ptr 6 (0 + 0) [0]) fl89_0 rfl rfl rfl rfl <| r_fa (.ptr 6 ((0 + 0) + 40) [0, 8]) fl35_8 rfl rfl rfl rfl <| r_ld (e_api_Id x18.1.C.Promise) rfl rfl ⟨rfl, nl rfl, ⟨rfl, nl rfl, trivial⟩⟩ rfl rfl ty27 rfl <| r_fa (.ptr 6 (0 + 0) [0]) fl89_0 rfl rfl rfl rfl <| r_fa (.ptr 6 ((0 + 0) + 20) [0, 4]) fl35_4 rfl rfl rfl rfl <| r_ld (e_api_Id x18.1.C.Conf) rfl rfl ⟨rfl, nl rfl, ⟨rfl, nl rfl, trivial⟩⟩ rfl rfl ty27 rfl <| r_eq false rfl rfl rfl rfl eg27 sh27 (al_api_Id _ _) (al_api_Id _ _) (q_api_Id _ _) rfl <| r_e) ?_
            refine aw_cov (cov_prune (s1 := ⟨[(2, _), (3, _), (4, _), (9, _), (97, _)], [(0, some _), (1, some _), (2, some _), (6, some _), (5, some _)], 9, []⟩) a5 a5 (Nat.le_refl _)) ?_
            refine aw_cond rfl (fun hc => ?_) (fun hc => ?_)
            · replace H := ite_t hc H
              refine aw_region (r_0 (does_buildT 29 #[] [] [] (.ar 8 1) (fun j => (.int .u32 ((fun _ => 0) j))) (fun j => (.int .u32 ((aset (fun _ => 0) []) j))) rfl bo29 trivial trivial (setAll_map (fun z => V.int .u32 z) [] _)) rfl rfl <| r_0 (does_alloc 29 9 (e_a8_u32 (fun _ => 0)) zr29) rfl rfl <| r_sv rfl rfl rfl rfl rfl rfl ty29 rfl <| r_e) ?_
              refine aw_cov (cov_prune (s1 := ⟨[(2, _), (3, _), (4, _), (9, _), (10, _)], [(0, some _), (1, some _), (2, some _), (6, some _), (5, some _), (9, some _)], 10, []⟩) a5 a6 (Nat.le_refl _)) ?_
              refine aw_seq ?_
              refine aw_region (r_0 (does_assign (.const (.int .i64 0)) (.int .i64 0) (fun _ => rfl)) rfl rfl <| r_e) ?_
              refine aw_cov (cov_prune (s1 := ⟨[(2, _), (3, _), (4, _), (9, _), (10, _), (11, _)], [(0, some _), (1, some _), (2, some _), (6, some _), (5, some _), (9, some _)], 10, []⟩) a6 a6 (Nat.le_refl _)) ?_
              obtain ⟨wn21, hwn21, Hrn21⟩ := bnd H
              refine aw_meet (fun y24 : (Nat → Int) => (⟨[(3, (.ptr 1 0 [])), (4, (.ptr 2 0 [])), (9, (.ptr 6 0 [])), (10, (.ptr 9 0 []))], [(1, some (.var (e_api_Packet p1))), (2, some (.var (e_api_Core z_api_Core))), (6, some (.var (.agg (.st [189, 1]) (vupd (c_congressref13_State x18.1) 1 (.own 5))))), (5, some (.arr 50 x18.2.length fun j => (e_api_Happen (x18.2.getD j z_api_Happen)))), (9, some (.var (e_a8_u32 y24)))], 10, []⟩ : St)) (fun y24 => Fl.nx y24 = wn21) (fun y24 hy => ?_) (aw_block (aw_runs (fun x20 : Int × (Nat → Int) => (⟨[(2, (.ptr 0 0 [])), (3, (.ptr 1 0 [])), (4, (.ptr 2 0 [])), (9, (.ptr 6 0 [])), (10, (.ptr 9 0 [])), (11, (.int .i64 x20.1))], [(0, some (.var (e_api_Core p0))), (1, some (.var (e_api_Packet p1))), (2, some (.var (e_api_Core z_api_Core))), (6, some (.var (.agg (.st [189, 1]) (vupd (c_congressref13_State x18.1) 1 (.own 5))))), (5, some (.arr 50 x18.2.length fun j => (e_api_Happen (x18.2.getD j z_api_Happen)))), (9, some (.var (e_a8_u32 x20.2)))], 10, []⟩ : St)) hwn21 (cov_prune a6 a6 (nl rfl)) (fun x20 st H hsn21 => ?_)))
              · have H := nx_of hy Hrn21
                refine nx_seq ?_
                obtain ⟨v25, h26, H⟩ := bnd H
                refine aw_region1 (r_lv rfl rfl ty89 rfl <| r_lv rfl rfl ty50 rfl <| r_lv rfl rfl ty29 rfl <| r_p (does_callO 59 0 (fun _ => .any) (.func 59) [(.tmp 111), (.tmp 112), (.tmp 113)] [(.agg (.st [189, 1]) (vupd (c_congressref13_State x18.1) 1 (.own 5))), (e_api_Packet p1), (e_a8_u32 y24)] [] [(5, (.arr 50 x18.2.length fun j => (e_api_Happen (x18.2.getD j z_api_Happen))))] false [(.agg (.st [189, 1]) (vupd (c_congressref13_State ({ x18.1 with Told := x18.2 } : congressref13_State)) 1 (.own 0))), (e_api_Packet p1), (e_a8_u32 y24)] _ (.agg (.st [189, 1]) (vupd (c_congressref13_State v25) 1 (.own 10))) _ 10 2 _ _ rfl fo59 rfl ⟨trivial, trivial, trivial, trivial⟩ ⟨(.agg _ _ _ (fun j => match j with | 0 => .ro _ _ (.data (e_api_Core (({ x18.1 with Told := x18.2 } : congressref13_State).C)) ((d_api_Core _))) | 1 => .mv 0 _ rfl | _ + 2 => .ro _ _ (.data _ trivial))), .ro _ _ (.data _ (d_api_Packet p1)), .ro _ _ (.data _ (d_a8_u32 y24)), trivial⟩ (congressref13_take_spec ({ x18.1 with Told := x18.2 } : congressref13_State) p1 y24 _ h26) rfl (by simp) rfl ⟨(fun _ => (f_api_Happen _)), trivial⟩ ⟨⟨nl rfl, _, rfl, fun _ => (f_api_Happen _)⟩, trivial⟩ (.agg _ _ _ (fun j => match j with | 0 => .data _ ((d_api_Core _)) | 1 => .own 0 (nl rfl) | _ + 2 => .data _ trivial))) m31 rfl <| r_sv rfl rfl rfl rfl rfl rfl ty89 rfl <| r_e) ?_
                exact nx_join (v25, v25.Told) H (cov_to (fun i => match i with | 2 => 2 | 6 => 6 | 5 => 10 | k => k) [] ⟨⟨_, rfl, .ptr 2 _ _ _ _ (nl rfl) rfl rfl⟩, ⟨_, rfl, .ptr 6 _ _ _ _ (nl rfl) rfl rfl⟩, trivial⟩ ⟨⟨nl rfl, _, _, rfl, rfl, boxTo_var ((d_api_Core _).plain)⟩, ⟨nl rfl, _, _, rfl, rfl, (boxTo_st (.agg _ _ _ (fun j => match j with | 0 => .plain _ ((d_api_Core _).plain) | 1 => .own 5 _ _ (nl rfl) rfl rfl (Box.like_refl _) | _ + 2 => .plain _ trivial)))⟩, ⟨nl rfl, _, _, rfl, rfl, boxTo_arr (fun _ => (d_api_Happen _))⟩, trivial⟩ rfl rfl)
              · refine aw_seq ?_
                refine aw_region (r_mv rfl rfl <| r_p (does_bin .lss 3 3 (.tmp 99) (.const (.int .i64 8)) .i64 x20.1 8 (.bool (decide (x20.1 < 8))) trivial (fun _ => rfl) (bin_lss _ _ _ _)) m10 rfl <| r_e) ?_
                refine aw_cov (cov_prune (s1 := ⟨[(2, _), (3, _), (4, _), (9, _), (10, _), (11, _), (100, _)], [(0, some _), (1, some _), (2, some _), (6, some _), (5, some _), (9, some _)], 10, []⟩) a7 a6 (Nat.le_refl _)) ?_
                refine aw_cond rfl (fun hc => ?_) (fun hc => ?_)
                · replace H := ite_t hc H
                  refine aw_skip ?_
                  refine nx_seq ?_
                  refine aw_seq ?_
                  refine aw_block ?_
                  obtain ⟨h22, H⟩ := ib_of H
                  obtain ⟨h23, H⟩ := ib_of H
                  refine aw_region1 (r_mv rfl rfl <| r_fa (.ptr 0 (0 + 0) [0]) fl35_0 rfl rfl rfl rfl <| r_ld (.int .i64 p0.Self) rfl rfl ⟨rfl, nl rfl, trivial⟩ rfl rfl ty3 rfl <| r_fa (.ptr 6 (0 + 0) [0]) fl89_0 rfl rfl rfl rfl <| r_fa (.ptr 6 ((0 + 0) + 31) [0, 6]) fl35_6 rfl rfl rfl rfl <| r_p (does_indexAddr 29 8 1 107 6 ((0 + 0) + 31) [0, 6] (.var (.agg (.st [189, 1]) (vupd (c_congressref13_State x18.1) 1 (.own 5)))) (.tmp 105) .i64 p0.Self el29 trivial h22.1 h22.2) m21 rfl <| r_ld (.int .u32 (x18.1.C.Count p0.Self.toNat)) rfl rfl ⟨rfl, nl rfl, ⟨rfl, nl rfl, ⟨rfl, (ixl h22), trivial⟩⟩⟩ rfl rfl ty22 rfl <| r_p (does_indexAddr 29 8 1 10 9 0 [] (.var (e_a8_u32 x20.2)) (.tmp 103) .i64 x20.1 el29 trivial h23.1 h23.2) m21 rfl <| r_st (.var (e_a8_u32 (aupd x20.2 x20.1.toNat (x18.1.C.Count p0.Self.toNat)))) rfl rfl a1 trivial rfl ⟨rfl, (ixl h23), trivial⟩ rfl rfl (congrArg Box.var (set_cons rfl (vupd_map (fun z => V.int .u32 z) _ _ _))) ty22 rfl <| r_e) ?_
                  refine nx_blk ?_
                  refine nx_seq ?_
                  refine aw_cov (cov_prune (s1 := ⟨[(2, _), (3, _), (4, _), (9, _), (10, _), (11, _)], [(0, some _), (1, some _), (2, some _), (6, some _), (5, some _), (9, some _)], 10, []⟩) a6 a6 (Nat.le_refl _)) ?_
                  refine aw_region1 (r_mv rfl rfl <| r_p (does_bin .add 3 3 (.tmp 101) (.const (.int .i64 1)) .i64 x20.1 1 (.int .i64 (IntKind.i64.wrap (x20.1 + 1))) trivial (fun _ => rfl) (bin_add _ _ _ _)) m10 rfl <| r_as rfl rfl <| r_e) ?_
                  exact nx_loop ((IntKind.i64.wrap (x20.1 + 1)), aupd x20.2 x20.1.toNat (x18.1.C.Count p0.Self.toNat)) H (cov_to (fun i => match i with | 0 => 0 | 1 => 1 | 2 => 2 | 5 => 5 | 6 => 6 | 9 => 9 | k => k) [] ⟨⟨_, rfl, .ptr 0 _ _ _ _ (nl rfl) rfl rfl⟩, ⟨_, rfl, .ptr 1 _ _ _ _ (nl rfl) rfl rfl⟩, ⟨_, rfl, .ptr 2 _ _ _ _ (nl rfl) rfl rfl⟩, ⟨_, rfl, .ptr 6 _ _ _ _ (nl rfl) rfl rfl⟩, ⟨_, rfl, .ptr 9 _ _ _ _ (nl rfl) rfl rfl⟩, ⟨_, rfl, .plain _ (trivial)⟩, trivial⟩ ⟨⟨nl rfl, _, _, rfl, rfl, boxTo_var ((d_api_Core _).plain)⟩, ⟨nl rfl, _, _, rfl, rfl, boxTo_var ((d_api_Packet _).plain)⟩, ⟨nl rfl, _, _, rfl, rfl, boxTo_var ((d_api_Core _).plain)⟩, ⟨nl rfl, _, _, rfl, rfl, (boxTo_st (.agg _ _ _ (fun j => match j with | 0 => .plain _ ((d_api_Core _).plain) | 1 => .own 5 _ _ (nl rfl) rfl rfl (Box.like_refl _) | _ + 2 => .plain _ trivial)))⟩, ⟨nl rfl, _, _, rfl, rfl, boxTo_arr (fun _ => (d_api_Happen _))⟩, ⟨nl rfl, _, _, rfl, rfl, boxTo_var ((d_a8_u32 _).plain)⟩, trivial⟩ rfl rfl)
                · replace H := ite_f hc H
                  refine aw_exit ?_
                  refine ex_then ?_
                  refine ex_then ?_
                  refine ex_here ?_
                  exact nx_ljoin (x20.2) H hsn21 (cov_prune a4 a5 (nl rfl))
            · replace H := ite_f hc H
              obtain ⟨v27, h28, H⟩ := whn_of H
              refine aw_region (r_fa (.ptr 6 (0 + 0) [0]) fl89_0 rfl rfl rfl rfl <| r_fa (.ptr 6 ((0 + 0) + 59) [0, 11]) fl35_11 rfl rfl rfl rfl <| r_ld (.bool x18.1.C.Ready) rfl rfl ⟨rfl, nl rfl, ⟨rfl, nl rfl, trivial⟩⟩ rfl rfl ty4 rfl <| r_p (does_not 4 (.tmp 117) x18.1.C.Ready trivial) m10 rfl <| r_mv rfl rfl <| r_gfa (.ptr 6 (0 + 0) [0]) fl89_0 rfl rfl rfl rfl rfl (fun _ => .same _) rfl rfl rfl <| r_gld (e_api_Core x18.1.C) rfl rfl rfl rfl rfl (fun hc => .opt _ _ hc) rfl (fun hc => ⟨rfl, nl rfl, trivial⟩) rfl rfl ty35 rfl <| r_g [(121, _)] [(121, _)] [] rfl rfl m20 rfl (fun hc => ⟨(.opt _ _ hc), trivial⟩) (fun hc => does_call 60 0 (fun _ => .any) (.func 60) [(.tmp 121)] [(e_api_Core x18.1.C)] [] true [(e_api_Core x18.1.C)] (.bool v27) _ _ rfl fo60 rfl ⟨trivial, trivial⟩ ⟨.data _ (d_api_Core x18.1.C), trivial⟩ (congressref12_All_spec x18.1.C _ (h28 hc)) trivial) rfl <| r_p (does_and 119 122 (!x18.1.C.Ready) v27) m20 rfl <| r_e) ?_
              refine aw_cov (cov_prune (s1 := ⟨[(3, _), (4, _), (9, _), (123, _)], [(1, some _), (2, some _), (6, some _), (5, some _)], 9, []⟩) a4 a4 (Nat.le_refl _)) ?_
              refine aw_cond rfl (fun hc => ?_) (fun hc => ?_)
              · replace H := ite_t hc H
                obtain ⟨v29, h30, H⟩ := bnd H
                obtain ⟨v31, h32, H⟩ := bnd H
                refine aw_draw1 (mixed) (r_lv rfl rfl ty89 rfl <| r_lv rfl rfl ty50 rfl <| r_fa (.ptr 6 (0 + 0) [0]) fl89_0 rfl rfl rfl rfl <| r_ld (e_api_Core x18.1.C) rfl rfl ⟨rfl, nl rfl, trivial⟩ rfl rfl ty35 rfl <| r_ca [_] [_] (nob := []) (flat := true) (congressref12_Target_spec _ _ h30) rfl rfl m10 fo61 ⟨trivial, trivial⟩ ⟨.data _ (d_api_Core _), trivial⟩ (f_a8_u32 v29) rfl <| r_p (does_callO 59 0 (fun _ => .any) (.func 59) [(.tmp 124), (.tmp 125), (.tmp 128)] [(.agg (.st [189, 1]) (vupd (c_congressref13_State x18.1) 1 (.own 5))), (e_api_Packet p1), (e_a8_u32 v29)] [] [(5, (.arr 50 x18.2.length fun j => (e_api_Happen (x18.2.getD j z_api_Happen))))] false [(.agg (.st [189, 1]) (vupd (c_congressref13_State ({ x18.1 with Told := x18.2 } : congressref13_State)) 1 (.own 0))), (e_api_Packet p1), (e_a8_u32 v29)] _ (.agg (.st [189, 1]) (vupd (c_congressref13_State v31) 1 (.own 9))) _ 9 2 _ _ rfl fo59 rfl ⟨trivial, trivial, trivial, trivial⟩ ⟨(.agg _ _ _ (fun j => match j with | 0 => .ro _ _ (.data (e_api_Core (({ x18.1 with Told := x18.2 } : congressref13_State).C)) ((d_api_Core _))) | 1 => .mv 0 _ rfl | _ + 2 => .ro _ _ (.data _ trivial))), .ro _ _ (.data _ (d_api_Packet p1)), .ro _ _ (.data _ (d_a8_u32 v29)), trivial⟩ (congressref13_take_spec ({ x18.1 with Told := x18.2 } : congressref13_State) p1 v29 _ h32) rfl (by simp) rfl ⟨(fun _ => (f_api_Happen _)), trivial⟩ ⟨⟨nl rfl, _, rfl, fun _ => (f_api_Happen _)⟩, trivial⟩ (.agg _ _ _ (fun j => match j with | 0 => .data _ ((d_api_Core _)) | 1 => .own 0 (nl rfl) | _ + 2 => .data _ trivial))) m31 rfl <| r_sv rfl rfl rfl rfl rfl rfl ty89 rfl <| r_e) rfl ?_
                exact nx_join (v31, v31.Told) H (cov_to (fun i => match i with | 2 => 2 | 6 => 6 | 5 => 9 | k => k) [] ⟨⟨_, rfl, .ptr 2 _ _ _ _ (nl rfl) rfl rfl⟩, ⟨_, rfl, .ptr 6 _ _ _ _ (nl rfl) rfl rfl⟩, trivial⟩ ⟨⟨nl rfl, _, _, rfl, rfl, boxTo_var ((d_api_Core _).plain)⟩, ⟨nl rfl, _, _, rfl, rfl, (boxTo_st (.agg _ _ _ (fun j => match j with | 0 => .plain _ ((d_api_Core _).plain) | 1 => .own 5 _ _ (nl rfl) rfl rfl (Box.like_refl _) | _ + 2 => .plain _ trivial)))⟩, ⟨nl rfl, _, _, rfl, rfl, boxTo_arr (fun _ => (d_api_Happen _))⟩, trivial⟩ rfl rfl)
              · replace H := ite_f hc H
                refine aw_skip ?_
                exact nx_join (x18.1, x18.2) H (cov_to (fun i => match i with | 2 => 2 | 6 => 6 | 5 => 5 | k => k) [] ⟨⟨_, rfl, .ptr 2 _ _ _ _ (nl rfl) rfl rfl⟩, ⟨_, rfl, .ptr 6 _ _ _ _ (nl rfl) rfl rfl⟩, trivial⟩ ⟨⟨nl rfl, _, _, rfl, rfl, boxTo_var ((d_api_Core _).plain)⟩, ⟨nl rfl, _, _, rfl, rfl, (boxTo_st (.agg _ _ _ (fun j => match j with | 0 => .plain _ ((d_api_Core _).plain) | 1 => .own 5 _ _ (nl rfl) rfl rfl (Box.like_refl _) | _ + 2 => .plain _ trivial)))⟩, ⟨nl rfl, _, _, rfl, rfl, boxTo_arr (fun _ => (d_api_Happen _))⟩, trivial⟩ rfl rfl)
          · replace H := ite_f hc H
            refine aw_skip ?_
            exact nx_join (x18.1, x18.2) H (cov_to (fun i => match i with | 2 => 2 | 6 => 6 | 5 => 5 | k => k) [] ⟨⟨_, rfl, .ptr 2 _ _ _ _ (nl rfl) rfl rfl⟩, ⟨_, rfl, .ptr 6 _ _ _ _ (nl rfl) rfl rfl⟩, trivial⟩ ⟨⟨nl rfl, _, _, rfl, rfl, boxTo_var ((d_api_Core _).plain)⟩, ⟨nl rfl, _, _, rfl, rfl, (boxTo_st (.agg _ _ _ (fun j => match j with | 0 => .plain _ ((d_api_Core _).plain) | 1 => .own 5 _ _ (nl rfl) rfl rfl (Box.like_refl _) | _ + 2 => .plain _ trivial)))⟩, ⟨nl rfl, _, _, rfl, rfl, boxTo_arr (fun _ => (d_api_Happen _))⟩, trivial⟩ rfl rfl)
      · refine aw_cond rfl (fun hc => ?_) (fun hc => ?_)
        · replace H := ite_t hc H
          obtain ⟨v16, h17, H⟩ := bnd H
          refine aw_region1 (r_lv rfl rfl ty89 rfl <| r_fa (.ptr 1 (0 + 21) [5]) fl50_5 rfl rfl rfl rfl <| r_ld (e_api_Id p1.Promise) rfl rfl ⟨rfl, nl rfl, trivial⟩ rfl rfl ty27 rfl <| r_fa (.ptr 1 (0 + 24) [6]) fl50_6 rfl rfl rfl rfl <| r_ld (e_a8_u32 p1.Wanted) rfl rfl ⟨rfl, nl rfl, trivial⟩ rfl rfl ty28 rfl <| r_p (does_callO 41 0 (fun _ => .any) (.func 41) [(.tmp 79), (.tmp 81), (.tmp 83)] [(.agg (.st [189, 1]) (vupd (c_congressref13_State v12) 1 (.own 5))), (e_api_Id p1.Promise), (e_a8_u32 p1.Wanted)] [] [(5, (.arr 50 ([] : _root_.List api_Happen).length fun j => (e_api_Happen (([] : _root_.List api_Happen).getD j z_api_Happen))))] false [(.agg (.st [189, 1]) (vupd (c_congressref13_State ({ v12 with Told := ([] : _root_.List api_Happen) } : congressref13_State)) 1 (.own 0))), (e_api_Id p1.Promise), (e_a8_u32 p1.Wanted)] _ (.agg (.st [189, 1]) (vupd (c_congressref13_State v16) 1 (.own 7))) _ 7 2 _ _ rfl fo41 rfl ⟨trivial, trivial, trivial, trivial⟩ ⟨(.agg _ _ _ (fun j => match j with | 0 => .ro _ _ (.data (e_api_Core (({ v12 with Told := ([] : _root_.List api_Happen) } : congressref13_State).C)) ((d_api_Core _))) | 1 => .mv 0 _ rfl | _ + 2 => .ro _ _ (.data _ trivial))), .ro _ _ (.data _ (d_api_Id p1.Promise)), .ro _ _ (.data _ (d_a8_u32 p1.Wanted)), trivial⟩ (congressref13_promise_spec ({ v12 with Told := ([] : _root_.List api_Happen) } : congressref13_State) p1.Promise p1.Wanted _ h17) rfl (by simp) rfl ⟨(fun _ => (f_api_Happen _)), trivial⟩ ⟨⟨nl rfl, _, rfl, fun _ => (f_api_Happen _)⟩, trivial⟩ (.agg _ _ _ (fun j => match j with | 0 => .data _ ((d_api_Core _)) | 1 => .own 0 (nl rfl) | _ + 2 => .data _ trivial))) m31 rfl <| r_sv rfl rfl rfl rfl rfl rfl ty89 rfl <| r_e) ?_
          exact nx_join (v16, v16.Told) H (cov_to (fun i => match i with | 0 => 0 | 1 => 1 | 2 => 2 | 6 => 6 | 5 => 7 | k => k) [] ⟨⟨_, rfl, .ptr 0 _ _ _ _ (nl rfl) rfl rfl⟩, ⟨_, rfl, .ptr 1 _ _ _ _ (nl rfl) rfl rfl⟩, ⟨_, rfl, .ptr 2 _ _ _ _ (nl rfl) rfl rfl⟩, ⟨_, rfl, .ptr 6 _ _ _ _ (nl rfl) rfl rfl⟩, trivial⟩ ⟨⟨nl rfl, _, _, rfl, rfl, boxTo_var ((d_api_Core _).plain)⟩, ⟨nl rfl, _, _, rfl, rfl, boxTo_var ((d_api_Packet _).plain)⟩, ⟨nl rfl, _, _, rfl, rfl, boxTo_var ((d_api_Core _).plain)⟩, ⟨nl rfl, _, _, rfl, rfl, (boxTo_st (.agg _ _ _ (fun j => match j with | 0 => .plain _ ((d_api_Core _).plain) | 1 => .own 5 _ _ (nl rfl) rfl rfl (Box.like_refl _) | _ + 2 => .plain _ trivial)))⟩, ⟨nl rfl, _, _, rfl, rfl, boxTo_arr (fun _ => (d_api_Happen _))⟩, trivial⟩ rfl rfl)
        · replace H := ite_f hc H
          refine aw_skip ?_
          exact nx_join (v12, ([] : _root_.List api_Happen)) H (cov_to (fun i => match i with | 0 => 0 | 1 => 1 | 2 => 2 | 6 => 6 | 5 => 5 | k => k) [] ⟨⟨_, rfl, .ptr 0 _ _ _ _ (nl rfl) rfl rfl⟩, ⟨_, rfl, .ptr 1 _ _ _ _ (nl rfl) rfl rfl⟩, ⟨_, rfl, .ptr 2 _ _ _ _ (nl rfl) rfl rfl⟩, ⟨_, rfl, .ptr 6 _ _ _ _ (nl rfl) rfl rfl⟩, trivial⟩ ⟨⟨nl rfl, _, _, rfl, rfl, boxTo_var ((d_api_Core _).plain)⟩, ⟨nl rfl, _, _, rfl, rfl, boxTo_var ((d_api_Packet _).plain)⟩, ⟨nl rfl, _, _, rfl, rfl, boxTo_var ((d_api_Core _).plain)⟩, ⟨nl rfl, _, _, rfl, rfl, (boxTo_st (.agg _ _ _ (fun j => match j with | 0 => .plain _ ((d_api_Core _).plain) | 1 => .own 5 _ _ (nl rfl) rfl rfl (Box.like_refl _) | _ + 2 => .plain _ trivial)))⟩, ⟨nl rfl, _, _, rfl, rfl, boxTo_arr (fun _ => (d_api_Happen _))⟩, trivial⟩ rfl rfl)
theorem congressref13_Start_spec (p0 : Int) (p1 : Int) (p2 : Int) (r : api_Core × Bool) (H : congressref13_Start p0 p1 p2 = some r) : FSpec Try.prog 21 [(.int .i64 p0), (.int .u32 p1), (.int .i64 p2)] (resV [(e_api_Core r.1), (.bool r.2)]) := by
  refine spec_of (fn := Try.f21) (args := [(.int .i64 p0), (.int .u32 p1), (.int .i64 p2)]) Try.func21 rfl (nl rfl) ?_
  rintro ⟨G, w0, W, S, Sp, gx⟩ hG
  cases hG
  unfold congressref13_Start at H
  refine aw_region (r_0 (does_alloc 35 0 (e_api_Core z_api_Core) zr35) rfl rfl <| r_0 (does_assign (.const (.bool false)) (.bool false) (fun _ => rfl)) rfl rfl <| r_e) ?_
  refine aw_cov (cov_prune (s1 := ⟨[(0, _), (1, _), (2, _), (6, _)], [(0, some _)], 1, []⟩) a4 a1 (Nat.le_refl _)) ?_
  refine aw_seq ?_
  refine aw_region (r_mv rfl rfl <| r_p (does_bin .lss 3 3 (.tmp 10) (.const (.int .i64 0)) .i64 p0 0 (.bool (decide (p0 < 0))) trivial (fun _ => rfl) (bin_lss _ _ _ _)) m10 rfl <| r_mv rfl rfl <| r_gmv rfl rfl rfl rfl rfl rfl <| r_g [(13, _)] [(13, _)] [] rfl rfl m20 rfl (fun hc => ⟨(.opt _ _ hc), trivial⟩) (fun hc => does_bin .gtr 3 3 (.tmp 13) (.const (.int .i64 7)) .i64 p0 7 (.bool (decide (p0 > 7))) trivial (fun _ => rfl) (bin_gtr _ _ _ _)) rfl <| r_p (does_or 12 14 (decide (p0 < 0)) (decide (p0 > 7))) m20 rfl <| r_mv rfl rfl <| r_gmv rfl rfl rfl rfl rfl rfl <| r_g [(17, _)] [(17, _)] [] rfl rfl m20 rfl (fun hc => ⟨(.opt _ _ hc), trivial⟩) (fun hc => does_bin .eql 22 22 (.tmp 17) (.const (.int .u32 0)) .u32 p1 0 (.bool (p1 == 0)) trivial (fun _ => rfl) (bin_eql _ _ _ _)) rfl <| r_p (does_or 16 18 ((decide (p0 < 0)) || (decide (p0 > 7))) (p1 == 0)) m20 rfl <| r_mv rfl rfl <| r_gmv rfl rfl rfl rfl rfl rfl <| r_g [(21, _)] [(21, _)] [] rfl rfl m20 rfl (fun hc => ⟨(.opt _ _ hc), trivial⟩) (fun hc => does_bin .lss 3 3 (.tmp 21) (.const (.int .i64 1)) .i64 p2 1 (.bool (decide (p2 < 1))) trivial (fun _ => rfl) (bin_lss _ _ _ _)) rfl <| r_p (does_or 20 22 (((decide (p0 < 0)) || (decide (p0 > 7))) || (p1 == 0)) (decide (p2 < 1))) m20 rfl <| r_mv rfl rfl <| r_gmv rfl rfl rfl rfl rfl rfl <| r_g [(25, _)] [(25, _)] [] rfl rfl m20 rfl (fun hc => ⟨(.opt _ _ hc), trivial⟩) (fun hc => does_bin .gtr 3 3 (.tmp 25) (.const (.int .i64 1000)) .i64 p2 1000 (.bool (decide (p2 > 1000))) trivial (fun _ => rfl) (bin_gtr _ _ _ _)) rfl <| r_p (does_or 24 26 ((((decide (p0 < 0)) || (decide (p0 > 7))) || (p1 == 0)) || (decide (p2 < 1))) (decide (p2 > 1000))) m20 rfl <| r_e) ?_
  obtain ⟨v1, hv1, H⟩ := lt_of H
  refine aw_cov (cov_prune (s1 := ⟨[(0, _), (1, _), (2, _), (6, _), (27, (.bool v1))], [(0, some _)], 1, []⟩) ⟨rfl, rfl, rfl, rfl, (by subst hv1; rfl), trivial⟩ a1 (Nat.le_refl _)) ?_
  refine aw_cond rfl (fun hc => ?_) (fun hc => ?_)
  · replace H := ite_t hc H
    refine aw_region (r_0 (does_buildT 35 #[] [] [] (.st [1, 1, 1, 17, 3, 8, 8, 1, 3, 8, 8, 1, 128, 1]) (c_api_Core z_api_Core) (c_api_Core ({ Self := 0, Wait := 0, Own := 0, Beat := z_api_Beat, Conf := z_api_Id, Members := (fun _ => 0), Count := (fun _ => 0), Kept := [], Promise := z_api_Id, Wanted := (fun _ => 0), Cut := (fun _ => 0), Ready := false, Peers := (fun _ => z_api_Peer), Epoch := 0 } : api_Core)) rfl bo35 trivial trivial (fe14 rfl rfl rfl rfl rfl rfl rfl rfl rfl rfl rfl rfl rfl rfl (fun _ => rfl))) rfl rfl <| r_sv rfl rfl rfl rfl rfl rfl ty35 rfl <| r_0 (does_assign (.const (.bool false)) (.bool false) (fun _ => rfl)) rfl rfl <| r_e) ?_
    obtain ⟨v2, hv2, H⟩ := lt_of H
    refine aw_cov (cov_prune (s1 := ⟨[(6, _), (7, _)], [(0, some (.var (e_api_Core v2)))], 1, []⟩) a2 ⟨(by subst hv2; rfl), trivial⟩ (Nat.le_refl _)) ?_
    refine aw_ret ?_
    refine rt_then ?_
    exact fun a w hr => ⟨_, [(e_api_Core v2), (.bool false)], hr, ⟨⟨0, _, rfl, rfl, .data _ (d_api_Core v2), ty35⟩, ⟨_, rfl, .data (.bool false) trivial⟩, trivial⟩, by decide, by cases H; rfl⟩
  · replace H := ite_f hc H
    refine aw_skip ?_
    refine nx_seq ?_
    refine aw_region (r_0 (does_buildT 28 #[] [] [] (.ar 8 1) (fun j => (.int .u32 ((fun _ => 0) j))) (fun j => (.int .u32 ((aset (fun _ => 0) []) j))) rfl bo28 trivial trivial (setAll_map (fun z => V.int .u32 z) [] _)) rfl rfl <| r_0 (does_alloc 28 1 (e_a8_u32 (fun _ => 0)) zr28) rfl rfl <| r_sv rfl rfl rfl rfl rfl rfl ty28 rfl <| r_e) ?_
    refine aw_cov (cov_prune (s1 := ⟨[(0, _), (1, _), (2, _), (6, _), (8, _)], [(0, some _), (1, some _)], 2, []⟩) a5 a2 (Nat.le_refl _)) ?_
    obtain ⟨h3, H⟩ := ib_of H
    refine aw_region (r_mv rfl rfl <| r_mv rfl rfl <| r_p (does_indexAddr 28 8 1 8 1 0 [] (.var (e_a8_u32 (aset (fun _ => 0) []))) (.tmp 30) .i64 p0 el28 trivial h3.1 h3.2) m21 rfl <| r_st (.var (e_a8_u32 (aupd (aset (fun _ => 0) []) p0.toNat p1))) rfl rfl a1 trivial rfl ⟨rfl, (ixl h3), trivial⟩ rfl rfl (congrArg Box.var (set_cons rfl (vupd_map (fun z => V.int .u32 z) _ _ _))) ty22 rfl <| r_e) ?_
    refine aw_cov (cov_prune (s1 := ⟨[(0, _), (1, _), (2, _), (6, _), (8, _)], [(0, some _), (1, some _)], 2, []⟩) a5 a2 (Nat.le_refl _)) ?_
    refine aw_region (r_mv rfl rfl <| r_p (does_convInt 3 22 (.tmp 33) .i64 .u32 p0 trivial rfl rfl) m10 rfl <| r_mv rfl rfl <| r_p (does_buildT 27 #[(1, (.tmp 34)), (2, (.tmp 35))] [(1, (.tmp 34)), (2, (.tmp 35))] [(1, (.int .u32 (IntKind.u32.wrap (p0)))), (2, (.int .u32 p1))] (.st [1, 1, 1]) (c_api_Id z_api_Id) (c_api_Id ({ Epoch := 0, Coord := (IntKind.u32.wrap (p0)), Inc := p1 } : api_Id)) rfl bo27 ⟨a1, a1, trivial⟩ ⟨⟨nl rfl, rfl, rfl⟩, ⟨nl rfl, rfl, rfl⟩, trivial⟩ (fe3 rfl rfl rfl (fun _ => rfl))) m20 rfl <| r_0 (does_alloc 27 2 (e_api_Id z_api_Id) zr27) rfl rfl <| r_sv rfl rfl rfl rfl rfl rfl ty27 rfl <| r_e) ?_
    refine aw_cov (cov_prune (s1 := ⟨[(0, _), (1, _), (2, _), (6, _), (8, _), (9, _)], [(0, some _), (1, some _), (2, some _)], 3, []⟩) a6 a3 (Nat.le_refl _)) ?_
    refine aw_region (r_mv rfl rfl <| r_mv rfl rfl <| r_mv rfl rfl <| r_lv rfl rfl ty27 rfl <| r_lv rfl rfl ty28 rfl <| r_lv rfl rfl ty27 rfl <| r_lv rfl rfl ty28 rfl <| r_p (does_buildT 35 #[(0, (.tmp 37)), (1, (.tmp 38)), (2, (.tmp 39)), (4, (.tmp 40)), (5, (.tmp 41)), (8, (.tmp 42)), (9, (.tmp 43))] [(0, (.tmp 37)), (1, (.tmp 38)), (2, (.tmp 39)), (4, (.tmp 40)), (5, (.tmp 41)), (8, (.tmp 42)), (9, (.tmp 43))] [(0, (.int .i64 p0)), (1, (.int .i64 p2)), (2, (.int .u32 p1)), (4, (e_api_Id ({ Epoch := 0, Coord := (IntKind.u32.wrap (p0)), Inc := p1 } : api_Id))), (5, (e_a8_u32 (aupd (aset (fun _ => 0) []) p0.toNat p1))), (8, (e_api_Id ({ Epoch := 0, Coord := (IntKind.u32.wrap (p0)), Inc := p1 } : api_Id))), (9, (e_a8_u32 (aupd (aset (fun _ => 0) []) p0.toNat p1)))] (.st [1, 1, 1, 17, 3, 8, 8, 1, 3, 8, 8, 1, 128, 1]) (c_api_Core z_api_Core) (c_api_Core ({ Self := p0, Wait := p2, Own := p1, Beat := z_api_Beat, Conf := ({ Epoch := 0, Coord := (IntKind.u32.wrap (p0)), Inc := p1 } : api_Id), Members := aupd (aset (fun _ => 0) []) p0.toNat p1, Count := (fun _ => 0), Kept := [], Promise := ({ Epoch := 0, Coord := (IntKind.u32.wrap (p0)), Inc := p1 } : api_Id), Wanted := aupd (aset (fun _ => 0) []) p0.toNat p1, Cut := (fun _ => 0), Ready := false, Peers := (fun _ => z_api_Peer), Epoch := 0 } : api_Core)) rfl bo35 ⟨a1, a1, a1, a1, a1, a1, a1, trivial⟩ ⟨⟨nl rfl, rfl, rfl⟩, ⟨nl rfl, rfl, rfl⟩, ⟨nl rfl, rfl, rfl⟩, ⟨nl rfl, rfl, rfl⟩, ⟨nl rfl, rfl, rfl⟩, ⟨nl rfl, rfl, rfl⟩, ⟨nl rfl, rfl, rfl⟩, trivial⟩ (fe14 rfl rfl rfl rfl rfl rfl rfl rfl rfl rfl rfl rfl rfl rfl (fun _ => rfl))) ⟨a7, trivial, rfl⟩ rfl <| r_sv rfl rfl rfl rfl rfl rfl ty35 rfl <| r_0 (does_assign (.const (.bool true)) (.bool true) (fun _ => rfl)) rfl rfl <| r_e) ?_
    obtain ⟨v4, hv4, H⟩ := lt_of H
    refine aw_cov (cov_prune (s1 := ⟨[(6, _), (7, _)], [(0, some (.var (e_api_Core v4)))], 3, []⟩) a2 ⟨(by subst hv4; rfl), trivial⟩ (Nat.le_refl _)) ?_
    refine aw_ret ?_
    exact fun a w hr => ⟨_, [(e_api_Core v4), (.bool true)], hr, ⟨⟨0, _, rfl, rfl, .data _ (d_api_Core v4), ty35⟩, ⟨_, rfl, .data (.bool true) trivial⟩, trivial⟩, by decide, by cases H; rfl⟩
theorem congresslaw13_CoreHears_spec (p0 : api_Core) (p1 : api_Packet) (r : Bool) (H : congresslaw13_CoreHears p0 p1 = some r) : FSpec Try.prog 4 [(e_api_Core p0), (e_api_Packet p1)] (.bool r) := by
  refine spec_of (fn := Try.f4) (args := [(e_api_Core p0), (e_api_Packet p1)]) Try.func4 rfl (nl rfl) ?_
  rintro ⟨G, w0, W, S, Sp, gx⟩ hG
  cases hG
  unfold congresslaw13_CoreHears at H
  refine aw_region (r_p (does_box 35 (.tmp 0) 0 (e_api_Core p0) trivial rfl) m10 rfl <| r_p (does_box 50 (.tmp 1) 1 (e_api_Packet p1) trivial rfl) m10 rfl <| r_0 (does_assign (.const (.bool false)) (.bool false) (fun _ => rfl)) rfl rfl <| r_e) ?_
  refine aw_cov (cov_prune (s1 := ⟨[(2, _), (3, _)], [(0, some _), (1, some _)], 2, []⟩) a2 a2 (Nat.le_refl _)) ?_
  refine aw_seq ?_
  obtain ⟨v1, h2, H⟩ := bnd H
  obtain ⟨v3, h4, H⟩ := whn_of H
  refine aw_region (r_ca [] [] (nob := []) (flat := true) (congresslaw13_fixed_spec _ h2) rfl rfl ⟨trivial, trivial, rfl⟩ fo9 trivial trivial trivial rfl <| r_p (does_not 4 (.tmp 15) v1 trivial) m10 rfl <| r_mv rfl rfl <| r_gld (e_api_Core p0) rfl rfl rfl rfl rfl (fun _ => .same _) rfl (fun hc => trivial) rfl rfl ty35 rfl <| r_g [(18, _)] [(18, _)] [] rfl rfl m20 rfl (fun hc => ⟨(.opt _ _ hc), trivial⟩) (fun hc => does_call 10 0 (fun _ => .any) (.func 10) [(.tmp 18)] [(e_api_Core p0)] [] true [(e_api_Core p0)] (.bool v3) _ _ rfl fo10 rfl ⟨trivial, trivial⟩ ⟨.data _ (d_api_Core p0), trivial⟩ (congressref13_Fits_spec p0 _ (h4 hc)) trivial) rfl <| r_g [(19, _)] [(19, _)] [] rfl rfl m20 rfl (fun hc => ⟨(.opt _ _ hc), trivial⟩) (fun hc => does_not 4 (.tmp 19) v3 trivial) rfl <| r_p (does_or 17 20 (!v1) (!v3)) m20 rfl <| r_e) ?_
  refine aw_cov (cov_prune (s1 := ⟨[(2, _), (3, _), (21, _)], [(0, some _), (1, some _)], 2, []⟩) a3 a2 (Nat.le_refl _)) ?_
  refine aw_cond rfl (fun hc => ?_) (fun hc => ?_)
  · replace H := ite_t hc H
    obtain ⟨v5, h6, H⟩ := bnd H
    refine aw_region (r_ca [] [] (nob := []) (flat := true) (congresslaw13_fixed_spec _ h6) rfl rfl ⟨trivial, trivial, rfl⟩ fo9 trivial trivial trivial rfl <| r_as rfl rfl <| r_e) ?_
    refine aw_cov (cov_prune (s1 := ⟨[(4, _)], [], 2, []⟩) a1 trivial (Nat.le_refl _)) ?_
    refine aw_ret ?_
    refine rt_then ?_
    exact fun a w hr => ⟨_, [(.bool v5)], hr, ⟨⟨_, rfl, .data (.bool v5) trivial⟩, trivial⟩, by decide, by cases H; rfl⟩
  · replace H := ite_f hc H
    refine aw_skip ?_
    refine nx_seq ?_
    obtain ⟨v7, h8, H⟩ := bnd H
    refine aw_region (r_lv rfl rfl ty35 rfl <| r_lv rfl rfl ty50 rfl <| r_p (does_callO 18 0 (fun _ => .any) (.func 18) [(.tmp 24), (.tmp 25)] [(e_api_Core p0), (e_api_Packet p1)] [] [] true [(e_api_Core p0), (e_api_Packet p1)] _ (resV [(.agg (.st [1, 1, 1, 17, 3, 8, 8, 1, 3, 8, 8, 1, 128, 1]) (vupd (c_api_Core v7.1) 7 (.own 2))), (.bool v7.2.1), (.own 3)]) _ 2 3 _ _ rfl fo18 rfl ⟨trivial, trivial, trivial⟩ ⟨.ro _ _ (.data _ (d_api_Core p0)), .ro _ _ (.data _ (d_api_Packet p1)), trivial⟩ (core_Receive_spec p0 p1 _ h8) rfl (by simp) rfl trivial ⟨⟨nl rfl, _, rfl, fun _ => (f_api_Kept _)⟩, ⟨nl rfl, _, rfl, fun _ => (f_api_Happen _)⟩, trivial⟩ (.tup _ _ _ (fun j => match j with | 0 => .agg _ _ _ (fun j => match j with | 0 => .data _ (trivial) | 1 => .data _ (trivial) | 2 => .data _ (trivial) | 3 => .data _ ((f_api_Beat _)) | 4 => .data _ ((f_api_Id _)) | 5 => .data _ ((f_a8_u32 _)) | 6 => .data _ ((f_a8_u32 _)) | 7 => .own 0 (nl rfl) | 8 => .data _ ((f_api_Id _)) | 9 => .data _ ((f_a8_u32 _)) | 10 => .data _ ((f_a8_u32 _)) | 11 => .data _ (trivial) | 12 => .data _ ((f_a8_api_Peer _)) | 13 => .data _ (trivial) | _ + 14 => .data _ trivial) | 1 => .data _ (trivial) | 2 => .own 1 (nl rfl) | _ + 3 => .data _ trivial))) m20 rfl <| r_mv rfl rfl <| r_ex (.agg (.st [1, 1, 1, 17, 3, 8, 8, 1, 3, 8, 8, 1, 128, 1]) (vupd (c_api_Core v7.1) 7 (.own 2))) rfl (nl rfl) rfl rfl <| r_ex (.bool v7.2.1) rfl (nl rfl) rfl rfl <| r_ex (.own 3) rfl (nl rfl) rfl rfl <| r_0 (does_alloc 35 5 (e_api_Core z_api_Core) zr35) rfl rfl <| r_sv rfl rfl rfl rfl rfl rfl ty35 rfl <| r_as rfl rfl <| r_as rfl rfl <| r_e) ?_
    refine aw_cov (cov_prune (s1 := ⟨[(2, _), (3, _), (5, _), (6, _), (7, _)], [(0, some _), (1, some _), (2, some _), (3, some _), (5, some _)], 6, []⟩) a5 a5 (Nat.le_refl _)) ?_
    obtain ⟨v9, h10, H⟩ := bnd H
    refine aw_region (r_lv rfl rfl ty35 rfl <| r_lv rfl rfl ty50 rfl <| r_p (does_callO 19 0 (fun _ => .any) (.func 19) [(.tmp 31), (.tmp 32)] [(e_api_Core p0), (e_api_Packet p1)] [] [] false [(e_api_Core p0), (e_api_Packet p1)] _ (resV [(e_api_Core v9.1), (.bool v9.2.1), (.own 6)]) _ 6 2 _ _ rfl fo19 rfl ⟨trivial, trivial, trivial⟩ ⟨.ro _ _ (.data _ (d_api_Core p0)), .ro _ _ (.data _ (d_api_Packet p1)), trivial⟩ (congressref13_Receive_spec p0 p1 _ h10) rfl (by simp) rfl trivial ⟨⟨nl rfl, _, rfl, fun _ => (f_api_Happen _)⟩, trivial⟩ (.tup _ _ _ (fun j => match j with | 0 => .data _ ((d_api_Core v9.1)) | 1 => .data _ (trivial) | 2 => .own 0 (nl rfl) | _ + 3 => .data _ trivial))) m20 rfl <| r_mv rfl rfl <| r_ex (e_api_Core v9.1) rfl (nl rfl) rfl rfl <| r_ex (.bool v9.2.1) rfl (nl rfl) rfl rfl <| r_ex (.own 6) rfl (nl rfl) rfl rfl <| r_0 (does_alloc 35 8 (e_api_Core z_api_Core) zr35) rfl rfl <| r_sv rfl rfl rfl rfl rfl rfl ty35 rfl <| r_as rfl rfl <| r_as rfl rfl <| r_e) ?_
    refine aw_cov (cov_prune (s1 := ⟨[(2, _), (3, _), (5, _), (6, _), (7, _), (8, _), (9, _), (10, _)], [(0, some _), (1, some _), (2, some _), (3, some _), (5, some _), (6, some _), (8, some _)], 9, []⟩) a8 a7 (Nat.le_refl _)) ?_
    obtain ⟨v11, h12, H⟩ := bnd H
    refine aw_region (r_fa (.ptr 0 (0 + 0) [0]) fl35_0 rfl rfl rfl rfl <| r_ld (.int .i64 p0.Self) rfl rfl ⟨rfl, nl rfl, trivial⟩ rfl rfl ty3 rfl <| r_fa (.ptr 1 (0 + 1) [1]) fl50_1 rfl rfl rfl rfl <| r_ld (.int .u32 p1.Inc) rfl rfl ⟨rfl, nl rfl, trivial⟩ rfl rfl ty22 rfl <| r_fa (.ptr 0 (0 + 1) [1]) fl35_1 rfl rfl rfl rfl <| r_ld (.int .i64 p0.Wait) rfl rfl ⟨rfl, nl rfl, trivial⟩ rfl rfl ty3 rfl <| r_ca [_, _, _] [_, _, _] (nob := []) (flat := false) (core_Start_spec _ _ _ _ h12) rfl rfl m30 fo20 ⟨trivial, trivial, trivial, trivial⟩ ⟨.data _ trivial, .data _ trivial, .data _ trivial, trivial⟩ (res_data2 (d_api_Core v11.1) trivial) rfl <| r_mv rfl rfl <| r_ex (e_api_Core v11.1) rfl (nl rfl) rfl rfl <| r_ex (.bool v11.2) rfl (nl rfl) rfl rfl <| r_0 (does_alloc 35 9 (e_api_Core z_api_Core) zr35) rfl rfl <| r_sv rfl rfl rfl rfl rfl rfl ty35 rfl <| r_as rfl rfl <| r_e) ?_
    refine aw_cov (cov_prune (s1 := ⟨[(2, _), (3, _), (5, _), (6, _), (7, _), (8, _), (9, _), (10, _), (11, _), (12, _)], [(0, some _), (1, some _), (2, some _), (3, some _), (5, some _), (6, some _), (8, some _), (9, some _)], 10, []⟩) ⟨rfl, rfl, rfl, rfl, rfl, rfl, rfl, rfl, rfl, rfl, trivial⟩ a8 (Nat.le_refl _)) ?_
    obtain ⟨v13, h14, H⟩ := bnd H
    refine aw_region (r_fa (.ptr 0 (0 + 0) [0]) fl35_0 rfl rfl rfl rfl <| r_ld (.int .i64 p0.Self) rfl rfl ⟨rfl, nl rfl, trivial⟩ rfl rfl ty3 rfl <| r_fa (.ptr 1 (0 + 1) [1]) fl50_1 rfl rfl rfl rfl <| r_ld (.int .u32 p1.Inc) rfl rfl ⟨rfl, nl rfl, trivial⟩ rfl rfl ty22 rfl <| r_fa (.ptr 0 (0 + 1) [1]) fl35_1 rfl rfl rfl rfl <| r_ld (.int .i64 p0.Wait) rfl rfl ⟨rfl, nl rfl, trivial⟩ rfl rfl ty3 rfl <| r_ca [_, _, _] [_, _, _] (nob := []) (flat := false) (congressref13_Start_spec _ _ _ _ h14) rfl rfl m30 fo21 ⟨trivial, trivial, trivial, trivial⟩ ⟨.data _ trivial, .data _ trivial, .data _ trivial, trivial⟩ (res_data2 (d_api_Core v13.1) trivial) rfl <| r_mv rfl rfl <| r_ex (e_api_Core v13.1) rfl (nl rfl) rfl rfl <| r_ex (.bool v13.2) rfl (nl rfl) rfl rfl <| r_0 (does_alloc 35 10 (e_api_Core z_api_Core) zr35) rfl rfl <| r_sv rfl rfl rfl rfl rfl rfl ty35 rfl <| r_as rfl rfl <| r_e) ?_
    refine aw_cov (cov_prune (s1 := ⟨[(5, _), (6, _), (7, _), (8, _), (9, _), (10, _), (11, _), (12, _), (13, _), (14, _)], [(2, some _), (3, some _), (5, some _), (6, some _), (8, some _), (9, some _), (10, some _)], 11, []⟩) ⟨rfl, rfl, rfl, rfl, rfl, rfl, rfl, rfl, rfl, rfl, trivial⟩ a7 (Nat.le_refl _)) ?_
    obtain ⟨v15, h16, H⟩ := bnd H
    obtain ⟨v17, h18, H⟩ := whn_of H
    obtain ⟨v19, h20, H⟩ := whn_of H
    refine aw_region (r_lv rfl rfl ty35 rfl <| r_lv rfl rfl ty35 rfl <| r_ca [_, _] [_, _] (nob := [(2, (.arr 38 v7.1.Kept.length fun j => (e_api_Kept (v7.1.Kept.getD j z_api_Kept))))]) (flat := true) (congressref13_Is_spec _ _ _ h16) rfl rfl m21 fo13 ⟨trivial, trivial, trivial⟩ ⟨.agg _ _ _ (fun j => match j with | 0 => .data (.int .i64 (({ v7.1 with Kept := v7.1.Kept } : api_Core).Self)) trivial | 1 => .data (.int .i64 (({ v7.1 with Kept := v7.1.Kept } : api_Core).Wait)) trivial | 2 => .data (.int .u32 (({ v7.1 with Kept := v7.1.Kept } : api_Core).Own)) trivial | 3 => .data (e_api_Beat (({ v7.1 with Kept := v7.1.Kept } : api_Core).Beat)) (d_api_Beat _) | 4 => .data (e_api_Id (({ v7.1 with Kept := v7.1.Kept } : api_Core).Conf)) (d_api_Id _) | 5 => .data (e_a8_u32 (({ v7.1 with Kept := v7.1.Kept } : api_Core).Members)) (d_a8_u32 _) | 6 => .data (e_a8_u32 (({ v7.1 with Kept := v7.1.Kept } : api_Core).Count)) (d_a8_u32 _) | 7 => .own 2 _ _ _ (.head _) rfl (fun _ => (d_api_Kept _)) | 8 => .data (e_api_Id (({ v7.1 with Kept := v7.1.Kept } : api_Core).Promise)) (d_api_Id _) | 9 => .data (e_a8_u32 (({ v7.1 with Kept := v7.1.Kept } : api_Core).Wanted)) (d_a8_u32 _) | 10 => .data (e_a8_u32 (({ v7.1 with Kept := v7.1.Kept } : api_Core).Cut)) (d_a8_u32 _) | 11 => .data (.bool (({ v7.1 with Kept := v7.1.Kept } : api_Core).Ready)) trivial | 12 => .data (e_a8_api_Peer (({ v7.1 with Kept := v7.1.Kept } : api_Core).Peers)) (d_a8_api_Peer _) | 13 => .data (.int .u32 (({ v7.1 with Kept := v7.1.Kept } : api_Core).Epoch)) trivial | _ + 14 => .data (.bool false) trivial), .data _ (d_api_Core _), trivial⟩ trivial rfl <| r_mv rfl rfl <| r_gmv rfl rfl rfl rfl rfl rfl <| r_gmv rfl rfl rfl rfl rfl rfl <| r_g [(61, _), (62, _)] [(61, _), (62, _)] [] rfl rfl m30 rfl (fun hc => ⟨(.opt _ _ hc), (.opt _ _ hc), trivial⟩) (fun hc => does_eqBool false 4 4 (.tmp 61) (.tmp 62) v7.2.1 v9.2.1 trivial trivial rfl) rfl <| r_p (does_and 60 63 v15 (v7.2.1 == v9.2.1)) m20 rfl <| r_mv rfl rfl <| r_gmv rfl rfl rfl rfl rfl rfl <| r_gmv rfl rfl rfl rfl rfl rfl <| r_gp (Step.guarded rfl rfl rfl rfl (fun hc => Does.strip (n' := [(66, (.opt (v15 && (v7.2.1 == v9.2.1)) (.own 3))), (67, (.opt (v15 && (v7.2.1 == v9.2.1)) (.own 6)))]) (n := [(66, (.own 3)), (67, (.own 6))]) ⟨(.opt _ _ hc), (.opt _ _ hc), trivial⟩ (does_call 14 0 (fun _ => .any) (.func 14) [(.tmp 66), (.tmp 67)] [(.own 3), (.own 6)] [(3, (.arr 50 v7.2.2.length fun j => (e_api_Happen (v7.2.2.getD j z_api_Happen)))), (6, (.arr 50 v9.2.2.length fun j => (e_api_Happen (v9.2.2.getD j z_api_Happen))))] true [(e_s_api_Happen v7.2.2), (e_s_api_Happen v9.2.2)] (.bool v17) _ _ rfl fo14 rfl ⟨trivial, trivial, trivial⟩ ⟨.own 3 _ _ _ (.head _) rfl (fun _ => (d_api_Happen _)), .own 6 _ _ _ (.tail _ (.head _)) rfl (fun _ => (d_api_Happen _)), trivial⟩ (congressref13_Told_spec v7.2.2 v9.2.2 _ (h18 hc)) trivial))) ⟨a3, a2, rfl⟩ rfl <| r_p (does_and 65 68 (v15 && (v7.2.1 == v9.2.1)) v17) m20 rfl <| r_mv rfl rfl <| r_gld (e_api_Core v11.1) rfl rfl rfl rfl rfl (fun _ => .same _) rfl (fun hc => trivial) rfl rfl ty35 rfl <| r_gld (e_api_Core v13.1) rfl rfl rfl rfl rfl (fun _ => .same _) rfl (fun hc => trivial) rfl rfl ty35 rfl <| r_g [(71, _), (72, _)] [(71, _), (72, _)] [] rfl rfl m30 rfl (fun hc => ⟨(.opt _ _ hc), (.opt _ _ hc), trivial⟩) (fun hc => does_call 13 0 (fun _ => .any) (.func 13) [(.tmp 71), (.tmp 72)] [(e_api_Core v11.1), (e_api_Core v13.1)] [] true [(e_api_Core v11.1), (e_api_Core v13.1)] (.bool v19) _ _ rfl fo13 rfl ⟨trivial, trivial, trivial⟩ ⟨.data _ (d_api_Core v11.1), .data _ (d_api_Core v13.1), trivial⟩ (congressref13_Is_spec v11.1 v13.1 _ (h20 hc)) trivial) rfl <| r_p (does_and 70 73 ((v15 && (v7.2.1 == v9.2.1)) && v17) v19) m20 rfl <| r_mv rfl rfl <| r_gmv rfl rfl rfl rfl rfl rfl <| r_gmv rfl rfl rfl rfl rfl rfl <| r_g [(76, _), (77, _)] [(76, _), (77, _)] [] rfl rfl m30 rfl (fun hc => ⟨(.opt _ _ hc), (.opt _ _ hc), trivial⟩) (fun hc => does_eqBool false 4 4 (.tmp 76) (.tmp 77) v11.2 v13.2 trivial trivial rfl) rfl <| r_p (does_and 75 78 (((v15 && (v7.2.1 == v9.2.1)) && v17) && v19) (v11.2 == v13.2)) m20 rfl <| r_as rfl rfl <| r_e) ?_
    refine aw_cov (cov_prune (s1 := ⟨[(4, _)], [], 11, []⟩) a1 trivial (Nat.le_refl _)) ?_
    refine aw_ret ?_
    exact fun a w hr => ⟨_, [(.bool ((((v15 && (v7.2.1 == v9.2.1)) && v17) && v19) && (v11.2 == v13.2)))], hr, ⟨⟨_, rfl, .data (.bool ((((v15 && (v7.2.1 == v9.2.1)) && v17) && v19) && (v11.2 == v13.2))) trivial⟩, trivial⟩, by decide, by cases H; rfl⟩
end Go.Proofs.Ytcocahffigbmbaa
end

section
namespace Go.Eng
def Holds (e : Env) (v : V) (cs : List Value) : Prop := cs.length = v.size ∧ AllOne cs.toArray ∧ R e v (piece v cs.toArray 0 v.size)
abbrev Env.outer (w : World) : Env := Env.bare w (fun _ => False) (fun _ => False)
structure InOk {α : Type} (P : Program) (T : TypeId) (E : α → V) (wf : α → Prop) (sz : Nat) : Prop where
  cells : P.cellsOf T = sz
  size : ∀ x, (E x).size = sz
  inn : ∀ {H : Type} (enc : TypeId × Value → H) (w : World) (spare : Nat → Bool) (held : Bool) (fuel : Nat) (cs : List Value) (y : DataW H × List MemPlace), DataW.trod enc P w 0 spare held fuel T cs = some y → (∀ n ∈ y.1.weights P T, n ≤ reachBytes) → ∃ x, wf x ∧ Holds (Env.outer w) (E x) cs
theorem InOk.int {P : Program} {T : TypeId} (k : IntKind) (ht : P.underlying T = some (.int k)) (hc : P.cellsOf T = 1) : InOk P T (fun n => V.int k n) (fun n => (Lit.int k n).wf = true) 1 := by
  refine ⟨hc, fun _ => rfl, fun enc w spare held fuel cs y h _ => ?_⟩
  obtain ⟨n, rfl, _, hw⟩ := DataW.trod_int ht h
  refine ⟨n, hw, rfl, ?_, rfl⟩
  intro c hc; simp at hc; subst hc; rfl
theorem InOk.bool {P : Program} {T : TypeId} (ht : P.underlying T = some .bool) (hc : P.cellsOf T = 1) : InOk P T (fun n => V.bool n) (fun _ => True) 1 := by
  refine ⟨hc, fun _ => rfl, fun enc w spare held fuel cs y h _ => ?_⟩
  obtain ⟨n, rfl, _⟩ := DataW.trod_bool ht h
  refine ⟨n, trivial, rfl, ?_, rfl⟩
  intro c hc; simp at hc; subst hc; rfl
theorem InOk.str {P : Program} {T : TypeId} (ht : P.underlying T = some .string) (hc : P.cellsOf T = 1) : InOk P T (fun n => V.str n) (fun s => s.size ≤ 140737488351232) 1 := by
  refine ⟨hc, fun _ => rfl, fun enc w spare held fuel cs y h hwt => ?_⟩
  obtain ⟨n, rfl, hy, hm⟩ := DataW.trod_string ht h
  have hz : n.size ≤ 140737488351232 := by
    have := hwt n.data.toList.length (by rw [hy]; simp [DataW.weights])
    have h2 : n.data.toList.length = n.size := by simp
    rw [h2] at this; exact this
  refine ⟨n, hz, rfl, ?_, rfl⟩
  intro c hc; simp at hc; subst hc; rfl
theorem Holds.part {e : Env} {v : V} {cs : List Value} {o s : Nat} (h : Holds e v ((cs.drop o).take s)) (hs : v.size = s) (hb : o + s ≤ cs.length) : R e v (piece v cs.toArray o s) := by
  obtain ⟨h1, _, h3⟩ := h
  rw [hs] at h3
  have : piece v ((cs.drop o).take s).toArray 0 s = piece v cs.toArray o s := by
    unfold piece
    split
    · congr 1
      apply Array.ext
      · simp
      · intro i hi1 hi2
        simp
    · rename_i ha
      have : s = 1 := by rw [← hs]; exact size_pos (by simpa using ha)
      subst this
      have hlt : o < cs.length := by omega
      simp only [Array.getD_eq_getD_getElem?, List.getElem?_toArray, List.getElem?_take, List.getElem?_drop, Nat.add_zero]
      simp
  rw [← this]; exact h3
theorem Holds.agg {e : Env} {L : Lay} {f : Nat → V} {cs : List Value} (hc : cs.length = L.tot) (h1 : AllOne cs.toArray) (h : ∀ j, j < L.cnt → (f j).size = L.sz j ∧ Holds e (f j) ((cs.drop (L.off j)).take (L.sz j))) : Holds e (.agg L f) cs := by
  refine ⟨hc, h1, cs.toArray, ?_, by simpa using hc, h1, fun j hj => ?_⟩
  · simp [piece, V.isAgg, V.size, ← hc]
  · exact ⟨(h j hj).1, (h j hj).2.part (h j hj).1 (by rw [hc]; exact L.fits hj)⟩
theorem choose_list {α : Type} (d : α) {p : Nat → α → Prop} : ∀ (n : Nat), (∀ i, i < n → ∃ x, p i x) → ∃ l : List α, l.length = n ∧ ∀ i, i < n → p i (l.getD i d)
  | 0, _ => ⟨[], rfl, fun i hi => absurd hi (by omega)⟩
  | n + 1, h => by
    obtain ⟨l, h1, h2⟩ := choose_list d n (fun i hi => h i (by omega))
    obtain ⟨x, hx⟩ := h n (by omega)
    refine ⟨l ++ [x], by simp [h1], fun i hi => ?_⟩
    by_cases hi2 : i < n
    · have := h2 i hi2
      simpa [List.getD_eq_getElem?_getD, List.getElem?_append_left (show i < l.length by omega)] using this
    · obtain rfl : i = n := by omega
      simpa [List.getD_eq_getElem?_getD, List.getElem?_append_right (show l.length ≤ i by omega), h1] using hx
theorem all_of_parts {cs : List Value} {n es : Nat} (hl : cs.length = n * es) (h : ∀ i, i < n → AllOne ((cs.drop (i * es)).take es).toArray) : AllOne cs.toArray := by
  intro c hc
  simp only [List.mem_toArray] at hc
  obtain ⟨k, hk, rfl⟩ := List.getElem_of_mem hc
  have hes : 0 < es := by
    rcases Nat.eq_zero_or_pos es with h0 | h0
    · subst h0; omega
    · exact h0
  have hq : k / es < n := Nat.div_lt_of_lt_mul (by rw [Nat.mul_comm]; omega)
  have hm := Nat.mod_lt k hes
  have he : k / es * es + k % es = k := by rw [Nat.mul_comm]; exact Nat.div_add_mod k es
  refine h (k / es) hq _ ?_
  simp only [List.mem_toArray]
  refine List.mem_iff_getElem?.2 ⟨k % es, ?_⟩
  rw [List.getElem?_take, if_pos hm, List.getElem?_drop, he]
  exact List.getElem?_eq_getElem hk
theorem weights_all {H : Type} {P : Program} {e : TypeId} : ∀ {ds : List (DataW H)} {d : DataW H}, d ∈ ds → ∀ n ∈ d.weights P e, n ∈ DataW.weightsAll P e ds
  | d0 :: ds, d, hd, n, hn => by
    simp only [DataW.weightsAll, List.mem_append]
    cases hd with
    | head => exact .inl hn
    | tail _ hd => exact .inr (weights_all hd n hn)
  | [], _, hd, _, _ => by cases hd
theorem InOk.arr {α : Type} {P : Program} {T e : TypeId} {n es : Nat} {E : α → V} {wf : α → Prop} (d : α) (ht : P.underlying T = some (.array n e)) (hc : P.cellsOf T = n * es) (hE : InOk P e E wf es) :
    InOk P T (fun f : Nat → α => .agg (.ar n es) fun j => E (f j)) (fun f => ∀ j, j < n → wf (f j)) (n * es) := by
  refine ⟨hc, fun _ => rfl, fun enc w spare held fuel cs y h hwt => ?_⟩
  obtain ⟨xs, m, _, hy, hl, hxs, hel⟩ := DataW.trod_array ht h
  subst hy
  rw [hc] at hl
  rw [hE.cells] at hel
  obtain ⟨l, h1, h2⟩ := choose_list d (p := fun i x => wf x ∧ Holds (Env.outer w) (E x) ((cs.drop (i * es)).take es)) n (fun i hi => by
    have := hel i hi
    rw [List.getElem?_eq_getElem (by omega)] at this
    refine hE.inn enc w spare held m _ _ this (fun n hn => hwt n ?_)
    simp only [DataW.weights, ht]
    exact weights_all (List.mem_map.2 ⟨_, List.getElem_mem _, rfl⟩) n hn)
  refine ⟨fun j => l.getD j d, fun j hj => (h2 j hj).1, Holds.agg hl (all_of_parts hl fun i hi => (h2 i hi).2.2.1) fun j hj => ⟨hE.size _, (h2 j hj).2⟩⟩
def StOk (P : Program) (T : TypeId) (l : List (Nat × Nat)) (sz : Nat) : Prop := (∃ fs, P.underlying T = some (.struct fs) ∧ fs.toList.map (fun f => (f.type, f.offset)) = l) ∧ P.cellsOf T = sz
def stB (P : Program) (T : TypeId) (l : List (Nat × Nat)) (sz : Nat) : Bool :=
  (match P.underlying T with
  | some (.struct fs) => fs.toList.map (fun f => (f.type, f.offset)) == l
  | _ => false) && P.cellsOf T == sz
theorem StOk.of {P : Program} {T : TypeId} {l : List (Nat × Nat)} {sz : Nat} (h : stB P T l sz = true) : StOk P T l sz := by
  unfold stB at h
  rw [Bool.and_eq_true] at h
  obtain ⟨h1, h2⟩ := h
  refine ⟨?_, by simpa using h2⟩
  split at h1
  · rename_i fs hf; exact ⟨fs, hf, by simpa using h1⟩
  · cases h1
theorem InOk.st {α : Type} {P : Program} {T : TypeId} {szs : List Nat} {c : α → Nat → V} {wf : α → Prop} {l : List (Nat × Nat)} (hS : StOk P T l szs.sum)
    (h : ∀ {H : Type} (enc : TypeId × Value → H) (w : World) (spare : Nat → Bool) (held : Bool) (m : Nat) (cs : List Value),
      (∀ (j t off : Nat), l[j]? = some (t, off) → ∃ y, DataW.trod enc P w 0 spare held m t ((cs.drop off).take (P.cellsOf t)) = some y ∧ ∀ n ∈ y.1.weights P t, n ≤ reachBytes) →
      ∃ x, wf x ∧ ∀ j, j < szs.length → (c x j).size = (Lay.st szs).sz j ∧ Holds (Env.outer w) (c x j) ((cs.drop ((Lay.st szs).off j)).take ((Lay.st szs).sz j))) :
    InOk P T (fun x => .agg (.st szs) (c x)) wf szs.sum := by
  obtain ⟨⟨fs, hu, hl⟩, hc⟩ := hS
  refine ⟨hc, fun _ => rfl, fun enc w spare held fuel cs y ht hwt => ?_⟩
  obtain ⟨xs, m, _, hy, hlen, hxs, hel⟩ := DataW.trod_struct hu ht
  subst hy
  rw [hc] at hlen
  obtain ⟨x, hw, hx⟩ := h enc w spare held m cs (fun j t off hj => by
    rw [← hl, List.getElem?_map] at hj
    cases hf : fs.toList[j]? with
    | none => rw [hf] at hj; cases hj
    | some f =>
      rw [hf] at hj
      simp only [Option.map_some, Option.some.injEq, Prod.mk.injEq] at hj
      obtain ⟨rfl, rfl⟩ := hj
      have hf' : fs[j]? = some f := by simpa using hf
      have hlt : j < xs.length := by rw [hxs]; exact (Array.getElem?_eq_some_iff.1 hf').1
      refine ⟨_, (hel j f hf').trans (List.getElem?_eq_getElem hlt), fun n hn => hwt n ?_⟩
      simp only [DataW.weights, hu]
      refine DataW.weights_mem_each (j := j) (t := f.type) (d := xs[j].1) ?_ ?_ n hn
      · simp [hf']
      · simp [hlt])
  refine ⟨x, hw, Holds.agg hlen ?_ hx⟩
  intro v hv
  simp only [List.mem_toArray] at hv
  obtain ⟨k, hk, rfl⟩ := List.getElem_of_mem hv
  -- the part in which a cell lies
  have key : ∀ (l : List Nat) (k : Nat), k < l.sum → ∃ j, j < l.length ∧ (l.take j).sum ≤ k ∧ k < (l.take j).sum + l.getD j 0 := by
    intro l
    induction l with
    | nil => intro k hk; simp at hk
    | cons a l ih =>
      intro k hk
      by_cases h : k < a
      · exact ⟨0, by simp, by simp, by simpa using h⟩
      · simp only [List.sum_cons] at hk
        obtain ⟨j, h1, h2, h3⟩ := ih (k - a) (by omega)
        refine ⟨j + 1, by simpa using h1, ?_, ?_⟩
        · simp only [List.take_succ_cons, List.sum_cons]; omega
        · simp only [List.take_succ_cons, List.sum_cons, List.getD_cons_succ]; omega
  obtain ⟨j, h1, h2, h3⟩ := key szs k (by omega)
  refine (hx j h1).2.2.1 _ ?_
  simp only [List.mem_toArray]
  refine List.mem_iff_getElem?.2 ⟨k - (szs.take j).sum, ?_⟩
  simp only [Lay.off, Lay.sz]
  rw [List.getElem?_take, if_pos (by omega), List.getElem?_drop, show (szs.take j).sum + (k - (szs.take j).sum) = k by omega]
  exact List.getElem?_eq_getElem hk
theorem InOk.fld {α : Type} {H : Type} {enc : TypeId × Value → H} {P : Program} {w : World} {spare : Nat → Bool} {held : Bool} {m : Nat} {cs : List Value} {l : List (Nat × Nat)}
    (h : ∀ (j t off : Nat), l[j]? = some (t, off) → ∃ y, DataW.trod enc P w 0 spare held m t ((cs.drop off).take (P.cellsOf t)) = some y ∧ ∀ n ∈ y.1.weights P t, n ≤ reachBytes) {E : α → V} {wf : α → Prop} {sz : Nat} (j : Nat) {t off : Nat} (hE : InOk P t E wf sz) (hl : l[j]? = some (t, off)) :
    ∃ x, wf x ∧ ((E x).size = sz ∧ Holds (Env.outer w) (E x) ((cs.drop off).take sz)) := by
  obtain ⟨y, hy, hwt⟩ := h j t off hl
  rw [hE.cells] at hy
  obtain ⟨x, h1, h2⟩ := hE.inn enc w spare held m _ _ hy hwt
  exact ⟨x, h1, hE.size x, h2⟩
theorem cells?_some {w : World} {a : Addr} {n : Nat} {cs : List Value} (h : w.cells? 0 a n = some cs) : cs.length = n ∧ ∀ i, i < n → w.cell? (a.add i) = cs[i]? := by
  simp only [World.cells?, Nat.zero_le, if_true] at h
  exact ⟨by simpa using mapM_some_length h, fun i hi => mapM_some_get h i i (by simp [hi])⟩
theorem cell?_some {w : World} {a : Addr} {v : Value} (h : w.cell? a = some v) : a.spot = none ∧ a.block < w.heap.size := by
  simp only [World.cell?] at h
  split at h
  · rename_i c _ _ hb
    refine ⟨?_, (Array.getElem?_eq_some_iff.1 hb).1⟩
    cases hs : a.spot with
    | none => rfl
    | some q => rw [hs] at h; simp at h
  · cases h
theorem InOk.sl {α : Type} {P : Program} {T e : TypeId} {es by_ : Nat} {E : α → V} {wf : α → Prop} (d : α) (ht : P.underlying T = some (.slice e)) (hc : P.cellsOf T = 1) (hby : P.bytesOf e = by_) (hE : InOk P e E wf es) (hes : 0 < es) :
    InOk P T (fun l : List α => .sl es l.length fun j => E (l.getD j d)) (fun l => (l.length ≤ maxLen ∧ l.length * by_ ≤ 140737488351232) ∧ ∀ j, j < l.length → wf (l.getD j d)) 1 := by
  refine ⟨hc, fun _ => rfl, fun enc w spare held fuel cs y h hwt => ?_⟩
  have one : ∀ v : Value, v.oneCell' = true → AllOne [v].toArray := by intro v hv c hc; simp at hc; subst hc; exact hv
  rcases DataW.trod_slice ht h with ⟨rfl, _⟩ | ⟨a, len, cap, elems, rest, m, _, rfl, hy, _, hl, hm, hlen, hel, _⟩
  · exact ⟨[], ⟨⟨Nat.zero_le _, by simp⟩, fun j hj => absurd hj (by simp)⟩, rfl, one _ rfl, none, 0, rfl, Nat.le_refl _, .inl rfl⟩
  · subst hy
    simp only [DataW.weights, ht] at hwt
    have hrow : (elems.length + rest.length) * by_ ≤ reachBytes := by have := hwt _ (List.mem_cons_self ..); simpa [hby] using this
    rw [hE.cells] at hel
    obtain ⟨l, h1, h2⟩ := choose_list d (p := fun i x => wf x ∧ ∃ cs, w.cells? 0 (a.add (i * es)) es = some cs ∧ Holds (Env.outer w) (E x) cs) len (fun i hi => by
      have := hel i hi
      rw [List.getElem?_eq_getElem (by omega)] at this
      cases hcs : w.cells? 0 (a.add (i * es)) es with
      | none => rw [hcs] at this; cases this
      | some cs =>
        rw [hcs] at this
        obtain ⟨x, q1, q2⟩ := hE.inn enc w spare held m _ _ this (fun n hn => hwt n (List.mem_cons_of_mem _ (List.mem_append_left _ (weights_all (List.mem_map.2 ⟨_, List.getElem_mem _, rfl⟩) n hn))))
        exact ⟨x, q1, cs, rfl, q2⟩)
    subst h1
    refine ⟨l, ⟨⟨by omega, Nat.le_trans (Nat.mul_le_mul_right _ (by omega)) (Nat.le_trans hrow (by decide))⟩, fun j hj => (h2 j hj).1⟩, rfl, one _ rfl, some a, cap, rfl, hl, ?_⟩
    by_cases h0 : l.length = 0
    · exact .inl h0
    right
    -- all the cells, in one row
    have cell : ∀ k, k < l.length * es → ∃ v, w.cell? ⟨a.block, a.off + k, none⟩ = some v := by
      intro k hk
      have hq : k / es < l.length := Nat.div_lt_of_lt_mul (by rw [Nat.mul_comm]; exact hk)
      have hmod := Nat.mod_lt k hes
      obtain ⟨_, cs, hcs, hh⟩ := h2 _ hq
      obtain ⟨q1, q2⟩ := cells?_some hcs
      have := q2 (k % es) hmod
      rw [List.getElem?_eq_getElem (by omega)] at this
      have he : k / es * es + k % es = k := by rw [Nat.mul_comm]; exact Nat.div_add_mod k es
      refine ⟨cs[k % es]'(by omega), ?_⟩
      rw [← this]
      have hsp : a.spot = none := by
        obtain ⟨_, cs0, hcs0, _⟩ := h2 0 (by omega)
        obtain ⟨p1, p2⟩ := cells?_some hcs0
        have := p2 0 hes
        rw [List.getElem?_eq_getElem (by omega)] at this
        have := (cell?_some this).1
        simpa [Addr.add] using this
      obtain ⟨b, o, sp⟩ := a
      simp only at hsp; subst hsp
      rw [Addr.add_lit, Addr.add_lit, Nat.add_assoc, he]
    have hsp : a.spot = none := by
      obtain ⟨_, cs0, hcs0, _⟩ := h2 0 (by omega)
      obtain ⟨p1, p2⟩ := cells?_some hcs0
      have := p2 0 hes
      rw [List.getElem?_eq_getElem (by omega)] at this
      have := (cell?_some this).1
      simpa [Addr.add] using this
    have hblk : a.block < w.heap.size := by
      obtain ⟨v, hv⟩ := cell 0 (Nat.mul_pos (by omega) hes)
      exact (cell?_some hv).2
    obtain ⟨cl, c1, c2⟩ := choose_list undef (p := fun k v => w.cell? ⟨a.block, a.off + k, none⟩ = some v) (l.length * es) cell
    have hpart : ∀ j, j < l.length → ∀ cs, w.cells? 0 (a.add (j * es)) es = some cs → (cl.drop (j * es)).take es = cs := by
      intro j hj cs hcs
      obtain ⟨q1, q2⟩ := cells?_some hcs
      have hb : (j + 1) * es ≤ l.length * es := Nat.mul_le_mul_right _ hj
      rw [Nat.succ_mul] at hb
      apply List.ext_getElem?
      intro i
      by_cases hi : i < es
      · rw [List.getElem?_take, if_pos hi, List.getElem?_drop, ← q2 i hi]
        have := c2 (j * es + i) (by omega)
        rw [List.getD_eq_getElem?_getD, List.getElem?_eq_getElem (by omega)] at this
        rw [List.getElem?_eq_getElem (by omega)]
        obtain ⟨b, o, sp⟩ := a
        simp only at hsp; subst hsp
        rw [Addr.add_lit, Addr.add_lit, Nat.add_assoc, this]; rfl
      · rw [List.getElem?_take, if_neg hi, List.getElem?_eq_none (by omega)]
    refine ⟨a, cl.toArray, rfl, fun h => h, fun h => h, ?_, by simpa using c1, ⟨hsp, hblk, fun i hi => ?_⟩, ?_, fun j hj => ?_⟩
    · rintro ⟨_, _, h, _⟩; cases h
    · have hi' : i < cl.length := by simpa using hi
      have q := c2 i (by omega)
      rw [List.getD_eq_getElem?_getD, List.getElem?_eq_getElem hi'] at q
      exact q.trans (by simp [hi'])
    · refine all_of_parts (n := l.length) (es := es) c1 fun i hi => ?_
      obtain ⟨_, cs, hcs, hh⟩ := h2 i hi
      rw [hpart i hi cs hcs]; exact hh.2.1
    · obtain ⟨_, cs, hcs, hh⟩ := h2 j hj
      refine ⟨hE.size _, ?_⟩
      rw [← hpart j hj cs hcs] at hh
      have hb : (j + 1) * es ≤ l.length * es := Nat.mul_le_mul_right _ hj
      rw [Nat.succ_mul] at hb
      exact hh.part (hE.size _) (by omega)
def VOk (ag : Bool) (v : Value) : Prop := match ag with
  | true => ∃ cs, v = .agg cs
  | false => v.cells = #[v]
theorem VOk.int {P : Program} {w : World} {r : Go.Reach} {b0 : Nat} {t : TypeId} {k : IntKind} {v : Value} (ht : P.underlying t = some (.int k)) (hval : Value.okWide P w r b0 t v) : VOk false v := by
  obtain ⟨n, rfl⟩ := WideShapes.okWide_int ht hval; rfl
theorem VOk.sl {P : Program} {w : World} {r : Go.Reach} {b0 : Nat} {t e : TypeId} {v : Value} (ht : P.underlying t = some (.slice e)) (hval : Value.okWide P w r b0 t v) : VOk false v := by
  obtain ⟨n, a, c, rfl⟩ := WideShapes.okWide_slice ht hval; rfl
theorem VOk.arr {P : Program} {w : World} {r : Go.Reach} {b0 : Nat} {t e : TypeId} {n : Nat} {v : Value} (ht : P.underlying t = some (.array n e)) (hval : Value.okWide P w r b0 t v) : VOk true v := by
  unfold Value.okWide at hval; rw [ht] at hval; obtain ⟨cs, rfl, _⟩ := hval; exact ⟨cs, rfl⟩
theorem VOk.st {P : Program} {w : World} {r : Go.Reach} {b0 : Nat} {t : TypeId} {l : List (Nat × Nat)} {sz : Nat} {v : Value} (ht : StOk P t l sz) (hval : Value.okWide P w r b0 t v) : VOk true v := by
  obtain ⟨⟨fs, hu, _⟩, _⟩ := ht
  unfold Value.okWide at hval; rw [hu] at hval; obtain ⟨cs, rfl, _⟩ := hval; exact ⟨cs, rfl⟩
theorem InOk.arg {α : Type} {H : Type} {enc : TypeId × Value → H} {P : Program} {T : TypeId} {E : α → V} {wf : α → Prop} {sz : Nat} (hE : InOk P T E wf sz) {ag : Bool} (ha : ∀ x, (E x).isAgg = ag) {w : World} {spare : Nat → Bool} {held : Bool} {v : Value} {d : DataW H} {ps : List MemPlace}
    (hv : VOk ag v) (h : DataW.Trod enc P w 0 spare held T v d ps) (hwt : ∀ n ∈ d.weights P T, n ≤ reachBytes) : ∃ x, wf x ∧ R (Env.outer w) (E x) v := by
  obtain ⟨fuel, h⟩ := h
  obtain ⟨x, hw, h1, _, h3⟩ := hE.inn enc w spare held fuel _ _ h hwt
  refine ⟨x, hw, ?_⟩
  have e1 : v.cells.toList.toArray = v.cells := by simp
  rw [e1] at h3
  cases ag with
  | true =>
    obtain ⟨cs, rfl⟩ := hv
    have : piece (E x) (Value.agg cs).cells 0 (E x).size = .agg cs := by
      have hs : cs.size = (E x).size := by simpa [Value.cells] using h1
      simp [piece, ha, Value.cells, ← hs]
    rw [this] at h3; exact h3
  | false =>
    have : piece (E x) v.cells 0 (E x).size = v := by
      simp only [VOk] at hv
      rw [hv]; simp [piece, ha]
    rw [this] at h3; exact h3
def AllR (e : Env) : List V → List Value → Prop
  | [], [] => True
  | v :: vs, x :: xs => R e v x ∧ AllR e vs xs
  | _, _ => False
theorem AllR.get {e : Env} : ∀ {vs : List V} {xs : List Value}, AllR e vs xs → xs.length = vs.length ∧ ∀ (i : Nat) (v : V), vs[i]? = some v → R e v (xs.getD i undef)
  | [], [], _ => ⟨rfl, fun i v h => by simp at h⟩
  | [], _ :: _, h => h.elim
  | _ :: _, [], h => h.elim
  | v :: vs, x :: xs, ⟨h1, h2⟩ => by
    obtain ⟨q1, q2⟩ := h2.get
    refine ⟨by simp [q1], fun i u hu => ?_⟩
    cases i with
    | zero => simp at hu; subst hu; simpa using h1
    | succ i => simp at hu; simpa using q2 i u hu
theorem ArgsAre.of {e : Env} {vs : List V} {xs : List Value} (h : AllR e vs xs) : ArgsAre e vs xs.toArray := by
  obtain ⟨h1, h2⟩ := h.get
  refine ⟨by simpa using h1, fun i v hv => ?_⟩
  have := h2 i v hv
  simpa [Array.getD_eq_getD_getElem?, List.getD_eq_getElem?_getD] using this
theorem FSpec.law {P : Program} {K : FuncId} {args : List V} (h : FSpec P K args (.bool true)) (w : World) (xs : Array Value) (ha : ArgsAre (Env.outer w) args xs) :
    Calls P K xs w fun e w' => e = .returned (.bool true) ∧ Go.RowKit.Below w.heap.size w w' := by
  refine (h w (fun _ => False) (fun _ => False) xs (fun b hb => by rcases hb with h | h <;> exact h.elim) ha).mono ?_
  rintro e w' ⟨x, rfl, hx, hf⟩
  have : x = .bool true := hx
  subst this
  exact ⟨rfl, hf.os, hf.tape, hf.output, hf.size, fun k hk => hf.block k hk (fun h => h)⟩
end Go.Eng
end

section
set_option linter.unusedVariables false
set_option maxRecDepth 100000
namespace Go.Proofs.Ytcocahffigbmbaa
open Go.Eng
def w_api_Beat (x : api_Beat) : Prop := ((Lit.int .u32 x.Now).wf = true) ∧ (∀ j, j < 8 → (Lit.int .u32 (x.Heard j)).wf = true) ∧ (∀ j, j < 8 → (Lit.int .u32 (x.Inc j)).wf = true)
def w_api_Id (x : api_Id) : Prop := ((Lit.int .u32 x.Epoch).wf = true) ∧ ((Lit.int .u32 x.Coord).wf = true) ∧ ((Lit.int .u32 x.Inc).wf = true)
def w_api_Entry (x : api_Entry) : Prop := ((Lit.int .i64 x.Kind).wf = true) ∧ ((Lit.int .i64 x.Service).wf = true) ∧ ((Lit.int .i64 x.Group).wf = true) ∧ ((Lit.int .u64 x.Session).wf = true) ∧ ((Lit.int .u64 x.Number).wf = true) ∧ (x.Text.size ≤ 140737488351232)
def w_api_Kept (x : api_Kept) : Prop := ((Lit.int .i64 x.From).wf = true) ∧ ((Lit.int .u32 x.Round).wf = true) ∧ (∀ j, j < 3 → ∀ j1, j1 < 2 → w_api_Entry ((x.Frame j) j1))
def w_api_Peer (x : api_Peer) : Prop := ((Lit.int .u32 x.Inc).wf = true) ∧ (w_api_Id x.Conf) ∧ (w_api_Id x.Promise) ∧ (∀ j, j < 8 → (Lit.int .u32 (x.Cut j)).wf = true) ∧ (True)
def w_api_Core (x : api_Core) : Prop := ((Lit.int .i64 x.Self).wf = true) ∧ ((Lit.int .i64 x.Wait).wf = true) ∧ ((Lit.int .u32 x.Own).wf = true) ∧ (w_api_Beat x.Beat) ∧ (w_api_Id x.Conf) ∧ (∀ j, j < 8 → (Lit.int .u32 (x.Members j)).wf = true) ∧ (∀ j, j < 8 → (Lit.int .u32 (x.Count j)).wf = true) ∧ ((x.Kept.length ≤ maxLen ∧ x.Kept.length * 352 ≤ 140737488351232) ∧ ∀ j, j < x.Kept.length → w_api_Kept (x.Kept.getD j z_api_Kept)) ∧ (w_api_Id x.Promise) ∧ (∀ j, j < 8 → (Lit.int .u32 (x.Wanted j)).wf = true) ∧ (∀ j, j < 8 → (Lit.int .u32 (x.Cut j)).wf = true) ∧ (True) ∧ (∀ j, j < 8 → w_api_Peer (x.Peers j)) ∧ ((Lit.int .u32 x.Epoch).wf = true)
theorem in3 : InOk Try.prog 3 (fun z => V.int .i64 z) (fun x => (Lit.int .i64 x).wf = true) 1 := InOk.int _ (by kernel_rfl) (by kernel_rfl)
theorem in22 : InOk Try.prog 22 (fun z => V.int .u32 z) (fun x => (Lit.int .u32 x).wf = true) 1 := InOk.int _ (by kernel_rfl) (by kernel_rfl)
theorem in23 : InOk Try.prog 23 e_a8_u32 (fun x => ∀ j, j < 8 → (Lit.int .u32 (x j)).wf = true) 8 := InOk.arr 0 (by kernel_rfl) (by kernel_rfl) in22
theorem sk25 : StOk Try.prog 25 [(22, 0), (23, 1), (23, 9)] 17 := StOk.of (by kernel_rfl)
theorem in25 : InOk Try.prog 25 e_api_Beat w_api_Beat 17 := InOk.st (szs := [1, 8, 8]) (c := c_api_Beat) (l := [(22, 0), (23, 1), (23, 9)]) sk25 fun enc w spare held m cs h => by
  obtain ⟨x0, w0, r0⟩ := InOk.fld h 0 in22 rfl
  obtain ⟨x1, w1, r1⟩ := InOk.fld h 1 in23 rfl
  obtain ⟨x2, w2, r2⟩ := InOk.fld h 2 in23 rfl
  exact ⟨⟨x0, x1, x2⟩, ⟨w0, w1, w2⟩, fun j hj => match j, hj with | 0, _ => r0 | 1, _ => r1 | 2, _ => r2 | k + 3, hj => absurd (show k + 3 < 3 from hj) (by omega)⟩
theorem sk27 : StOk Try.prog 27 [(22, 0), (22, 1), (22, 2)] 3 := StOk.of (by kernel_rfl)
theorem in27 : InOk Try.prog 27 e_api_Id w_api_Id 3 := InOk.st (szs := [1, 1, 1]) (c := c_api_Id) (l := [(22, 0), (22, 1), (22, 2)]) sk27 fun enc w spare held m cs h => by
  obtain ⟨x0, w0, r0⟩ := InOk.fld h 0 in22 rfl
  obtain ⟨x1, w1, r1⟩ := InOk.fld h 1 in22 rfl
  obtain ⟨x2, w2, r2⟩ := InOk.fld h 2 in22 rfl
  exact ⟨⟨x0, x1, x2⟩, ⟨w0, w1, w2⟩, fun j hj => match j, hj with | 0, _ => r0 | 1, _ => r1 | 2, _ => r2 | k + 3, hj => absurd (show k + 3 < 3 from hj) (by omega)⟩
theorem in28 : InOk Try.prog 28 e_a8_u32 (fun x => ∀ j, j < 8 → (Lit.int .u32 (x j)).wf = true) 8 := InOk.arr 0 (by kernel_rfl) (by kernel_rfl) in22
theorem in29 : InOk Try.prog 29 e_a8_u32 (fun x => ∀ j, j < 8 → (Lit.int .u32 (x j)).wf = true) 8 := InOk.arr 0 (by kernel_rfl) (by kernel_rfl) in22
theorem in36 : InOk Try.prog 36 (fun z => V.int .u64 z) (fun x => (Lit.int .u64 x).wf = true) 1 := InOk.int _ (by kernel_rfl) (by kernel_rfl)
theorem in9 : InOk Try.prog 9 (fun z => V.str z) (fun x => x.size ≤ 140737488351232) 1 := InOk.str (by kernel_rfl) (by kernel_rfl)
theorem sk38 : StOk Try.prog 38 [(3, 0), (3, 1), (3, 2), (36, 3), (36, 4), (9, 5)] 6 := StOk.of (by kernel_rfl)
theorem in38 : InOk Try.prog 38 e_api_Entry w_api_Entry 6 := InOk.st (szs := [1, 1, 1, 1, 1, 1]) (c := c_api_Entry) (l := [(3, 0), (3, 1), (3, 2), (36, 3), (36, 4), (9, 5)]) sk38 fun enc w spare held m cs h => by
  obtain ⟨x0, w0, r0⟩ := InOk.fld h 0 in3 rfl
  obtain ⟨x1, w1, r1⟩ := InOk.fld h 1 in3 rfl
  obtain ⟨x2, w2, r2⟩ := InOk.fld h 2 in3 rfl
  obtain ⟨x3, w3, r3⟩ := InOk.fld h 3 in36 rfl
  obtain ⟨x4, w4, r4⟩ := InOk.fld h 4 in36 rfl
  obtain ⟨x5, w5, r5⟩ := InOk.fld h 5 in9 rfl
  exact ⟨⟨x0, x1, x2, x3, x4, x5⟩, ⟨w0, w1, w2, w3, w4, w5⟩, fun j hj => match j, hj with | 0, _ => r0 | 1, _ => r1 | 2, _ => r2 | 3, _ => r3 | 4, _ => r4 | 5, _ => r5 | k + 6, hj => absurd (show k + 6 < 6 from hj) (by omega)⟩
theorem in39 : InOk Try.prog 39 e_a2_api_Entry (fun x => ∀ j, j < 2 → w_api_Entry (x j)) 12 := InOk.arr z_api_Entry (by kernel_rfl) (by kernel_rfl) in38
theorem in41 : InOk Try.prog 41 e_a3_a2_api_Entry (fun x => ∀ j, j < 3 → ∀ j1, j1 < 2 → w_api_Entry ((x j) j1)) 36 := InOk.arr (fun _ => z_api_Entry) (by kernel_rfl) (by kernel_rfl) in39
theorem sk64 : StOk Try.prog 64 [(3, 0), (22, 1), (41, 2)] 38 := StOk.of (by kernel_rfl)
theorem in64 : InOk Try.prog 64 e_api_Kept w_api_Kept 38 := InOk.st (szs := [1, 1, 36]) (c := c_api_Kept) (l := [(3, 0), (22, 1), (41, 2)]) sk64 fun enc w spare held m cs h => by
  obtain ⟨x0, w0, r0⟩ := InOk.fld h 0 in3 rfl
  obtain ⟨x1, w1, r1⟩ := InOk.fld h 1 in22 rfl
  obtain ⟨x2, w2, r2⟩ := InOk.fld h 2 in41 rfl
  exact ⟨⟨x0, x1, x2⟩, ⟨w0, w1, w2⟩, fun j hj => match j, hj with | 0, _ => r0 | 1, _ => r1 | 2, _ => r2 | k + 3, hj => absurd (show k + 3 < 3 from hj) (by omega)⟩
theorem in30 : InOk Try.prog 30 e_s_api_Kept (fun x => (x.length ≤ maxLen ∧ x.length * 352 ≤ 140737488351232) ∧ ∀ j, j < x.length → w_api_Kept (x.getD j z_api_Kept)) 1 := InOk.sl z_api_Kept (by kernel_rfl) (by kernel_rfl) (by kernel_rfl) in64 (by decide)
theorem in4 : InOk Try.prog 4 (fun z => V.bool z) (fun x => True) 1 := InOk.bool (by kernel_rfl) (by kernel_rfl)
theorem sk32 : StOk Try.prog 32 [(22, 0), (27, 1), (27, 4), (29, 7), (4, 15)] 16 := StOk.of (by kernel_rfl)
theorem in32 : InOk Try.prog 32 e_api_Peer w_api_Peer 16 := InOk.st (szs := [1, 3, 3, 8, 1]) (c := c_api_Peer) (l := [(22, 0), (27, 1), (27, 4), (29, 7), (4, 15)]) sk32 fun enc w spare held m cs h => by
  obtain ⟨x0, w0, r0⟩ := InOk.fld h 0 in22 rfl
  obtain ⟨x1, w1, r1⟩ := InOk.fld h 1 in27 rfl
  obtain ⟨x2, w2, r2⟩ := InOk.fld h 2 in27 rfl
  obtain ⟨x3, w3, r3⟩ := InOk.fld h 3 in29 rfl
  obtain ⟨x4, w4, r4⟩ := InOk.fld h 4 in4 rfl
  exact ⟨⟨x0, x1, x2, x3, x4⟩, ⟨w0, w1, w2, w3, w4⟩, fun j hj => match j, hj with | 0, _ => r0 | 1, _ => r1 | 2, _ => r2 | 3, _ => r3 | 4, _ => r4 | k + 5, hj => absurd (show k + 5 < 5 from hj) (by omega)⟩
theorem in33 : InOk Try.prog 33 e_a8_api_Peer (fun x => ∀ j, j < 8 → w_api_Peer (x j)) 128 := InOk.arr z_api_Peer (by kernel_rfl) (by kernel_rfl) in32
theorem sk35 : StOk Try.prog 35 [(3, 0), (3, 1), (22, 2), (25, 3), (27, 20), (28, 23), (29, 31), (30, 39), (27, 40), (28, 43), (29, 51), (4, 59), (33, 60), (22, 188)] 189 := StOk.of (by kernel_rfl)
theorem in35 : InOk Try.prog 35 e_api_Core w_api_Core 189 := InOk.st (szs := [1, 1, 1, 17, 3, 8, 8, 1, 3, 8, 8, 1, 128, 1]) (c := c_api_Core) (l := [(3, 0), (3, 1), (22, 2), (25, 3), (27, 20), (28, 23), (29, 31), (30, 39), (27, 40), (28, 43), (29, 51), (4, 59), (33, 60), (22, 188)]) sk35 fun enc w spare held m cs h => by
  obtain ⟨x0, w0, r0⟩ := InOk.fld h 0 in3 rfl
  obtain ⟨x1, w1, r1⟩ := InOk.fld h 1 in3 rfl
  obtain ⟨x2, w2, r2⟩ := InOk.fld h 2 in22 rfl
  obtain ⟨x3, w3, r3⟩ := InOk.fld h 3 in25 rfl
  obtain ⟨x4, w4, r4⟩ := InOk.fld h 4 in27 rfl
  obtain ⟨x5, w5, r5⟩ := InOk.fld h 5 in28 rfl
  obtain ⟨x6, w6, r6⟩ := InOk.fld h 6 in29 rfl
  obtain ⟨x7, w7, r7⟩ := InOk.fld h 7 in30 rfl
  obtain ⟨x8, w8, r8⟩ := InOk.fld h 8 in27 rfl
  obtain ⟨x9, w9, r9⟩ := InOk.fld h 9 in28 rfl
  obtain ⟨x10, w10, r10⟩ := InOk.fld h 10 in29 rfl
  obtain ⟨x11, w11, r11⟩ := InOk.fld h 11 in4 rfl
  obtain ⟨x12, w12, r12⟩ := InOk.fld h 12 in33 rfl
  obtain ⟨x13, w13, r13⟩ := InOk.fld h 13 in22 rfl
  exact ⟨⟨x0, x1, x2, x3, x4, x5, x6, x7, x8, x9, x10, x11, x12, x13⟩, ⟨w0, w1, w2, w3, w4, w5, w6, w7, w8, w9, w10, w11, w12, w13⟩, fun j hj => match j, hj with | 0, _ => r0 | 1, _ => r1 | 2, _ => r2 | 3, _ => r3 | 4, _ => r4 | 5, _ => r5 | 6, _ => r6 | 7, _ => r7 | 8, _ => r8 | 9, _ => r9 | 10, _ => r10 | 11, _ => r11 | 12, _ => r12 | 13, _ => r13 | k + 14, hj => absurd (show k + 14 < 14 from hj) (by omega)⟩
def w_api_Packet (x : api_Packet) : Prop := ((Lit.int .u32 x.From).wf = true) ∧ ((Lit.int .u32 x.Inc).wf = true) ∧ (w_api_Id x.Conf) ∧ (∀ j, j < 8 → (Lit.int .u32 (x.Members j)).wf = true) ∧ (∀ j, j < 8 → (Lit.int .u32 (x.Count j)).wf = true) ∧ (w_api_Id x.Promise) ∧ (∀ j, j < 8 → (Lit.int .u32 (x.Wanted j)).wf = true) ∧ (True) ∧ ((Lit.int .u32 x.Epoch).wf = true) ∧ ((Lit.int .u32 x.Round).wf = true) ∧ (∀ j, j < 3 → ∀ j1, j1 < 2 → w_api_Entry ((x.Newest j) j1)) ∧ (∀ j, j < 3 → ∀ j1, j1 < 2 → w_api_Entry ((x.Older j) j1)) ∧ ((Lit.int .u32 x.RelayOf).wf = true) ∧ ((Lit.int .u32 x.RelayRound).wf = true) ∧ (∀ j, j < 3 → ∀ j1, j1 < 2 → w_api_Entry ((x.Relay j) j1))
theorem sk50 : StOk Try.prog 50 [(22, 0), (22, 1), (27, 2), (28, 5), (29, 13), (27, 21), (28, 24), (4, 32), (22, 33), (22, 34), (41, 35), (41, 71), (22, 107), (22, 108), (41, 109)] 145 := StOk.of (by kernel_rfl)
theorem in50 : InOk Try.prog 50 e_api_Packet w_api_Packet 145 := InOk.st (szs := [1, 1, 3, 8, 8, 3, 8, 1, 1, 1, 36, 36, 1, 1, 36]) (c := c_api_Packet) (l := [(22, 0), (22, 1), (27, 2), (28, 5), (29, 13), (27, 21), (28, 24), (4, 32), (22, 33), (22, 34), (41, 35), (41, 71), (22, 107), (22, 108), (41, 109)]) sk50 fun enc w spare held m cs h => by
  obtain ⟨x0, w0, r0⟩ := InOk.fld h 0 in22 rfl
  obtain ⟨x1, w1, r1⟩ := InOk.fld h 1 in22 rfl
  obtain ⟨x2, w2, r2⟩ := InOk.fld h 2 in27 rfl
  obtain ⟨x3, w3, r3⟩ := InOk.fld h 3 in28 rfl
  obtain ⟨x4, w4, r4⟩ := InOk.fld h 4 in29 rfl
  obtain ⟨x5, w5, r5⟩ := InOk.fld h 5 in27 rfl
  obtain ⟨x6, w6, r6⟩ := InOk.fld h 6 in28 rfl
  obtain ⟨x7, w7, r7⟩ := InOk.fld h 7 in4 rfl
  obtain ⟨x8, w8, r8⟩ := InOk.fld h 8 in22 rfl
  obtain ⟨x9, w9, r9⟩ := InOk.fld h 9 in22 rfl
  obtain ⟨x10, w10, r10⟩ := InOk.fld h 10 in41 rfl
  obtain ⟨x11, w11, r11⟩ := InOk.fld h 11 in41 rfl
  obtain ⟨x12, w12, r12⟩ := InOk.fld h 12 in22 rfl
  obtain ⟨x13, w13, r13⟩ := InOk.fld h 13 in22 rfl
  obtain ⟨x14, w14, r14⟩ := InOk.fld h 14 in41 rfl
  exact ⟨⟨x0, x1, x2, x3, x4, x5, x6, x7, x8, x9, x10, x11, x12, x13, x14⟩, ⟨w0, w1, w2, w3, w4, w5, w6, w7, w8, w9, w10, w11, w12, w13, w14⟩, fun j hj => match j, hj with | 0, _ => r0 | 1, _ => r1 | 2, _ => r2 | 3, _ => r3 | 4, _ => r4 | 5, _ => r5 | 6, _ => r6 | 7, _ => r7 | 8, _ => r8 | 9, _ => r9 | 10, _ => r10 | 11, _ => r11 | 12, _ => r12 | 13, _ => r13 | 14, _ => r14 | k + 15, hj => absurd (show k + 15 < 15 from hj) (by omega)⟩
end Go.Proofs.Ytcocahffigbmbaa
end

section
namespace Go.Eng
theorem loop_seq {σ ω : Type} {body : σ → Option (Stp σ ω)} (F : Nat → σ) (N : Nat) {w : ω} {s0 : σ} (h0 : s0 = F 0) (h : ∀ n, n < N → body (F n) = some (.next (F (n + 1)))) (hN : body (F N) = some (.done w)) : loop body s0 = some w := by
  subst h0
  have key : ∀ m n, n + m = N → Runs body m (F n) w := by
    intro m
    induction m with
    | zero => intro n hn; obtain rfl : n = N := by omega
              exact .done _ _ hN
    | succ m ih => intro n hn; exact .next _ _ _ _ (h n (by omega)) (ih (n + 1) (by omega))
  exact loop_iff.2 ⟨N, key N 0 (by omega)⟩
theorem loop_inv {σ ω : Type} {body : σ → Option (Stp σ ω)} (I : σ → Prop) (μ : σ → Nat) (Post : ω → Prop) {s0 : σ} (h0 : I s0)
    (step : ∀ s, I s → (∃ s', body s = some (.next s') ∧ I s' ∧ μ s' < μ s) ∨ (∃ w, body s = some (.done w) ∧ Post w)) : ∃ w, loop body s0 = some w ∧ Post w := by
  have key : ∀ n s, μ s = n → I s → ∃ w, (∃ m, Runs body m s w) ∧ Post w := by
    intro n
    induction n using Nat.strongRecOn with
    | _ n ih =>
      intro s hn hs
      rcases step s hs with ⟨s', h1, h2, h3⟩ | ⟨w, h1, h2⟩
      · obtain ⟨w, ⟨m, hm⟩, hp⟩ := ih (μ s') (hn ▸ h3) s' rfl h2
        exact ⟨w, ⟨m + 1, .next _ _ _ _ h1 hm⟩, hp⟩
      · exact ⟨w, ⟨0, .done _ _ h1⟩, h2⟩
  obtain ⟨w, hr, hp⟩ := key _ s0 rfl h0
  exact ⟨w, loop_iff.2 hr, hp⟩
theorem loop_count {σ ω : Type} {body : σ → Option (Stp σ ω)} (I : Nat → σ → Prop) (Post : ω → Prop) (N : Nat) {s0 : σ} (h0 : I 0 s0)
    (step : ∀ n s, n < N → I n s → (∃ s', body s = some (.next s') ∧ I (n + 1) s') ∨ (∃ w, body s = some (.done w) ∧ Post w)) (last : ∀ s, I N s → ∃ w, body s = some (.done w) ∧ Post w) : ∃ w, loop body s0 = some w ∧ Post w := by
  have key : ∀ m n s, n + m = N → I n s → ∃ w, (∃ m, Runs body m s w) ∧ Post w := by
    intro m
    induction m with
    | zero =>
      intro n s hn hs
      obtain rfl : n = N := by omega
      obtain ⟨w, h1, h2⟩ := last s hs
      exact ⟨w, ⟨0, .done _ _ h1⟩, h2⟩
    | succ m ih =>
      intro n s hn hs
      rcases step n s (by omega) hs with ⟨s', h1, h2⟩ | ⟨w, h1, h2⟩
      · obtain ⟨w, ⟨k, hk⟩, hp⟩ := ih (n + 1) s' (by omega) h2
        exact ⟨w, ⟨k + 1, .next _ _ _ _ h1 hk⟩, hp⟩
      · exact ⟨w, ⟨0, .done _ _ h1⟩, h2⟩
  obtain ⟨w, hr, hp⟩ := key N 0 s0 (by omega) h0
  exact ⟨w, loop_iff.2 hr, hp⟩
theorem loop_nx {σ ω : Type} {body : σ → Option (Stp σ ω)} {s s' : σ} (h : body s = some (.next s')) : loop body s = loop body s' := by rw [loop_eq, h]
theorem loop_dn {σ ω : Type} {body : σ → Option (Stp σ ω)} {s : σ} {w : ω} (h : body s = some (.done w)) : loop body s = some w := by rw [loop_eq, h]
theorem w64 {n : Int} (h1 : -9223372036854775808 ≤ n) (h2 : n ≤ 9223372036854775807) : IntKind.i64.wrap n = n := by
  simp [IntKind.wrap, IntKind.bits, IntKind.signed]
  split <;> omega
theorem w32 (n : Int) : IntKind.u32.wrap n = n % 4294967296 := by
  simp [IntKind.wrap, IntKind.bits, IntKind.signed]
theorem wu64 (n : Int) : IntKind.u64.wrap n = n % 18446744073709551616 := by
  simp [IntKind.wrap, IntKind.bits, IntKind.signed]
theorem wf_u32 {n : Int} : (Lit.int .u32 n).wf = true ↔ 0 ≤ n ∧ n ≤ 4294967295 := by
  simp [Lit.wf, IntKind.min, IntKind.max, IntKind.signed, IntKind.bits]
theorem ib_t {i : Int} {n : Nat} (h0 : 0 ≤ i) (h1 : i < n) : ib i n = some () := by simp [ib, h0, h1]
theorem ib_n {i n : Nat} (h1 : i < n) : ib (i : Int) n = some () := by simp [ib, h1]
theorem ibg_t {g : Bool} {i : Int} {n : Nat} (h : g = true → 0 ≤ i ∧ i < n) : ibg g i n = some () := by simp only [ibg, if_pos h]
theorem nz_t {i : Int} (h : i ≠ 0) : nz i = some () := by simp [nz, h]
theorem scan {body : Int → Option (Stp Int (Fl Bool Unit))} (P : Nat → Bool) (N : Nat) (h : ∀ n, n < N → body (n : Int) = if P n = true then some (.done (.rt false)) else some (.next ((n + 1 : Nat) : Int))) (hl : body (N : Int) = some (.done (.nx ()))) :
    loop body 0 = some (if ((List.range N).all fun j => !P j) = true then .nx () else .rt false) := by
  obtain ⟨w, hw, hp⟩ := loop_count (body := body) (fun n s => s = (n : Int) ∧ ∀ j, j < n → P j = false) (fun w => w = (if ((List.range N).all fun j => !P j) = true then .nx () else .rt false)) N (s0 := 0) ⟨rfl, fun j hj => absurd hj (by omega)⟩
    (fun n s hn hs => by
      obtain ⟨rfl, hs⟩ := hs
      by_cases hP : P n = true
      · right
        refine ⟨.rt false, by rw [h n hn, if_pos hP], ?_⟩
        rw [if_neg]
        intro hall
        have := List.all_eq_true.1 hall n (List.mem_range.2 hn)
        simp [hP] at this
      · left
        refine ⟨_, by rw [h n hn, if_neg hP], rfl, fun j hj => ?_⟩
        by_cases hjn : j = n
        · subst hjn; simpa using hP
        · exact hs j (by omega))
    (fun s hs => by
      obtain ⟨rfl, hs⟩ := hs
      refine ⟨.nx (), hl, ?_⟩
      rw [if_pos]
      rw [List.all_eq_true]
      intro j hj
      rw [hs j (List.mem_range.1 hj)]; rfl)
  rw [hw, hp]
theorem seek {ρ : Type} {body : Int → Option (Stp Int (Fl ρ Unit))} (l : _root_.List Int) (P : Int → Bool) (g : Int → ρ)
    (h : ∀ n, n < l.length → body (n : Int) = if P (l.getD n 0) = true then some (.done (.rt (g (l.getD n 0)))) else some (.next ((n + 1 : Nat) : Int))) (hl : body ((l.length : Nat) : Int) = some (.done (.nx ()))) :
    loop body 0 = some (match l.find? P with | some x => .rt (g x) | none => .nx ()) := by
  obtain ⟨w, hw, hp⟩ := loop_count (body := body) (fun n s => s = (n : Int) ∧ l.find? P = (l.drop n).find? P) (fun w => w = (match l.find? P with | some x => .rt (g x) | none => .nx ())) l.length (s0 := 0) ⟨rfl, rfl⟩
    (fun n s hn hs => by
      obtain ⟨rfl, hs⟩ := hs
      have hd : l.drop n = l.getD n 0 :: l.drop (n + 1) := by
        rw [List.getD_eq_getElem?_getD, List.getElem?_eq_getElem hn]; exact List.drop_eq_getElem_cons hn
      by_cases hP : P (l.getD n 0) = true
      · right
        refine ⟨.rt (g (l.getD n 0)), by rw [h n hn, if_pos hP], ?_⟩
        rw [hs, hd, List.find?_cons_of_pos hP]
      · left
        refine ⟨_, by rw [h n hn, if_neg hP], rfl, ?_⟩
        rw [hs, hd, List.find?_cons_of_neg hP])
    (fun s hs => by
      obtain ⟨rfl, hs⟩ := hs
      refine ⟨.nx (), hl, ?_⟩
      rw [hs, List.drop_length]; rfl)
  rw [hw, hp]
theorem getD_in {α : Type} {l : _root_.List α} {d : α} {k : Nat} (h : k < l.length) : l.getD k d ∈ l := by
  rw [List.getD_eq_getElem?_getD, List.getElem?_eq_getElem h]; exact List.getElem_mem h
theorem take_s {α : Type} {l : _root_.List α} {d : α} {n : Nat} (hn : n < l.length) : l.take (n + 1) = l.take n ++ [l.getD n d] := by
  rw [List.take_add_one, List.getD_eq_getElem?_getD, List.getElem?_eq_getElem hn]; rfl
theorem elim_all (l : _root_.List Int) (P : Int → Bool) : (match l.find? P with | some _ => (Fl.rt false : Fl Bool Unit) | none => .nx ()).elim (fun _ => some true) (fun r => some r) = some (l.all fun x => !P x) := by
  induction l with
  | nil => rfl
  | cons a l ih =>
    by_cases hP : P a = true
    · rw [List.find?_cons_of_pos hP]; simp [hP, Fl.elim]
    · rw [List.find?_cons_of_neg hP, ih]; simp only [Bool.not_eq_true] at hP; simp [hP]
end Go.Eng
end

section
namespace Go.Eng
def fidx {α : Type} (l : _root_.List α) (d : α) (P : α → Bool) : Int :=
  match (List.range l.length).find? (fun i => P (l.getD i d)) with
  | some i => i
  | none => -1
theorem loop_find {ρ : Type} {body : Int → Option (Stp Int (Fl ρ Unit))} (N : Nat) (P : Nat → Bool) (g : Nat → ρ) (h : ∀ n, n < N → body (n : Int) = if P n = true then some (.done (.rt (g n))) else some (.next ((n + 1 : Nat) : Int)))
    (hl : body (N : Int) = some (.done (.nx ()))) : loop body 0 = some (match (List.range N).find? P with | some i => .rt (g i) | none => .nx ()) := by
  obtain ⟨w, hw, hp⟩ := loop_count (body := body) (fun n s => s = (n : Int) ∧ ∀ j, j < n → P j = false) (fun w => w = (match (List.range N).find? P with | some i => .rt (g i) | none => .nx ())) N (s0 := 0) ⟨rfl, fun j hj => absurd hj (by omega)⟩
    (fun n s hn hs => by
      obtain ⟨rfl, hs⟩ := hs
      by_cases hP : P n = true
      · right
        refine ⟨.rt (g n), by rw [h n hn, if_pos hP], ?_⟩
        have : (List.range N).find? P = some n := by
          rw [List.find?_range_eq_some]
          exact ⟨hP, by simpa using hn, fun j hj => by simp [hs j hj]⟩
        rw [this]
      · left
        refine ⟨_, by rw [h n hn, if_neg hP], rfl, fun j hj => ?_⟩
        by_cases hjn : j = n
        · subst hjn; simpa using hP
        · exact hs j (by omega))
    (fun s hs => by
      obtain ⟨rfl, hs⟩ := hs
      refine ⟨.nx (), hl, ?_⟩
      have : (List.range N).find? P = none := by
        rw [List.find?_eq_none]
        intro j hj
        rw [hs j (List.mem_range.1 hj)]; simp
      rw [this])
  rw [hw, hp]
theorem fidx_spec {α : Type} (l : _root_.List α) (d : α) (P : α → Bool) : (fidx l d P = -1 ∧ l.find? P = none ∧ ∀ i, i < l.length → P (l.getD i d) = false) ∨
    ∃ i : Nat, i < l.length ∧ fidx l d P = i ∧ P (l.getD i d) = true ∧ l.find? P = some (l.getD i d) ∧ ∀ j, j < i → P (l.getD j d) = false := by
  unfold fidx
  cases h : (List.range l.length).find? (fun i => P (l.getD i d)) with
  | none =>
    left
    rw [List.find?_eq_none] at h
    have h' : ∀ i, i < l.length → P (l.getD i d) = false := fun i hi => by have := h i (List.mem_range.2 hi); simpa using this
    refine ⟨rfl, ?_, h'⟩
    rw [List.find?_eq_none]
    intro x hx
    obtain ⟨i, hi, rfl⟩ := List.getElem_of_mem hx
    have := h' i hi
    rw [List.getD_eq_getElem?_getD, List.getElem?_eq_getElem hi] at this
    simpa using this
  | some i =>
    right
    rw [List.find?_range_eq_some] at h
    obtain ⟨h1, h2, h3⟩ := h
    have hlt : i < l.length := by simpa using h2
    have h3' : ∀ j, j < i → P (l.getD j d) = false := fun j hj => by have := h3 j hj; simpa using this
    refine ⟨i, hlt, rfl, h1, ?_, h3'⟩
    rw [List.find?_eq_some_iff_getElem]
    rw [List.getD_eq_getElem?_getD, List.getElem?_eq_getElem hlt] at h1 ⊢
    refine ⟨h1, i, hlt, rfl, fun j hj => ?_⟩
    have := h3' j hj
    rw [List.getD_eq_getElem?_getD, List.getElem?_eq_getElem (by omega)] at this
    simp at this; simp [this]
noncomputable def idxG {α : Type} (d : α) (p0 : _root_.List α) (p1 : α → Option Bool) : Option Int :=
  (loop (ω := Fl (Int) (Unit)) (fun (x1 : Int) =>
    if (decide (x1 < (p0.length : Int))) then
      (ib x1 p0.length).bind fun _ =>
      (p1 (p0.getD x1.toNat d)).bind fun v4 =>
      if v4 then
        some (.done (.rt x1))
      else
        some (.next ((IntKind.i64.wrap (x1 + 1))))
    else
      some (.done (.nx ()))) (0)).bind fun wn2 => Fl.elim wn2 (fun _ =>
    some (-1)) (fun r => some r)
theorem maxLen_le : maxLen ≤ 9223372036854775807 := by decide
theorem idxG_eq {α : Type} (d : α) (l : _root_.List α) (f : α → Option Bool) (P : α → Bool) (hf : ∀ x, f x = some (P x)) (hl : l.length ≤ maxLen) : idxG d l f = some (fidx l d P) := by
  have hm := maxLen_le
  unfold idxG
  rw [loop_find l.length (fun i => P (l.getD i d)) (fun i => (i : Int))]
  · unfold fidx
    cases (List.range l.length).find? (fun i => P (l.getD i d)) <;> rfl
  · intro n hn
    rw [if_pos (by simp; omega), ib_n hn]
    simp only [Option.bind_some, hf, Int.toNat_natCast]
    split
    · rfl
    · rw [w64 (by omega) (by omega)]; rfl
  · rw [if_neg (by simp)]
noncomputable def cloneG {α : Type} (by_ : Nat) (p0 : _root_.List α) : Option (_root_.List α) :=
  nilq p0.length (
    some ([] : _root_.List α)) (
    (fit (([] : _root_.List α) ++ p0).length by_).bind fun _ =>
    some (([] : _root_.List α) ++ p0))
theorem fit_t {n b : Nat} (h1 : n ≤ maxLen) (h2 : n * b ≤ 140737488355328) : fit n b = some () := by simp only [fit, if_pos (And.intro h1 h2)]
theorem cloneG_eq {α : Type} {by_ : Nat} {l : _root_.List α} (h1 : l.length ≤ maxLen) (h2 : l.length * by_ ≤ 140737488355328) : cloneG by_ l = some l := by
  unfold cloneG
  refine nilq_t (fun h => ?_) ?_
  · rw [List.length_eq_zero_iff.1 h]
  · simp only [List.nil_append]
    rw [fit_t h1 h2]; rfl
noncomputable def delG {α : Type} (d : α) (p0 : _root_.List α) (p1 : α → Option Bool) : Option (_root_.List α) :=
  (idxG d p0 p1).bind fun v1 =>
  if (v1 == (-1)) then
    some p0
  else
    (loop (ω := Fl ((_root_.List α)) (Int × _root_.List α)) (fun (x3 : Int × Int × _root_.List α) =>
      if (decide (x3.2.1 < (x3.2.2.length : Int))) then
        jn (fun x10 : Int × _root_.List α =>
          some (.next (x10.1, (IntKind.i64.wrap (x3.2.1 + 1)), x10.2))) fun j5 =>
        (ib x3.2.1 x3.2.2.length).bind fun _ =>
        (p1 (x3.2.2.getD x3.2.1.toNat d)).bind fun v7 =>
        if (!v7) then
          (ib x3.1 x3.2.2.length).bind fun _ =>
          j5 ((IntKind.i64.wrap (x3.1 + 1)), x3.2.2.set x3.1.toNat (x3.2.2.getD x3.2.1.toNat d))
        else
          j5 (x3.1, x3.2.2)
      else
        some (.done (.nx (x3.1, x3.2.2)))) (v1, (IntKind.i64.wrap (v1 + 1)), p0)).bind fun wn4 => Fl.elim wn4 (fun y11 =>
      (sb y11.1 (y11.2.length : Int) y11.2.length).bind fun _ =>
      (inb (y11.1.toNat + (y11.2.length - y11.1.toNat)) y11.2.length).bind fun _ =>
      (sb 0 y11.1 ((clr y11.2 d y11.1.toNat (y11.2.length - y11.1.toNat)).length)).bind fun _ =>
      (inb (y11.1.toNat - 0) (clr y11.2 d y11.1.toNat (y11.2.length - y11.1.toNat)).length).bind fun _ =>
      some ((clr y11.2 d y11.1.toNat (y11.2.length - y11.1.toNat)).take (y11.1.toNat - 0))) (fun r => some r)
theorem getD_set {α : Type} (l : _root_.List α) (i j : Nat) (v d : α) : (l.set i v).getD j d = if i = j ∧ i < l.length then v else l.getD j d := by
  simp only [List.getD_eq_getElem?_getD, List.getElem?_set]
  by_cases h : i = j
  · subst h
    by_cases h2 : i < l.length
    · simp [h2]
    · simp [h2]
  · simp [h]
theorem take_ext {α : Type} {l m : _root_.List α} {d : α} {n : Nat} (h1 : n ≤ l.length) (h2 : n ≤ m.length) (h : ∀ j, j < n → l.getD j d = m.getD j d) : l.take n = m.take n := by
  apply List.ext_getElem
  · simp; omega
  · intro i q1 q2
    simp only [List.length_take] at q1
    simp only [List.getElem_take]
    have := h i (by omega)
    rw [List.getD_eq_getElem?_getD, List.getD_eq_getElem?_getD, List.getElem?_eq_getElem (by omega), List.getElem?_eq_getElem (by omega)] at this
    simpa using this
theorem delG_eq {α : Type} (d : α) (l : _root_.List α) (f : α → Option Bool) (P : α → Bool) (hf : ∀ x, f x = some (P x)) (hl : l.length ≤ maxLen) : delG d l f = some (l.filter fun x => !P x) := by
  have hm := maxLen_le
  unfold delG
  rw [idxG_eq d l f P hf hl]
  simp only [Option.bind_some]
  rcases fidx_spec l d P with ⟨h1, _, h3⟩ | ⟨i0, h1, h2, h3, _, h4⟩
  · rw [h1]
    simp only [beq_self_eq_true, if_true]
    congr 1
    symm
    rw [List.filter_eq_self]
    intro x hx
    obtain ⟨i, hi, rfl⟩ := List.getElem_of_mem hx
    have := h3 i hi
    rw [List.getD_eq_getElem?_getD, List.getElem?_eq_getElem hi] at this
    simp at this; simp [this]
  · rw [h2, if_neg (by simp only [beq_iff_eq]; omega)]
    obtain ⟨w, hw, c, i, hwi, hci, hcl, hct⟩ := loop_inv (σ := Int × Int × _root_.List α) (ω := Fl (_root_.List α) (Int × _root_.List α)) (body := fun (x3 : Int × Int × _root_.List α) =>
      if (decide (x3.2.1 < (x3.2.2.length : Int))) then
        jn (fun x10 : Int × _root_.List α =>
          some (.next (x10.1, (IntKind.i64.wrap (x3.2.1 + 1)), x10.2))) fun j5 =>
        (ib x3.2.1 x3.2.2.length).bind fun _ =>
        (f (x3.2.2.getD x3.2.1.toNat d)).bind fun v7 =>
        if (!v7) then
          (ib x3.1 x3.2.2.length).bind fun _ =>
          j5 ((IntKind.i64.wrap (x3.1 + 1)), x3.2.2.set x3.1.toNat (x3.2.2.getD x3.2.1.toNat d))
        else
          j5 (x3.1, x3.2.2)
      else
        some (.done (.nx (x3.1, x3.2.2))))
      (fun s => ∃ i j : Nat, s.1 = i ∧ s.2.1 = j ∧ i < j ∧ j ≤ l.length ∧ s.2.2.length = l.length ∧ s.2.2.take i = (l.take j).filter (fun x => !P x) ∧ ∀ k, j ≤ k → s.2.2.getD k d = l.getD k d)
      (fun s => (l.length - s.2.1).toNat) (fun w => ∃ (c : _root_.List α) (i : Nat), w = .nx ((i : Int), c) ∧ i ≤ l.length ∧ c.length = l.length ∧ c.take i = l.filter (fun x => !P x)) (s0 := ((i0 : Int), IntKind.i64.wrap ((i0 : Int) + 1), l))
      ⟨i0, i0 + 1, rfl, by rw [w64 (by omega) (by omega)]; rfl, by omega, by omega, rfl, by
        rw [take_s (d := d) h1, List.filter_append]
        have e1 : (l.take i0).filter (fun x => !P x) = l.take i0 := by
          rw [List.filter_eq_self]
          intro x hx
          obtain ⟨i, hi, rfl⟩ := List.getElem_of_mem hx
          have hi' : i < i0 ∧ i < l.length := by simp only [List.length_take] at hi; omega
          have := h4 i hi'.1
          rw [List.getD_eq_getElem?_getD, List.getElem?_eq_getElem hi'.2] at this
          simp at this; simp [this]
        rw [e1, List.filter_cons_of_neg (by simp only [h3]; simp)]; simp, fun _ _ => rfl⟩
      (fun s hs => by
        obtain ⟨i, j, q1, q2, q3, q4, q5, q6, q7⟩ := hs
        obtain ⟨si, sj, c⟩ := s
        simp only at q1 q2 q5 q6 q7
        subst q1; subst q2
        by_cases hj : j < l.length
        · left
          have hPj := q7 j (Nat.le_refl _)
          simp only
          rw [if_pos (by simp; omega), jn, ib_n (show j < c.length by omega)]
          simp only [Option.bind_some, hf, Int.toNat_natCast, hPj]
          by_cases hP : P (l.getD j d) = true
          · rw [hP]
            refine ⟨(i, ((j + 1 : Nat) : Int), c), by simp only [Bool.not_true, Bool.false_eq_true, if_false]; rw [w64 (by omega) (by omega)]; rfl, ⟨i, j + 1, rfl, rfl, by omega, by omega, q5, ?_, fun k hk => q7 k (by omega)⟩, by simp only; omega⟩
            rw [take_s (d := d) hj, List.filter_append, List.filter_cons_of_neg (by simp only [hP]; simp)]; simp [q6]
          · have hP' : P (l.getD j d) = false := by simpa using hP
            rw [hP', ib_n (show i < c.length by omega)]
            refine ⟨(((i + 1 : Nat) : Int), ((j + 1 : Nat) : Int), c.set i (l.getD j d)), by simp only [Bool.not_false, if_true, Option.bind_some, Int.toNat_natCast]; rw [w64 (by omega) (by omega), w64 (by omega) (by omega)]; rfl, ⟨i + 1, j + 1, rfl, rfl, by omega, by omega, by simpa using q5, ?_, fun k hk => ?_⟩, by simp only; omega⟩
            · rw [take_s (d := d) hj, List.filter_append, List.filter_cons_of_pos (by simp only [hP']; simp), ← q6]
              rw [take_s (d := d) (by simpa using (show i < c.length by omega)), getD_set, if_pos ⟨rfl, by omega⟩]
              congr 1
              rw [List.take_set_of_le (Nat.le_refl _)]
            · rw [getD_set, if_neg (by omega)]; exact q7 k (by omega)
        · right
          have hjl : j = l.length := by omega
          subst hjl
          simp only
          rw [if_neg (by simp; omega)]
          exact ⟨_, rfl, c, i, rfl, by omega, q5, by rw [q6, List.take_length]⟩)
    rw [hw]
    subst hwi
    simp only [Option.bind_some, Fl.elim, Int.toNat_natCast]
    rw [sb_t ⟨by omega, by omega, by omega⟩]
    simp only [Option.bind_some]
    rw [inb_t (by omega)]
    simp only [Option.bind_some, clr_len]
    rw [sb_t ⟨by omega, by omega, by omega⟩]
    simp only [Option.bind_some, Nat.sub_zero]
    rw [inb_t (by omega)]
    simp only [Option.bind_some, Option.some.injEq]
    rw [← hct]
    refine take_ext (d := d) (by rw [clr_len]; omega) (by omega) (fun k hk => ?_)
    rw [clr_get _ _ _ _ _ (by omega), if_neg (by omega)]
end Go.Eng
end

section
set_option linter.unusedVariables false
set_option linter.unusedSimpArgs false
namespace Go.Proofs.Ytcocahffigbmbaa.R8
open Go.Eng
theorem all8 {x y : Nat → Int} : b_a8_u32 x y = true ↔ ∀ j, j < 8 → x j = y j := by
  simp [b_a8_u32, List.all_eq_true, List.mem_range]
def rc (p0 : api_Beat) (p3 : Int) (j : Nat) : Bool := ((p0.Heard j != 0) && decide (p0.Heard j ≤ p0.Now)) && decide (IntKind.u32.wrap (p0.Now - p0.Heard j) ≤ p3)
def rF (p0 : api_Beat) (p3 : Int) (n : Nat) : Nat → Int := fun j => if j < n ∧ rc p0 p3 j = true then p0.Inc j else 0
def reachF (p0 : api_Beat) (p1 p2 p3 : Int) : Nat → Int := fun j => if 0 ≤ p1 ∧ p1 = j ∧ j < 8 then p2 else rF p0 p3 8 j
theorem rF_t {p0 : api_Beat} {p3 : Int} {n : Nat} (h : rc p0 p3 n = true) : aupd (rF p0 p3 n) n (p0.Inc n) = rF p0 p3 (n + 1) := by
  funext j
  by_cases hj : j = n
  · subst hj; simp [aupd, rF, h]
  · have : j < n + 1 ↔ j < n := by omega
    simp [aupd, rF, hj, this]
theorem rF_f {p0 : api_Beat} {p3 : Int} {n : Nat} (h : rc p0 p3 n = false) : rF p0 p3 n = rF p0 p3 (n + 1) := by
  funext j
  by_cases hj : j = n
  · subst hj; simp [rF, h]
  · have : j < n + 1 ↔ j < n := by omega
    simp [rF, this]
theorem reach_eq (p0 : api_Beat) (p1 p2 p3 : Int) : beat_Reach p0 p1 p2 p3 = some (reachF p0 p1 p2 p3) := by
  unfold beat_Reach
  rw [loop_seq (s0 := (0, fun _ => 0)) (fun n => ((n : Int), rF p0 p3 n)) 8 (w := .nx (rF p0 p3 8)) (Prod.ext rfl (funext fun j => by simp [rF])) (fun n hn => by
    have hn' : (n : Int) < 8 := by omega
    have e1 : IntKind.i64.wrap ((n : Int) + 1) = ((n + 1 : Nat) : Int) := by rw [w64] <;> omega
    simp only [hn', decide_true, if_true, jn, ib_n hn, Option.bind_some, lt, Int.toNat_natCast, e1]
    by_cases hc : rc p0 p3 n = true
    · have hc' := hc
      simp only [rc] at hc'
      rw [if_pos hc', rF_t hc]
    · have hc' := hc
      simp only [rc] at hc'
      rw [if_neg hc', rF_f (by simpa using hc)]) (by simp)]
  simp only [Option.bind_some, Fl.elim, jn]
  by_cases h : 0 ≤ p1 ∧ p1 < 8
  · have hn : p1 = (p1.toNat : Int) := by omega
    rw [if_pos (by simp [h]), ib_t h.1 h.2]
    simp only [Option.bind_some, Option.some.injEq]
    funext j
    simp only [aupd, reachF]
    by_cases hj : j = p1.toNat
    · rw [if_pos hj, if_pos (by omega)]
    · rw [if_neg hj, if_neg (by omega)]
  · rw [if_neg (by simp; omega)]
    simp only [Option.some.injEq]
    funext j
    simp only [reachF]
    rw [if_neg (by omega)]
def hearOk (p0 : api_Beat) (p1 p2 : Int) : Prop := 0 ≤ p1 ∧ p1 < 8 ∧ p2 ≠ 0 ∧ p0.Now ≠ 0 ∧ p0.Inc p1.toNat ≤ p2
instance (p0 : api_Beat) (p1 p2 : Int) : Decidable (hearOk p0 p1 p2) := by unfold hearOk; exact inferInstance
def hearF (p0 : api_Beat) (p1 p2 : Int) : api_Beat × Bool :=
  if hearOk p0 p1 p2 then ({ p0 with Heard := aupd p0.Heard p1.toNat p0.Now, Inc := aupd p0.Inc p1.toNat p2 }, true) else (p0, false)
theorem hear_eq (p0 : api_Beat) (p1 p2 : Int) : beat_Hear p0 p1 p2 = some (hearF p0 p1 p2) := by
  unfold beat_Hear
  rw [ibg_t (by simp; omega)]
  simp only [Option.bind_some, lt]
  by_cases h : hearOk p0 p1 p2
  · have h' := h
    obtain ⟨h1, h2, h3, h4, h5⟩ := h'
    rw [if_neg (by simp; omega), ib_t h1 h2]
    simp [hearF, h]
  · rw [if_pos (by simp; unfold hearOk at h; omega)]
    simp [hearF, h]
theorem rhear_eq (p0 : api_Beat) (p1 p2 : Int) : congressref08_Hear p0 p1 p2 = some (hearF p0 p1 p2) := by
  unfold congressref08_Hear
  simp only [lt]
  by_cases h : hearOk p0 p1 p2
  · have h' := h
    obtain ⟨h1, h2, h3, h4, h5⟩ := h'
    rw [if_neg (by simp; omega), ib_t h1 h2]
    simp only [Option.bind_some]
    rw [if_neg (by simp; omega)]
    simp [hearF, h]
  · simp only [hearF, if_neg h]
    split
    · rfl
    · rename_i hc
      simp only [Bool.or_eq_true, decide_eq_true_eq, beq_iff_eq, not_or] at hc
      rw [ib_t (by omega) (by omega)]
      simp only [Option.bind_some]
      rw [if_pos (by simp; unfold hearOk at h; omega)]
def tickF (p0 : api_Beat) : api_Beat := if p0.Now < 4294967295 then { p0 with Now := IntKind.u32.wrap (p0.Now + 1) } else p0
theorem tick_eq (p0 : api_Beat) : beat_Tick p0 = some (tickF p0) := by
  unfold beat_Tick tickF
  simp only [jn, decide_eq_true_eq]
  split <;> rfl
theorem brefl8 (x : Nat → Int) : b_a8_u32 x x = true := all8.2 fun _ _ => rfl
theorem brefl (x : api_Beat) : b_api_Beat x x = true := by simp [b_api_Beat, brefl8]
structure Inv (b : api_Beat) : Prop where
  now0 : 0 ≤ b.Now
  now1 : b.Now ≤ 4294967295
  cell : ∀ j, j < 8 → b.Heard j ≤ b.Now ∧ (b.Heard j = 0 ↔ b.Inc j = 0)
structure Up (b c : api_Beat) : Prop where
  inv : Inv c
  now : b.Now ≤ c.Now
  cell : ∀ j, j < 8 → b.Inc j ≤ c.Inc j ∧ b.Heard j ≤ c.Heard j
end Go.Proofs.Ytcocahffigbmbaa.R8
end

section
set_option linter.unusedVariables false
set_option linter.unusedSimpArgs false
namespace Go.Proofs.Ytcocahffigbmbaa.R9
open Go.Eng
def cmpI (a b : Int) : Int := if a < b then -1 else if a > b then 1 else 0
theorem cmpu_eq (a b : Int) : cmp_Compare_uint32 a b = some (cmpI a b) := by
  simp only [cmp_Compare_uint32, cmp_isNaN_uint32, Option.bind_some, bne_self_eq_false, Bool.false_eq_true, if_false, decide_eq_true_eq, cmpI]
  split
  · rfl
  · split <;> rfl
theorem or_eq (a b c : Int) : cmp_Or_int [a, b, c] = some (if a ≠ 0 then a else if b ≠ 0 then b else c) := by
  have e1 : IntKind.i64.wrap 1 = 1 := by rw [w64] <;> omega
  have e2 : IntKind.i64.wrap 2 = 2 := by rw [w64] <;> omega
  have e3 : IntKind.i64.wrap 3 = 3 := by rw [w64] <;> omega
  unfold cmp_Or_int
  by_cases ha : a = 0
  · rw [loop_nx (s := 0) (s' := 1) (by simp [ib, ha, e1])]
    by_cases hb : b = 0
    · rw [loop_nx (s := 1) (s' := 2) (by simp [ib, hb, e2])]
      by_cases hc : c = 0
      · rw [loop_nx (s := 2) (s' := 3) (by simp [ib, hc, e3]), loop_dn (s := 3) (w := .nx ()) (by simp)]
        simp [ha, hb, hc, Fl.elim]
      · rw [loop_dn (s := 2) (w := .rt c) (by simp [ib, hc])]
        simp [ha, hb, Fl.elim]
    · rw [loop_dn (s := 1) (w := .rt b) (by simp [ib, hb])]
      simp [ha, hb, Fl.elim]
  · rw [loop_dn (s := 0) (w := .rt a) (by simp [ib, ha])]
    simp [ha, Fl.elim]
def listF (f : Nat → Int) (n : Nat) : _root_.List Int := ((List.range n).filter fun j => f j != 0).map fun (j : Nat) => (j : Int)
theorem listF_s (f : Nat → Int) (n : Nat) : listF f (n + 1) = if f n ≠ 0 then listF f n ++ [(n : Int)] else listF f n := by
  unfold listF
  rw [List.range_succ, List.filter_append, List.map_append]
  by_cases h : f n = 0 <;> simp [h]
theorem listF_len (f : Nat → Int) (n : Nat) : (listF f n).length ≤ n := by
  unfold listF
  rw [List.length_map]
  exact Nat.le_trans (List.length_filter_le _ _) (by simp)
theorem fit_t {n b : Nat} (h : n ≤ 1000000) (hb : b ≤ 100) : fit n b = some () := by
  unfold fit
  rw [if_pos]
  refine ⟨by unfold maxLen; omega, ?_⟩
  have : n * b ≤ 1000000 * 100 := Nat.mul_le_mul h hb
  omega
theorem list_eq (f : Nat → Int) : ident_List f = some (listF f 8) := by
  unfold ident_List
  rw [loop_seq (s0 := (0, ([] : _root_.List Int))) (fun n => ((n : Int), listF f n)) 8 (w := .nx (listF f 8)) rfl (fun n hn => by
    have hn' : (n : Int) < 8 := by omega
    have e1 : IntKind.i64.wrap ((n : Int) + 1) = ((n + 1 : Nat) : Int) := by rw [w64] <;> omega
    have hl := listF_len f n
    simp only [hn', decide_true, if_true, jn, ib_n hn, Option.bind_some, Int.toNat_natCast, e1]
    rw [fit_t (by simp; omega) (by omega), listF_s]
    by_cases h : f n = 0 <;> simp [h]) (by simp)]
  simp only [Option.bind_some, Fl.elim]
def U32 (f : Nat → Int) : Prop := ∀ j, j < 8 → (Lit.int .u32 (f j)).wf = true
theorem rlist_eq {f : Nat → Int} (w : U32 f) : congressref07_List f = some (listF f 8) := by
  unfold congressref07_List
  rw [loop_seq (s0 := (0, ([] : _root_.List Int))) (fun n => ((n : Int), listF f n)) 8 (w := .nx (listF f 8)) rfl (fun n hn => by
    have hn' : (n : Int) < 8 := by omega
    have e1 : IntKind.i64.wrap ((n : Int) + 1) = ((n + 1 : Nat) : Int) := by rw [w64] <;> omega
    have hl := listF_len f n
    have hw := wf_u32.1 (w n hn)
    simp only [hn', decide_true, if_true, jn, ib_n hn, Option.bind_some, Int.toNat_natCast, e1]
    rw [fit_t (by simp; omega) (by omega), listF_s]
    by_cases h : f n = 0
    · simp [h]
    · rw [if_pos (by simp; omega), if_pos h]; rfl) (by simp)]
  simp only [Option.bind_some, Fl.elim]
theorem listF_in {f : Nat → Int} {n : Nat} {x : Int} : x ∈ listF f n ↔ ∃ j : Nat, x = (j : Int) ∧ j < n ∧ f j ≠ 0 := by
  simp only [listF, List.mem_map, List.mem_filter, List.mem_range]
  constructor
  · rintro ⟨j, ⟨h1, h2⟩, h3⟩; exact ⟨j, h3.symm, h1, by simpa using h2⟩
  · rintro ⟨j, rfl, h1, h2⟩; exact ⟨j, ⟨h1, by simpa using h2⟩, rfl⟩
theorem getD_in {α : Type} {l : _root_.List α} {d : α} {k : Nat} (h : k < l.length) : l.getD k d ∈ l := by
  rw [List.getD_eq_getElem?_getD, List.getElem?_eq_getElem h]; exact List.getElem_mem h
theorem take_s {α : Type} {l : _root_.List α} {d : α} {n : Nat} (hn : n < l.length) : l.take (n + 1) = l.take n ++ [l.getD n d] := by
  rw [List.take_add_one, List.getD_eq_getElem?_getD, List.getElem?_eq_getElem hn]; rfl
def minF (p0 : Nat → Int) (m : Int) (l : _root_.List Int) : Int := l.foldl (fun m j => if p0 j.toNat < m then p0 j.toNat else m) m
theorem minF_s (p0 : Nat → Int) (m : Int) (l : _root_.List Int) (x : Int) : minF p0 m (l ++ [x]) = if p0 x.toNat < minF p0 m l then p0 x.toNat else minF p0 m l := by
  unfold minF; rw [List.foldl_append]; rfl
def leastF (p0 p1 : Nat → Int) : Int × Bool := if (listF p1 8).length = 0 then (0, false) else (minF p0 4294967295 (listF p1 8), true)
theorem least_eq (p0 p1 : Nat → Int) : round_Least p0 p1 = some (leastF p0 p1) := by
  have hl := listF_len p1 8
  unfold round_Least leastF
  rw [list_eq]
  simp only [Option.bind_some]
  by_cases h : (listF p1 8).length = 0
  · simp [h]
  · rw [if_neg (by simpa using h), if_neg h]
    rw [loop_seq (s0 := (4294967295, 0)) (fun n => (minF p0 4294967295 ((listF p1 8).take n), (n : Int))) (listF p1 8).length (w := .nx (minF p0 4294967295 (listF p1 8))) rfl (fun n hn => by
      have hn' : (n : Int) < ((listF p1 8).length : Int) := by omega
      have e1 : IntKind.i64.wrap ((n : Int) + 1) = ((n + 1 : Nat) : Int) := by rw [w64] <;> omega
      obtain ⟨j, hj, hj8, _⟩ := listF_in.1 (getD_in (d := (0 : Int)) hn)
      simp only [hn', decide_true, if_true, ib_n hn, Option.bind_some, Int.toNat_natCast, e1, lt]
      rw [take_s (d := 0) hn, minF_s, hj, ib_n hj8]; rfl) (by simp)]
    simp only [Option.bind_some, Fl.elim]
def memF (p1 : Nat → Int) (i : Int) : Bool := ((decide (i ≥ 0)) && (decide (i < 8))) && (p1 i.toNat != 0)
theorem member_eq (p1 : Nat → Int) (i : Int) : round_member p1 i = some (memF p1 i) := by
  unfold round_member
  rw [ibg_t (fun h => by simp at h; omega)]
  rfl
theorem scan {body : Int → Option (Stp Int (Fl Bool Unit))} (P : Nat → Bool) (N : Nat) (h : ∀ n, n < N → body (n : Int) = if P n = true then some (.done (.rt false)) else some (.next ((n + 1 : Nat) : Int))) (hl : body (N : Int) = some (.done (.nx ()))) :
    loop body 0 = some (if ((List.range N).all fun j => !P j) = true then .nx () else .rt false) := by
  obtain ⟨w, hw, hp⟩ := loop_count (body := body) (fun n s => s = (n : Int) ∧ ∀ j, j < n → P j = false) (fun w => w = (if ((List.range N).all fun j => !P j) = true then .nx () else .rt false)) N (s0 := 0) ⟨rfl, fun j hj => absurd hj (by omega)⟩
    (fun n s hn hs => by
      obtain ⟨rfl, hs⟩ := hs
      by_cases hP : P n = true
      · right
        refine ⟨.rt false, by rw [h n hn, if_pos hP], ?_⟩
        rw [if_neg]
        intro hall
        have := List.all_eq_true.1 hall n (List.mem_range.2 hn)
        simp [hP] at this
      · left
        refine ⟨_, by rw [h n hn, if_neg hP], rfl, fun j hj => ?_⟩
        by_cases hjn : j = n
        · subst hjn; simpa using hP
        · exact hs j (by omega))
    (fun s hs => by
      obtain ⟨rfl, hs⟩ := hs
      refine ⟨.nx (), hl, ?_⟩
      rw [if_pos]
      rw [List.all_eq_true]
      intro j hj
      rw [hs j (List.mem_range.1 hj)]; rfl)
  rw [hw, hp]
theorem seek {ρ : Type} {body : Int → Option (Stp Int (Fl ρ Unit))} (l : _root_.List Int) (P : Int → Bool) (g : Int → ρ)
    (h : ∀ n, n < l.length → body (n : Int) = if P (l.getD n 0) = true then some (.done (.rt (g (l.getD n 0)))) else some (.next ((n + 1 : Nat) : Int))) (hl : body ((l.length : Nat) : Int) = some (.done (.nx ()))) :
    loop body 0 = some (match l.find? P with | some x => .rt (g x) | none => .nx ()) := by
  obtain ⟨w, hw, hp⟩ := loop_count (body := body) (fun n s => s = (n : Int) ∧ l.find? P = (l.drop n).find? P) (fun w => w = (match l.find? P with | some x => .rt (g x) | none => .nx ())) l.length (s0 := 0) ⟨rfl, rfl⟩
    (fun n s hn hs => by
      obtain ⟨rfl, hs⟩ := hs
      have hd : l.drop n = l.getD n 0 :: l.drop (n + 1) := by
        rw [List.getD_eq_getElem?_getD, List.getElem?_eq_getElem hn]; exact List.drop_eq_getElem_cons hn
      by_cases hP : P (l.getD n 0) = true
      · right
        refine ⟨.rt (g (l.getD n 0)), by rw [h n hn, if_pos hP], ?_⟩
        rw [hs, hd, List.find?_cons_of_pos hP]
      · left
        refine ⟨_, by rw [h n hn, if_neg hP], rfl, ?_⟩
        rw [hs, hd, List.find?_cons_of_neg hP])
    (fun s hs => by
      obtain ⟨rfl, hs⟩ := hs
      refine ⟨.nx (), hl, ?_⟩
      rw [hs, List.drop_length]; rfl)
  rw [hw, hp]
theorem memF_iff {p1 : Nat → Int} {i : Int} : memF p1 i = true ↔ 0 ≤ i ∧ i < 8 ∧ p1 i.toNat ≠ 0 := by
  simp only [memF, Bool.and_eq_true, decide_eq_true_eq, bne_iff_ne, ge_iff_le, and_assoc]
theorem may_eq (p0 p1 : Nat → Int) (i : Int) : round_May p0 p1 i = some (memF p1 i && (p0 i.toNat == (leastF p0 p1).1)) := by
  unfold round_May
  rw [least_eq, member_eq]
  simp only [Option.bind_some]
  rw [ibg_t (fun h => by have := memF_iff.1 h; omega)]
  rfl
end Go.Proofs.Ytcocahffigbmbaa.R9
end

section
set_option linter.unusedVariables false
set_option linter.unusedSimpArgs false
namespace Go.Proofs.Ytcocahffigbmbaa.R10
open Go.Eng
abbrev Tab := _root_.List api_Kept
def Room (k : Nat) (t : Tab) : Prop := t.length ≤ 399822410088 + k
theorem mul_b {n : Nat} (h : n ≤ 399822410099) : n * 352 ≤ 140737488355328 := Nat.le_trans (Nat.mul_le_mul_right 352 h) (by decide)
theorem room_of {t : Tab} (h : t.length * 352 ≤ 140737488351232) : Room 0 t := by
  unfold Room
  rcases Nat.lt_or_ge t.length 399822410089 with q | q
  · omega
  · have := Nat.mul_le_mul_right 352 q
    have e : 399822410089 * 352 = 140737488351328 := by decide
    omega
theorem big_len {t : Tab} (h : t.length * 352 ≤ 140737488355328) : t.length ≤ maxLen := by
  have : (400000000000 : Nat) ≤ maxLen := by decide
  omega
theorem Room.le {k : Nat} {t : Tab} (h : Room k t) (hk : k ≤ 11) : t.length ≤ 399822410099 := by unfold Room at h; omega
theorem Room.len {k : Nat} {t : Tab} (h : Room k t) (hk : k ≤ 11) : t.length ≤ maxLen := big_len (mul_b (h.le hk))
theorem room_app {k : Nat} {l m : Tab} {x : api_Kept} (h : Room k l) (hk : k ≤ 10) (hm : m.length ≤ l.length) : (m ++ [x]).length * 352 ≤ 140737488355328 := by
  refine mul_b ?_
  unfold Room at h
  have e : (m ++ [x]).length = m.length + 1 := by simp
  omega
theorem all8 {x y : Nat → Int} : b_a8_u32 x y = true ↔ ∀ j, j < 8 → x j = y j := by
  simp [b_a8_u32, List.all_eq_true, List.mem_range]
theorem brefl8 (x : Nat → Int) : b_a8_u32 x x = true := all8.2 fun _ _ => rfl
theorem breflE (x : api_Entry) : b_api_Entry x x = true := by
  have : (x.Text == x.Text) = true := by rw [beq_toListBytes]; simp
  simp [b_api_Entry, this]
theorem breflF (x : Nat → (Nat → api_Entry)) : b_a3_a2_api_Entry x x = true := by
  simp [b_a3_a2_api_Entry, b_a2_api_Entry, List.all_eq_true, breflE]
theorem breflK (x : api_Kept) : b_api_Kept x x = true := by simp [b_api_Kept, breflF]
theorem clone_eq {k : Nat} (t : Tab) (h : Room k t) (hk : k ≤ 11) : slices_Clone_api_Kept_api_Kept t = some t := by
  have : slices_Clone_api_Kept_api_Kept t = cloneG 352 t := rfl
  rw [this, cloneG_eq (h.len hk) (mul_b (h.le hk))]
def listF (f : Nat → Int) (n : Nat) : _root_.List Int := ((List.range n).filter fun j => f j != 0).map fun (j : Nat) => (j : Int)
theorem listF_s (f : Nat → Int) (n : Nat) : listF f (n + 1) = if f n ≠ 0 then listF f n ++ [(n : Int)] else listF f n := by
  unfold listF
  rw [List.range_succ, List.filter_append, List.map_append]
  by_cases h : f n = 0 <;> simp [h]
theorem listF_len (f : Nat → Int) (n : Nat) : (listF f n).length ≤ n := by
  unfold listF
  rw [List.length_map]
  exact Nat.le_trans (List.length_filter_le _ _) (by simp)
theorem big8 : (1000 : Nat) ≤ maxLen := by decide
theorem list_eq (f : Nat → Int) : ident_List f = some (listF f 8) := by
  unfold ident_List
  rw [loop_seq (s0 := (0, ([] : _root_.List Int))) (fun n => ((n : Int), listF f n)) 8 (w := .nx (listF f 8)) rfl (fun n hn => by
    have hn' : (n : Int) < 8 := by omega
    have e1 : IntKind.i64.wrap ((n : Int) + 1) = ((n + 1 : Nat) : Int) := by rw [w64] <;> omega
    have hl := listF_len f n
    have hb := big8
    simp only [hn', decide_true, if_true, jn, ib_n hn, Option.bind_some, Int.toNat_natCast, e1]
    rw [fit_t (by simp; omega) (by simp; omega), listF_s]
    by_cases h : f n = 0 <;> simp [h]) (by simp)]
  simp only [Option.bind_some, Fl.elim]
theorem listF_in {f : Nat → Int} {n : Nat} {x : Int} : x ∈ listF f n ↔ ∃ j : Nat, x = (j : Int) ∧ j < n ∧ f j ≠ 0 := by
  simp only [listF, List.mem_map, List.mem_filter, List.mem_range]
  constructor
  · rintro ⟨j, ⟨h1, h2⟩, h3⟩; exact ⟨j, h3.symm, h1, by simpa using h2⟩
  · rintro ⟨j, rfl, h1, h2⟩; exact ⟨j, ⟨h1, by simpa using h2⟩, rfl⟩
theorem index_eq (l : _root_.List Int) (x : Int) (hl : l.length ≤ maxLen) : slices_Index_int_int l x = some (fidx l 0 fun y => x == y) := by
  have hm := maxLen_le
  unfold slices_Index_int_int
  rw [loop_find l.length (fun i => x == l.getD i 0) (fun i => (i : Int))]
  · unfold fidx
    cases (List.range l.length).find? (fun i => x == l.getD i 0) <;> rfl
  · intro n hn
    rw [if_pos (by simp; omega), ib_n hn]
    simp only [Option.bind_some, Int.toNat_natCast]
    split
    · rfl
    · rw [w64 (by omega) (by omega)]; rfl
  · rw [if_neg (by simp)]
def memB (m : Nat → Int) (i : Int) : Bool := ((decide (i ≥ 0)) && (decide (i < 8))) && (m i.toNat != 0)
theorem is_eq (m : Nat → Int) (i : Int) : congressref10_Is m i = some (memB m i) := by
  unfold congressref10_Is
  rw [ibg_t (by simp)]; rfl
theorem mem_iff (m : Nat → Int) (i : Int) : memB m i = true ↔ i ∈ listF m 8 := by
  rw [listF_in]
  simp only [memB, Bool.and_eq_true, decide_eq_true_eq, bne_iff_ne]
  constructor
  · rintro ⟨⟨h1, h2⟩, h3⟩; exact ⟨i.toNat, by omega, by omega, h3⟩
  · rintro ⟨j, rfl, h1, h2⟩; exact ⟨⟨by omega, by omega⟩, by simpa using h2⟩
theorem contains_eq (m : Nat → Int) (i : Int) : slices_Contains_int_int (listF m 8) i = some (memB m i) := by
  have hl := listF_len m 8
  have hb := big8
  unfold slices_Contains_int_int
  rw [index_eq _ _ (by omega)]
  simp only [Option.bind_some, Option.some.injEq]
  rw [Bool.eq_iff_iff, decide_eq_true_eq, mem_iff]
  rcases fidx_spec (listF m 8) 0 (fun y => i == y) with ⟨h1, h2, h3⟩ | ⟨k, h1, h2, h3, h4, _⟩
  · rw [h1, List.find?_eq_none] at *
    constructor
    · intro h; omega
    · intro h; have := h2 i h; simp at this
  · rw [h2]
    constructor
    · intro _
      have e : i = (listF m 8).getD k 0 := by simpa using h3
      rw [e]; exact getD_in h1
    · intro _; omega
def oldB (x y : api_Kept) : Bool := ((y.From == x.From) && (decide (x.Round ≥ 3))) && (decide (y.Round ≤ (IntKind.u32.wrap (x.Round - 3))))
def nextB (c m : Nat → Int) (x : api_Kept) : Bool := (memB m x.From && !(c x.From.toNat == 4294967295)) && (x.Round == IntKind.u32.wrap (c x.From.toNat + 1))
def takeF (l : Tab) (c m : Nat → Int) (x : api_Kept) : Tab × (Nat → Int) × Bool :=
  if nextB c m x = true then (l.filter (fun y => !oldB x y) ++ [x], aupd c x.From.toNat x.Round, true) else (l, c, false)
theorem memB_in {m : Nat → Int} {i : Int} (h : memB m i = true) : 0 ≤ i ∧ i < 8 := by
  simp only [memB, Bool.and_eq_true, decide_eq_true_eq] at h; exact h.1
theorem take_eq {k : Nat} (l : Tab) (c m : Nat → Int) (x : api_Kept) (hr : Room k l) (hk : k ≤ 10) : kept_Take l c m x = some (takeF l c m x) := by
  unfold kept_Take takeF nextB
  have hd : ∀ u, slices_DeleteFunc_api_Kept_api_Kept u (fun z0 => kept_Take_1 z0 x) = delG z_api_Kept u (fun z0 => kept_Take_1 z0 x) := fun _ => rfl
  rw [clone_eq l hr (by omega), list_eq]
  simp only [Option.bind_some, contains_eq]
  by_cases hm : memB m x.From = true
  · have hin := memB_in hm
    have hib : ∀ g, ibg g x.From 8 = some () := fun g => ibg_t fun _ => by omega
    simp only [hm, hib, Option.bind_some, Bool.not_true, Bool.false_or, lt, Bool.true_and]
    by_cases h1 : (c x.From.toNat == 4294967295) = true
    · simp only [h1, Bool.true_or, if_true, Bool.not_true, Bool.false_and, Bool.false_eq_true, if_false]
    · have h1' := Bool.eq_false_iff.2 h1
      simp only [h1', Bool.false_or, Bool.not_false, Bool.true_and, bne]
      by_cases h2 : (x.Round == IntKind.u32.wrap (c x.From.toNat + 1)) = true
      · simp only [h2, Bool.not_true, Bool.false_eq_true, if_false, if_true]
        rw [hd, delG_eq z_api_Kept l (fun z0 => kept_Take_1 z0 x) (oldB x) (fun _ => rfl) (hr.len (by omega))]
        simp only [Option.bind_some]
        rw [ib_t hin.1 hin.2]
        simp only [Option.bind_some]
        have hlen : (l.filter (fun y => !oldB x y) ++ [x]).length * 352 ≤ 140737488355328 := room_app hr hk (List.length_filter_le _ _)
        rw [fit_t (big_len hlen) hlen]; rfl
      · have h2' := Bool.eq_false_iff.2 h2
        simp only [h2', Bool.not_false, if_true, Bool.false_eq_true, if_false]
  · have hm' := Bool.eq_false_iff.2 hm
    simp [hm', ibg, lt]
theorem take_room {k : Nat} {l : Tab} {c m : Nat → Int} {x : api_Kept} (h : Room k l) : Room (k + 1) (takeF l c m x).1 := by
  unfold takeF
  split
  · have hl := List.length_filter_le (fun y => !oldB x y) l
    have e : (l.filter (fun y => !oldB x y) ++ [x]).length = (l.filter (fun y => !oldB x y)).length + 1 := by simp
    unfold Room at h ⊢
    simp only [e]
    omega
  · unfold Room at h ⊢
    simp only
    omega
theorem next_u {c : Int} {r : Int} (hc : 0 ≤ c ∧ c ≤ 4294967295) (hr : 0 ≤ r ∧ r ≤ 4294967295) : ((IntKind.u64.wrap r) != (IntKind.u64.wrap ((IntKind.u64.wrap c) + 1))) = !(!(c == 4294967295) && (r == IntKind.u32.wrap (c + 1))) := by
  have e1 : IntKind.u64.wrap r = r := by rw [wu64]; omega
  have e2 : IntKind.u64.wrap c = c := by rw [wu64]; omega
  have e3 : IntKind.u64.wrap (c + 1) = c + 1 := by rw [wu64]; omega
  rw [e1, e2, e3, w32, Bool.eq_iff_iff]
  simp only [bne_iff_ne, ne_eq, Bool.not_eq_true', Bool.and_eq_false_iff, Bool.not_eq_false', beq_iff_eq, beq_eq_false_iff_ne]
  omega
def W (t : Tab) : Prop := ∀ y ∈ t, 0 ≤ y.Round ∧ y.Round ≤ 4294967295
theorem rtake_eq {k : Nat} (l : Tab) (c m : Nat → Int) (x : api_Kept) (hr : Room k l) (hk0 : k ≤ 10) (hc : ∀ j, j < 8 → 0 ≤ c j ∧ c j ≤ 4294967295) (hx : 0 ≤ x.Round ∧ x.Round ≤ 4294967295) (hl : W l) : congressref10_Take l c m x = some (takeF l c m x) := by
  have hm0 := maxLen_le
  have hll := hr.len (by omega)
  unfold congressref10_Take takeF nextB
  rw [is_eq]
  simp only [Option.bind_some]
  by_cases hm : memB m x.From = true
  · have hin := memB_in hm
    simp only [hm, Bool.not_true, Bool.not_false, Bool.false_or, Bool.true_and]
    rw [ibg_t (fun _ => by omega)]
    simp only [Option.bind_some, lt]
    rw [next_u (hc _ (by omega)) hx]
    generalize hg : (!(c x.From.toNat == 4294967295) && (x.Round == IntKind.u32.wrap (c x.From.toNat + 1))) = g
    cases g with
    | false => rfl
    | true =>
      simp only [Bool.not_true, Bool.false_eq_true, if_false, if_true]
      rw [loop_seq (F := fun n => ((n : Int), (l.take n).filter fun y => !oldB x y)) l.length (s0 := (0, [])) (w := .nx (l.filter fun y => !oldB x y)) (by simp)]
      · simp only [Option.bind_some, Fl.elim]
        have hlen : (l.filter (fun y => !oldB x y) ++ [x]).length * 352 ≤ 140737488355328 := room_app hr (by omega) (List.length_filter_le _ _)
        rw [fit_t (big_len hlen) hlen]
        simp only [Option.bind_some]
        rw [ib_t hin.1 hin.2]; rfl
      · intro n hn
        have e1 : IntKind.i64.wrap ((n : Int) + 1) = ((n + 1 : Nat) : Int) := by rw [w64 (by omega) (by omega)]; rfl
        have hy := hl _ (getD_in (d := z_api_Kept) hn)
        simp only
        rw [if_pos (by simp; omega), jn, ib_n hn]
        simp only [Option.bind_some, Int.toNat_natCast]
        rw [ibg_t (fun _ => by omega)]
        simp only [Option.bind_some, lt, e1]
        have hk : (((l.getD n z_api_Kept).From != x.From) || (decide ((IntKind.u64.wrap ((IntKind.u64.wrap (l.getD n z_api_Kept).Round) + 3)) > (IntKind.u64.wrap x.Round)))) = !oldB x (l.getD n z_api_Kept) := by
          have q1 : IntKind.u64.wrap (l.getD n z_api_Kept).Round = (l.getD n z_api_Kept).Round := by rw [wu64]; omega
          have q2 : IntKind.u64.wrap ((l.getD n z_api_Kept).Round + 3) = (l.getD n z_api_Kept).Round + 3 := by rw [wu64]; omega
          have q3 : IntKind.u64.wrap x.Round = x.Round := by rw [wu64]; omega
          rw [q1, q2, q3]
          unfold oldB
          rw [w32]
          by_cases hf : ((l.getD n z_api_Kept).From == x.From) = true
          · simp only [bne, hf, Bool.not_true, Bool.false_or, Bool.true_and]
            rw [Bool.eq_iff_iff]
            simp only [decide_eq_true_eq, Bool.not_eq_true', Bool.and_eq_false_iff, decide_eq_false_iff_not]
            omega
          · have hf' := Bool.eq_false_iff.2 hf
            simp only [bne, hf', Bool.not_false, Bool.true_or, Bool.false_and]
        rw [take_s (d := z_api_Kept) hn, List.filter_append]
        by_cases hq : oldB x (l.getD n z_api_Kept) = true
        · rw [if_neg (by rw [hk, hq]; simp), List.filter_cons_of_neg (by rw [hq]; simp)]; simp
        · have hq' := Bool.eq_false_iff.2 hq
          rw [if_pos (by rw [hk, hq']; rfl)]
          have hlen : ((l.take n).filter (fun y => !oldB x y) ++ [l.getD n z_api_Kept]).length * 352 ≤ 140737488355328 := room_app hr (by omega) (Nat.le_trans (List.length_filter_le _ _) (List.length_take_le' _ _))
          rw [fit_t (big_len hlen) hlen, List.filter_cons_of_pos (by rw [hq']; rfl)]; rfl
      · simp only
        rw [if_neg (by simp), List.take_length]
  · have hm' := Bool.eq_false_iff.2 hm
    simp [hm', ibg, lt]
def isB (f r : Int) (y : api_Kept) : Bool := (y.From == f) && (y.Round == r)
def getF (t : Tab) (f r : Int) : (Nat → (Nat → api_Entry)) × Bool :=
  match t.find? (isB f r) with
  | some y => (y.Frame, true)
  | none => ((fun _ => (fun _ => z_api_Entry)), false)
theorem get_eq (t : Tab) (f r : Int) (hl : t.length ≤ maxLen) : kept_Get t f r = some (getF t f r) := by
  have : slices_IndexFunc_api_Kept_api_Kept t (fun z0 => kept_Get_1 z0 f r) = idxG z_api_Kept t (fun z0 => kept_Get_1 z0 f r) := rfl
  unfold kept_Get getF
  rw [this, idxG_eq z_api_Kept t (fun z0 => kept_Get_1 z0 f r) (isB f r) (fun _ => rfl) hl]
  simp only [Option.bind_some]
  rcases fidx_spec t z_api_Kept (isB f r) with ⟨h1, h2, _⟩ | ⟨i, h1, h2, h3, h4, _⟩
  · rw [h1, h2]; rfl
  · rw [h2, h4, if_neg (by simp), ib_n h1]; rfl
def pickF (t : Tab) (n : Int) : api_Kept × Bool := if t.length = 0 then (z_api_Kept, false) else (t.getD (n.toNat % t.length) z_api_Kept, true)
theorem pick_n {t : Tab} {n : Int} (hl : t.length ≤ maxLen) (hn : 0 ≤ n ∧ n ≤ 4294967295) (h0 : t.length ≠ 0) : IntKind.u64.wrap (t.length : Int) ≠ 0 ∧ (IntKind.u64.wrap n).tmod (IntKind.u64.wrap (t.length : Int)) = ((n.toNat % t.length : Nat) : Int) ∧ n.toNat % t.length < t.length := by
  have hm := maxLen_le
  have e1 : IntKind.u64.wrap (t.length : Int) = t.length := by rw [wu64]; omega
  have e2 : IntKind.u64.wrap n = n := by rw [wu64]; omega
  rw [e1, e2]
  refine ⟨by omega, ?_, Nat.mod_lt _ (by omega)⟩
  obtain ⟨k, rfl⟩ : ∃ k : Nat, n = k := ⟨n.toNat, by omega⟩
  rfl
theorem pick_eq (t : Tab) (n : Int) (hl : t.length ≤ maxLen) (hn : 0 ≤ n ∧ n ≤ 4294967295) : kept_Pick t n = some (pickF t n) := by
  unfold kept_Pick pickF
  by_cases h0 : t.length = 0
  · rw [if_pos (by rw [h0]; rfl), if_pos h0]; rfl
  · obtain ⟨p1, p2, p3⟩ := pick_n hl hn h0
    rw [if_neg (by simp only [beq_iff_eq]; omega), if_neg h0, nz_t p1]
    simp only [Option.bind_some, p2, Int.toNat_natCast]
    rw [ib_n p3]; rfl
theorem same_eq (t : Tab) (hl : t.length ≤ maxLen) : congressref10_Same t t = some true := by
  have hm := maxLen_le
  unfold congressref10_Same
  rw [if_neg (by simp), loop_seq (F := fun n => ((n : Nat) : Int)) t.length (s0 := 0) (w := .nx ()) rfl]
  · rfl
  · intro n hn
    rw [if_pos (by simp; omega), ib_n hn]
    simp only [Option.bind_some, Int.toNat_natCast, lt, breflK, Bool.not_true, Bool.false_eq_true, if_false]
    rw [w64 (by omega) (by omega)]; rfl
  · rw [if_neg (by simp)]
theorem room_small (t : Tab) (h : t.length ≤ 10) : Room 0 t := by unfold Room; omega
theorem wf_at {t : Tab} (h : ∀ j, j < t.length → w_api_Kept (t.getD j z_api_Kept)) : ∀ y ∈ t, w_api_Kept y := by
  intro y hy
  obtain ⟨j, hj, rfl⟩ := List.getElem_of_mem hy
  have := h j hj
  rw [List.getD_eq_getElem?_getD, List.getElem?_eq_getElem hj] at this
  exact this
def key (y : api_Kept) : Int × Int := (y.From, y.Round)
def Al (a b : Tab) : Prop := a.map key = b.map key
theorem Al.len {a b : Tab} (h : Al a b) : a.length = b.length := by simpa using congrArg List.length h
theorem Al.at_ {a b : Tab} (h : Al a b) {n : Nat} (hn : n < a.length) : (a.getD n z_api_Kept).From = (b.getD n z_api_Kept).From ∧ (a.getD n z_api_Kept).Round = (b.getD n z_api_Kept).Round := by
  have hb : n < b.length := h.len ▸ hn
  have := congrArg (fun l => l[n]?) h
  simp only [List.getElem?_map, List.getElem?_eq_getElem hn, List.getElem?_eq_getElem hb, Option.map_some, Option.some.injEq, key, Prod.mk.injEq] at this
  rw [List.getD_eq_getElem?_getD, List.getD_eq_getElem?_getD, List.getElem?_eq_getElem hn, List.getElem?_eq_getElem hb]
  exact this
def offF (p : api_Packet) : Tab := (if p.Round > 1 then [({ From := (IntKind.i64.wrap (p.From)), Round := (IntKind.u32.wrap (p.Round - 1)), Frame := p.Older } : api_Kept)] else []) ++ [({ From := (IntKind.i64.wrap (p.From)), Round := p.Round, Frame := p.Newest } : api_Kept), ({ From := (IntKind.i64.wrap (p.RelayOf)), Round := p.RelayRound, Frame := p.Relay } : api_Kept)]
theorem offered_eq (p : api_Packet) : kept_offered p = some (offF p) := by
  have hb := big8
  unfold kept_offered offF
  simp only [jn, lt, decide_eq_true_eq]
  split
  · rw [fit_t (by simp; omega) (by simp)]
    simp only [Option.bind_some]
    rw [fit_t (by simp; omega) (by simp)]; rfl
  · rw [fit_t (by simp; omega) (by simp)]; rfl
theorem off_len (p : api_Packet) : (offF p).length ≤ 3 := by unfold offF; split <;> simp
abbrev S3 := (Nat → Int) × Tab × Tab
def stepF (m most : Nat → Int) (s : S3) (x : api_Kept) : S3 :=
  if ((decide (x.From ≥ 8)) || (decide (x.Round > most x.From.toNat))) = true then s
  else ((takeF s.2.1 s.1 m x).2.1, (takeF s.2.1 s.1 m x).1, if (takeF s.2.1 s.1 m x).2.2 = true then s.2.2 ++ [x] else s.2.2)
theorem fold_room (m most : Nat → Int) : ∀ (xs : Tab) (s : S3) (k : Nat), Room k s.2.1 → s.2.2.length ≤ k → Room (k + xs.length) (xs.foldl (stepF m most) s).2.1 ∧ (xs.foldl (stepF m most) s).2.2.length ≤ k + xs.length
  | [], s, k, h, h2 => ⟨h, h2⟩
  | x :: xs, s, k, h, h2 => by
    have h1 : Room (k + 1) (stepF m most s x).2.1 ∧ (stepF m most s x).2.2.length ≤ k + 1 := by
      unfold stepF
      split
      · exact ⟨by unfold Room at h ⊢; omega, by omega⟩
      · refine ⟨take_room h, ?_⟩
        simp only
        split
        · simp; omega
        · omega
    have := fold_room m most xs (stepF m most s x) (k + 1) h1.1 h1.2
    rw [List.foldl_cons, List.length_cons, show k + (xs.length + 1) = k + 1 + xs.length by omega]
    exact this
theorem offer_eq (l : Tab) (c m : Nat → Int) (p : api_Packet) (most : Nat → Int) (hr : Room 0 l) (hf : ∀ x ∈ offF p, 0 ≤ x.From) : kept_Offer l c m p most =
    some (((offF p).foldl (stepF m most) (c, l, [])).2.1, ((offF p).foldl (stepF m most) (c, l, [])).1, ((offF p).foldl (stepF m most) (c, l, [])).2.2) := by
  have ho := off_len p
  have hb := big8
  unfold kept_Offer
  rw [clone_eq l hr (by omega), offered_eq]
  simp only [Option.bind_some]
  rw [loop_seq (F := fun n => ((n : Int), ((offF p).take n).foldl (stepF m most) (c, l, []))) (offF p).length (s0 := (0, c, l, [])) (w := .nx ((offF p).foldl (stepF m most) (c, l, []))) rfl]
  · rfl
  · intro n hn
    have e1 : IntKind.i64.wrap ((n : Int) + 1) = ((n + 1 : Nat) : Int) := by rw [w64 (by omega) (by omega)]; rfl
    have hx0 := hf _ (getD_in (d := z_api_Kept) hn)
    have hrm := fold_room m most ((offF p).take n) (c, l, []) 0 hr (by simp)
    have hlt : ((offF p).take n).length = n := by simp; omega
    rw [hlt] at hrm
    rw [take_s (d := z_api_Kept) hn, List.foldl_append]
    simp only [List.foldl_cons, List.foldl_nil]
    generalize ((offF p).take n).foldl (stepF m most) (c, l, []) = s at hrm
    rw [if_pos (by simp; omega), jn, ib_n hn]
    simp only [Option.bind_some, Int.toNat_natCast]
    rw [ibg_t (fun q => ⟨hx0, by rw [Bool.not_eq_true', decide_eq_false_iff_not] at q; omega⟩)]
    simp only [Option.bind_some, lt, e1, stepF]
    by_cases h : ((decide (((offF p).getD n z_api_Kept).From ≥ 8)) || (decide (((offF p).getD n z_api_Kept).Round > most ((offF p).getD n z_api_Kept).From.toNat))) = true
    · rw [if_pos h, if_pos h]
    · rw [if_neg h, if_neg h, take_eq _ _ _ _ hrm.1 (by omega)]
      simp only [Option.bind_some]
      by_cases h2 : (takeF s.2.1 s.1 m ((offF p).getD n z_api_Kept)).2.2 = true
      · have hlen : (s.2.2 ++ [(offF p).getD n z_api_Kept]).length = s.2.2.length + 1 := by simp
        rw [if_pos h2, if_pos h2, fit_t (by omega) (by omega)]; rfl
      · rw [if_neg h2, if_neg h2]
  · simp only
    rw [if_neg (by simp), List.take_length]
def rl (n : Nat) : _root_.List Int := if n = 0 then [] else if n = 1 then [1] else if n = 2 then [1, 2] else [(n : Int) - 2, (n : Int) - 1, (n : Int)]
def dB (d : Nat) (y : api_Kept) : Bool := y.From == (d : Int)
def rds (k : Tab) (d : Nat) : _root_.List Int := (k.filter (dB d)).map (·.Round)
def Inv (k : Tab) (cn : Nat → Nat) (s : Nat) : Prop := (∀ d, d < 8 → rds k d = rl (cn d)) ∧ (∀ y ∈ k, ∃ d : Nat, d < 8 ∧ y.From = (d : Int)) ∧ (∀ d, cn d ≤ s) ∧ k.length ≤ s
theorem Inv.up {k : Tab} {cn : Nat → Nat} {s : Nat} (h : Inv k cn s) : Inv k cn (s + 1) := ⟨h.1, h.2.1, fun d => Nat.le_succ_of_le (h.2.2.1 d), Nat.le_succ_of_le h.2.2.2⟩
def mkS (s : S3) : congressref10_State := { L := s.2.1, C := s.1, Taken := s.2.2 }
def Good (k : Nat) (s : S3) : Prop := Room k s.2.1 ∧ s.2.2.length ≤ k ∧ (∀ j, j < 8 → 0 ≤ s.1 j ∧ s.1 j ≤ 4294967295) ∧ W s.2.1
theorem bind_of {α β : Type} {x : Option α} {f : α → Option β} {a : α} {r : Option β} (h : x = some a) (h2 : f a = r) : x.bind f = r := by rw [h]; exact h2
theorem good_step {k : Nat} {m most : Nat → Int} {s : S3} {x : api_Kept} (h : Good k s) (hx : 0 ≤ x.Round ∧ x.Round ≤ 4294967295) : Good (k + 1) (stepF m most s x) := by
  obtain ⟨h1, h2, h3, h4⟩ := h
  have hf := fold_room m most [x] s k h1 h2
  simp only [List.foldl_cons, List.foldl_nil, List.length_cons, List.length_nil, Nat.zero_add] at hf
  refine ⟨hf.1, hf.2, ?_, ?_⟩
  · unfold stepF takeF
    split
    · exact h3
    · simp only
      split
      · intro j hj
        simp only [aupd]
        split
        · exact hx
        · exact h3 j hj
      · exact h3
  · unfold stepF takeF
    split
    · exact h4
    · simp only
      split
      · intro y hy
        simp only [List.mem_append, List.mem_filter, List.mem_singleton] at hy
        rcases hy with ⟨hy, _⟩ | rfl
        · exact h4 y hy
        · exact hx
      · exact h4
theorem roffer_eq {k : Nat} {m most : Nat → Int} (s : S3) (x : api_Kept) (hk : k ≤ 10) (h : Good k s) (hx : 0 ≤ x.Round ∧ x.Round ≤ 4294967295) (h0 : 0 ≤ x.From) : congressref10_offer (mkS s) m x most = some (mkS (stepF m most s x)) := by
  obtain ⟨h1, h2, h3, h4⟩ := h
  have hb := big8
  unfold congressref10_offer stepF
  have hc0 : decide (x.From < 0) = false := by simp only [decide_eq_false_iff_not]; omega
  by_cases h8 : x.From ≥ 8
  · have q1 : decide (x.From > 7) = true := by simp only [decide_eq_true_eq]; omega
    have q2 : decide (x.From ≥ 8) = true := by simp only [decide_eq_true_eq]; omega
    simp only [hc0, q1, q2, Bool.or_true, Bool.true_or, Bool.not_true, ibg, Bool.false_eq_true, false_implies, if_true, Option.bind_some, lt]
  · have q1 : decide (x.From > 7) = false := by simp only [decide_eq_false_iff_not]; omega
    have q2 : decide (x.From ≥ 8) = false := by simp only [decide_eq_false_iff_not]; omega
    have q3 : x.From.tmod 8 = x.From := Int.tmod_eq_of_lt h0 (by omega)
    rw [q3, ibg_t (fun _ => by omega)]
    simp only [hc0, q1, q2, Bool.or_false, Bool.false_or, Option.bind_some, lt]
    by_cases hd : decide (x.Round > most x.From.toNat) = true
    · rw [if_pos hd, if_pos hd]
    · rw [if_neg hd, if_neg hd]
      refine bind_of (rtake_eq (k := k) s.2.1 s.1 m x h1 hk h3 hx h4) ?_
      simp only [jn]
      by_cases h2' : (takeF s.2.1 s.1 m x).2.2 = true
      · have hlen : ((mkS s).Taken ++ [x]).length = s.2.2.length + 1 := by simp [mkS]
        rw [if_pos h2', if_pos h2', fit_t (by omega) (by omega)]; rfl
      · rw [if_neg h2', if_neg h2']
        have e : takeF s.2.1 s.1 m x = (s.2.1, s.1, false) := by
          unfold takeF at h2' ⊢
          by_cases hn : nextB s.1 m x = true
          · rw [if_pos hn] at h2'; exact absurd rfl h2'
          · rw [if_neg hn]
        rw [e]
theorem rOffer_eq (l : Tab) (c m : Nat → Int) (p : api_Packet) (most : Nat → Int) (h : Good 0 (c, l, [])) (h1 : 0 ≤ p.From ∧ p.From ≤ 4294967295) (h2 : 0 ≤ p.RelayOf ∧ p.RelayOf ≤ 4294967295) (h3 : 0 ≤ p.Round ∧ p.Round ≤ 4294967295) (h4 : 0 ≤ p.RelayRound ∧ p.RelayRound ≤ 4294967295) : congressref10_Offer l c m p most =
    some (((offF p).foldl (stepF m most) (c, l, [])).2.1, ((offF p).foldl (stepF m most) (c, l, [])).1, ((offF p).foldl (stepF m most) (c, l, [])).2.2) := by
  have q1 : IntKind.i64.wrap p.From = p.From := w64 (by omega) (by omega)
  have q2 : IntKind.i64.wrap p.RelayOf = p.RelayOf := w64 (by omega) (by omega)
  unfold congressref10_Offer offF
  simp only [jn]
  rw [q1, q2]
  by_cases hr : p.Round > 1
  · have hr' : decide (p.Round > 1) = true := by simpa using hr
    have q3 : IntKind.u32.wrap (p.Round - 1) = p.Round - 1 := by rw [w32]; omega
    rw [if_pos hr', if_pos hr, q3]
    have g1 := good_step (m := m) (most := most) (x := { From := p.From, Round := p.Round - 1, Frame := p.Older }) h (by simp only; omega)
    have g2 := good_step (m := m) (most := most) (x := { From := p.From, Round := p.Round, Frame := p.Newest }) g1 (by simp only; omega)
    refine bind_of (roffer_eq (c, l, []) { From := p.From, Round := p.Round - 1, Frame := p.Older } (Nat.zero_le _) h (by simp only; omega) h1.1) ?_
    refine bind_of (roffer_eq _ { From := p.From, Round := p.Round, Frame := p.Newest } (by omega) g1 (by simp only; omega) h1.1) ?_
    refine bind_of (roffer_eq _ { From := p.RelayOf, Round := p.RelayRound, Frame := p.Relay } (by omega) g2 (by simp only; omega) h2.1) ?_
    rfl
  · have hr' : ¬ decide (p.Round > 1) = true := by simpa using hr
    rw [if_neg hr', if_neg hr]
    have g1 := good_step (m := m) (most := most) (x := { From := p.From, Round := p.Round, Frame := p.Newest }) h (by simp only; omega)
    refine bind_of (roffer_eq (c, l, []) { From := p.From, Round := p.Round, Frame := p.Newest } (Nat.zero_le _) h (by simp only; omega) h1.1) ?_
    refine bind_of (roffer_eq _ { From := p.RelayOf, Round := p.RelayRound, Frame := p.Relay } (by omega) g1 (by simp only; omega) h2.1) ?_
    rfl
end Go.Proofs.Ytcocahffigbmbaa.R10
end
