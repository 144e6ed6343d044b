/- A part of the proof of the law. Put together by a tool (shake.py) out of our own texts. Conditions: none. -/
import Derived.Test.YtcocahffigbmbaaCoreHearsB
set_option linter.unusedVariables false
set_option linter.unusedSimpArgs false
section
set_option linter.unusedVariables false
set_option maxRecDepth 100000
namespace Go.Proofs.Ytcocahffigbmbaa
open Go.Eng
set_option maxHeartbeats 1600000
theorem core_Start_spec (p0 : Int) (p1 : Int) (p2 : Int) (r : api_Core × Bool) (H : core_Start p0 p1 p2 = some r) : FSpec Try.prog 20 [(.int .i64 p0), (.int .u32 p1), (.int .i64 p2)] (resV [(e_api_Core r.1), (.bool r.2)]) := by
  refine spec_of (fn := Try.f20) (args := [(.int .i64 p0), (.int .u32 p1), (.int .i64 p2)]) Try.func20 rfl (nl rfl) ?_
  rintro ⟨G, w0, W, S, Sp, gx⟩ hG
  cases hG
  unfold core_Start at H
  refine aw_region (r_0 (does_alloc 35 0 (e_api_Core z_api_Core) zr35) rfl rfl <| r_0 (does_assign (.const (.bool false)) (.bool false) (fun _ => rfl)) rfl rfl <| r_e) ?_
  refine aw_cov (cov_prune (s1 := ⟨[(0, _), (1, _), (2, _), (6, _)], [(0, some _)], 1, []⟩) a4 a1 (Nat.le_refl _)) ?_
  refine aw_seq ?_
  refine aw_region (r_mv rfl rfl <| r_p (does_bin .lss 3 3 (.tmp 9) (.const (.int .i64 0)) .i64 p0 0 (.bool (decide (p0 < 0))) trivial (fun _ => rfl) (bin_lss _ _ _ _)) m10 rfl <| r_mv rfl rfl <| r_gmv rfl rfl rfl rfl rfl rfl <| r_g [(12, _)] [(12, _)] [] rfl rfl m20 rfl (fun hc => ⟨(.opt _ _ hc), trivial⟩) (fun hc => does_bin .geq 3 3 (.tmp 12) (.const (.int .i64 8)) .i64 p0 8 (.bool (decide (p0 ≥ 8))) trivial (fun _ => rfl) (bin_geq _ _ _ _)) rfl <| r_p (does_or 11 13 (decide (p0 < 0)) (decide (p0 ≥ 8))) m20 rfl <| r_mv rfl rfl <| r_gmv rfl rfl rfl rfl rfl rfl <| r_g [(16, _)] [(16, _)] [] rfl rfl m20 rfl (fun hc => ⟨(.opt _ _ hc), trivial⟩) (fun hc => does_bin .eql 22 22 (.tmp 16) (.const (.int .u32 0)) .u32 p1 0 (.bool (p1 == 0)) trivial (fun _ => rfl) (bin_eql _ _ _ _)) rfl <| r_p (does_or 15 17 ((decide (p0 < 0)) || (decide (p0 ≥ 8))) (p1 == 0)) m20 rfl <| r_mv rfl rfl <| r_gmv rfl rfl rfl rfl rfl rfl <| r_g [(20, _)] [(20, _)] [] rfl rfl m20 rfl (fun hc => ⟨(.opt _ _ hc), trivial⟩) (fun hc => does_bin .lss 3 3 (.tmp 20) (.const (.int .i64 1)) .i64 p2 1 (.bool (decide (p2 < 1))) trivial (fun _ => rfl) (bin_lss _ _ _ _)) rfl <| r_p (does_or 19 21 (((decide (p0 < 0)) || (decide (p0 ≥ 8))) || (p1 == 0)) (decide (p2 < 1))) m20 rfl <| r_mv rfl rfl <| r_gmv rfl rfl rfl rfl rfl rfl <| r_g [(24, _)] [(24, _)] [] rfl rfl m20 rfl (fun hc => ⟨(.opt _ _ hc), trivial⟩) (fun hc => does_bin .gtr 3 3 (.tmp 24) (.const (.int .i64 1000)) .i64 p2 1000 (.bool (decide (p2 > 1000))) trivial (fun _ => rfl) (bin_gtr _ _ _ _)) rfl <| r_p (does_or 23 25 ((((decide (p0 < 0)) || (decide (p0 ≥ 8))) || (p1 == 0)) || (decide (p2 < 1))) (decide (p2 > 1000))) m20 rfl <| r_e) ?_
  obtain ⟨v1, hv1, H⟩ := lt_of H
  refine aw_cov (cov_prune (s1 := ⟨[(0, _), (1, _), (2, _), (6, _), (26, (.bool v1))], [(0, some _)], 1, []⟩) ⟨rfl, rfl, rfl, rfl, (by subst hv1; rfl), trivial⟩ a1 (Nat.le_refl _)) ?_
  refine aw_cond rfl (fun hc => ?_) (fun hc => ?_)
  · replace H := ite_t hc H
    refine aw_region (r_0 (does_buildT 35 #[] [] [] (.st [1, 1, 1, 17, 3, 8, 8, 1, 3, 8, 8, 1, 128, 1]) (c_api_Core z_api_Core) (c_api_Core ({ Self := 0, Wait := 0, Own := 0, Beat := z_api_Beat, Conf := z_api_Id, Members := (fun _ => 0), Count := (fun _ => 0), Kept := [], Promise := z_api_Id, Wanted := (fun _ => 0), Cut := (fun _ => 0), Ready := false, Peers := (fun _ => z_api_Peer), Epoch := 0 } : api_Core)) rfl bo35 trivial trivial (fe14 rfl rfl rfl rfl rfl rfl rfl rfl rfl rfl rfl rfl rfl rfl (fun _ => rfl))) rfl rfl <| r_sv rfl rfl rfl rfl rfl rfl ty35 rfl <| r_0 (does_assign (.const (.bool false)) (.bool false) (fun _ => rfl)) rfl rfl <| r_e) ?_
    obtain ⟨v2, hv2, H⟩ := lt_of H
    refine aw_cov (cov_prune (s1 := ⟨[(6, _), (7, _)], [(0, some (.var (e_api_Core v2)))], 1, []⟩) a2 ⟨(by subst hv2; rfl), trivial⟩ (Nat.le_refl _)) ?_
    refine aw_ret ?_
    refine rt_then ?_
    exact fun a w hr => ⟨_, [(e_api_Core v2), (.bool false)], hr, ⟨⟨0, _, rfl, rfl, .data _ (d_api_Core v2), ty35⟩, ⟨_, rfl, .data (.bool false) trivial⟩, trivial⟩, by decide, by cases H; rfl⟩
  · replace H := ite_f hc H
    refine aw_skip ?_
    refine nx_seq ?_
    refine aw_region (r_mv rfl rfl <| r_mv rfl rfl <| r_mv rfl rfl <| r_mv rfl rfl <| r_p (does_convInt 3 22 (.tmp 31) .i64 .u32 p0 trivial rfl rfl) m10 rfl <| r_mv rfl rfl <| r_p (does_buildT 27 #[(1, (.tmp 32)), (2, (.tmp 33))] [(1, (.tmp 32)), (2, (.tmp 33))] [(1, (.int .u32 (IntKind.u32.wrap (p0)))), (2, (.int .u32 p1))] (.st [1, 1, 1]) (c_api_Id z_api_Id) (c_api_Id ({ Epoch := 0, Coord := (IntKind.u32.wrap (p0)), Inc := p1 } : api_Id)) rfl bo27 ⟨a1, a1, trivial⟩ ⟨⟨nl rfl, rfl, rfl⟩, ⟨nl rfl, rfl, rfl⟩, trivial⟩ (fe3 rfl rfl rfl (fun _ => rfl))) m20 rfl <| r_p (does_buildT 35 #[(0, (.tmp 28)), (1, (.tmp 29)), (2, (.tmp 30)), (4, (.tmp 34))] [(0, (.tmp 28)), (1, (.tmp 29)), (2, (.tmp 30)), (4, (.tmp 34))] [(0, (.int .i64 p0)), (1, (.int .i64 p2)), (2, (.int .u32 p1)), (4, (e_api_Id ({ Epoch := 0, Coord := (IntKind.u32.wrap (p0)), Inc := p1 } : api_Id)))] (.st [1, 1, 1, 17, 3, 8, 8, 1, 3, 8, 8, 1, 128, 1]) (c_api_Core z_api_Core) (c_api_Core ({ Self := p0, Wait := p2, Own := p1, Beat := z_api_Beat, Conf := ({ Epoch := 0, Coord := (IntKind.u32.wrap (p0)), Inc := p1 } : api_Id), Members := (fun _ => 0), Count := (fun _ => 0), Kept := [], Promise := z_api_Id, Wanted := (fun _ => 0), Cut := (fun _ => 0), Ready := false, Peers := (fun _ => z_api_Peer), Epoch := 0 } : api_Core)) rfl bo35 ⟨a1, a1, a1, a1, trivial⟩ ⟨⟨nl rfl, rfl, rfl⟩, ⟨nl rfl, rfl, rfl⟩, ⟨nl rfl, rfl, rfl⟩, ⟨nl rfl, rfl, rfl⟩, trivial⟩ (fe14 rfl rfl rfl rfl rfl rfl rfl rfl rfl rfl rfl rfl rfl rfl (fun _ => rfl))) ⟨a4, trivial, rfl⟩ rfl <| r_0 (does_alloc 35 1 (e_api_Core z_api_Core) zr35) rfl rfl <| r_sv rfl rfl rfl rfl rfl rfl ty35 rfl <| r_e) ?_
    obtain ⟨v3, hv3, H⟩ := lt_of H
    refine aw_cov (cov_prune (s1 := ⟨[(0, _), (1, _), (6, _), (8, _)], [(0, some _), (1, some (.var (e_api_Core v3)))], 2, []⟩) a4 ⟨rfl, (by subst hv3; rfl), trivial⟩ (Nat.le_refl _)) ?_
    obtain ⟨h4, H⟩ := ib_of H
    refine aw_region (r_mv rfl rfl <| r_mv rfl rfl <| r_fa (.ptr 1 (0 + 23) [5]) fl35_5 rfl rfl rfl rfl <| r_p (does_indexAddr 28 8 1 38 1 (0 + 23) [5] (.var (e_api_Core v3)) (.tmp 36) .i64 p0 el28 trivial h4.1 h4.2) m21 rfl <| r_st (.var (e_api_Core ({ v3 with Members := aupd v3.Members p0.toNat p1 }))) rfl rfl a1 trivial rfl ⟨rfl, nl rfl, ⟨rfl, (ixl h4), trivial⟩⟩ rfl rfl (congrArg Box.var (set_cons (set_cons rfl (vupd_map (fun z => V.int .u32 z) _ _ _)) (st_api_Core_5 _ _))) ty22 rfl <| r_e) ?_
    refine aw_cov (cov_prune (s1 := ⟨[(6, _), (8, _)], [(0, some _), (1, some _)], 2, []⟩) a2 a2 (Nat.le_refl _)) ?_
    refine aw_region (r_fa (.ptr 1 (0 + 20) [4]) fl35_4 rfl rfl rfl rfl <| r_ld (e_api_Id (({ v3 with Members := aupd v3.Members p0.toNat p1 } : api_Core).Conf)) rfl rfl ⟨rfl, nl rfl, trivial⟩ rfl rfl ty27 rfl <| r_fa (.ptr 1 (0 + 23) [5]) fl35_5 rfl rfl rfl rfl <| r_ld (e_a8_u32 (({ v3 with Members := aupd v3.Members p0.toNat p1 } : api_Core).Members)) rfl rfl ⟨rfl, nl rfl, trivial⟩ rfl rfl ty28 rfl <| r_fa (.ptr 1 (0 + 40) [8]) fl35_8 rfl rfl rfl rfl <| r_st (.var (e_api_Core ({ { v3 with Members := aupd v3.Members p0.toNat p1 } with Promise := ({ v3 with Members := aupd v3.Members p0.toNat p1 } : api_Core).Conf }))) rfl rfl a1 trivial rfl ⟨rfl, nl rfl, trivial⟩ rfl rfl (congrArg Box.var (set_cons rfl (st_api_Core_8 _ _))) ty27 rfl <| r_fa (.ptr 1 (0 + 43) [9]) fl35_9 rfl rfl rfl rfl <| r_st (.var (e_api_Core ({ { { v3 with Members := aupd v3.Members p0.toNat p1 } with Promise := ({ v3 with Members := aupd v3.Members p0.toNat p1 } : api_Core).Conf } with Wanted := ({ v3 with Members := aupd v3.Members p0.toNat p1 } : api_Core).Members }))) rfl rfl a1 trivial rfl ⟨rfl, nl rfl, trivial⟩ rfl rfl (congrArg Box.var (set_cons rfl (st_api_Core_9 _ _))) ty28 rfl <| r_e) ?_
    obtain ⟨v5, hv5, H⟩ := lt_of H
    refine aw_cov (cov_prune (s1 := ⟨[(6, _), (8, _)], [(0, some _), (1, some (.var (e_api_Core v5)))], 2, []⟩) a2 ⟨rfl, (by subst hv5; rfl), trivial⟩ (Nat.le_refl _)) ?_
    refine aw_region (r_lv rfl rfl ty35 rfl <| r_sv rfl rfl rfl rfl rfl rfl ty35 rfl <| r_0 (does_assign (.const (.bool true)) (.bool true) (fun _ => rfl)) rfl rfl <| r_e) ?_
    refine aw_cov (cov_prune (s1 := ⟨[(6, _), (7, _)], [(0, some _)], 2, []⟩) a2 a1 (Nat.le_refl _)) ?_
    refine aw_ret ?_
    exact fun a w hr => ⟨_, [(e_api_Core v5), (.bool true)], hr, ⟨⟨0, _, rfl, rfl, .data _ (d_api_Core v5), ty35⟩, ⟨_, rfl, .data (.bool true) trivial⟩, trivial⟩, by decide, by cases H; rfl⟩
theorem slices_Clone_api_Kept_api_Kept_spec (p0 : (_root_.List api_Kept)) (r : (_root_.List api_Kept)) (H : slices_Clone_api_Kept_api_Kept p0 = some r) : FSpecO Try.prog 64 [(e_s_api_Kept p0)] [] 0 (.own 0) [(0, some (.arr 38 r.length fun j => (e_api_Kept (r.getD j z_api_Kept))))] 1 := by
  refine specO_of (fn := Try.f64) (args := [(e_s_api_Kept p0)]) Try.func64 rfl (nl rfl) ?_
  rintro ⟨G, w0, W, S, Sp, gx⟩ hG
  cases hG
  unfold slices_Clone_api_Kept_api_Kept at H
  refine aw_region (r_0 (does_nil false 0 38 (fun j => (e_api_Kept (([] : _root_.List api_Kept).getD j z_api_Kept)))) rfl rfl <| r_e) ?_
  refine aw_cov (cov_prune (s1 := ⟨[(0, _)], [], 1, []⟩) a1 trivial (Nat.le_refl _)) ?_
  refine aw_seq ?_
  refine aw_region (r_mv rfl rfl <| r_p (does_eqnil 30 64 30 3 38 p0.length (fun j => (e_api_Kept (p0.getD j z_api_Kept))) us30) m10 rfl <| r_e) ?_
  refine aw_cov (cov_prune (s1 := ⟨[(0, _), (4, _)], [], 1, []⟩) a2 trivial (Nat.le_refl _)) ?_
  obtain ⟨H1, H2⟩ := nilq_of H
  clear H
  refine aw_condq rfl (fun hc => ?_) ?_
  · have H := H1 hc
    refine aw_region (r_0 (does_nil false 1 38 (fun j => (e_api_Kept (([] : _root_.List api_Kept).getD j z_api_Kept)))) rfl rfl <| r_e) ?_
    refine aw_cov (cov_prune (s1 := ⟨[(2, _)], [(1, some _)], 2, []⟩) a1 a1 (Nat.le_refl _)) ?_
    refine aw_ret ?_
    refine rt_then ?_
    exact fun a w hr => ⟨_, [(.own 0)], reach_of hr (cov_to (s1 := ⟨[(2, (.own 0))], [(0, some (.arr 38 ([] : _root_.List api_Kept).length fun j => (e_api_Kept (([] : _root_.List api_Kept).getD j z_api_Kept))))], 1, []⟩) (fun i => match i with | 0 => 1 | k => k) [] ⟨⟨_, rfl, .own 0 _ _ (nl rfl) rfl rfl (Box.like_refl _)⟩, trivial⟩ ⟨⟨nl rfl, _, _, rfl, rfl, boxTo_arr (fun _ => (d_api_Kept _))⟩, trivial⟩ rfl rfl), a1, by decide, by cases H; rfl, by cases H; exact a1, nl rfl⟩
  · have H := H2
    refine aw_skip ?_
    refine nx_seq ?_
    obtain ⟨h1, H⟩ := fit_of H
    refine aw_region (r_0 (does_buildOwn 30 0 38 1 (e_api_Kept z_api_Kept) (fun j => (e_api_Kept (([] : _root_.List api_Kept).getD j z_api_Kept))) #[] [] [] rfl so30 (by decide) trivial trivial (fun j h => match j, h with  | k + 0, h => (nlt h).elim)) rfl rfl <| r_mv rfl rfl <| r_p (does_appendL e_api_Kept z_api_Kept ([] : _root_.List api_Kept) p0 30 38 352 1 2 5 6 ap30 h1) m21 rfl <| r_as rfl rfl <| r_e) ?_
    refine aw_cov (cov_prune (s1 := ⟨[(2, _)], [(2, some _)], 3, []⟩) a1 a1 (Nat.le_refl _)) ?_
    refine aw_ret ?_
    exact fun a w hr => ⟨_, [(.own 0)], reach_of hr (cov_to (s1 := ⟨[(2, (.own 0))], [(0, some (.arr 38 (([] : _root_.List api_Kept) ++ p0).length fun j => (e_api_Kept ((([] : _root_.List api_Kept) ++ p0).getD j z_api_Kept))))], 1, []⟩) (fun i => match i with | 0 => 2 | k => k) [] ⟨⟨_, rfl, .own 0 _ _ (nl rfl) rfl rfl (Box.like_refl _)⟩, trivial⟩ ⟨⟨nl rfl, _, _, rfl, rfl, boxTo_arr (fun _ => (d_api_Kept _))⟩, trivial⟩ rfl rfl), a1, by decide, by cases H; rfl, by cases H; exact a1, nl rfl⟩
theorem core_fits_spec (p0 : api_Core) (r : Bool) (H : core_fits p0 = some r) : FSpec Try.prog 29 [(e_api_Core p0)] (.bool r) := by
  refine spec_of (fn := Try.f29) (args := [(e_api_Core p0)]) Try.func29 rfl (nl rfl) ?_
  rintro ⟨G, w0, W, S, Sp, gx⟩ hG
  cases hG
  unfold core_fits at H
  refine aw_region (r_p (does_box 35 (.tmp 0) 0 (e_api_Core p0) trivial rfl) m10 rfl <| r_0 (does_assign (.const (.bool false)) (.bool false) (fun _ => rfl)) rfl rfl <| r_e) ?_
  refine aw_cov (cov_prune (s1 := ⟨[(1, _)], [(0, some _)], 1, []⟩) a1 a1 (Nat.le_refl _)) ?_
  refine aw_region (r_fa (.ptr 0 (0 + 0) [0]) fl35_0 rfl rfl rfl rfl <| r_ld (.int .i64 p0.Self) rfl rfl ⟨rfl, nl rfl, trivial⟩ rfl rfl ty3 rfl <| r_p (does_bin .geq 3 3 (.tmp 4) (.const (.int .i64 0)) .i64 p0.Self 0 (.bool (decide (p0.Self ≥ 0))) trivial (fun _ => rfl) (bin_geq _ _ _ _)) m10 rfl <| r_mv rfl rfl <| r_gfa (.ptr 0 (0 + 0) [0]) fl35_0 rfl rfl rfl rfl rfl (fun _ => .same _) rfl rfl rfl <| r_gld (.int .i64 p0.Self) rfl rfl rfl rfl rfl (fun hc => .opt _ _ hc) rfl (fun hc => ⟨rfl, nl rfl, trivial⟩) rfl rfl ty3 rfl <| r_g [(8, _)] [(8, _)] [] rfl rfl m20 rfl (fun hc => ⟨(.opt _ _ hc), trivial⟩) (fun hc => does_bin .lss 3 3 (.tmp 8) (.const (.int .i64 8)) .i64 p0.Self 8 (.bool (decide (p0.Self < 8))) trivial (fun _ => rfl) (bin_lss _ _ _ _)) rfl <| r_p (does_and 6 9 (decide (p0.Self ≥ 0)) (decide (p0.Self < 8))) m20 rfl <| r_mv rfl rfl <| r_gfa (.ptr 0 (0 + 2) [2]) fl35_2 rfl rfl rfl rfl rfl (fun _ => .same _) rfl rfl rfl <| r_gld (.int .u32 p0.Own) rfl rfl rfl rfl rfl (fun hc => .opt _ _ hc) rfl (fun hc => ⟨rfl, nl rfl, trivial⟩) rfl rfl ty22 rfl <| r_g [(13, _)] [(13, _)] [] rfl rfl m20 rfl (fun hc => ⟨(.opt _ _ hc), trivial⟩) (fun hc => does_bin .neq 22 22 (.tmp 13) (.const (.int .u32 0)) .u32 p0.Own 0 (.bool (p0.Own != 0)) trivial (fun _ => rfl) (bin_neq _ _ _ _)) rfl <| r_p (does_and 11 14 ((decide (p0.Self ≥ 0)) && (decide (p0.Self < 8))) (p0.Own != 0)) m20 rfl <| r_as rfl rfl <| r_e) ?_
  refine aw_cov (cov_prune (s1 := ⟨[(2, _)], [], 1, []⟩) a1 trivial (Nat.le_refl _)) ?_
  refine aw_ret ?_
  exact fun a w hr => ⟨_, [(.bool (((decide (p0.Self ≥ 0)) && (decide (p0.Self < 8))) && (p0.Own != 0)))], hr, ⟨⟨_, rfl, .data (.bool (((decide (p0.Self ≥ 0)) && (decide (p0.Self < 8))) && (p0.Own != 0))) trivial⟩, trivial⟩, by decide, by cases H; rfl⟩
theorem beat_Tick_spec (p0 : api_Beat) (r : api_Beat) (H : beat_Tick p0 = some r) : FSpec Try.prog 30 [(e_api_Beat p0)] (e_api_Beat r) := by
  refine spec_of (fn := Try.f30) (args := [(e_api_Beat p0)]) Try.func30 rfl (nl rfl) ?_
  rintro ⟨G, w0, W, S, Sp, gx⟩ hG
  cases hG
  unfold beat_Tick at H
  refine aw_region (r_p (does_box 25 (.tmp 0) 0 (e_api_Beat p0) trivial rfl) m10 rfl <| r_0 (does_alloc 25 1 (e_api_Beat z_api_Beat) zr25) rfl rfl <| r_e) ?_
  refine aw_cov (cov_prune (s1 := ⟨[(1, _), (2, _)], [(0, some _), (1, some _)], 2, []⟩) a2 a2 (Nat.le_refl _)) ?_
  refine aw_seq ?_
  refine aw_region (r_fa (.ptr 0 (0 + 0) [0]) fl25_0 rfl rfl rfl rfl <| r_ld (.int .u32 p0.Now) rfl rfl ⟨rfl, nl rfl, trivial⟩ rfl rfl ty22 rfl <| r_p (does_bin .lss 22 22 (.tmp 4) (.const (.int .u32 4294967295)) .u32 p0.Now 4294967295 (.bool (decide (p0.Now < 4294967295))) trivial (fun _ => rfl) (bin_lss _ _ _ _)) m10 rfl <| r_e) ?_
  refine aw_cov (cov_prune (s1 := ⟨[(1, _), (2, _), (5, _)], [(0, some _), (1, some _)], 2, []⟩) a3 a2 (Nat.le_refl _)) ?_
  refine aw_jn (fun x2 : api_Beat => (⟨[(1, (.ptr 0 0 [])), (2, (.ptr 1 0 []))], [(0, some (.var (e_api_Beat x2))), (1, some (.var (e_api_Beat z_api_Beat)))], 2, []⟩ : St)) H (fun x2 H => ?_) (fun j1 H => ?_)
  · refine nx_seq ?_
    refine aw_region (r_lv rfl rfl ty25 rfl <| r_sv rfl rfl rfl rfl rfl rfl ty25 rfl <| r_e) ?_
    refine aw_cov (cov_prune (s1 := ⟨[(2, _)], [(1, some _)], 2, []⟩) a1 a1 (Nat.le_refl _)) ?_
    refine aw_ret ?_
    exact fun a w hr => ⟨_, [(e_api_Beat x2)], hr, ⟨⟨1, _, rfl, rfl, .data _ (d_api_Beat x2), ty25⟩, trivial⟩, by decide, by cases H; rfl⟩
  · refine aw_cond rfl (fun hc => ?_) (fun hc => ?_)
    · replace H := ite_t hc H
      refine aw_region1 (r_fa (.ptr 0 (0 + 0) [0]) fl25_0 rfl rfl rfl rfl <| r_ld (.int .u32 p0.Now) rfl rfl ⟨rfl, nl rfl, trivial⟩ rfl rfl ty22 rfl <| r_p (does_bin .add 22 22 (.tmp 7) (.const (.int .u32 1)) .u32 p0.Now 1 (.int .u32 (IntKind.u32.wrap (p0.Now + 1))) trivial (fun _ => rfl) (bin_add _ _ _ _)) m10 rfl <| r_fa (.ptr 0 (0 + 0) [0]) fl25_0 rfl rfl rfl rfl <| r_st (.var (e_api_Beat ({ p0 with Now := (IntKind.u32.wrap (p0.Now + 1)) }))) rfl rfl a1 trivial rfl ⟨rfl, nl rfl, trivial⟩ rfl rfl (congrArg Box.var (set_cons rfl (st_api_Beat_0 _ _))) ty22 rfl <| r_e) ?_
      exact nx_join ({ p0 with Now := (IntKind.u32.wrap (p0.Now + 1)) }) H (cov_prune a2 a2 (nl rfl))
    · replace H := ite_f hc H
      refine aw_skip ?_
      exact nx_join (p0) H (cov_prune a2 a2 (nl rfl))
theorem beat_Reach_spec (p0 : api_Beat) (p1 : Int) (p2 : Int) (p3 : Int) (r : (Nat → Int)) (H : beat_Reach p0 p1 p2 p3 = some r) : FSpec Try.prog 31 [(e_api_Beat p0), (.int .i64 p1), (.int .u32 p2), (.int .u32 p3)] (e_a8_u32 r) := by
  refine spec_of (fn := Try.f31) (args := [(e_api_Beat p0), (.int .i64 p1), (.int .u32 p2), (.int .u32 p3)]) Try.func31 rfl (nl rfl) ?_
  rintro ⟨G, w0, W, S, Sp, gx⟩ hG
  cases hG
  unfold beat_Reach at H
  refine aw_region (r_p (does_box 25 (.tmp 0) 0 (e_api_Beat p0) trivial rfl) m10 rfl <| r_0 (does_alloc 28 1 (e_a8_u32 (fun _ => 0)) zr28) rfl rfl <| r_e) ?_
  refine aw_cov (cov_prune (s1 := ⟨[(1, _), (2, _), (3, _), (4, _), (8, _)], [(0, some _), (1, some _)], 2, []⟩) a5 a2 (Nat.le_refl _)) ?_
  refine aw_region (r_0 (does_alloc 28 2 (e_a8_u32 (fun _ => 0)) zr28) rfl rfl <| r_e) ?_
  refine aw_cov (cov_prune (s1 := ⟨[(1, _), (2, _), (3, _), (4, _), (8, _), (9, _)], [(0, some _), (1, some _), (2, some _)], 3, []⟩) a6 a3 (Nat.le_refl _)) ?_
  refine aw_seq ?_
  refine aw_region (r_fa (.ptr 0 (0 + 1) [1]) fl25_1 rfl rfl rfl rfl <| r_ld (e_a8_u32 p0.Heard) rfl rfl ⟨rfl, nl rfl, trivial⟩ rfl rfl ty23 rfl <| r_0 (does_move (.const (.int .i64 0)) (.int .i64 0) (fun _ => rfl)) rfl rfl <| r_e) ?_
  refine aw_cov (cov_prune (s1 := ⟨[(1, _), (2, _), (3, _), (4, _), (8, _), (9, _), (13, _), (14, _)], [(0, some _), (1, some _), (2, some _)], 3, []⟩) a8 a3 (Nat.le_refl _)) ?_
  obtain ⟨wn2, hwn2, Hrn2⟩ := bnd H
  refine aw_meet (fun y9 : (Nat → Int) => (⟨[(1, (.int .i64 p1)), (2, (.int .u32 p2)), (8, (.ptr 1 0 [])), (9, (.ptr 2 0 []))], [(1, some (.var (e_a8_u32 (fun _ => 0)))), (2, some (.var (e_a8_u32 y9)))], 3, []⟩ : St)) (fun y9 => Fl.nx y9 = wn2) (fun y9 hy => ?_) (aw_block (aw_runs (fun x1 : Int × (Nat → Int) => (⟨[(1, (.int .i64 p1)), (2, (.int .u32 p2)), (3, (.int .u32 p3)), (4, (.ptr 0 0 [])), (8, (.ptr 1 0 [])), (9, (.ptr 2 0 [])), (13, (e_a8_u32 p0.Heard)), (14, (.int .i64 x1.1))], [(0, some (.var (e_api_Beat p0))), (1, some (.var (e_a8_u32 (fun _ => 0)))), (2, some (.var (e_a8_u32 x1.2)))], 3, []⟩ : St)) hwn2 (cov_prune a8 a3 (nl rfl)) (fun x1 st H hsn2 => ?_)))
  · have H := nx_of hy Hrn2
    refine nx_seq ?_
    refine aw_seq ?_
    refine aw_region (r_mv rfl rfl <| r_p (does_bin .geq 3 3 (.tmp 41) (.const (.int .i64 0)) .i64 p1 0 (.bool (decide (p1 ≥ 0))) trivial (fun _ => rfl) (bin_geq _ _ _ _)) m10 rfl <| r_mv rfl rfl <| r_gmv rfl rfl rfl rfl rfl rfl <| r_g [(44, _)] [(44, _)] [] rfl rfl m20 rfl (fun hc => ⟨(.opt _ _ hc), trivial⟩) (fun hc => does_bin .lss 3 3 (.tmp 44) (.const (.int .i64 8)) .i64 p1 8 (.bool (decide (p1 < 8))) trivial (fun _ => rfl) (bin_lss _ _ _ _)) rfl <| r_p (does_and 43 45 (decide (p1 ≥ 0)) (decide (p1 < 8))) m20 rfl <| r_e) ?_
    refine aw_cov (cov_prune (s1 := ⟨[(1, _), (2, _), (8, _), (9, _), (46, _)], [(1, some _), (2, some _)], 3, []⟩) a5 a2 (Nat.le_refl _)) ?_
    refine aw_jn (fun x12 : (Nat → Int) => (⟨[(8, (.ptr 1 0 [])), (9, (.ptr 2 0 []))], [(1, some (.var (e_a8_u32 (fun _ => 0)))), (2, some (.var (e_a8_u32 x12)))], 3, []⟩ : St)) H (fun x12 H => ?_) (fun j10 H => ?_)
    · refine nx_seq ?_
      refine aw_region (r_lv rfl rfl ty28 rfl <| r_sv rfl rfl rfl rfl rfl rfl ty28 rfl <| r_e) ?_
      refine aw_cov (cov_prune (s1 := ⟨[(8, _)], [(1, some _)], 3, []⟩) a1 a1 (Nat.le_refl _)) ?_
      refine aw_ret ?_
      exact fun a w hr => ⟨_, [(e_a8_u32 x12)], hr, ⟨⟨1, _, rfl, rfl, .data _ (d_a8_u32 x12), ty28⟩, trivial⟩, by decide, by cases H; rfl⟩
    · refine aw_cond rfl (fun hc => ?_) (fun hc => ?_)
      · replace H := ite_t hc H
        obtain ⟨h11, H⟩ := ib_of H
        refine aw_region1 (r_mv rfl rfl <| r_mv rfl rfl <| r_p (does_indexAddr 28 8 1 9 2 0 [] (.var (e_a8_u32 y9)) (.tmp 47) .i64 p1 el28 trivial h11.1 h11.2) m21 rfl <| r_st (.var (e_a8_u32 (aupd y9 p1.toNat p2))) rfl rfl a1 trivial rfl ⟨rfl, (ixl h11), trivial⟩ rfl rfl (congrArg Box.var (set_cons rfl (vupd_map (fun z => V.int .u32 z) _ _ _))) ty22 rfl <| r_e) ?_
        exact nx_join (aupd y9 p1.toNat p2) H (cov_prune a2 a2 (nl rfl))
      · replace H := ite_f hc H
        refine aw_skip ?_
        exact nx_join (y9) H (cov_prune a2 a2 (nl rfl))
  · refine aw_region (r_p (does_bin .lss 3 3 (.tmp 14) (.const (.int .i64 8)) .i64 x1.1 8 (.bool (decide (x1.1 < 8))) trivial (fun _ => rfl) (bin_lss _ _ _ _)) m10 rfl <| r_e) ?_
    refine aw_cov (cov_prune (s1 := ⟨[(1, _), (2, _), (3, _), (4, _), (8, _), (9, _), (13, _), (14, _), (15, _)], [(0, some _), (1, some _), (2, some _)], 3, []⟩) a9 a3 (Nat.le_refl _)) ?_
    refine aw_seq ?_
    refine aw_cond rfl (fun hc => ?_) (fun hc => ?_)
    · replace H := ite_t hc H
      refine aw_skip ?_
      refine nx_seq ?_
      refine aw_seq ?_
      refine aw_jn (fun x8 : (Nat → Int) => (⟨[(1, (.int .i64 p1)), (2, (.int .u32 p2)), (3, (.int .u32 p3)), (4, (.ptr 0 0 [])), (8, (.ptr 1 0 [])), (9, (.ptr 2 0 [])), (13, (e_a8_u32 p0.Heard)), (14, (.int .i64 x1.1))], [(0, some (.var (e_api_Beat p0))), (1, some (.var (e_a8_u32 (fun _ => 0)))), (2, some (.var (e_a8_u32 x8)))], 3, []⟩ : St)) H (fun x8 H => ?_) (fun j3 H => ?_)
      · refine nx_seq ?_
        refine aw_region1 (r_p (does_bin .add 3 3 (.tmp 14) (.const (.int .i64 1)) .i64 x1.1 1 (.int .i64 (IntKind.i64.wrap (x1.1 + 1))) trivial (fun _ => rfl) (bin_add _ _ _ _)) m10 rfl <| r_mv rfl rfl <| r_e) ?_
        exact nx_loop ((IntKind.i64.wrap (x1.1 + 1)), x8) H (cov_prune a8 a3 (nl rfl))
      · refine aw_block ?_
        obtain ⟨h4, H⟩ := ib_of H
        refine aw_region (r_mv rfl rfl <| r_p (does_index 23 8 22 1 13 false (fun j => (.int .u32 (p0.Heard j))) (.tmp 14) .i64 x1.1 ua23 ty22 rfl trivial h4.1 h4.2) m20 rfl <| r_as rfl rfl <| r_as rfl rfl <| r_e) ?_
        refine aw_cov (cov_prune (s1 := ⟨[(1, _), (2, _), (3, _), (4, _), (8, _), (9, _), (13, _), (14, _), (10, _), (11, _)], [(0, some _), (1, some _), (2, some _)], 3, []⟩) ⟨rfl, rfl, rfl, rfl, rfl, rfl, rfl, rfl, rfl, rfl, trivial⟩ a3 (Nat.le_refl _)) ?_
        refine aw_region (r_mv rfl rfl <| r_p (does_bin .neq 22 22 (.tmp 18) (.const (.int .u32 0)) .u32 (p0.Heard x1.1.toNat) 0 (.bool ((p0.Heard x1.1.toNat) != 0)) trivial (fun _ => rfl) (bin_neq _ _ _ _)) m10 rfl <| r_mv rfl rfl <| r_gmv rfl rfl rfl rfl rfl rfl <| r_gfa (.ptr 0 (0 + 0) [0]) fl25_0 rfl rfl rfl rfl rfl (fun _ => .same _) rfl rfl rfl <| r_gld (.int .u32 p0.Now) rfl rfl rfl rfl rfl (fun hc => .opt _ _ hc) rfl (fun hc => ⟨rfl, nl rfl, trivial⟩) rfl rfl ty22 rfl <| r_g [(21, _), (23, _)] [(21, _), (23, _)] [] rfl rfl m30 rfl (fun hc => ⟨(.opt _ _ hc), (.opt _ _ hc), trivial⟩) (fun hc => does_bin .leq 22 22 (.tmp 21) (.tmp 23) .u32 (p0.Heard x1.1.toNat) p0.Now (.bool (decide ((p0.Heard x1.1.toNat) ≤ p0.Now))) trivial trivial (bin_leq _ _ _ _)) rfl <| r_p (does_and 20 24 ((p0.Heard x1.1.toNat) != 0) (decide ((p0.Heard x1.1.toNat) ≤ p0.Now))) m20 rfl <| r_mv rfl rfl <| r_gfa (.ptr 0 (0 + 0) [0]) fl25_0 rfl rfl rfl rfl rfl (fun _ => .same _) rfl rfl rfl <| r_gld (.int .u32 p0.Now) rfl rfl rfl rfl rfl (fun hc => .opt _ _ hc) rfl (fun hc => ⟨rfl, nl rfl, trivial⟩) rfl rfl ty22 rfl <| r_gmv rfl rfl rfl rfl rfl rfl <| r_g [(28, _), (29, _)] [(28, _), (29, _)] [] rfl rfl m30 rfl (fun hc => ⟨(.opt _ _ hc), (.opt _ _ hc), trivial⟩) (fun hc => does_bin .sub 22 22 (.tmp 28) (.tmp 29) .u32 p0.Now (p0.Heard x1.1.toNat) (.int .u32 (IntKind.u32.wrap (p0.Now - (p0.Heard x1.1.toNat)))) trivial trivial (bin_sub _ _ _ _)) rfl <| r_gmv rfl rfl rfl rfl rfl rfl <| r_g [(30, _), (31, _)] [(30, _), (31, _)] [] rfl rfl m30 rfl (fun hc => ⟨(.opt _ _ hc), (.opt _ _ hc), trivial⟩) (fun hc => does_bin .leq 22 22 (.tmp 30) (.tmp 31) .u32 (IntKind.u32.wrap (p0.Now - (p0.Heard x1.1.toNat))) p3 (.bool (decide ((IntKind.u32.wrap (p0.Now - (p0.Heard x1.1.toNat))) ≤ p3))) trivial trivial (bin_leq _ _ _ _)) rfl <| r_p (does_and 26 32 (((p0.Heard x1.1.toNat) != 0) && (decide ((p0.Heard x1.1.toNat) ≤ p0.Now))) (decide ((IntKind.u32.wrap (p0.Now - (p0.Heard x1.1.toNat))) ≤ p3))) m20 rfl <| r_e) ?_
        obtain ⟨v5, hv5, H⟩ := lt_of H
        refine aw_cov (cov_prune (s1 := ⟨[(1, _), (2, _), (3, _), (4, _), (8, _), (9, _), (13, _), (14, _), (10, _), (33, (.bool v5))], [(0, some _), (1, some _), (2, some _)], 3, []⟩) ⟨rfl, rfl, rfl, rfl, rfl, rfl, rfl, rfl, rfl, (by subst hv5; rfl), trivial⟩ a3 (Nat.le_refl _)) ?_
        refine aw_cond rfl (fun hc => ?_) (fun hc => ?_)
        · replace H := ite_t hc H
          obtain ⟨h6, H⟩ := ib_of H
          obtain ⟨h7, H⟩ := ib_of H
          refine aw_region1 (r_mv rfl rfl <| r_mv rfl rfl <| r_fa (.ptr 0 (0 + 9) [2]) fl25_2 rfl rfl rfl rfl <| r_p (does_indexAddr 23 8 1 36 0 (0 + 9) [2] (.var (e_api_Beat p0)) (.tmp 35) .i64 x1.1 el23 trivial h6.1 h6.2) m21 rfl <| r_ld (.int .u32 (p0.Inc x1.1.toNat)) rfl rfl ⟨rfl, nl rfl, ⟨rfl, (ixl h6), trivial⟩⟩ rfl rfl ty22 rfl <| r_p (does_indexAddr 28 8 1 9 2 0 [] (.var (e_a8_u32 x1.2)) (.tmp 34) .i64 x1.1 el28 trivial h7.1 h7.2) m21 rfl <| r_st (.var (e_a8_u32 (aupd x1.2 x1.1.toNat (p0.Inc x1.1.toNat)))) rfl rfl a1 trivial rfl ⟨rfl, (ixl h7), trivial⟩ rfl rfl (congrArg Box.var (set_cons rfl (vupd_map (fun z => V.int .u32 z) _ _ _))) ty22 rfl <| r_e) ?_
          refine nx_blk ?_
          exact nx_join (aupd x1.2 x1.1.toNat (p0.Inc x1.1.toNat)) H (cov_prune a8 a3 (nl rfl))
        · replace H := ite_f hc H
          refine aw_skip ?_
          refine nx_blk ?_
          exact nx_join (x1.2) H (cov_prune a8 a3 (nl rfl))
    · replace H := ite_f hc H
      refine aw_exit ?_
      refine ex_then ?_
      refine ex_then ?_
      refine ex_here ?_
      exact nx_ljoin (x1.2) H hsn2 (cov_prune a4 a2 (nl rfl))
theorem core_Gathers_spec (p0 : api_Core) (r : Bool) (H : core_Gathers p0 = some r) : FSpec Try.prog 17 [(e_api_Core p0)] (.bool r) := by
  refine spec_of (fn := Try.f17) (args := [(e_api_Core p0)]) Try.func17 rfl (nl rfl) ?_
  rintro ⟨G, w0, W, S, Sp, gx⟩ hG
  cases hG
  unfold core_Gathers at H
  refine aw_region (r_p (does_box 35 (.tmp 0) 0 (e_api_Core p0) trivial rfl) m10 rfl <| r_0 (does_assign (.const (.bool false)) (.bool false) (fun _ => rfl)) rfl rfl <| r_e) ?_
  refine aw_cov (cov_prune (s1 := ⟨[(1, _)], [(0, some _)], 1, []⟩) a1 a1 (Nat.le_refl _)) ?_
  refine aw_region (r_fa (.ptr 0 (0 + 40) [8]) fl35_8 rfl rfl rfl rfl <| r_ld (e_api_Id p0.Promise) rfl rfl ⟨rfl, nl rfl, trivial⟩ rfl rfl ty27 rfl <| r_fa (.ptr 0 (0 + 20) [4]) fl35_4 rfl rfl rfl rfl <| r_ld (e_api_Id p0.Conf) rfl rfl ⟨rfl, nl rfl, trivial⟩ rfl rfl ty27 rfl <| r_eq true rfl rfl rfl rfl eg27 sh27 (al_api_Id _ _) (al_api_Id _ _) (q_api_Id _ _) rfl <| r_as rfl rfl <| r_e) ?_
  refine aw_cov (cov_prune (s1 := ⟨[(2, _)], [], 1, []⟩) a1 trivial (Nat.le_refl _)) ?_
  refine aw_ret ?_
  exact fun a w hr => ⟨_, [(.bool (!(b_api_Id p0.Promise p0.Conf)))], hr, ⟨⟨_, rfl, .data (.bool (!(b_api_Id p0.Promise p0.Conf))) trivial⟩, trivial⟩, by decide, by cases H; rfl⟩
theorem ident_List_spec (p0 : (Nat → Int)) (r : (_root_.List Int)) (H : ident_List p0 = some r) : FSpecO Try.prog 66 [(e_a8_u32 p0)] [] 0 (.own 0) [(0, some (.arr 1 r.length fun j => (.int .i64 (r.getD j 0))))] 1 := by
  refine specO_of (fn := Try.f66) (args := [(e_a8_u32 p0)]) Try.func66 rfl (nl rfl) ?_
  rintro ⟨G, w0, W, S, Sp, gx⟩ hG
  cases hG
  unfold ident_List at H
  refine aw_region (r_p (does_box 28 (.tmp 0) 0 (e_a8_u32 p0) trivial rfl) m10 rfl <| r_0 (does_nil false 1 1 (fun j => (.int .i64 (([] : _root_.List Int).getD j 0)))) rfl rfl <| r_e) ?_
  refine aw_cov (cov_prune (s1 := ⟨[(1, _)], [(0, some _)], 2, []⟩) a1 a1 (Nat.le_refl _)) ?_
  refine aw_region (r_0 (does_nil false 2 1 (fun j => (.int .i64 (([] : _root_.List Int).getD j 0)))) rfl rfl <| r_e) ?_
  refine aw_cov (cov_prune (s1 := ⟨[(1, _), (3, _)], [(0, some _), (2, some _)], 3, []⟩) a2 a2 (Nat.le_refl _)) ?_
  refine aw_seq ?_
  refine aw_region (r_lv rfl rfl ty28 rfl <| r_0 (does_move (.const (.int .i64 0)) (.int .i64 0) (fun _ => rfl)) rfl rfl <| r_e) ?_
  refine aw_cov (cov_prune (s1 := ⟨[(3, _), (6, _), (7, _)], [(2, some _)], 3, []⟩) a3 a1 (Nat.le_refl _)) ?_
  obtain ⟨wn2, hwn2, Hrn2⟩ := bnd H
  refine aw_meet (fun y7 : _root_.List Int => (⟨[(3, (.own 2))], [(2, some (.arr 1 y7.length fun j => (.int .i64 (y7.getD j 0))))], 3, []⟩ : St)) (fun y7 => Fl.nx y7 = wn2) (fun y7 hy => ?_) (aw_block (aw_runs (fun x1 : Int × _root_.List Int => (⟨[(3, (.own 2)), (6, (e_a8_u32 p0)), (7, (.int .i64 x1.1))], [(2, some (.arr 1 x1.2.length fun j => (.int .i64 (x1.2.getD j 0))))], 3, []⟩ : St)) hwn2 (cov_prune a3 a1 (nl rfl)) (fun x1 st H hsn2 => ?_)))
  · have H := nx_of hy Hrn2
    refine nx_seq ?_
    refine aw_region (r_mv rfl rfl <| r_as rfl rfl <| r_e) ?_
    refine aw_cov (cov_prune (s1 := ⟨[(2, _)], [(2, some _)], 3, []⟩) a1 a1 (Nat.le_refl _)) ?_
    refine aw_ret ?_
    exact fun a w hr => ⟨_, [(.own 0)], reach_of hr (cov_to (s1 := ⟨[(2, (.own 0))], [(0, some (.arr 1 y7.length fun j => (.int .i64 (y7.getD j 0))))], 1, []⟩) (fun i => match i with | 0 => 2 | k => k) [] ⟨⟨_, rfl, .own 0 _ _ (nl rfl) rfl rfl (Box.like_refl _)⟩, trivial⟩ ⟨⟨nl rfl, _, _, rfl, rfl, boxTo_arr (fun _ => trivial)⟩, trivial⟩ rfl rfl), a1, by decide, by cases H; rfl, by cases H; exact a1, nl rfl⟩
  · refine aw_region (r_p (does_bin .lss 3 3 (.tmp 7) (.const (.int .i64 8)) .i64 x1.1 8 (.bool (decide (x1.1 < 8))) trivial (fun _ => rfl) (bin_lss _ _ _ _)) m10 rfl <| r_e) ?_
    refine aw_cov (cov_prune (s1 := ⟨[(3, _), (6, _), (7, _), (8, _)], [(2, some _)], 3, []⟩) a4 a1 (Nat.le_refl _)) ?_
    refine aw_seq ?_
    refine aw_cond rfl (fun hc => ?_) (fun hc => ?_)
    · replace H := ite_t hc H
      refine aw_skip ?_
      refine nx_seq ?_
      refine aw_seq ?_
      refine aw_jn (fun x6 : _root_.List Int => (⟨[(3, (.own 2)), (6, (e_a8_u32 p0)), (7, (.int .i64 x1.1))], [(2, some (.arr 1 x6.length fun j => (.int .i64 (x6.getD j 0))))], 4, []⟩ : St)) H (fun x6 H => ?_) (fun j3 H => ?_)
      · refine nx_seq ?_
        refine aw_region1 (r_p (does_bin .add 3 3 (.tmp 7) (.const (.int .i64 1)) .i64 x1.1 1 (.int .i64 (IntKind.i64.wrap (x1.1 + 1))) trivial (fun _ => rfl) (bin_add _ _ _ _)) m10 rfl <| r_mv rfl rfl <| r_e) ?_
        exact nx_loop ((IntKind.i64.wrap (x1.1 + 1)), x6) H (cov_of (fun i => match i with | 2 => 2 | k => k) ⟨⟨_, rfl, ⟨rfl, nl rfl⟩⟩, ⟨_, rfl, .inl ⟨rfl, (d_a8_u32 _).plain⟩⟩, ⟨_, rfl, a1⟩, trivial⟩ ⟨⟨nl rfl, _, _, rfl, rfl, ⟨rfl, rfl, fun _ => a1⟩⟩, trivial⟩ rfl)
      · refine aw_block ?_
        obtain ⟨h4, H⟩ := ib_of H
        refine aw_region (r_mv rfl rfl <| r_p (does_index 28 8 22 1 6 false (fun j => (.int .u32 (p0 j))) (.tmp 7) .i64 x1.1 ua28 ty22 rfl trivial h4.1 h4.2) m20 rfl <| r_as rfl rfl <| r_as rfl rfl <| r_e) ?_
        refine aw_cov (cov_prune (s1 := ⟨[(3, _), (6, _), (7, _), (4, _), (5, _)], [(2, some _)], 3, []⟩) a5 a1 (Nat.le_refl _)) ?_
        refine aw_region (r_mv rfl rfl <| r_p (does_bin .neq 22 22 (.tmp 11) (.const (.int .u32 0)) .u32 (p0 x1.1.toNat) 0 (.bool ((p0 x1.1.toNat) != 0)) trivial (fun _ => rfl) (bin_neq _ _ _ _)) m10 rfl <| r_e) ?_
        refine aw_cov (cov_prune (s1 := ⟨[(3, _), (6, _), (7, _), (4, _), (12, _)], [(2, some _)], 3, []⟩) a5 a1 (Nat.le_refl _)) ?_
        refine aw_cond rfl (fun hc => ?_) (fun hc => ?_)
        · replace H := ite_t hc H
          obtain ⟨h5, H⟩ := fit_of H
          refine aw_region1 (r_mv rfl rfl <| r_mv rfl rfl <| r_p (does_buildSl 117 1 1 (.int .i64 0) (fun j => (.int .i64 (([x1.1] : _root_.List Int).getD j 0))) #[(0, (.tmp 14))] [(0, (.tmp 14))] [(0, (.int .i64 x1.1))] rfl so117 (by decide) ⟨a1, trivial⟩ ⟨⟨nl rfl, rfl, rfl⟩, trivial⟩ (fun j h => match j, h with | 0, _ => rfl | k + 1, h => (nlt h).elim)) m10 rfl <| r_p (does_appendL (fun z => V.int .i64 z) 0 x1.2 ([x1.1] : _root_.List Int) 117 1 8 2 3 13 15 ap117 h5) m21 rfl <| r_as rfl rfl <| r_e) ?_
          refine nx_blk ?_
          exact nx_join ((x1.2 ++ ([x1.1] : _root_.List Int))) H (cov_of (fun i => match i with | 2 => 3 | k => k) ⟨⟨_, rfl, ⟨rfl, nl rfl⟩⟩, ⟨_, rfl, .inl ⟨rfl, (d_a8_u32 _).plain⟩⟩, ⟨_, rfl, a1⟩, trivial⟩ ⟨⟨nl rfl, _, _, rfl, rfl, ⟨rfl, rfl, fun _ => a1⟩⟩, trivial⟩ rfl)
        · replace H := ite_f hc H
          refine aw_skip ?_
          refine nx_blk ?_
          exact nx_join (x1.2) H (cov_of (fun i => match i with | 2 => 2 | k => k) ⟨⟨_, rfl, ⟨rfl, nl rfl⟩⟩, ⟨_, rfl, .inl ⟨rfl, (d_a8_u32 _).plain⟩⟩, ⟨_, rfl, a1⟩, trivial⟩ ⟨⟨nl rfl, _, _, rfl, rfl, ⟨rfl, rfl, fun _ => a1⟩⟩, trivial⟩ rfl)
    · replace H := ite_f hc H
      refine aw_exit ?_
      refine ex_then ?_
      refine ex_then ?_
      refine ex_here ?_
      exact nx_ljoin (x1.2) H hsn2 (cov_prune a1 a1 (nl rfl))
theorem slices_IndexFunc_int_int_spec (p0 : (_root_.List Int)) (p1 : (Int → Option (Bool))) (k1 n1 : Nat) (c1 : Nat → V) (o1 : FnOk Try.prog k1) (h1 : ∀ j, (c1 j).Cap) (g1 : ∀ (x0 : Int) (r : Bool), p1 x0 = some r → FSpec Try.prog k1 ([(.int .i64 x0)] ++ (List.range n1).map c1) (.bool r)) (r : Int) (H : slices_IndexFunc_int_int p0 p1 = some r) : FSpec Try.prog 91 [(e_s_i64 p0), (.fn k1 n1 c1)] (.int .i64 r) := by
  refine spec_of (fn := Try.f91) (args := [(e_s_i64 p0), (.fn k1 n1 c1)]) Try.func91 rfl (nl rfl) ?_
  rintro ⟨G, w0, W, S, Sp, gx⟩ hG
  cases hG
  unfold slices_IndexFunc_int_int at H
  refine aw_region (r_0 (does_assign (.const (.int .i64 0)) (.int .i64 0) (fun _ => rfl)) rfl rfl <| r_e) ?_
  refine aw_cov (cov_prune (s1 := ⟨[(0, _), (1, _)], [], 0, []⟩) a2 trivial (Nat.le_refl _)) ?_
  refine aw_seq ?_
  refine aw_region (r_mv rfl rfl <| r_p (does_lens 117 1 p0.length 6 (fun j => (.int .i64 (p0.getD j 0))) el117) m10 rfl <| r_0 (does_move (.const (.int .i64 0)) (.int .i64 0) (fun _ => rfl)) rfl rfl <| r_e) ?_
  refine aw_cov (cov_prune (s1 := ⟨[(0, _), (1, _), (7, _), (8, _)], [], 0, []⟩) a4 trivial (Nat.le_refl _)) ?_
  obtain ⟨wn2, hwn2, Hrn2⟩ := bnd H
  refine aw_meet (fun y6 : Unit => (⟨[], [], 0, []⟩ : St)) (fun y6 => Fl.nx y6 = wn2) (fun y6 hy => ?_) (aw_block (aw_runs (fun x1 : Int => (⟨[(0, (e_s_i64 p0)), (1, (.fn k1 n1 c1)), (7, (.int .i64 (p0.length : Int))), (8, (.int .i64 x1))], [], 0, []⟩ : St)) hwn2 (cov_prune a4 trivial (nl rfl)) (fun x1 st H hsn2 => ?_)))
  · have H := nx_of hy Hrn2
    refine nx_seq ?_
    refine aw_region (r_0 (does_assign (.const (.int .i64 (-1))) (.int .i64 (-1)) (fun _ => rfl)) rfl rfl <| r_e) ?_
    refine aw_cov (cov_prune (s1 := ⟨[(4, _)], [], 0, []⟩) a1 trivial (Nat.le_refl _)) ?_
    refine aw_ret ?_
    exact fun a w hr => ⟨_, [(.int .i64 (-1))], hr, ⟨⟨_, rfl, .data (.int .i64 (-1)) trivial⟩, trivial⟩, by decide, by cases H; rfl⟩
  · refine aw_region (r_p (does_bin .lss 3 3 (.tmp 8) (.tmp 7) .i64 x1 (p0.length : Int) (.bool (decide (x1 < (p0.length : Int)))) trivial trivial (bin_lss _ _ _ _)) m20 rfl <| r_e) ?_
    refine aw_cov (cov_prune (s1 := ⟨[(0, _), (1, _), (7, _), (8, _), (9, _)], [], 0, []⟩) a5 trivial (Nat.le_refl _)) ?_
    refine aw_seq ?_
    refine aw_cond rfl (fun hc => ?_) (fun hc => ?_)
    · replace H := ite_t hc H
      refine aw_skip ?_
      refine nx_seq ?_
      refine aw_seq ?_
      refine aw_block ?_
      refine aw_region (r_mv rfl rfl <| r_as rfl rfl <| r_e) ?_
      refine aw_cov (cov_prune (s1 := ⟨[(0, _), (1, _), (7, _), (8, _), (5, _)], [], 0, []⟩) a5 trivial (Nat.le_refl _)) ?_
      obtain ⟨h3, H⟩ := ib_of H
      obtain ⟨v4, h5, H⟩ := bnd H
      refine aw_region (r_mv rfl rfl <| r_mv rfl rfl <| r_mv rfl rfl <| r_p (does_indexAddrs 117 1 p0.length 12 (fun j => (.int .i64 (p0.getD j 0))) (.tmp 13) .i64 x1 el117 trivial h3.1 h3.2) m20 rfl <| r_p (does_loadc 3 14 (.int .i64 (p0.getD x1.toNat 0)) ty3) m10 rfl <| r_p (does_callf k1 n1 c1 11 [(.tmp 15)] [(.int .i64 (p0.getD x1.toNat 0))] [(.int .i64 (p0.getD x1.toNat 0))] [] true (.bool v4) _ _ rfl o1 ⟨trivial, trivial⟩ ⟨.data _ trivial, trivial⟩ h1 (g1 (p0.getD x1.toNat 0) _ h5) trivial) m20 rfl <| r_e) ?_
      refine aw_cov (cov_prune (s1 := ⟨[(0, _), (1, _), (7, _), (8, _), (5, _), (16, _)], [], 0, []⟩) a6 trivial (Nat.le_refl _)) ?_
      refine aw_cond rfl (fun hc => ?_) (fun hc => ?_)
      · replace H := ite_t hc H
        refine aw_region (r_mv rfl rfl <| r_as rfl rfl <| r_e) ?_
        refine aw_cov (cov_prune (s1 := ⟨[(4, _)], [], 0, []⟩) a1 trivial (Nat.le_refl _)) ?_
        refine aw_ret ?_
        replace H := rt_of H hsn2 Hrn2
        refine rt_blk ?_
        refine rt_then ?_
        refine rt_then ?_
        refine rt_blk ?_
        refine rt_then ?_
        refine rt_then ?_
        exact fun a w hr => ⟨_, [(.int .i64 x1)], hr, ⟨⟨_, rfl, .data (.int .i64 x1) trivial⟩, trivial⟩, by decide, by cases H; rfl⟩
      · replace H := ite_f hc H
        refine aw_skip ?_
        refine nx_blk ?_
        refine nx_seq ?_
        refine aw_region1 (r_p (does_bin .add 3 3 (.tmp 8) (.const (.int .i64 1)) .i64 x1 1 (.int .i64 (IntKind.i64.wrap (x1 + 1))) trivial (fun _ => rfl) (bin_add _ _ _ _)) m10 rfl <| r_mv rfl rfl <| r_e) ?_
        exact nx_loop ((IntKind.i64.wrap (x1 + 1))) H (cov_prune a4 trivial (nl rfl))
    · replace H := ite_f hc H
      refine aw_exit ?_
      refine ex_then ?_
      refine ex_then ?_
      refine ex_here ?_
      exact nx_ljoin () H hsn2 (cov_prune trivial trivial (nl rfl))
theorem slices_ContainsFunc_int_int_spec (p0 : (_root_.List Int)) (p1 : (Int → Option (Bool))) (k1 n1 : Nat) (c1 : Nat → V) (o1 : FnOk Try.prog k1) (h1 : ∀ j, (c1 j).Cap) (g1 : ∀ (x0 : Int) (r : Bool), p1 x0 = some r → FSpec Try.prog k1 ([(.int .i64 x0)] ++ (List.range n1).map c1) (.bool r)) (r : Bool) (H : slices_ContainsFunc_int_int p0 p1 = some r) : FSpec Try.prog 65 [(e_s_i64 p0), (.fn k1 n1 c1)] (.bool r) := by
  refine spec_of (fn := Try.f65) (args := [(e_s_i64 p0), (.fn k1 n1 c1)]) Try.func65 rfl (nl rfl) ?_
  rintro ⟨G, w0, W, S, Sp, gx⟩ hG
  cases hG
  unfold slices_ContainsFunc_int_int at H
  refine aw_region (r_0 (does_assign (.const (.bool false)) (.bool false) (fun _ => rfl)) rfl rfl <| r_e) ?_
  refine aw_cov (cov_prune (s1 := ⟨[(0, _), (1, _)], [], 0, []⟩) a2 trivial (Nat.le_refl _)) ?_
  obtain ⟨v1, h2, H⟩ := bnd H
  refine aw_region (r_mv rfl rfl <| r_mv rfl rfl <| r_ca [_, _] [_, _] (nob := []) (flat := true) (slices_IndexFunc_int_int_spec p0 p1 k1 n1 c1 o1 h1 g1 _ h2) rfl rfl m20 fo91 ⟨trivial, trivial, trivial⟩ ⟨.data _ (d_s_i64 _), .fn _ _ _ _ (fun j _ => (h1 j).pass), trivial⟩ trivial rfl <| r_p (does_bin .geq 3 3 (.tmp 7) (.const (.int .i64 0)) .i64 v1 0 (.bool (decide (v1 ≥ 0))) trivial (fun _ => rfl) (bin_geq _ _ _ _)) m10 rfl <| r_as rfl rfl <| r_e) ?_
  refine aw_cov (cov_prune (s1 := ⟨[(4, _)], [], 0, []⟩) a1 trivial (Nat.le_refl _)) ?_
  refine aw_ret ?_
  exact fun a w hr => ⟨_, [(.bool (decide (v1 ≥ 0)))], hr, ⟨⟨_, rfl, .data (.bool (decide (v1 ≥ 0))) trivial⟩, trivial⟩, by decide, by cases H; rfl⟩
theorem cmp_isNaN_uint32_spec (p0 : Int) (r : Bool) (H : cmp_isNaN_uint32 p0 = some r) : FSpec Try.prog 103 [(.int .u32 p0)] (.bool r) := by
  refine spec_of (fn := Try.f103) (args := [(.int .u32 p0)]) Try.func103 rfl (nl rfl) ?_
  rintro ⟨G, w0, W, S, Sp, gx⟩ hG
  cases hG
  unfold cmp_isNaN_uint32 at H
  refine aw_region (r_0 (does_assign (.const (.bool false)) (.bool false) (fun _ => rfl)) rfl rfl <| r_e) ?_
  refine aw_cov (cov_prune (s1 := ⟨[(0, _)], [], 0, []⟩) a1 trivial (Nat.le_refl _)) ?_
  refine aw_region (r_mv rfl rfl <| r_mv rfl rfl <| r_p (does_bin .neq 22 22 (.tmp 3) (.tmp 4) .u32 p0 p0 (.bool (p0 != p0)) trivial trivial (bin_neq _ _ _ _)) m20 rfl <| r_as rfl rfl <| r_e) ?_
  refine aw_cov (cov_prune (s1 := ⟨[(2, _)], [], 0, []⟩) a1 trivial (Nat.le_refl _)) ?_
  refine aw_ret ?_
  exact fun a w hr => ⟨_, [(.bool (p0 != p0))], hr, ⟨⟨_, rfl, .data (.bool (p0 != p0)) trivial⟩, trivial⟩, by decide, by cases H; rfl⟩
theorem cmp_Compare_uint32_spec (p0 : Int) (p1 : Int) (r : Int) (H : cmp_Compare_uint32 p0 p1 = some r) : FSpec Try.prog 93 [(.int .u32 p0), (.int .u32 p1)] (.int .i64 r) := by
  refine spec_of (fn := Try.f93) (args := [(.int .u32 p0), (.int .u32 p1)]) Try.func93 rfl (nl rfl) ?_
  rintro ⟨G, w0, W, S, Sp, gx⟩ hG
  cases hG
  unfold cmp_Compare_uint32 at H
  refine aw_region (r_0 (does_assign (.const (.int .i64 0)) (.int .i64 0) (fun _ => rfl)) rfl rfl <| r_e) ?_
  refine aw_cov (cov_prune (s1 := ⟨[(0, _), (1, _)], [], 0, []⟩) a2 trivial (Nat.le_refl _)) ?_
  obtain ⟨v1, h2, H⟩ := bnd H
  refine aw_region (r_mv rfl rfl <| r_ca [_] [_] (nob := []) (flat := true) (cmp_isNaN_uint32_spec p0 _ h2) rfl rfl m10 fo103 ⟨trivial, trivial⟩ ⟨.data _ trivial, trivial⟩ trivial rfl <| r_as rfl rfl <| r_e) ?_
  refine aw_cov (cov_prune (s1 := ⟨[(0, _), (1, _), (5, _)], [], 0, []⟩) a3 trivial (Nat.le_refl _)) ?_
  obtain ⟨v3, h4, H⟩ := bnd H
  refine aw_region (r_mv rfl rfl <| r_ca [_] [_] (nob := []) (flat := true) (cmp_isNaN_uint32_spec p1 _ h4) rfl rfl m10 fo103 ⟨trivial, trivial⟩ ⟨.data _ trivial, trivial⟩ trivial rfl <| r_as rfl rfl <| r_e) ?_
  refine aw_cov (cov_prune (s1 := ⟨[(0, _), (1, _), (5, _), (6, _)], [], 0, []⟩) a4 trivial (Nat.le_refl _)) ?_
  refine aw_seq ?_
  refine aw_region (r_mv rfl rfl <| r_e) ?_
  refine aw_cov (cov_prune (s1 := ⟨[(0, _), (1, _), (6, _), (11, _)], [], 0, []⟩) a4 trivial (Nat.le_refl _)) ?_
  refine aw_cond rfl (fun hc => ?_) (fun hc => ?_)
  · replace H := ite_t hc H
    refine aw_seq ?_
    refine aw_region (r_mv rfl rfl <| r_e) ?_
    refine aw_cov (cov_prune (s1 := ⟨[(12, _)], [], 0, []⟩) a1 trivial (Nat.le_refl _)) ?_
    refine aw_cond rfl (fun hc => ?_) (fun hc => ?_)
    · replace H := ite_t hc H
      refine aw_region (r_0 (does_assign (.const (.int .i64 0)) (.int .i64 0) (fun _ => rfl)) rfl rfl <| r_e) ?_
      refine aw_cov (cov_prune (s1 := ⟨[(4, _)], [], 0, []⟩) a1 trivial (Nat.le_refl _)) ?_
      refine aw_ret ?_
      refine rt_then ?_
      refine rt_then ?_
      exact fun a w hr => ⟨_, [(.int .i64 0)], hr, ⟨⟨_, rfl, .data (.int .i64 0) trivial⟩, trivial⟩, by decide, by cases H; rfl⟩
    · replace H := ite_f hc H
      refine aw_skip ?_
      refine nx_seq ?_
      refine aw_region (r_0 (does_assign (.const (.int .i64 (-1))) (.int .i64 (-1)) (fun _ => rfl)) rfl rfl <| r_e) ?_
      refine aw_cov (cov_prune (s1 := ⟨[(4, _)], [], 0, []⟩) a1 trivial (Nat.le_refl _)) ?_
      refine aw_ret ?_
      refine rt_then ?_
      exact fun a w hr => ⟨_, [(.int .i64 (-1))], hr, ⟨⟨_, rfl, .data (.int .i64 (-1)) trivial⟩, trivial⟩, by decide, by cases H; rfl⟩
  · replace H := ite_f hc H
    refine aw_skip ?_
    refine nx_seq ?_
    refine aw_seq ?_
    refine aw_region (r_mv rfl rfl <| r_e) ?_
    refine aw_cov (cov_prune (s1 := ⟨[(0, _), (1, _), (13, _)], [], 0, []⟩) a3 trivial (Nat.le_refl _)) ?_
    refine aw_cond rfl (fun hc => ?_) (fun hc => ?_)
    · replace H := ite_t hc H
      refine aw_region (r_0 (does_assign (.const (.int .i64 1)) (.int .i64 1) (fun _ => rfl)) rfl rfl <| r_e) ?_
      refine aw_cov (cov_prune (s1 := ⟨[(4, _)], [], 0, []⟩) a1 trivial (Nat.le_refl _)) ?_
      refine aw_ret ?_
      refine rt_then ?_
      exact fun a w hr => ⟨_, [(.int .i64 1)], hr, ⟨⟨_, rfl, .data (.int .i64 1) trivial⟩, trivial⟩, by decide, by cases H; rfl⟩
    · replace H := ite_f hc H
      refine aw_skip ?_
      refine nx_seq ?_
      refine aw_seq ?_
      refine aw_region (r_mv rfl rfl <| r_mv rfl rfl <| r_p (does_bin .lss 22 22 (.tmp 14) (.tmp 15) .u32 p0 p1 (.bool (decide (p0 < p1))) trivial trivial (bin_lss _ _ _ _)) m20 rfl <| r_e) ?_
      refine aw_cov (cov_prune (s1 := ⟨[(0, _), (1, _), (16, _)], [], 0, []⟩) a3 trivial (Nat.le_refl _)) ?_
      refine aw_cond rfl (fun hc => ?_) (fun hc => ?_)
      · replace H := ite_t hc H
        refine aw_region (r_0 (does_assign (.const (.int .i64 (-1))) (.int .i64 (-1)) (fun _ => rfl)) rfl rfl <| r_e) ?_
        refine aw_cov (cov_prune (s1 := ⟨[(4, _)], [], 0, []⟩) a1 trivial (Nat.le_refl _)) ?_
        refine aw_ret ?_
        refine rt_then ?_
        exact fun a w hr => ⟨_, [(.int .i64 (-1))], hr, ⟨⟨_, rfl, .data (.int .i64 (-1)) trivial⟩, trivial⟩, by decide, by cases H; rfl⟩
      · replace H := ite_f hc H
        refine aw_skip ?_
        refine nx_seq ?_
        refine aw_seq ?_
        refine aw_region (r_mv rfl rfl <| r_mv rfl rfl <| r_p (does_bin .gtr 22 22 (.tmp 17) (.tmp 18) .u32 p0 p1 (.bool (decide (p0 > p1))) trivial trivial (bin_gtr _ _ _ _)) m20 rfl <| r_e) ?_
        refine aw_cov (cov_prune (s1 := ⟨[(19, _)], [], 0, []⟩) a1 trivial (Nat.le_refl _)) ?_
        refine aw_cond rfl (fun hc => ?_) (fun hc => ?_)
        · replace H := ite_t hc H
          refine aw_region (r_0 (does_assign (.const (.int .i64 1)) (.int .i64 1) (fun _ => rfl)) rfl rfl <| r_e) ?_
          refine aw_cov (cov_prune (s1 := ⟨[(4, _)], [], 0, []⟩) a1 trivial (Nat.le_refl _)) ?_
          refine aw_ret ?_
          refine rt_then ?_
          exact fun a w hr => ⟨_, [(.int .i64 1)], hr, ⟨⟨_, rfl, .data (.int .i64 1) trivial⟩, trivial⟩, by decide, by cases H; rfl⟩
        · replace H := ite_f hc H
          refine aw_skip ?_
          refine nx_seq ?_
          refine aw_region (r_0 (does_assign (.const (.int .i64 0)) (.int .i64 0) (fun _ => rfl)) rfl rfl <| r_e) ?_
          refine aw_cov (cov_prune (s1 := ⟨[(4, _)], [], 0, []⟩) a1 trivial (Nat.le_refl _)) ?_
          refine aw_ret ?_
          exact fun a w hr => ⟨_, [(.int .i64 0)], hr, ⟨⟨_, rfl, .data (.int .i64 0) trivial⟩, trivial⟩, by decide, by cases H; rfl⟩
theorem cmp_Or_int_spec (p0 : (_root_.List Int)) (r : Int) (H : cmp_Or_int p0 = some r) : FSpec Try.prog 92 [(e_s_i64 p0)] (.int .i64 r) := by
  refine spec_of (fn := Try.f92) (args := [(e_s_i64 p0)]) Try.func92 rfl (nl rfl) ?_
  rintro ⟨G, w0, W, S, Sp, gx⟩ hG
  cases hG
  unfold cmp_Or_int at H
  refine aw_region (r_0 (does_assign (.const (.int .i64 0)) (.int .i64 0) (fun _ => rfl)) rfl rfl <| r_e) ?_
  refine aw_cov (cov_prune (s1 := ⟨[(0, _)], [], 0, []⟩) a1 trivial (Nat.le_refl _)) ?_
  refine aw_region (r_0 (does_assign (.const (.int .i64 0)) (.int .i64 0) (fun _ => rfl)) rfl rfl <| r_e) ?_
  refine aw_cov (cov_prune (s1 := ⟨[(0, _), (3, _)], [], 0, []⟩) a2 trivial (Nat.le_refl _)) ?_
  refine aw_seq ?_
  refine aw_region (r_mv rfl rfl <| r_p (does_lens 117 1 p0.length 6 (fun j => (.int .i64 (p0.getD j 0))) el117) m10 rfl <| r_0 (does_move (.const (.int .i64 0)) (.int .i64 0) (fun _ => rfl)) rfl rfl <| r_e) ?_
  refine aw_cov (cov_prune (s1 := ⟨[(3, _), (6, _), (7, _), (8, _)], [], 0, []⟩) a4 trivial (Nat.le_refl _)) ?_
  obtain ⟨wn2, hwn2, Hrn2⟩ := bnd H
  refine aw_meet (fun y4 : Unit => (⟨[(3, (.int .i64 0))], [], 0, []⟩ : St)) (fun y4 => Fl.nx y4 = wn2) (fun y4 hy => ?_) (aw_block (aw_runs (fun x1 : Int => (⟨[(3, (.int .i64 0)), (6, (e_s_i64 p0)), (7, (.int .i64 (p0.length : Int))), (8, (.int .i64 x1))], [], 0, []⟩ : St)) hwn2 (cov_prune a4 trivial (nl rfl)) (fun x1 st H hsn2 => ?_)))
  · have H := nx_of hy Hrn2
    refine nx_seq ?_
    refine aw_region (r_mv rfl rfl <| r_as rfl rfl <| r_e) ?_
    refine aw_cov (cov_prune (s1 := ⟨[(2, _)], [], 0, []⟩) a1 trivial (Nat.le_refl _)) ?_
    refine aw_ret ?_
    exact fun a w hr => ⟨_, [(.int .i64 0)], hr, ⟨⟨_, rfl, .data (.int .i64 0) trivial⟩, trivial⟩, by decide, by cases H; rfl⟩
  · refine aw_region (r_p (does_bin .lss 3 3 (.tmp 8) (.tmp 7) .i64 x1 (p0.length : Int) (.bool (decide (x1 < (p0.length : Int)))) trivial trivial (bin_lss _ _ _ _)) m20 rfl <| r_e) ?_
    refine aw_cov (cov_prune (s1 := ⟨[(3, _), (6, _), (7, _), (8, _), (9, _)], [], 0, []⟩) a5 trivial (Nat.le_refl _)) ?_
    refine aw_seq ?_
    refine aw_cond rfl (fun hc => ?_) (fun hc => ?_)
    · replace H := ite_t hc H
      refine aw_skip ?_
      refine nx_seq ?_
      refine aw_seq ?_
      refine aw_block ?_
      obtain ⟨h3, H⟩ := ib_of H
      refine aw_region (r_p (does_indexAddrs 117 1 p0.length 6 (fun j => (.int .i64 (p0.getD j 0))) (.tmp 8) .i64 x1 el117 trivial h3.1 h3.2) m20 rfl <| r_p (does_loadc 3 10 (.int .i64 (p0.getD x1.toNat 0)) ty3) m10 rfl <| r_as rfl rfl <| r_e) ?_
      refine aw_cov (cov_prune (s1 := ⟨[(3, _), (6, _), (7, _), (8, _), (5, _)], [], 0, []⟩) a5 trivial (Nat.le_refl _)) ?_
      refine aw_region (r_mv rfl rfl <| r_mv rfl rfl <| r_p (does_bin .neq 3 3 (.tmp 12) (.tmp 13) .i64 (p0.getD x1.toNat 0) 0 (.bool ((p0.getD x1.toNat 0) != 0)) trivial trivial (bin_neq _ _ _ _)) m20 rfl <| r_e) ?_
      refine aw_cov (cov_prune (s1 := ⟨[(3, _), (6, _), (7, _), (8, _), (5, _), (14, _)], [], 0, []⟩) a6 trivial (Nat.le_refl _)) ?_
      refine aw_cond rfl (fun hc => ?_) (fun hc => ?_)
      · replace H := ite_t hc H
        refine aw_region (r_mv rfl rfl <| r_as rfl rfl <| r_e) ?_
        refine aw_cov (cov_prune (s1 := ⟨[(2, _)], [], 0, []⟩) a1 trivial (Nat.le_refl _)) ?_
        refine aw_ret ?_
        replace H := rt_of H hsn2 Hrn2
        refine rt_blk ?_
        refine rt_then ?_
        refine rt_then ?_
        refine rt_blk ?_
        refine rt_then ?_
        refine rt_then ?_
        exact fun a w hr => ⟨_, [(.int .i64 (p0.getD x1.toNat 0))], hr, ⟨⟨_, rfl, .data (.int .i64 (p0.getD x1.toNat 0)) trivial⟩, trivial⟩, by decide, by cases H; rfl⟩
      · replace H := ite_f hc H
        refine aw_skip ?_
        refine nx_blk ?_
        refine nx_seq ?_
        refine aw_region1 (r_p (does_bin .add 3 3 (.tmp 8) (.const (.int .i64 1)) .i64 x1 1 (.int .i64 (IntKind.i64.wrap (x1 + 1))) trivial (fun _ => rfl) (bin_add _ _ _ _)) m10 rfl <| r_mv rfl rfl <| r_e) ?_
        exact nx_loop ((IntKind.i64.wrap (x1 + 1))) H (cov_prune a4 trivial (nl rfl))
    · replace H := ite_f hc H
      refine aw_exit ?_
      refine ex_then ?_
      refine ex_then ?_
      refine ex_here ?_
      exact nx_ljoin () H hsn2 (cov_prune a1 trivial (nl rfl))
theorem ident_Compare_spec (p0 : api_Id) (p1 : api_Id) (r : Int) (H : ident_Compare p0 p1 = some r) : FSpec Try.prog 68 [(e_api_Id p0), (e_api_Id p1)] (.int .i64 r) := by
  refine spec_of (fn := Try.f68) (args := [(e_api_Id p0), (e_api_Id p1)]) Try.func68 rfl (nl rfl) ?_
  rintro ⟨G, w0, W, S, Sp, gx⟩ hG
  cases hG
  unfold ident_Compare at H
  refine aw_region (r_p (does_box 27 (.tmp 0) 0 (e_api_Id p0) trivial rfl) m10 rfl <| r_p (does_box 27 (.tmp 1) 1 (e_api_Id p1) trivial rfl) m10 rfl <| r_0 (does_assign (.const (.int .i64 0)) (.int .i64 0) (fun _ => rfl)) rfl rfl <| r_e) ?_
  refine aw_cov (cov_prune (s1 := ⟨[(2, _), (3, _)], [(0, some _), (1, some _)], 2, []⟩) a2 a2 (Nat.le_refl _)) ?_
  obtain ⟨v1, h2, H⟩ := bnd H
  obtain ⟨v3, h4, H⟩ := bnd H
  obtain ⟨v5, h6, H⟩ := bnd H
  obtain ⟨v7, h8, H⟩ := bnd H
  refine aw_draw (mixed) (r_fa (.ptr 0 (0 + 0) [0]) fl27_0 rfl rfl rfl rfl <| r_ld (.int .u32 p0.Epoch) rfl rfl ⟨rfl, nl rfl, trivial⟩ rfl rfl ty22 rfl <| r_fa (.ptr 1 (0 + 0) [0]) fl27_0 rfl rfl rfl rfl <| r_ld (.int .u32 p1.Epoch) rfl rfl ⟨rfl, nl rfl, trivial⟩ rfl rfl ty22 rfl <| r_ca [_, _] [_, _] (nob := []) (flat := true) (cmp_Compare_uint32_spec _ _ _ h2) rfl rfl m20 fo93 ⟨trivial, trivial, trivial⟩ ⟨.data _ trivial, .data _ trivial, trivial⟩ trivial rfl <| r_fa (.ptr 0 (0 + 1) [1]) fl27_1 rfl rfl rfl rfl <| r_ld (.int .u32 p0.Coord) rfl rfl ⟨rfl, nl rfl, trivial⟩ rfl rfl ty22 rfl <| r_fa (.ptr 1 (0 + 1) [1]) fl27_1 rfl rfl rfl rfl <| r_ld (.int .u32 p1.Coord) rfl rfl ⟨rfl, nl rfl, trivial⟩ rfl rfl ty22 rfl <| r_ca [_, _] [_, _] (nob := []) (flat := true) (cmp_Compare_uint32_spec _ _ _ h4) rfl rfl m20 fo93 ⟨trivial, trivial, trivial⟩ ⟨.data _ trivial, .data _ trivial, trivial⟩ trivial rfl <| r_fa (.ptr 0 (0 + 2) [2]) fl27_2 rfl rfl rfl rfl <| r_ld (.int .u32 p0.Inc) rfl rfl ⟨rfl, nl rfl, trivial⟩ rfl rfl ty22 rfl <| r_fa (.ptr 1 (0 + 2) [2]) fl27_2 rfl rfl rfl rfl <| r_ld (.int .u32 p1.Inc) rfl rfl ⟨rfl, nl rfl, trivial⟩ rfl rfl ty22 rfl <| r_ca [_, _] [_, _] (nob := []) (flat := true) (cmp_Compare_uint32_spec _ _ _ h6) rfl rfl m20 fo93 ⟨trivial, trivial, trivial⟩ ⟨.data _ trivial, .data _ trivial, trivial⟩ trivial rfl <| r_p (does_buildSl 117 3 1 (.int .i64 0) (fun j => (.int .i64 (([v1, v3, v5] : _root_.List Int).getD j 0))) #[(0, (.tmp 9)), (1, (.tmp 14)), (2, (.tmp 19))] [(0, (.tmp 9)), (1, (.tmp 14)), (2, (.tmp 19))] [(0, (.int .i64 v1)), (1, (.int .i64 v3)), (2, (.int .i64 v5))] rfl so117 (by decide) ⟨a1, a1, a1, trivial⟩ ⟨⟨nl rfl, rfl, rfl⟩, ⟨nl rfl, rfl, rfl⟩, ⟨nl rfl, rfl, rfl⟩, trivial⟩ (fun j h => match j, h with | 0, _ => rfl | 1, _ => rfl | 2, _ => rfl | k + 3, h => (nlt h).elim)) m30 rfl <| r_ca [_] [_] (nob := []) (flat := true) (cmp_Or_int_spec _ _ h8) rfl rfl m10 fo92 ⟨trivial, trivial⟩ ⟨.data _ (d_s_i64 _), trivial⟩ trivial rfl <| r_as rfl rfl <| r_e) rfl ?_
  refine aw_cov (cov_prune (s1 := ⟨[(4, _)], [], 2, []⟩) a1 trivial (Nat.le_refl _)) ?_
  refine aw_ret ?_
  exact fun a w hr => ⟨_, [(.int .i64 v7)], hr, ⟨⟨_, rfl, .data (.int .i64 v7) trivial⟩, trivial⟩, by decide, by cases H; rfl⟩
theorem core_under_unsettled_1_spec (p0 : Int) (q0 : core_under) (q1 : (Nat → Int)) (r : Bool) (H : core_under_unsettled_1 p0 q0 q1 = some r) : FSpec Try.prog 67 [(.int .i64 p0), (.cptr (.cptr (e_core_under q0))), (.cptr (e_a8_u32 q1))] (.bool r) := by
  refine spec_of (fn := Try.f67) (args := [(.int .i64 p0), (.cptr (.cptr (e_core_under q0))), (.cptr (e_a8_u32 q1))]) Try.func67 rfl (nl rfl) ?_
  rintro ⟨G, w0, W, S, Sp, gx⟩ hG
  cases hG
  unfold core_under_unsettled_1 at H
  refine aw_region (r_0 (does_assign (.const (.bool false)) (.bool false) (fun _ => rfl)) rfl rfl <| r_e) ?_
  refine aw_cov (cov_prune (s1 := ⟨[(0, _), (1, _), (2, _)], [], 0, []⟩) a3 trivial (Nat.le_refl _)) ?_
  obtain ⟨h1, H⟩ := ib_of H
  refine aw_region (r_p (does_loadc 77 1 (.cptr (e_core_under q0)) ty77) m10 rfl <| r_mv rfl rfl <| r_p (does_nilCheckc 6 (e_core_under q0)) m10 rfl <| r_p (does_fieldAddrc 80 0 0 8 (e_core_under q0) fl80_0 rfl (nl rfl) rfl) m10 rfl <| r_p (does_fieldAddrc 35 12 60 9 (e_api_Core q0.Core) fl35_12 rfl (nl rfl) rfl) m10 rfl <| r_p (does_indexAddrc 33 8 16 10 (fun j => (e_api_Peer (q0.Core.Peers j))) (.tmp 7) .i64 p0 el33 trivial h1.1 h1.2) m20 rfl <| r_p (does_loadc 32 11 (e_api_Peer (q0.Core.Peers p0.toNat)) ty32) m10 rfl <| r_0 (does_alloc 32 0 (e_api_Peer z_api_Peer) zr32) rfl rfl <| r_sv rfl rfl rfl rfl rfl rfl ty32 rfl <| r_e) ?_
  refine aw_cov (cov_prune (s1 := ⟨[(0, _), (1, _), (2, _), (5, _)], [(0, some _)], 1, []⟩) a4 a1 (Nat.le_refl _)) ?_
  obtain ⟨h2, H⟩ := ibg_of H
  obtain ⟨v3, h4, H⟩ := whn_of H
  refine aw_draw (mixed) (r_mv rfl rfl <| r_p (does_loadc 77 1 (.cptr (e_core_under q0)) ty77) m10 rfl <| r_p (does_nilCheckc 14 (e_core_under q0)) m10 rfl <| r_p (does_fieldAddrc 80 0 0 15 (e_core_under q0) fl80_0 rfl (nl rfl) rfl) m10 rfl <| r_p (does_fieldAddrc 35 0 0 16 (e_api_Core q0.Core) fl35_0 rfl (nl rfl) rfl) m10 rfl <| r_p (does_loadc 3 17 (.int .i64 q0.Core.Self) ty3) m10 rfl <| r_p (does_bin .neq 3 3 (.tmp 13) (.tmp 18) .i64 p0 q0.Core.Self (.bool (p0 != q0.Core.Self)) trivial trivial (bin_neq _ _ _ _)) m20 rfl <| r_mv rfl rfl <| r_gfa (.ptr 0 (0 + 0) [0]) fl32_0 rfl rfl rfl rfl rfl (fun _ => .same _) rfl rfl rfl <| r_gld (.int .u32 ((q0.Core.Peers p0.toNat).Inc)) rfl rfl rfl rfl rfl (fun hc => .opt _ _ hc) rfl (fun hc => ⟨rfl, nl rfl, trivial⟩) rfl rfl ty22 rfl <| r_gmv rfl rfl rfl rfl rfl rfl <| r_g [(2, _), (23, _)] [(2, _), (23, _)] [] rfl rfl m30 rfl (fun hc => ⟨(.same _), (.opt _ _ hc), trivial⟩) (fun hc => does_indexAddrc 28 8 1 2 (fun j => (.int .u32 (q1 j))) (.tmp 23) .i64 p0 el28 trivial (h2 hc).1 (h2 hc).2) rfl <| r_g [(24, _)] [(24, _)] [] rfl rfl m20 rfl (fun hc => ⟨(.opt _ _ hc), trivial⟩) (fun hc => does_loadc 22 24 (.int .u32 (q1 p0.toNat)) ty22) rfl <| r_g [(22, _), (25, _)] [(22, _), (25, _)] [] rfl rfl m30 rfl (fun hc => ⟨(.opt _ _ hc), (.opt _ _ hc), trivial⟩) (fun hc => does_bin .eql 22 22 (.tmp 22) (.tmp 25) .u32 ((q0.Core.Peers p0.toNat).Inc) (q1 p0.toNat) (.bool (((q0.Core.Peers p0.toNat).Inc) == (q1 p0.toNat))) trivial trivial (bin_eql _ _ _ _)) rfl <| r_p (does_and 20 26 (p0 != q0.Core.Self) (((q0.Core.Peers p0.toNat).Inc) == (q1 p0.toNat))) m20 rfl <| r_mv rfl rfl <| r_gfa (.ptr 0 (0 + 4) [2]) fl32_2 rfl rfl rfl rfl rfl (fun _ => .same _) rfl rfl rfl <| r_gld (e_api_Id ((q0.Core.Peers p0.toNat).Promise)) rfl rfl rfl rfl rfl (fun hc => .opt _ _ hc) rfl (fun hc => ⟨rfl, nl rfl, trivial⟩) rfl rfl ty27 rfl <| r_gp (Step.guarded rfl rfl rfl rfl (fun hc => does_loadc 77 1 (.cptr (e_core_under q0)) ty77)) m20 rfl <| r_g [(31, _)] [(31, _)] [] rfl rfl m20 rfl (fun hc => ⟨(.opt _ _ hc), trivial⟩) (fun hc => does_nilCheckc 31 (e_core_under q0)) rfl <| r_g [(32, _)] [(32, _)] [] rfl rfl m20 rfl (fun hc => ⟨(.opt _ _ hc), trivial⟩) (fun hc => does_fieldAddrc 80 0 0 32 (e_core_under q0) fl80_0 rfl (nl rfl) rfl) rfl <| r_g [(33, _)] [(33, _)] [] rfl rfl m20 rfl (fun hc => ⟨(.opt _ _ hc), trivial⟩) (fun hc => does_fieldAddrc 35 8 40 33 (e_api_Core q0.Core) fl35_8 rfl (nl rfl) rfl) rfl <| r_g [(34, _)] [(34, _)] [] rfl rfl m20 rfl (fun hc => ⟨(.opt _ _ hc), trivial⟩) (fun hc => does_loadc 27 34 (e_api_Id q0.Core.Promise) ty27) rfl <| r_g [(30, _), (35, _)] [(30, _), (35, _)] [] rfl rfl m30 rfl (fun hc => ⟨(.opt _ _ hc), (.opt _ _ hc), trivial⟩) (fun hc => does_call 68 0 (fun _ => .any) (.func 68) [(.tmp 30), (.tmp 35)] [(e_api_Id ((q0.Core.Peers p0.toNat).Promise)), (e_api_Id q0.Core.Promise)] [] true [(e_api_Id ((q0.Core.Peers p0.toNat).Promise)), (e_api_Id q0.Core.Promise)] (.int .i64 v3) _ _ rfl fo68 rfl ⟨trivial, trivial, trivial⟩ ⟨.data _ (d_api_Id ((q0.Core.Peers p0.toNat).Promise)), .data _ (d_api_Id q0.Core.Promise), trivial⟩ (ident_Compare_spec ((q0.Core.Peers p0.toNat).Promise) q0.Core.Promise _ (h4 hc)) trivial) rfl <| r_g [(36, _)] [(36, _)] [] rfl rfl m20 rfl (fun hc => ⟨(.opt _ _ hc), trivial⟩) (fun hc => does_bin .gtr 3 3 (.tmp 36) (.const (.int .i64 0)) .i64 v3 0 (.bool (decide (v3 > 0))) trivial (fun _ => rfl) (bin_gtr _ _ _ _)) rfl <| r_p (does_and 28 37 ((p0 != q0.Core.Self) && (((q0.Core.Peers p0.toNat).Inc) == (q1 p0.toNat))) (decide (v3 > 0))) m20 rfl <| r_as rfl rfl <| r_e) rfl ?_
  obtain ⟨v5, hv5, H⟩ := lt_of H
  refine aw_cov (cov_prune (s1 := ⟨[(4, (.bool v5))], [], 1, []⟩) ⟨(by subst hv5; rfl), trivial⟩ trivial (Nat.le_refl _)) ?_
  refine aw_ret ?_
  exact fun a w hr => ⟨_, [(.bool v5)], hr, ⟨⟨_, rfl, .data (.bool v5) trivial⟩, trivial⟩, by decide, by cases H; rfl⟩
theorem core_under_unsettled_spec (p0 : core_under) (p1 : (Nat → Int)) (r : Bool) (H : core_under_unsettled p0 p1 = some r) : FSpec Try.prog 32 [(.cptr (e_core_under p0)), (e_a8_u32 p1)] (.bool r) := by
  refine spec_of (fn := Try.f32) (args := [(.cptr (e_core_under p0)), (e_a8_u32 p1)]) Try.func32 rfl (nl rfl) ?_
  rintro ⟨G, w0, W, S, Sp, gx⟩ hG
  cases hG
  unfold core_under_unsettled at H
  refine aw_region (r_p (does_box 77 (.tmp 0) 0 (.cptr (e_core_under p0)) trivial rfl) m10 rfl <| r_p (does_box 28 (.tmp 1) 1 (e_a8_u32 p1) trivial rfl) m10 rfl <| r_0 (does_assign (.const (.bool false)) (.bool false) (fun _ => rfl)) rfl rfl <| r_e) ?_
  refine aw_cov (cov_prune (s1 := ⟨[(2, _), (3, _)], [(0, some _), (1, some _)], 2, []⟩) a2 a2 (Nat.le_refl _)) ?_
  refine aw_seq ?_
  obtain ⟨v1, h2, H⟩ := bnd H
  refine aw_draw (mixed) (r_lv rfl rfl ty77 rfl <| r_p (does_nilCheckc 5 (e_core_under p0)) m10 rfl <| r_p (does_fieldAddrc 80 0 0 6 (e_core_under p0) fl80_0 rfl (nl rfl) rfl) m10 rfl <| r_p (does_loadc 35 7 (e_api_Core p0.Core) ty35) m10 rfl <| r_ca [_] [_] (nob := []) (flat := true) (core_Gathers_spec _ _ h2) rfl rfl m10 fo17 ⟨trivial, trivial⟩ ⟨.data _ (d_api_Core _), trivial⟩ trivial rfl <| r_mv rfl rfl <| r_gld (e_a8_u32 p1) rfl rfl rfl rfl rfl (fun _ => .same _) rfl (fun hc => trivial) rfl rfl ty28 rfl <| r_gld (.cptr (e_core_under p0)) rfl rfl rfl rfl rfl (fun _ => .same _) rfl (fun hc => trivial) rfl rfl ty77 rfl <| r_g [(12, _)] [(12, _)] [] rfl rfl m20 rfl (fun hc => ⟨(.opt _ _ hc), trivial⟩) (fun hc => does_nilCheckc 12 (e_core_under p0)) rfl <| r_g [(13, _)] [(13, _)] [] rfl rfl m20 rfl (fun hc => ⟨(.opt _ _ hc), trivial⟩) (fun hc => does_fieldAddrc 80 0 0 13 (e_core_under p0) fl80_0 rfl (nl rfl) rfl) rfl <| r_g [(14, _)] [(14, _)] [] rfl rfl m20 rfl (fun hc => ⟨(.opt _ _ hc), trivial⟩) (fun hc => does_fieldAddrc 35 5 23 14 (e_api_Core p0.Core) fl35_5 rfl (nl rfl) rfl) rfl <| r_g [(15, _)] [(15, _)] [] rfl rfl m20 rfl (fun hc => ⟨(.opt _ _ hc), trivial⟩) (fun hc => does_loadc 28 15 (e_a8_u32 p0.Core.Members) ty28) rfl <| r_geq true rfl rfl rfl rfl rfl rfl (fun hc => .opt _ _ hc) (fun hc => .opt _ _ hc) rfl rfl eg28 sh28 (al_a8_u32 _ _) (al_a8_u32 _ _) (q_a8_u32 _ _) rfl <| r_p (does_or 10 17 v1 (!(b_a8_u32 p1 p0.Core.Members))) m20 rfl <| r_e) rfl ?_
  refine aw_cov (cov_prune (s1 := ⟨[(2, _), (3, _), (18, _)], [(0, some _), (1, some _)], 2, []⟩) a3 a2 (Nat.le_refl _)) ?_
  refine aw_cond rfl (fun hc => ?_) (fun hc => ?_)
  · replace H := ite_t hc H
    refine aw_region (r_0 (does_assign (.const (.bool true)) (.bool true) (fun _ => rfl)) rfl rfl <| r_e) ?_
    refine aw_cov (cov_prune (s1 := ⟨[(4, _)], [], 2, []⟩) a1 trivial (Nat.le_refl _)) ?_
    refine aw_ret ?_
    refine rt_then ?_
    exact fun a w hr => ⟨_, [(.bool true)], hr, ⟨⟨_, rfl, .data (.bool true) trivial⟩, trivial⟩, by decide, by cases H; rfl⟩
  · replace H := ite_f hc H
    refine aw_skip ?_
    refine nx_seq ?_
    obtain ⟨v3, h4, H⟩ := bnd H
    obtain ⟨v5, h6, H⟩ := bnd H
    refine aw_region (r_lv rfl rfl ty28 rfl <| r_p (does_callO 66 0 (fun _ => .any) (.func 66) [(.tmp 19)] [(e_a8_u32 p1)] [] [] true [(e_a8_u32 p1)] _ (.own 2) _ 2 1 _ _ rfl fo66 rfl ⟨trivial, trivial⟩ ⟨.ro _ _ (.data _ (d_a8_u32 p1)), trivial⟩ (ident_List_spec p1 _ h4) rfl (by simp) rfl trivial ⟨⟨nl rfl, _, rfl, fun _ => trivial⟩, trivial⟩ (.own 0 (nl rfl))) m10 rfl <| r_p (does_makeFunc 67 [(.tmp 2), (.tmp 3)] [(.ptr 0 0 []), (.ptr 1 0 [])] #[(.tmp 2), (.tmp 3)] rfl ⟨trivial, trivial, trivial⟩) m20 rfl <| r_ca [_, _] [_, _] (nob := [(2, (.arr 1 v3.length fun j => (.int .i64 (v3.getD j 0)))), (0, (.var (.cptr (e_core_under p0)))), (1, (.var (e_a8_u32 p1)))]) (flat := true) (slices_ContainsFunc_int_int_spec v3 (fun z0 => core_under_unsettled_1 z0 p0 p1) 67 2 (fun j => ([.cptr (.cptr (e_core_under p0)), .cptr (e_a8_u32 p1)] : _root_.List V).getD j (.bool false)) fo67 (fun j => match j with | 0 => .inl (.inr (.inr ⟨(e_core_under p0), (d_core_under p0), rfl⟩)) | 1 => .inl (.inr (.inl ⟨(e_a8_u32 p1), (d_a8_u32 p1), rfl⟩)) | _ + 2 => .inl (.inl trivial)) (fun z0 r h => core_under_unsettled_1_spec z0 p0 p1 r h) _ h6) rfl rfl ⟨a2, a3, rfl⟩ fo65 ⟨trivial, trivial, trivial⟩ ⟨.own 2 _ _ _ (.head _) rfl (fun _ => trivial), .fn _ _ _ _ (fun j hj => match j, hj with | 0, _ => .ptrF 0 0 [] (.var (.cptr (e_core_under p0))) (.cptr (e_core_under p0)) (.tail _ (.head _)) trivial rfl rfl (.cptr _ (d_core_under p0)) | 1, _ => .ptr 1 0 [] (.var (e_a8_u32 p1)) (e_a8_u32 p1) (.tail _ (.tail _ (.head _))) trivial rfl rfl (d_a8_u32 p1) | k + 2, hj => (nlt hj).elim), trivial⟩ trivial rfl <| r_as rfl rfl <| r_e) ?_
    refine aw_cov (cov_prune (s1 := ⟨[(4, _)], [], 3, []⟩) a1 trivial (Nat.le_refl _)) ?_
    refine aw_ret ?_
    exact fun a w hr => ⟨_, [(.bool v5)], hr, ⟨⟨_, rfl, .data (.bool v5) trivial⟩, trivial⟩, by decide, by cases H; rfl⟩
theorem ident_Least_spec (p0 : (Nat → Int)) (r : Int × Bool) (H : ident_Least p0 = some r) : FSpec Try.prog 69 [(e_a8_u32 p0)] (resV [(.int .i64 r.1), (.bool r.2)]) := by
  refine spec_of (fn := Try.f69) (args := [(e_a8_u32 p0)]) Try.func69 rfl (nl rfl) ?_
  rintro ⟨G, w0, W, S, Sp, gx⟩ hG
  cases hG
  unfold ident_Least at H
  refine aw_region (r_p (does_box 28 (.tmp 0) 0 (e_a8_u32 p0) trivial rfl) m10 rfl <| r_0 (does_assign (.const (.int .i64 0)) (.int .i64 0) (fun _ => rfl)) rfl rfl <| r_0 (does_assign (.const (.bool false)) (.bool false) (fun _ => rfl)) rfl rfl <| r_e) ?_
  refine aw_cov (cov_prune (s1 := ⟨[(1, _)], [(0, some _)], 1, []⟩) a1 a1 (Nat.le_refl _)) ?_
  obtain ⟨v1, h2, H⟩ := bnd H
  refine aw_region (r_lv rfl rfl ty28 rfl <| r_p (does_callO 66 0 (fun _ => .any) (.func 66) [(.tmp 5)] [(e_a8_u32 p0)] [] [] true [(e_a8_u32 p0)] _ (.own 1) _ 1 1 _ _ rfl fo66 rfl ⟨trivial, trivial⟩ ⟨.ro _ _ (.data _ (d_a8_u32 p0)), trivial⟩ (ident_List_spec p0 _ h2) rfl (by simp) rfl trivial ⟨⟨nl rfl, _, rfl, fun _ => trivial⟩, trivial⟩ (.own 0 (nl rfl))) m10 rfl <| r_as rfl rfl <| r_e) ?_
  refine aw_cov (cov_prune (s1 := ⟨[(4, _)], [(1, some _)], 2, []⟩) a1 a1 (Nat.le_refl _)) ?_
  refine aw_seq ?_
  refine aw_region (r_mv rfl rfl <| r_p (does_leno 117 1 v1.length 7 1 (fun j => (.int .i64 (v1.getD j 0))) el117) m11 rfl <| r_p (does_bin .eql 3 3 (.tmp 8) (.const (.int .i64 0)) .i64 (v1.length : Int) 0 (.bool ((v1.length : Int) == 0)) trivial (fun _ => rfl) (bin_eql _ _ _ _)) m10 rfl <| r_e) ?_
  refine aw_cov (cov_prune (s1 := ⟨[(4, _), (9, _)], [(1, some _)], 2, []⟩) a2 a1 (Nat.le_refl _)) ?_
  refine aw_cond rfl (fun hc => ?_) (fun hc => ?_)
  · replace H := ite_t hc H
    refine aw_region (r_0 (does_assign (.const (.int .i64 0)) (.int .i64 0) (fun _ => rfl)) rfl rfl <| r_0 (does_assign (.const (.bool false)) (.bool false) (fun _ => rfl)) rfl rfl <| r_e) ?_
    refine aw_cov (cov_prune (s1 := ⟨[(2, _), (3, _)], [], 2, []⟩) a2 trivial (Nat.le_refl _)) ?_
    refine aw_ret ?_
    refine rt_then ?_
    exact fun a w hr => ⟨_, [(.int .i64 0), (.bool false)], hr, ⟨⟨_, rfl, .data (.int .i64 0) trivial⟩, ⟨_, rfl, .data (.bool false) trivial⟩, trivial⟩, by decide, by cases H; rfl⟩
  · replace H := ite_f hc H
    refine aw_skip ?_
    refine nx_seq ?_
    obtain ⟨h3, H⟩ := ib_of H
    refine aw_region (r_mv rfl rfl <| r_p (does_indexAddro 117 1 v1.length 10 1 (fun j => (.int .i64 (v1.getD j 0))) (.const (.int .i64 0)) .i64 0 el117 (fun _ => rfl) h3.1 h3.2) m11 rfl <| r_ld (.int .i64 (v1.getD 0 0)) rfl rfl ⟨(ixl h3), trivial⟩ rfl rfl ty3 rfl <| r_as rfl rfl <| r_0 (does_assign (.const (.bool true)) (.bool true) (fun _ => rfl)) rfl rfl <| r_e) ?_
    refine aw_cov (cov_prune (s1 := ⟨[(2, _), (3, _)], [], 2, []⟩) a2 trivial (Nat.le_refl _)) ?_
    refine aw_ret ?_
    exact fun a w hr => ⟨_, [(.int .i64 (v1.getD 0 0)), (.bool true)], hr, ⟨⟨_, rfl, .data (.int .i64 (v1.getD 0 0)) trivial⟩, ⟨_, rfl, .data (.bool true) trivial⟩, trivial⟩, by decide, by cases H; rfl⟩
end Go.Proofs.Ytcocahffigbmbaa
end

section
set_option linter.unusedVariables false
set_option maxRecDepth 100000
namespace Go.Proofs.Ytcocahffigbmbaa
open Go.Eng
set_option maxHeartbeats 1600000
theorem gather_stands_spec (p0 : api_Core) (p1 : (Nat → Int)) (r : Bool) (H : gather_stands p0 p1 = some r) : FSpec Try.prog 70 [(e_api_Core p0), (e_a8_u32 p1)] (.bool r) := by
  refine spec_of (fn := Try.f70) (args := [(e_api_Core p0), (e_a8_u32 p1)]) Try.func70 rfl (nl rfl) ?_
  rintro ⟨G, w0, W, S, Sp, gx⟩ hG
  cases hG
  unfold gather_stands at H
  refine aw_region (r_p (does_box 35 (.tmp 0) 0 (e_api_Core p0) trivial rfl) m10 rfl <| r_p (does_box 28 (.tmp 1) 1 (e_a8_u32 p1) trivial rfl) m10 rfl <| r_0 (does_assign (.const (.bool false)) (.bool false) (fun _ => rfl)) rfl rfl <| r_e) ?_
  refine aw_cov (cov_prune (s1 := ⟨[(2, _), (3, _)], [(0, some _), (1, some _)], 2, []⟩) a2 a2 (Nat.le_refl _)) ?_
  refine aw_seq ?_
  refine aw_region (r_fa (.ptr 0 (0 + 40) [8]) fl35_8 rfl rfl rfl rfl <| r_fa (.ptr 0 ((0 + 40) + 1) [8, 1]) fl27_1 rfl rfl rfl rfl <| r_ld (.int .u32 p0.Promise.Coord) rfl rfl ⟨rfl, nl rfl, ⟨rfl, nl rfl, trivial⟩⟩ rfl rfl ty22 rfl <| r_p (does_convInt 22 2 (.tmp 10) .u32 .i64 p0.Promise.Coord trivial rfl rfl) m10 rfl <| r_fa (.ptr 0 (0 + 0) [0]) fl35_0 rfl rfl rfl rfl <| r_ld (.int .i64 p0.Self) rfl rfl ⟨rfl, nl rfl, trivial⟩ rfl rfl ty3 rfl <| r_p (does_bin .neq 2 2 (.tmp 11) (.tmp 13) .i64 (IntKind.i64.wrap (p0.Promise.Coord)) p0.Self (.bool ((IntKind.i64.wrap (p0.Promise.Coord)) != p0.Self)) trivial trivial (bin_neq _ _ _ _)) m20 rfl <| r_mv rfl rfl <| r_gfa (.ptr 0 (0 + 40) [8]) fl35_8 rfl rfl rfl rfl rfl (fun _ => .same _) rfl rfl rfl <| r_gfa (.ptr 0 ((0 + 40) + 2) [8, 2]) fl27_2 rfl rfl rfl rfl rfl (fun hc => .opt _ _ hc) rfl rfl rfl <| r_gld (.int .u32 p0.Promise.Inc) rfl rfl rfl rfl rfl (fun hc => .opt _ _ hc) rfl (fun hc => ⟨rfl, nl rfl, ⟨rfl, nl rfl, trivial⟩⟩) rfl rfl ty22 rfl <| r_gfa (.ptr 0 (0 + 2) [2]) fl35_2 rfl rfl rfl rfl rfl (fun _ => .same _) rfl rfl rfl <| r_gld (.int .u32 p0.Own) rfl rfl rfl rfl rfl (fun hc => .opt _ _ hc) rfl (fun hc => ⟨rfl, nl rfl, trivial⟩) rfl rfl ty22 rfl <| r_g [(18, _), (20, _)] [(18, _), (20, _)] [] rfl rfl m30 rfl (fun hc => ⟨(.opt _ _ hc), (.opt _ _ hc), trivial⟩) (fun hc => does_bin .neq 22 22 (.tmp 18) (.tmp 20) .u32 p0.Promise.Inc p0.Own (.bool (p0.Promise.Inc != p0.Own)) trivial trivial (bin_neq _ _ _ _)) rfl <| r_p (does_or 15 21 ((IntKind.i64.wrap (p0.Promise.Coord)) != p0.Self) (p0.Promise.Inc != p0.Own)) m20 rfl <| r_mv rfl rfl <| r_gfa (.ptr 0 (0 + 43) [9]) fl35_9 rfl rfl rfl rfl rfl (fun _ => .same _) rfl rfl rfl <| r_gld (e_a8_u32 p0.Wanted) rfl rfl rfl rfl rfl (fun hc => .opt _ _ hc) rfl (fun hc => ⟨rfl, nl rfl, trivial⟩) rfl rfl ty28 rfl <| r_gld (e_a8_u32 p1) rfl rfl rfl rfl rfl (fun _ => .same _) rfl (fun hc => trivial) rfl rfl ty28 rfl <| r_geq true rfl rfl rfl rfl rfl rfl (fun hc => .opt _ _ hc) (fun hc => .opt _ _ hc) rfl rfl eg28 sh28 (al_a8_u32 _ _) (al_a8_u32 _ _) (q_a8_u32 _ _) rfl <| r_p (does_or 23 27 (((IntKind.i64.wrap (p0.Promise.Coord)) != p0.Self) || (p0.Promise.Inc != p0.Own)) (!(b_a8_u32 p0.Wanted p1))) m20 rfl <| r_e) ?_
  obtain ⟨v1, hv1, H⟩ := lt_of H
  refine aw_cov (cov_prune (s1 := ⟨[(2, _), (3, _), (28, (.bool v1))], [(0, some _), (1, some _)], 2, []⟩) ⟨rfl, rfl, (by subst hv1; rfl), trivial⟩ a2 (Nat.le_refl _)) ?_
  refine aw_cond rfl (fun hc => ?_) (fun hc => ?_)
  · replace H := ite_t hc H
    refine aw_region (r_0 (does_assign (.const (.bool false)) (.bool false) (fun _ => rfl)) rfl rfl <| r_e) ?_
    refine aw_cov (cov_prune (s1 := ⟨[(4, _)], [], 2, []⟩) a1 trivial (Nat.le_refl _)) ?_
    refine aw_ret ?_
    refine rt_then ?_
    exact fun a w hr => ⟨_, [(.bool false)], hr, ⟨⟨_, rfl, .data (.bool false) trivial⟩, trivial⟩, by decide, by cases H; rfl⟩
  · replace H := ite_f hc H
    refine aw_skip ?_
    refine nx_seq ?_
    refine aw_seq ?_
    obtain ⟨v2, h3, H⟩ := bnd H
    refine aw_region (r_lv rfl rfl ty28 rfl <| r_p (does_callO 66 0 (fun _ => .any) (.func 66) [(.tmp 29)] [(e_a8_u32 p1)] [] [] true [(e_a8_u32 p1)] _ (.own 2) _ 2 1 _ _ rfl fo66 rfl ⟨trivial, trivial⟩ ⟨.ro _ _ (.data _ (d_a8_u32 p1)), trivial⟩ (ident_List_spec p1 _ h3) rfl (by simp) rfl trivial ⟨⟨nl rfl, _, rfl, fun _ => trivial⟩, trivial⟩ (.own 0 (nl rfl))) m10 rfl <| r_p (does_leno 117 1 v2.length 30 2 (fun j => (.int .i64 (v2.getD j 0))) el117) m11 rfl <| r_0 (does_move (.const (.int .i64 0)) (.int .i64 0) (fun _ => rfl)) rfl rfl <| r_e) ?_
    refine aw_cov (cov_prune (s1 := ⟨[(2, _), (3, _), (30, _), (31, _), (32, _)], [(0, some _), (1, some _), (2, some _)], 3, []⟩) a5 a3 (Nat.le_refl _)) ?_
    obtain ⟨wn5, hwn5, Hrn5⟩ := bnd H
    refine aw_meet (fun y12 : Unit => (⟨[], [], 3, []⟩ : St)) (fun y12 => Fl.nx y12 = wn5) (fun y12 hy => ?_) (aw_block (aw_runs (fun x4 : Int => (⟨[(2, (.ptr 0 0 [])), (3, (.ptr 1 0 [])), (30, (.own 2)), (31, (.int .i64 (v2.length : Int))), (32, (.int .i64 x4))], [(0, some (.var (e_api_Core p0))), (1, some (.var (e_a8_u32 p1))), (2, some (.arr 1 v2.length fun j => (.int .i64 (v2.getD j 0))))], 3, []⟩ : St)) hwn5 (cov_prune a5 a3 (nl rfl)) (fun x4 st H hsn5 => ?_)))
    · have H := nx_of hy Hrn5
      refine nx_seq ?_
      refine aw_region (r_0 (does_assign (.const (.bool true)) (.bool true) (fun _ => rfl)) rfl rfl <| r_e) ?_
      refine aw_cov (cov_prune (s1 := ⟨[(4, _)], [], 3, []⟩) a1 trivial (Nat.le_refl _)) ?_
      refine aw_ret ?_
      exact fun a w hr => ⟨_, [(.bool true)], hr, ⟨⟨_, rfl, .data (.bool true) trivial⟩, trivial⟩, by decide, by cases H; rfl⟩
    · refine aw_region (r_p (does_bin .lss 3 3 (.tmp 32) (.tmp 31) .i64 x4 (v2.length : Int) (.bool (decide (x4 < (v2.length : Int)))) trivial trivial (bin_lss _ _ _ _)) m20 rfl <| r_e) ?_
      refine aw_cov (cov_prune (s1 := ⟨[(2, _), (3, _), (30, _), (31, _), (32, _), (33, _)], [(0, some _), (1, some _), (2, some _)], 3, []⟩) a6 a3 (Nat.le_refl _)) ?_
      refine aw_seq ?_
      refine aw_cond rfl (fun hc => ?_) (fun hc => ?_)
      · replace H := ite_t hc H
        refine aw_skip ?_
        refine nx_seq ?_
        refine aw_seq ?_
        refine aw_block ?_
        obtain ⟨h6, H⟩ := ib_of H
        refine aw_region (r_p (does_indexAddro 117 1 v2.length 30 2 (fun j => (.int .i64 (v2.getD j 0))) (.tmp 32) .i64 x4 el117 trivial h6.1 h6.2) m21 rfl <| r_ld (.int .i64 (v2.getD x4.toNat 0)) rfl rfl ⟨(ixl h6), trivial⟩ rfl rfl ty3 rfl <| r_as rfl rfl <| r_e) ?_
        refine aw_cov (cov_prune (s1 := ⟨[(2, _), (3, _), (30, _), (31, _), (32, _), (6, _)], [(0, some _), (1, some _), (2, some _)], 3, []⟩) a6 a3 (Nat.le_refl _)) ?_
        obtain ⟨h7, H⟩ := ib_of H
        refine aw_region (r_mv rfl rfl <| r_fa (.ptr 0 (0 + 60) [12]) fl35_12 rfl rfl rfl rfl <| r_p (does_indexAddr 33 8 16 37 0 (0 + 60) [12] (.var (e_api_Core p0)) (.tmp 36) .i64 (v2.getD x4.toNat 0) el33 trivial h7.1 h7.2) m21 rfl <| r_ld (e_api_Peer (p0.Peers ((v2.getD x4.toNat 0).toNat))) rfl rfl ⟨rfl, nl rfl, ⟨rfl, (ixl h7), trivial⟩⟩ rfl rfl ty32 rfl <| r_0 (does_alloc 32 3 (e_api_Peer z_api_Peer) zr32) rfl rfl <| r_sv rfl rfl rfl rfl rfl rfl ty32 rfl <| r_e) ?_
        refine aw_cov (cov_prune (s1 := ⟨[(2, _), (3, _), (30, _), (31, _), (32, _), (6, _), (7, _)], [(0, some _), (1, some _), (2, some _), (3, some _)], 4, []⟩) a7 a4 (Nat.le_refl _)) ?_
        obtain ⟨h8, H⟩ := ibg_of H
        obtain ⟨v9, h10, H⟩ := whn_of H
        refine aw_draw (mixed) (r_mv rfl rfl <| r_fa (.ptr 0 (0 + 0) [0]) fl35_0 rfl rfl rfl rfl <| r_ld (.int .i64 p0.Self) rfl rfl ⟨rfl, nl rfl, trivial⟩ rfl rfl ty3 rfl <| r_p (does_bin .neq 3 3 (.tmp 40) (.tmp 42) .i64 (v2.getD x4.toNat 0) p0.Self (.bool ((v2.getD x4.toNat 0) != p0.Self)) trivial trivial (bin_neq _ _ _ _)) m20 rfl <| r_mv rfl rfl <| r_gfa (.ptr 3 (0 + 0) [0]) fl32_0 rfl rfl rfl rfl rfl (fun _ => .same _) rfl rfl rfl <| r_gld (.int .u32 ((p0.Peers ((v2.getD x4.toNat 0).toNat)).Inc)) rfl rfl rfl rfl rfl (fun hc => .opt _ _ hc) rfl (fun hc => ⟨rfl, nl rfl, trivial⟩) rfl rfl ty22 rfl <| r_gmv rfl rfl rfl rfl rfl rfl <| r_g [(3, _), (47, _)] [(3, _), (47, _)] [(1, _)] rfl rfl m31 rfl (fun hc => ⟨(.same _), (.opt _ _ hc), trivial⟩) (fun hc => does_indexAddr 28 8 1 3 1 0 [] (.var (e_a8_u32 p1)) (.tmp 47) .i64 (v2.getD x4.toNat 0) el28 trivial (h8 hc).1 (h8 hc).2) rfl <| r_gld (.int .u32 (p1 ((v2.getD x4.toNat 0).toNat))) rfl rfl rfl rfl rfl (fun hc => .opt _ _ hc) rfl (fun hc => ⟨rfl, (ixl (h8 hc)), trivial⟩) rfl rfl ty22 rfl <| r_g [(46, _), (49, _)] [(46, _), (49, _)] [] rfl rfl m30 rfl (fun hc => ⟨(.opt _ _ hc), (.opt _ _ hc), trivial⟩) (fun hc => does_bin .eql 22 22 (.tmp 46) (.tmp 49) .u32 ((p0.Peers ((v2.getD x4.toNat 0).toNat)).Inc) (p1 ((v2.getD x4.toNat 0).toNat)) (.bool (((p0.Peers ((v2.getD x4.toNat 0).toNat)).Inc) == (p1 ((v2.getD x4.toNat 0).toNat)))) trivial trivial (bin_eql _ _ _ _)) rfl <| r_p (does_and 44 50 ((v2.getD x4.toNat 0) != p0.Self) (((p0.Peers ((v2.getD x4.toNat 0).toNat)).Inc) == (p1 ((v2.getD x4.toNat 0).toNat)))) m20 rfl <| r_mv rfl rfl <| r_gfa (.ptr 3 (0 + 4) [2]) fl32_2 rfl rfl rfl rfl rfl (fun _ => .same _) rfl rfl rfl <| r_gld (e_api_Id ((p0.Peers ((v2.getD x4.toNat 0).toNat)).Promise)) rfl rfl rfl rfl rfl (fun hc => .opt _ _ hc) rfl (fun hc => ⟨rfl, nl rfl, trivial⟩) rfl rfl ty27 rfl <| r_gfa (.ptr 0 (0 + 40) [8]) fl35_8 rfl rfl rfl rfl rfl (fun _ => .same _) rfl rfl rfl <| r_gld (e_api_Id p0.Promise) rfl rfl rfl rfl rfl (fun hc => .opt _ _ hc) rfl (fun hc => ⟨rfl, nl rfl, trivial⟩) rfl rfl ty27 rfl <| r_g [(54, _), (56, _)] [(54, _), (56, _)] [] rfl rfl m30 rfl (fun hc => ⟨(.opt _ _ hc), (.opt _ _ hc), trivial⟩) (fun hc => does_call 68 0 (fun _ => .any) (.func 68) [(.tmp 54), (.tmp 56)] [(e_api_Id ((p0.Peers ((v2.getD x4.toNat 0).toNat)).Promise)), (e_api_Id p0.Promise)] [] true [(e_api_Id ((p0.Peers ((v2.getD x4.toNat 0).toNat)).Promise)), (e_api_Id p0.Promise)] (.int .i64 v9) _ _ rfl fo68 rfl ⟨trivial, trivial, trivial⟩ ⟨.data _ (d_api_Id ((p0.Peers ((v2.getD x4.toNat 0).toNat)).Promise)), .data _ (d_api_Id p0.Promise), trivial⟩ (ident_Compare_spec ((p0.Peers ((v2.getD x4.toNat 0).toNat)).Promise) p0.Promise _ (h10 hc)) trivial) rfl <| r_g [(57, _)] [(57, _)] [] rfl rfl m20 rfl (fun hc => ⟨(.opt _ _ hc), trivial⟩) (fun hc => does_bin .gtr 3 3 (.tmp 57) (.const (.int .i64 0)) .i64 v9 0 (.bool (decide (v9 > 0))) trivial (fun _ => rfl) (bin_gtr _ _ _ _)) rfl <| r_p (does_and 52 58 (((v2.getD x4.toNat 0) != p0.Self) && (((p0.Peers ((v2.getD x4.toNat 0).toNat)).Inc) == (p1 ((v2.getD x4.toNat 0).toNat)))) (decide (v9 > 0))) m20 rfl <| r_e) rfl ?_
        obtain ⟨v11, hv11, H⟩ := lt_of H
        refine aw_cov (cov_prune (s1 := ⟨[(2, _), (3, _), (30, _), (31, _), (32, _), (59, (.bool v11))], [(0, some _), (1, some _), (2, some _)], 4, []⟩) ⟨rfl, rfl, rfl, rfl, rfl, (by subst hv11; rfl), trivial⟩ a3 (Nat.le_refl _)) ?_
        refine aw_cond rfl (fun hc => ?_) (fun hc => ?_)
        · replace H := ite_t hc H
          refine aw_region (r_0 (does_assign (.const (.bool false)) (.bool false) (fun _ => rfl)) rfl rfl <| r_e) ?_
          refine aw_cov (cov_prune (s1 := ⟨[(4, _)], [], 4, []⟩) a1 trivial (Nat.le_refl _)) ?_
          refine aw_ret ?_
          replace H := rt_of H hsn5 Hrn5
          refine rt_blk ?_
          refine rt_then ?_
          refine rt_then ?_
          refine rt_blk ?_
          refine rt_then ?_
          refine rt_then ?_
          exact fun a w hr => ⟨_, [(.bool false)], hr, ⟨⟨_, rfl, .data (.bool false) trivial⟩, trivial⟩, by decide, by cases H; rfl⟩
        · replace H := ite_f hc H
          refine aw_skip ?_
          refine nx_blk ?_
          refine nx_seq ?_
          refine aw_region1 (r_p (does_bin .add 3 3 (.tmp 32) (.const (.int .i64 1)) .i64 x4 1 (.int .i64 (IntKind.i64.wrap (x4 + 1))) trivial (fun _ => rfl) (bin_add _ _ _ _)) m10 rfl <| r_mv rfl rfl <| r_e) ?_
          exact nx_loop ((IntKind.i64.wrap (x4 + 1))) H (cov_of (fun i => match i with | 0 => 0 | 1 => 1 | 2 => 2 | k => k) ⟨⟨_, rfl, ⟨rfl, nl rfl⟩⟩, ⟨_, rfl, ⟨rfl, nl rfl⟩⟩, ⟨_, rfl, ⟨rfl, nl rfl⟩⟩, ⟨_, rfl, a1⟩, ⟨_, rfl, a1⟩, trivial⟩ ⟨⟨nl rfl, _, _, rfl, rfl, .inl ⟨rfl, (d_api_Core _).plain⟩⟩, ⟨nl rfl, _, _, rfl, rfl, .inl ⟨rfl, (d_a8_u32 _).plain⟩⟩, ⟨nl rfl, _, _, rfl, rfl, ⟨rfl, rfl, fun _ => a1⟩⟩, trivial⟩ rfl)
      · replace H := ite_f hc H
        refine aw_exit ?_
        refine ex_then ?_
        refine ex_then ?_
        refine ex_here ?_
        exact nx_ljoin () H hsn5 (cov_prune trivial trivial (nl rfl))
theorem gather_Propose_spec (p0 : api_Core) (p1 : (Nat → Int)) (r : api_Id × Bool) (H : gather_Propose p0 p1 = some r) : FSpec Try.prog 33 [(e_api_Core p0), (e_a8_u32 p1)] (resV [(e_api_Id r.1), (.bool r.2)]) := by
  refine spec_of (fn := Try.f33) (args := [(e_api_Core p0), (e_a8_u32 p1)]) Try.func33 rfl (nl rfl) ?_
  rintro ⟨G, w0, W, S, Sp, gx⟩ hG
  cases hG
  unfold gather_Propose at H
  refine aw_region (r_p (does_box 35 (.tmp 0) 0 (e_api_Core p0) trivial rfl) m10 rfl <| r_p (does_box 28 (.tmp 1) 1 (e_a8_u32 p1) trivial rfl) m10 rfl <| r_0 (does_alloc 27 2 (e_api_Id z_api_Id) zr27) rfl rfl <| r_0 (does_assign (.const (.bool false)) (.bool false) (fun _ => rfl)) rfl rfl <| r_e) ?_
  refine aw_cov (cov_prune (s1 := ⟨[(2, _), (3, _), (4, _)], [(0, some _), (1, some _), (2, some _)], 3, []⟩) a3 a3 (Nat.le_refl _)) ?_
  obtain ⟨v1, h2, H⟩ := bnd H
  refine aw_region (r_lv rfl rfl ty28 rfl <| r_ca [_] [_] (nob := []) (flat := true) (ident_Least_spec p1 _ h2) rfl rfl m10 fo69 ⟨trivial, trivial⟩ ⟨.data _ (d_a8_u32 _), trivial⟩ (res_flat2 trivial trivial) rfl <| r_mv rfl rfl <| r_ex (.int .i64 v1.1) rfl (nl rfl) rfl rfl <| r_ex (.bool v1.2) rfl (nl rfl) rfl rfl <| r_as rfl rfl <| r_as rfl rfl <| r_e) ?_
  refine aw_cov (cov_prune (s1 := ⟨[(2, _), (3, _), (4, _), (6, _), (7, _)], [(0, some _), (1, some _), (2, some _)], 3, []⟩) a5 a3 (Nat.le_refl _)) ?_
  refine aw_seq ?_
  obtain ⟨v3, h4, H⟩ := whn_of H
  refine aw_region (r_mv rfl rfl <| r_p (does_not 4 (.tmp 13) v1.2 trivial) m10 rfl <| r_mv rfl rfl <| r_gmv rfl rfl rfl rfl rfl rfl <| r_gfa (.ptr 0 (0 + 0) [0]) fl35_0 rfl rfl rfl rfl rfl (fun _ => .same _) rfl rfl rfl <| r_gld (.int .i64 p0.Self) rfl rfl rfl rfl rfl (fun hc => .opt _ _ hc) rfl (fun hc => ⟨rfl, nl rfl, trivial⟩) rfl rfl ty3 rfl <| r_g [(16, _), (18, _)] [(16, _), (18, _)] [] rfl rfl m30 rfl (fun hc => ⟨(.opt _ _ hc), (.opt _ _ hc), trivial⟩) (fun hc => does_bin .neq 3 3 (.tmp 16) (.tmp 18) .i64 v1.1 p0.Self (.bool (v1.1 != p0.Self)) trivial trivial (bin_neq _ _ _ _)) rfl <| r_p (does_or 15 19 (!v1.2) (v1.1 != p0.Self)) m20 rfl <| r_mv rfl rfl <| r_gfa (.ptr 0 (0 + 188) [13]) fl35_13 rfl rfl rfl rfl rfl (fun _ => .same _) rfl rfl rfl <| r_gld (.int .u32 p0.Epoch) rfl rfl rfl rfl rfl (fun hc => .opt _ _ hc) rfl (fun hc => ⟨rfl, nl rfl, trivial⟩) rfl rfl ty22 rfl <| r_g [(23, _)] [(23, _)] [] rfl rfl m20 rfl (fun hc => ⟨(.opt _ _ hc), trivial⟩) (fun hc => does_bin .eql 22 22 (.tmp 23) (.const (.int .u32 4294967295)) .u32 p0.Epoch 4294967295 (.bool (p0.Epoch == 4294967295)) trivial (fun _ => rfl) (bin_eql _ _ _ _)) rfl <| r_p (does_or 21 24 ((!v1.2) || (v1.1 != p0.Self)) (p0.Epoch == 4294967295)) m20 rfl <| r_mv rfl rfl <| r_gld (e_api_Core p0) rfl rfl rfl rfl rfl (fun _ => .same _) rfl (fun hc => trivial) rfl rfl ty35 rfl <| r_gld (e_a8_u32 p1) rfl rfl rfl rfl rfl (fun _ => .same _) rfl (fun hc => trivial) rfl rfl ty28 rfl <| r_g [(27, _), (28, _)] [(27, _), (28, _)] [] rfl rfl m30 rfl (fun hc => ⟨(.opt _ _ hc), (.opt _ _ hc), trivial⟩) (fun hc => does_call 70 0 (fun _ => .any) (.func 70) [(.tmp 27), (.tmp 28)] [(e_api_Core p0), (e_a8_u32 p1)] [] true [(e_api_Core p0), (e_a8_u32 p1)] (.bool v3) _ _ rfl fo70 rfl ⟨trivial, trivial, trivial⟩ ⟨.data _ (d_api_Core p0), .data _ (d_a8_u32 p1), trivial⟩ (gather_stands_spec p0 p1 _ (h4 hc)) trivial) rfl <| r_p (does_or 26 29 (((!v1.2) || (v1.1 != p0.Self)) || (p0.Epoch == 4294967295)) v3) m20 rfl <| r_e) ?_
  refine aw_cov (cov_prune (s1 := ⟨[(2, _), (4, _), (30, _)], [(0, some _), (2, some _)], 3, []⟩) a3 a2 (Nat.le_refl _)) ?_
  refine aw_cond rfl (fun hc => ?_) (fun hc => ?_)
  · replace H := ite_t hc H
    refine aw_region (r_0 (does_buildT 27 #[] [] [] (.st [1, 1, 1]) (c_api_Id z_api_Id) (c_api_Id ({ Epoch := 0, Coord := 0, Inc := 0 } : api_Id)) rfl bo27 trivial trivial (fe3 rfl rfl rfl (fun _ => rfl))) rfl rfl <| r_sv rfl rfl rfl rfl rfl rfl ty27 rfl <| r_0 (does_assign (.const (.bool false)) (.bool false) (fun _ => rfl)) rfl rfl <| r_e) ?_
    refine aw_cov (cov_prune (s1 := ⟨[(4, _), (5, _)], [(2, some _)], 3, []⟩) a2 a1 (Nat.le_refl _)) ?_
    refine aw_ret ?_
    refine rt_then ?_
    exact fun a w hr => ⟨_, [(e_api_Id ({ Epoch := 0, Coord := 0, Inc := 0 } : api_Id)), (.bool false)], hr, ⟨⟨2, _, rfl, rfl, .data _ (d_api_Id ({ Epoch := 0, Coord := 0, Inc := 0 } : api_Id)), ty27⟩, ⟨_, rfl, .data (.bool false) trivial⟩, trivial⟩, by decide, by cases H; rfl⟩
  · replace H := ite_f hc H
    refine aw_skip ?_
    refine nx_seq ?_
    refine aw_region (r_fa (.ptr 0 (0 + 188) [13]) fl35_13 rfl rfl rfl rfl <| r_ld (.int .u32 p0.Epoch) rfl rfl ⟨rfl, nl rfl, trivial⟩ rfl rfl ty22 rfl <| r_p (does_bin .add 22 22 (.tmp 33) (.const (.int .u32 1)) .u32 p0.Epoch 1 (.int .u32 (IntKind.u32.wrap (p0.Epoch + 1))) trivial (fun _ => rfl) (bin_add _ _ _ _)) m10 rfl <| r_fa (.ptr 0 (0 + 0) [0]) fl35_0 rfl rfl rfl rfl <| r_ld (.int .i64 p0.Self) rfl rfl ⟨rfl, nl rfl, trivial⟩ rfl rfl ty3 rfl <| r_p (does_convInt 3 22 (.tmp 36) .i64 .u32 p0.Self trivial rfl rfl) m10 rfl <| r_fa (.ptr 0 (0 + 2) [2]) fl35_2 rfl rfl rfl rfl <| r_ld (.int .u32 p0.Own) rfl rfl ⟨rfl, nl rfl, trivial⟩ rfl rfl ty22 rfl <| r_p (does_buildT 27 #[(0, (.tmp 34)), (1, (.tmp 37)), (2, (.tmp 39))] [(0, (.tmp 34)), (1, (.tmp 37)), (2, (.tmp 39))] [(0, (.int .u32 (IntKind.u32.wrap (p0.Epoch + 1)))), (1, (.int .u32 (IntKind.u32.wrap (p0.Self)))), (2, (.int .u32 p0.Own))] (.st [1, 1, 1]) (c_api_Id z_api_Id) (c_api_Id ({ Epoch := (IntKind.u32.wrap (p0.Epoch + 1)), Coord := (IntKind.u32.wrap (p0.Self)), Inc := p0.Own } : api_Id)) rfl bo27 ⟨a1, a1, a1, trivial⟩ ⟨⟨nl rfl, rfl, rfl⟩, ⟨nl rfl, rfl, rfl⟩, ⟨nl rfl, rfl, rfl⟩, trivial⟩ (fe3 rfl rfl rfl (fun _ => rfl))) m30 rfl <| r_sv rfl rfl rfl rfl rfl rfl ty27 rfl <| r_0 (does_assign (.const (.bool true)) (.bool true) (fun _ => rfl)) rfl rfl <| r_e) ?_
    obtain ⟨v5, hv5, H⟩ := lt_of H
    refine aw_cov (cov_prune (s1 := ⟨[(4, _), (5, _)], [(2, some (.var (e_api_Id v5)))], 3, []⟩) a2 ⟨(by subst hv5; rfl), trivial⟩ (Nat.le_refl _)) ?_
    refine aw_ret ?_
    exact fun a w hr => ⟨_, [(e_api_Id v5), (.bool true)], hr, ⟨⟨2, _, rfl, rfl, .data _ (d_api_Id v5), ty27⟩, ⟨_, rfl, .data (.bool true) trivial⟩, trivial⟩, by decide, by cases H; rfl⟩
theorem gather_each_spec (p0 : api_Core) (p1 : (api_Peer → Option (Bool))) (k1 n1 : Nat) (c1 : Nat → V) (o1 : FnOk Try.prog k1) (h1 : ∀ j, (c1 j).Cap0) (g1 : ∀ (x0 : api_Peer) (r : Bool), p1 x0 = some r → FSpec Try.prog k1 ([(e_api_Peer x0)] ++ (List.range n1).map c1) (.bool r)) (r : Bool) (H : gather_each p0 p1 = some r) : FSpec Try.prog 94 [(e_api_Core p0), (.fn k1 n1 c1)] (.bool r) := by
  refine spec_of (fn := Try.f94) (args := [(e_api_Core p0), (.fn k1 n1 c1)]) Try.func94 rfl (nl rfl) ?_
  rintro ⟨G, w0, W, S, Sp, gx⟩ hG
  cases hG
  unfold gather_each at H
  refine aw_region (r_p (does_box 35 (.tmp 0) 0 (e_api_Core p0) trivial rfl) m10 rfl <| r_0 (does_assign (.const (.bool false)) (.bool false) (fun _ => rfl)) rfl rfl <| r_e) ?_
  refine aw_cov (cov_prune (s1 := ⟨[(1, _), (2, _)], [(0, some _)], 1, []⟩) a2 a1 (Nat.le_refl _)) ?_
  refine aw_seq ?_
  obtain ⟨v1, h2, H⟩ := bnd H
  refine aw_region (r_fa (.ptr 0 (0 + 43) [9]) fl35_9 rfl rfl rfl rfl <| r_ld (e_a8_u32 p0.Wanted) rfl rfl ⟨rfl, nl rfl, trivial⟩ rfl rfl ty28 rfl <| r_p (does_callO 66 0 (fun _ => .any) (.func 66) [(.tmp 8)] [(e_a8_u32 p0.Wanted)] [] [] true [(e_a8_u32 p0.Wanted)] _ (.own 1) _ 1 1 _ _ rfl fo66 rfl ⟨trivial, trivial⟩ ⟨.ro _ _ (.data _ (d_a8_u32 p0.Wanted)), trivial⟩ (ident_List_spec p0.Wanted _ h2) rfl (by simp) rfl trivial ⟨⟨nl rfl, _, rfl, fun _ => trivial⟩, trivial⟩ (.own 0 (nl rfl))) m10 rfl <| r_p (does_leno 117 1 v1.length 9 1 (fun j => (.int .i64 (v1.getD j 0))) el117) m11 rfl <| r_0 (does_move (.const (.int .i64 0)) (.int .i64 0) (fun _ => rfl)) rfl rfl <| r_e) ?_
  refine aw_cov (cov_prune (s1 := ⟨[(1, _), (2, _), (9, _), (10, _), (11, _)], [(0, some _), (1, some _)], 2, []⟩) a5 a2 (Nat.le_refl _)) ?_
  obtain ⟨wn4, hwn4, Hrn4⟩ := bnd H
  refine aw_meet (fun y12 : Unit => (⟨[], [], 2, []⟩ : St)) (fun y12 => Fl.nx y12 = wn4) (fun y12 hy => ?_) (aw_block (aw_runs (fun x3 : Int => (⟨[(1, (.fn k1 n1 c1)), (2, (.ptr 0 0 [])), (9, (.own 1)), (10, (.int .i64 (v1.length : Int))), (11, (.int .i64 x3))], [(0, some (.var (e_api_Core p0))), (1, some (.arr 1 v1.length fun j => (.int .i64 (v1.getD j 0))))], 2, []⟩ : St)) hwn4 (cov_prune a5 a2 (nl rfl)) (fun x3 st H hsn4 => ?_)))
  · have H := nx_of hy Hrn4
    refine nx_seq ?_
    refine aw_region (r_0 (does_assign (.const (.bool true)) (.bool true) (fun _ => rfl)) rfl rfl <| r_e) ?_
    refine aw_cov (cov_prune (s1 := ⟨[(4, _)], [], 2, []⟩) a1 trivial (Nat.le_refl _)) ?_
    refine aw_ret ?_
    exact fun a w hr => ⟨_, [(.bool true)], hr, ⟨⟨_, rfl, .data (.bool true) trivial⟩, trivial⟩, by decide, by cases H; rfl⟩
  · refine aw_region (r_p (does_bin .lss 3 3 (.tmp 11) (.tmp 10) .i64 x3 (v1.length : Int) (.bool (decide (x3 < (v1.length : Int)))) trivial trivial (bin_lss _ _ _ _)) m20 rfl <| r_e) ?_
    refine aw_cov (cov_prune (s1 := ⟨[(1, _), (2, _), (9, _), (10, _), (11, _), (12, _)], [(0, some _), (1, some _)], 2, []⟩) a6 a2 (Nat.le_refl _)) ?_
    refine aw_seq ?_
    refine aw_cond rfl (fun hc => ?_) (fun hc => ?_)
    · replace H := ite_t hc H
      refine aw_skip ?_
      refine nx_seq ?_
      refine aw_seq ?_
      refine aw_block ?_
      obtain ⟨h5, H⟩ := ib_of H
      refine aw_region (r_p (does_indexAddro 117 1 v1.length 9 1 (fun j => (.int .i64 (v1.getD j 0))) (.tmp 11) .i64 x3 el117 trivial h5.1 h5.2) m21 rfl <| r_ld (.int .i64 (v1.getD x3.toNat 0)) rfl rfl ⟨(ixl h5), trivial⟩ rfl rfl ty3 rfl <| r_as rfl rfl <| r_e) ?_
      refine aw_cov (cov_prune (s1 := ⟨[(1, _), (2, _), (9, _), (10, _), (11, _), (6, _)], [(0, some _), (1, some _)], 2, []⟩) a6 a2 (Nat.le_refl _)) ?_
      obtain ⟨h6, H⟩ := ibg_of H
      obtain ⟨h7, H⟩ := ibg_of H
      obtain ⟨h8, H⟩ := ibg_of H
      obtain ⟨v9, h10, H⟩ := whn_of H
      refine aw_draw (mixed) (r_mv rfl rfl <| r_fa (.ptr 0 (0 + 0) [0]) fl35_0 rfl rfl rfl rfl <| r_ld (.int .i64 p0.Self) rfl rfl ⟨rfl, nl rfl, trivial⟩ rfl rfl ty3 rfl <| r_p (does_bin .neq 3 3 (.tmp 15) (.tmp 17) .i64 (v1.getD x3.toNat 0) p0.Self (.bool ((v1.getD x3.toNat 0) != p0.Self)) trivial trivial (bin_neq _ _ _ _)) m20 rfl <| r_mv rfl rfl <| r_gmv rfl rfl rfl rfl rfl rfl <| r_gfa (.ptr 0 (0 + 60) [12]) fl35_12 rfl rfl rfl rfl rfl (fun _ => .same _) rfl rfl rfl <| r_g [(21, _), (20, _)] [(21, _), (20, _)] [(0, _)] rfl rfl m31 rfl (fun hc => ⟨(.opt _ _ hc), (.opt _ _ hc), trivial⟩) (fun hc => does_indexAddr 33 8 16 21 0 (0 + 60) [12] (.var (e_api_Core p0)) (.tmp 20) .i64 (v1.getD x3.toNat 0) el33 trivial (h6 hc).1 (h6 hc).2) rfl <| r_gfa (.ptr 0 (((0 + 60) + (v1.getD x3.toNat 0).toNat * 16) + 0) [12, (v1.getD x3.toNat 0).toNat, 0]) fl32_0 rfl rfl rfl rfl rfl (fun hc => .opt _ _ hc) rfl rfl rfl <| r_gld (.int .u32 ((p0.Peers ((v1.getD x3.toNat 0).toNat)).Inc)) rfl rfl rfl rfl rfl (fun hc => .opt _ _ hc) rfl (fun hc => ⟨rfl, nl rfl, ⟨rfl, (ixl (h6 hc)), ⟨rfl, nl rfl, trivial⟩⟩⟩) rfl rfl ty22 rfl <| r_gmv rfl rfl rfl rfl rfl rfl <| r_gfa (.ptr 0 (0 + 43) [9]) fl35_9 rfl rfl rfl rfl rfl (fun _ => .same _) rfl rfl rfl <| r_g [(26, _), (25, _)] [(26, _), (25, _)] [(0, _)] rfl rfl m31 rfl (fun hc => ⟨(.opt _ _ hc), (.opt _ _ hc), trivial⟩) (fun hc => does_indexAddr 28 8 1 26 0 (0 + 43) [9] (.var (e_api_Core p0)) (.tmp 25) .i64 (v1.getD x3.toNat 0) el28 trivial (h7 hc).1 (h7 hc).2) rfl <| r_gld (.int .u32 (p0.Wanted ((v1.getD x3.toNat 0).toNat))) rfl rfl rfl rfl rfl (fun hc => .opt _ _ hc) rfl (fun hc => ⟨rfl, nl rfl, ⟨rfl, (ixl (h7 hc)), trivial⟩⟩) rfl rfl ty22 rfl <| r_g [(24, _), (28, _)] [(24, _), (28, _)] [] rfl rfl m30 rfl (fun hc => ⟨(.opt _ _ hc), (.opt _ _ hc), trivial⟩) (fun hc => does_bin .neq 22 22 (.tmp 24) (.tmp 28) .u32 ((p0.Peers ((v1.getD x3.toNat 0).toNat)).Inc) (p0.Wanted ((v1.getD x3.toNat 0).toNat)) (.bool (((p0.Peers ((v1.getD x3.toNat 0).toNat)).Inc) != (p0.Wanted ((v1.getD x3.toNat 0).toNat)))) trivial trivial (bin_neq _ _ _ _)) rfl <| r_g [(29, _)] [(29, _)] [] rfl rfl m20 rfl (fun hc => ⟨(.opt _ _ hc), trivial⟩) (fun hc => does_move (.tmp 29) (.bool (((p0.Peers ((v1.getD x3.toNat 0).toNat)).Inc) != (p0.Wanted ((v1.getD x3.toNat 0).toNat)))) trivial) rfl <| r_gmv rfl rfl rfl rfl rfl rfl <| r_gmv rfl rfl rfl rfl rfl rfl <| r_gfa (.ptr 0 (0 + 60) [12]) fl35_12 rfl rfl rfl rfl rfl (fun _ => .same _) rfl rfl rfl <| r_g [(33, _), (32, _)] [(33, _), (32, _)] [(0, _)] rfl rfl m31 rfl (fun hc => ⟨(.opt _ _ hc), (.opt _ _ hc), trivial⟩) (fun hc => does_indexAddr 33 8 16 33 0 (0 + 60) [12] (.var (e_api_Core p0)) (.tmp 32) .i64 (v1.getD x3.toNat 0) el33 trivial (h8 hc).1 (h8 hc).2) rfl <| r_gld (e_api_Peer (p0.Peers ((v1.getD x3.toNat 0).toNat))) rfl rfl rfl rfl rfl (fun hc => .opt _ _ hc) rfl (fun hc => ⟨rfl, nl rfl, ⟨rfl, (ixl (h8 hc)), trivial⟩⟩) rfl rfl ty32 rfl <| r_g [(31, _), (35, _)] [(31, _), (35, _)] [] rfl rfl m30 rfl (fun hc => ⟨(.opt _ _ hc), (.opt _ _ hc), trivial⟩) (fun hc => does_callf k1 n1 c1 31 [(.tmp 35)] [(e_api_Peer (p0.Peers ((v1.getD x3.toNat 0).toNat)))] [(e_api_Peer (p0.Peers ((v1.getD x3.toNat 0).toNat)))] [] true (.bool v9) _ _ rfl o1 ⟨trivial, trivial⟩ ⟨.data _ (d_api_Peer (p0.Peers ((v1.getD x3.toNat 0).toNat))), trivial⟩ (fun j => .inl (h1 j)) (g1 (p0.Peers ((v1.getD x3.toNat 0).toNat)) _ (h10 hc)) trivial) rfl <| r_g [(36, _)] [(36, _)] [] rfl rfl m20 rfl (fun hc => ⟨(.opt _ _ hc), trivial⟩) (fun hc => does_not 4 (.tmp 36) v9 trivial) rfl <| r_g [(30, _), (37, _)] [(30, _), (37, _)] [] rfl rfl m30 rfl (fun hc => ⟨(.opt _ _ hc), (.half _ _ hc), trivial⟩) (fun hc => does_or 30 37 (((p0.Peers ((v1.getD x3.toNat 0).toNat)).Inc) != (p0.Wanted ((v1.getD x3.toNat 0).toNat))) (!v9)) rfl <| r_p (does_and 19 38 ((v1.getD x3.toNat 0) != p0.Self) ((((p0.Peers ((v1.getD x3.toNat 0).toNat)).Inc) != (p0.Wanted ((v1.getD x3.toNat 0).toNat))) || (!v9))) m20 rfl <| r_e) rfl ?_
      obtain ⟨v11, hv11, H⟩ := lt_of H
      refine aw_cov (cov_prune (s1 := ⟨[(1, _), (2, _), (9, _), (10, _), (11, _), (39, (.bool v11))], [(0, some _), (1, some _)], 2, []⟩) ⟨rfl, rfl, rfl, rfl, rfl, (by subst hv11; rfl), trivial⟩ a2 (Nat.le_refl _)) ?_
      refine aw_cond rfl (fun hc => ?_) (fun hc => ?_)
      · replace H := ite_t hc H
        refine aw_region (r_0 (does_assign (.const (.bool false)) (.bool false) (fun _ => rfl)) rfl rfl <| r_e) ?_
        refine aw_cov (cov_prune (s1 := ⟨[(4, _)], [], 2, []⟩) a1 trivial (Nat.le_refl _)) ?_
        refine aw_ret ?_
        replace H := rt_of H hsn4 Hrn4
        refine rt_blk ?_
        refine rt_then ?_
        refine rt_then ?_
        refine rt_blk ?_
        refine rt_then ?_
        refine rt_then ?_
        exact fun a w hr => ⟨_, [(.bool false)], hr, ⟨⟨_, rfl, .data (.bool false) trivial⟩, trivial⟩, by decide, by cases H; rfl⟩
      · replace H := ite_f hc H
        refine aw_skip ?_
        refine nx_blk ?_
        refine nx_seq ?_
        refine aw_region1 (r_p (does_bin .add 3 3 (.tmp 11) (.const (.int .i64 1)) .i64 x3 1 (.int .i64 (IntKind.i64.wrap (x3 + 1))) trivial (fun _ => rfl) (bin_add _ _ _ _)) m10 rfl <| r_mv rfl rfl <| r_e) ?_
        exact nx_loop ((IntKind.i64.wrap (x3 + 1))) H (cov_prune a5 a2 (nl rfl))
    · replace H := ite_f hc H
      refine aw_exit ?_
      refine ex_then ?_
      refine ex_then ?_
      refine ex_here ?_
      exact nx_ljoin () H hsn4 (cov_prune trivial trivial (nl rfl))
theorem gather_All_1_spec (p0 : api_Peer) (q0 : api_Core) (r : Bool) (H : gather_All_1 p0 q0 = some r) : FSpec Try.prog 95 [(e_api_Peer p0), (.cptr (e_api_Core q0))] (.bool r) := by
  refine spec_of (fn := Try.f95) (args := [(e_api_Peer p0), (.cptr (e_api_Core q0))]) Try.func95 rfl (nl rfl) ?_
  rintro ⟨G, w0, W, S, Sp, gx⟩ hG
  cases hG
  unfold gather_All_1 at H
  refine aw_region (r_p (does_box 32 (.tmp 0) 0 (e_api_Peer p0) trivial rfl) m10 rfl <| r_0 (does_assign (.const (.bool false)) (.bool false) (fun _ => rfl)) rfl rfl <| r_e) ?_
  refine aw_cov (cov_prune (s1 := ⟨[(1, _), (2, _)], [(0, some _)], 1, []⟩) a2 a1 (Nat.le_refl _)) ?_
  refine aw_region (r_fa (.ptr 0 (0 + 4) [2]) fl32_2 rfl rfl rfl rfl <| r_ld (e_api_Id p0.Promise) rfl rfl ⟨rfl, nl rfl, trivial⟩ rfl rfl ty27 rfl <| r_p (does_fieldAddrc 35 8 40 1 (e_api_Core q0) fl35_8 rfl (nl rfl) rfl) m10 rfl <| r_p (does_loadc 27 6 (e_api_Id q0.Promise) ty27) m10 rfl <| r_eq false rfl rfl rfl rfl eg27 sh27 (al_api_Id _ _) (al_api_Id _ _) (q_api_Id _ _) rfl <| r_as rfl rfl <| r_e) ?_
  refine aw_cov (cov_prune (s1 := ⟨[(3, _)], [], 1, []⟩) a1 trivial (Nat.le_refl _)) ?_
  refine aw_ret ?_
  exact fun a w hr => ⟨_, [(.bool (b_api_Id p0.Promise q0.Promise))], hr, ⟨⟨_, rfl, .data (.bool (b_api_Id p0.Promise q0.Promise)) trivial⟩, trivial⟩, by decide, by cases H; rfl⟩
theorem gather_All_spec (p0 : api_Core) (r : Bool) (H : gather_All p0 = some r) : FSpec Try.prog 71 [(e_api_Core p0)] (.bool r) := by
  refine spec_of (fn := Try.f71) (args := [(e_api_Core p0)]) Try.func71 rfl (nl rfl) ?_
  rintro ⟨G, w0, W, S, Sp, gx⟩ hG
  cases hG
  unfold gather_All at H
  refine aw_region (r_p (does_box 35 (.tmp 0) 0 (e_api_Core p0) trivial rfl) m10 rfl <| r_0 (does_assign (.const (.bool false)) (.bool false) (fun _ => rfl)) rfl rfl <| r_e) ?_
  refine aw_cov (cov_prune (s1 := ⟨[(1, _)], [(0, some _)], 1, []⟩) a1 a1 (Nat.le_refl _)) ?_
  obtain ⟨v1, h2, H⟩ := bnd H
  refine aw_region (r_lv rfl rfl ty35 rfl <| r_p (does_makeFunc 95 [(.tmp 1)] [(.ptr 0 0 [])] #[(.tmp 1)] rfl ⟨trivial, trivial⟩) m10 rfl <| r_ca [_, _] [_, _] (nob := [(0, (.var (e_api_Core p0)))]) (flat := true) (gather_each_spec p0 (fun z0 => gather_All_1 z0 p0) 95 1 (fun j => ([.cptr (e_api_Core p0)] : _root_.List V).getD j (.bool false)) fo95 (fun j => match j with | 0 => .inr (.inl ⟨(e_api_Core p0), (d_api_Core p0), rfl⟩) | _ + 1 => .inl trivial) (fun z0 r h => gather_All_1_spec z0 p0 r h) _ h2) rfl rfl m21 fo94 ⟨trivial, trivial, trivial⟩ ⟨.data _ (d_api_Core _), .fn _ _ _ _ (fun j hj => match j, hj with | 0, _ => .ptr 0 0 [] (.var (e_api_Core p0)) (e_api_Core p0) (.head _) trivial rfl rfl (d_api_Core p0) | k + 1, hj => (nlt hj).elim), trivial⟩ trivial rfl <| r_as rfl rfl <| r_e) ?_
  refine aw_cov (cov_prune (s1 := ⟨[(2, _)], [], 1, []⟩) a1 trivial (Nat.le_refl _)) ?_
  refine aw_ret ?_
  exact fun a w hr => ⟨_, [(.bool v1)], hr, ⟨⟨_, rfl, .data (.bool v1) trivial⟩, trivial⟩, by decide, by cases H; rfl⟩
theorem cut_Union_spec (p0 : (_root_.List (Nat → Int))) (r : (Nat → Int)) (H : cut_Union p0 = some r) : FSpec Try.prog 85 [(e_s_a8_u32 p0)] (e_a8_u32 r) := by
  refine spec_of (fn := Try.f85) (args := [(e_s_a8_u32 p0)]) Try.func85 rfl (nl rfl) ?_
  rintro ⟨G, w0, W, S, Sp, gx⟩ hG
  cases hG
  unfold cut_Union at H
  refine aw_region (r_0 (does_alloc 29 0 (e_a8_u32 (fun _ => 0)) zr29) rfl rfl <| r_e) ?_
  refine aw_cov (cov_prune (s1 := ⟨[(0, _), (2, _)], [(0, some _)], 1, []⟩) a2 a1 (Nat.le_refl _)) ?_
  refine aw_region (r_0 (does_alloc 29 1 (e_a8_u32 (fun _ => 0)) zr29) rfl rfl <| r_e) ?_
  refine aw_cov (cov_prune (s1 := ⟨[(0, _), (2, _), (3, _)], [(0, some _), (1, some _)], 2, []⟩) a3 a2 (Nat.le_refl _)) ?_
  refine aw_seq ?_
  refine aw_region (r_mv rfl rfl <| r_p (does_lens 131 8 p0.length 8 (fun j => (e_a8_u32 (p0.getD j (fun _ => 0)))) el131) m10 rfl <| r_0 (does_move (.const (.int .i64 0)) (.int .i64 0) (fun _ => rfl)) rfl rfl <| r_e) ?_
  refine aw_cov (cov_prune (s1 := ⟨[(2, _), (3, _), (8, _), (9, _), (10, _)], [(0, some _), (1, some _)], 2, []⟩) a5 a2 (Nat.le_refl _)) ?_
  obtain ⟨wn2, hwn2, Hrn2⟩ := bnd H
  refine aw_meet (fun y11 : (Nat → Int) => (⟨[(2, (.ptr 0 0 [])), (3, (.ptr 1 0 []))], [(0, some (.var (e_a8_u32 (fun _ => 0)))), (1, some (.var (e_a8_u32 y11)))], 2, []⟩ : St)) (fun y11 => Fl.nx y11 = wn2) (fun y11 hy => ?_) (aw_block (aw_runs (fun x1 : Int × (Nat → Int) => (⟨[(2, (.ptr 0 0 [])), (3, (.ptr 1 0 [])), (8, (e_s_a8_u32 p0)), (9, (.int .i64 (p0.length : Int))), (10, (.int .i64 x1.1))], [(0, some (.var (e_a8_u32 (fun _ => 0)))), (1, some (.var (e_a8_u32 x1.2)))], 2, []⟩ : St)) hwn2 (cov_prune a5 a2 (nl rfl)) (fun x1 st H hsn2 => ?_)))
  · have H := nx_of hy Hrn2
    refine nx_seq ?_
    refine aw_region (r_lv rfl rfl ty29 rfl <| r_sv rfl rfl rfl rfl rfl rfl ty29 rfl <| r_e) ?_
    refine aw_cov (cov_prune (s1 := ⟨[(2, _)], [(0, some _)], 2, []⟩) a1 a1 (Nat.le_refl _)) ?_
    refine aw_ret ?_
    exact fun a w hr => ⟨_, [(e_a8_u32 y11)], hr, ⟨⟨0, _, rfl, rfl, .data _ (d_a8_u32 y11), ty29⟩, trivial⟩, by decide, by cases H; rfl⟩
  · refine aw_region (r_p (does_bin .lss 3 3 (.tmp 10) (.tmp 9) .i64 x1.1 (p0.length : Int) (.bool (decide (x1.1 < (p0.length : Int)))) trivial trivial (bin_lss _ _ _ _)) m20 rfl <| r_e) ?_
    refine aw_cov (cov_prune (s1 := ⟨[(2, _), (3, _), (8, _), (9, _), (10, _), (11, _)], [(0, some _), (1, some _)], 2, []⟩) a6 a2 (Nat.le_refl _)) ?_
    refine aw_seq ?_
    refine aw_cond rfl (fun hc => ?_) (fun hc => ?_)
    · replace H := ite_t hc H
      refine aw_skip ?_
      refine nx_seq ?_
      refine aw_seq ?_
      refine aw_block ?_
      obtain ⟨h3, H⟩ := ib_of H
      refine aw_region (r_p (does_indexAddrs 131 8 p0.length 8 (fun j => (e_a8_u32 (p0.getD j (fun _ => 0)))) (.tmp 10) .i64 x1.1 el131 trivial h3.1 h3.2) m20 rfl <| r_p (does_loadc 29 12 (e_a8_u32 (p0.getD x1.1.toNat (fun _ => 0))) ty29) m10 rfl <| r_0 (does_alloc 29 2 (e_a8_u32 (fun _ => 0)) zr29) rfl rfl <| r_sv rfl rfl rfl rfl rfl rfl ty29 rfl <| r_e) ?_
      refine aw_cov (cov_prune (s1 := ⟨[(2, _), (3, _), (8, _), (9, _), (10, _), (5, _)], [(0, some _), (1, some _), (2, some _)], 3, []⟩) a6 a3 (Nat.le_refl _)) ?_
      refine aw_region (r_lv rfl rfl ty29 rfl <| r_0 (does_move (.const (.int .i64 0)) (.int .i64 0) (fun _ => rfl)) rfl rfl <| r_e) ?_
      refine aw_cov (cov_prune (s1 := ⟨[(2, _), (3, _), (8, _), (9, _), (10, _), (14, _), (15, _)], [(0, some _), (1, some _)], 3, []⟩) a7 a2 (Nat.le_refl _)) ?_
      obtain ⟨wn5, hwn5, Hrn5⟩ := bnd H
      refine aw_meet (fun y10 : (Nat → Int) => (⟨[(2, (.ptr 0 0 [])), (3, (.ptr 1 0 [])), (8, (e_s_a8_u32 p0)), (9, (.int .i64 (p0.length : Int))), (10, (.int .i64 x1.1))], [(0, some (.var (e_a8_u32 (fun _ => 0)))), (1, some (.var (e_a8_u32 y10)))], 3, []⟩ : St)) (fun y10 => Fl.nx y10 = wn5) (fun y10 hy => ?_) (aw_block (aw_runs (fun x4 : Int × (Nat → Int) => (⟨[(2, (.ptr 0 0 [])), (3, (.ptr 1 0 [])), (8, (e_s_a8_u32 p0)), (9, (.int .i64 (p0.length : Int))), (10, (.int .i64 x1.1)), (14, (e_a8_u32 (p0.getD x1.1.toNat (fun _ => 0)))), (15, (.int .i64 x4.1))], [(0, some (.var (e_a8_u32 (fun _ => 0)))), (1, some (.var (e_a8_u32 x4.2)))], 3, []⟩ : St)) hwn5 (cov_prune a7 a2 (nl rfl)) (fun x4 st H hsn5 => ?_)))
      · have H := nx_of hy Hrn5
        refine nx_blk ?_
        refine nx_seq ?_
        refine aw_region1 (r_p (does_bin .add 3 3 (.tmp 10) (.const (.int .i64 1)) .i64 x1.1 1 (.int .i64 (IntKind.i64.wrap (x1.1 + 1))) trivial (fun _ => rfl) (bin_add _ _ _ _)) m10 rfl <| r_mv rfl rfl <| r_e) ?_
        exact nx_loop ((IntKind.i64.wrap (x1.1 + 1)), y10) H (cov_of (fun i => match i with | 0 => 0 | 1 => 1 | k => k) ⟨⟨_, rfl, ⟨rfl, nl rfl⟩⟩, ⟨_, rfl, ⟨rfl, nl rfl⟩⟩, ⟨_, rfl, ⟨rfl, (d_s_a8_u32 _).plain⟩⟩, ⟨_, rfl, a1⟩, ⟨_, rfl, a1⟩, trivial⟩ ⟨⟨nl rfl, _, _, rfl, rfl, .inl ⟨rfl, (d_a8_u32 _).plain⟩⟩, ⟨nl rfl, _, _, rfl, rfl, .inl ⟨rfl, (d_a8_u32 _).plain⟩⟩, trivial⟩ rfl)
      · refine aw_region (r_p (does_bin .lss 3 3 (.tmp 15) (.const (.int .i64 8)) .i64 x4.1 8 (.bool (decide (x4.1 < 8))) trivial (fun _ => rfl) (bin_lss _ _ _ _)) m10 rfl <| r_e) ?_
        refine aw_cov (cov_prune (s1 := ⟨[(2, _), (3, _), (8, _), (9, _), (10, _), (14, _), (15, _), (16, _)], [(0, some _), (1, some _)], 3, []⟩) a8 a2 (Nat.le_refl _)) ?_
        refine aw_seq ?_
        refine aw_cond rfl (fun hc => ?_) (fun hc => ?_)
        · replace H := ite_t hc H
          refine aw_skip ?_
          refine nx_seq ?_
          refine aw_seq ?_
          refine aw_block ?_
          obtain ⟨h6, H⟩ := ib_of H
          refine aw_region (r_mv rfl rfl <| r_p (does_index 29 8 22 1 14 false (fun j => (.int .u32 ((p0.getD x1.1.toNat (fun _ => 0)) j))) (.tmp 15) .i64 x4.1 ua29 ty22 rfl trivial h6.1 h6.2) m20 rfl <| r_as rfl rfl <| r_as rfl rfl <| r_e) ?_
          refine aw_cov (cov_prune (s1 := ⟨[(2, _), (3, _), (8, _), (9, _), (10, _), (14, _), (15, _), (6, _), (7, _)], [(0, some _), (1, some _)], 3, []⟩) a9 a2 (Nat.le_refl _)) ?_
          obtain ⟨h7, H⟩ := ib_of H
          obtain ⟨h8, H⟩ := ib_of H
          refine aw_region1 (r_mv rfl rfl <| r_mv rfl rfl <| r_p (does_indexAddr 29 8 1 3 1 0 [] (.var (e_a8_u32 x4.2)) (.tmp 20) .i64 x4.1 el29 trivial h7.1 h7.2) m21 rfl <| r_ld (.int .u32 (x4.2 x4.1.toNat)) rfl rfl ⟨rfl, (ixl h7), trivial⟩ rfl rfl ty22 rfl <| r_mv rfl rfl <| r_p (does_max _ _ (.tmp 22) (.tmp 23) rfl .u32 (x4.2 x4.1.toNat) ((p0.getD x1.1.toNat (fun _ => 0)) x4.1.toNat) trivial trivial) m20 rfl <| r_p (does_indexAddr 29 8 1 3 1 0 [] (.var (e_a8_u32 x4.2)) (.tmp 19) .i64 x4.1 el29 trivial h8.1 h8.2) m21 rfl <| r_st (.var (e_a8_u32 (aupd x4.2 x4.1.toNat (if (x4.2 x4.1.toNat) < ((p0.getD x1.1.toNat (fun _ => 0)) x4.1.toNat) then (p0.getD x1.1.toNat (fun _ => 0)) x4.1.toNat else x4.2 x4.1.toNat)))) rfl rfl a1 trivial rfl ⟨rfl, (ixl h8), trivial⟩ rfl rfl (congrArg Box.var (set_cons rfl (vupd_map (fun z => V.int .u32 z) _ _ _))) ty22 rfl <| r_e) ?_
          refine nx_blk ?_
          refine nx_seq ?_
          obtain ⟨v9, hv9, H⟩ := lt_of H
          refine aw_cov (cov_prune (s1 := ⟨[(2, _), (3, _), (8, _), (9, _), (10, _), (14, _), (15, _)], [(0, some _), (1, some (.var (e_a8_u32 v9)))], 3, []⟩) a7 ⟨rfl, (by subst hv9; rfl), trivial⟩ (Nat.le_refl _)) ?_
          refine aw_region1 (r_p (does_bin .add 3 3 (.tmp 15) (.const (.int .i64 1)) .i64 x4.1 1 (.int .i64 (IntKind.i64.wrap (x4.1 + 1))) trivial (fun _ => rfl) (bin_add _ _ _ _)) m10 rfl <| r_mv rfl rfl <| r_e) ?_
          exact nx_loop ((IntKind.i64.wrap (x4.1 + 1)), v9) H (cov_prune a7 a2 (nl rfl))
        · replace H := ite_f hc H
          refine aw_exit ?_
          refine ex_then ?_
          refine ex_then ?_
          refine ex_here ?_
          exact nx_ljoin (x4.2) H hsn5 (cov_prune a5 a2 (nl rfl))
    · replace H := ite_f hc H
      refine aw_exit ?_
      refine ex_then ?_
      refine ex_then ?_
      refine ex_here ?_
      exact nx_ljoin (x1.2) H hsn2 (cov_prune a2 a2 (nl rfl))
theorem gather_Target_spec (p0 : api_Core) (r : (Nat → Int)) (H : gather_Target p0 = some r) : FSpec Try.prog 73 [(e_api_Core p0)] (e_a8_u32 r) := by
  refine spec_of (fn := Try.f73) (args := [(e_api_Core p0)]) Try.func73 rfl (nl rfl) ?_
  rintro ⟨G, w0, W, S, Sp, gx⟩ hG
  cases hG
  unfold gather_Target at H
  refine aw_region (r_p (does_box 35 (.tmp 0) 0 (e_api_Core p0) trivial rfl) m10 rfl <| r_0 (does_alloc 29 1 (e_a8_u32 (fun _ => 0)) zr29) rfl rfl <| r_e) ?_
  refine aw_cov (cov_prune (s1 := ⟨[(1, _), (2, _)], [(0, some _), (1, some _)], 2, []⟩) a2 a2 (Nat.le_refl _)) ?_
  refine aw_region (r_fa (.ptr 0 (0 + 51) [10]) fl35_10 rfl rfl rfl rfl <| r_ld (e_a8_u32 p0.Cut) rfl rfl ⟨rfl, nl rfl, trivial⟩ rfl rfl ty29 rfl <| r_0 (does_alloc 29 2 (e_a8_u32 (fun _ => 0)) zr29) rfl rfl <| r_sv rfl rfl rfl rfl rfl rfl ty29 rfl <| r_e) ?_
  refine aw_cov (cov_prune (s1 := ⟨[(1, _), (2, _), (3, _)], [(0, some _), (1, some _), (2, some _)], 3, []⟩) a3 a3 (Nat.le_refl _)) ?_
  refine aw_seq ?_
  obtain ⟨v1, h2, H⟩ := bnd H
  refine aw_region (r_fa (.ptr 0 (0 + 43) [9]) fl35_9 rfl rfl rfl rfl <| r_ld (e_a8_u32 p0.Wanted) rfl rfl ⟨rfl, nl rfl, trivial⟩ rfl rfl ty28 rfl <| r_p (does_callO 66 0 (fun _ => .any) (.func 66) [(.tmp 10)] [(e_a8_u32 p0.Wanted)] [] [] true [(e_a8_u32 p0.Wanted)] _ (.own 3) _ 3 1 _ _ rfl fo66 rfl ⟨trivial, trivial⟩ ⟨.ro _ _ (.data _ (d_a8_u32 p0.Wanted)), trivial⟩ (ident_List_spec p0.Wanted _ h2) rfl (by simp) rfl trivial ⟨⟨nl rfl, _, rfl, fun _ => trivial⟩, trivial⟩ (.own 0 (nl rfl))) m10 rfl <| r_p (does_leno 117 1 v1.length 11 3 (fun j => (.int .i64 (v1.getD j 0))) el117) m11 rfl <| r_0 (does_move (.const (.int .i64 0)) (.int .i64 0) (fun _ => rfl)) rfl rfl <| r_e) ?_
  refine aw_cov (cov_prune (s1 := ⟨[(1, _), (2, _), (3, _), (11, _), (12, _), (13, _)], [(0, some _), (1, some _), (2, some _), (3, some _)], 4, []⟩) a6 a4 (Nat.le_refl _)) ?_
  obtain ⟨wn4, hwn4, Hrn4⟩ := bnd H
  refine aw_meet (fun y13 : (Nat → Int) => (⟨[(2, (.ptr 1 0 [])), (3, (.ptr 2 0 []))], [(1, some (.var (e_a8_u32 (fun _ => 0)))), (2, some (.var (e_a8_u32 y13)))], 4, []⟩ : St)) (fun y13 => Fl.nx y13 = wn4) (fun y13 hy => ?_) (aw_block (aw_runs (fun x3 : Int × (Nat → Int) => (⟨[(1, (.ptr 0 0 [])), (2, (.ptr 1 0 [])), (3, (.ptr 2 0 [])), (11, (.own 3)), (12, (.int .i64 (v1.length : Int))), (13, (.int .i64 x3.1))], [(0, some (.var (e_api_Core p0))), (1, some (.var (e_a8_u32 (fun _ => 0)))), (2, some (.var (e_a8_u32 x3.2))), (3, some (.arr 1 v1.length fun j => (.int .i64 (v1.getD j 0))))], 4, []⟩ : St)) hwn4 (cov_prune a6 a4 (nl rfl)) (fun x3 st H hsn4 => ?_)))
  · have H := nx_of hy Hrn4
    refine nx_seq ?_
    refine aw_region (r_lv rfl rfl ty29 rfl <| r_sv rfl rfl rfl rfl rfl rfl ty29 rfl <| r_e) ?_
    refine aw_cov (cov_prune (s1 := ⟨[(2, _)], [(1, some _)], 4, []⟩) a1 a1 (Nat.le_refl _)) ?_
    refine aw_ret ?_
    exact fun a w hr => ⟨_, [(e_a8_u32 y13)], hr, ⟨⟨1, _, rfl, rfl, .data _ (d_a8_u32 y13), ty29⟩, trivial⟩, by decide, by cases H; rfl⟩
  · refine aw_region (r_p (does_bin .lss 3 3 (.tmp 13) (.tmp 12) .i64 x3.1 (v1.length : Int) (.bool (decide (x3.1 < (v1.length : Int)))) trivial trivial (bin_lss _ _ _ _)) m20 rfl <| r_e) ?_
    refine aw_cov (cov_prune (s1 := ⟨[(1, _), (2, _), (3, _), (11, _), (12, _), (13, _), (14, _)], [(0, some _), (1, some _), (2, some _), (3, some _)], 4, []⟩) a7 a4 (Nat.le_refl _)) ?_
    refine aw_seq ?_
    refine aw_cond rfl (fun hc => ?_) (fun hc => ?_)
    · replace H := ite_t hc H
      refine aw_skip ?_
      refine nx_seq ?_
      refine aw_seq ?_
      refine aw_jn (fun x12 : (Nat → Int) => (⟨[(1, (.ptr 0 0 [])), (2, (.ptr 1 0 [])), (3, (.ptr 2 0 [])), (11, (.own 3)), (12, (.int .i64 (v1.length : Int))), (13, (.int .i64 x3.1))], [(0, some (.var (e_api_Core p0))), (1, some (.var (e_a8_u32 (fun _ => 0)))), (2, some (.var (e_a8_u32 x12))), (3, some (.arr 1 v1.length fun j => (.int .i64 (v1.getD j 0))))], 5, []⟩ : St)) H (fun x12 H => ?_) (fun j5 H => ?_)
      · refine nx_seq ?_
        refine aw_region1 (r_p (does_bin .add 3 3 (.tmp 13) (.const (.int .i64 1)) .i64 x3.1 1 (.int .i64 (IntKind.i64.wrap (x3.1 + 1))) trivial (fun _ => rfl) (bin_add _ _ _ _)) m10 rfl <| r_mv rfl rfl <| r_e) ?_
        exact nx_loop ((IntKind.i64.wrap (x3.1 + 1)), x12) H (cov_of (fun i => match i with | 0 => 0 | 1 => 1 | 2 => 2 | 3 => 3 | k => k) ⟨⟨_, rfl, ⟨rfl, nl rfl⟩⟩, ⟨_, rfl, ⟨rfl, nl rfl⟩⟩, ⟨_, rfl, ⟨rfl, nl rfl⟩⟩, ⟨_, rfl, ⟨rfl, nl rfl⟩⟩, ⟨_, rfl, a1⟩, ⟨_, rfl, a1⟩, trivial⟩ ⟨⟨nl rfl, _, _, rfl, rfl, .inl ⟨rfl, (d_api_Core _).plain⟩⟩, ⟨nl rfl, _, _, rfl, rfl, .inl ⟨rfl, (d_a8_u32 _).plain⟩⟩, ⟨nl rfl, _, _, rfl, rfl, .inl ⟨rfl, (d_a8_u32 _).plain⟩⟩, ⟨nl rfl, _, _, rfl, rfl, ⟨rfl, rfl, fun _ => a1⟩⟩, trivial⟩ rfl)
      · refine aw_block ?_
        obtain ⟨h6, H⟩ := ib_of H
        refine aw_region (r_p (does_indexAddro 117 1 v1.length 11 3 (fun j => (.int .i64 (v1.getD j 0))) (.tmp 13) .i64 x3.1 el117 trivial h6.1 h6.2) m21 rfl <| r_ld (.int .i64 (v1.getD x3.1.toNat 0)) rfl rfl ⟨(ixl h6), trivial⟩ rfl rfl ty3 rfl <| r_as rfl rfl <| r_e) ?_
        refine aw_cov (cov_prune (s1 := ⟨[(1, _), (2, _), (3, _), (11, _), (12, _), (13, _), (5, _)], [(0, some _), (1, some _), (2, some _), (3, some _)], 4, []⟩) a7 a4 (Nat.le_refl _)) ?_
        obtain ⟨h7, H⟩ := ib_of H
        refine aw_region (r_mv rfl rfl <| r_fa (.ptr 0 (0 + 60) [12]) fl35_12 rfl rfl rfl rfl <| r_p (does_indexAddr 33 8 16 18 0 (0 + 60) [12] (.var (e_api_Core p0)) (.tmp 17) .i64 (v1.getD x3.1.toNat 0) el33 trivial h7.1 h7.2) m21 rfl <| r_ld (e_api_Peer (p0.Peers ((v1.getD x3.1.toNat 0).toNat))) rfl rfl ⟨rfl, nl rfl, ⟨rfl, (ixl h7), trivial⟩⟩ rfl rfl ty32 rfl <| r_0 (does_alloc 32 4 (e_api_Peer z_api_Peer) zr32) rfl rfl <| r_sv rfl rfl rfl rfl rfl rfl ty32 rfl <| r_e) ?_
        refine aw_cov (cov_prune (s1 := ⟨[(1, _), (2, _), (3, _), (11, _), (12, _), (13, _), (5, _), (6, _)], [(0, some _), (1, some _), (2, some _), (3, some _), (4, some _)], 5, []⟩) a8 a5 (Nat.le_refl _)) ?_
        obtain ⟨h8, H⟩ := ibg_of H
        refine aw_draw (mixed) (r_mv rfl rfl <| r_fa (.ptr 0 (0 + 0) [0]) fl35_0 rfl rfl rfl rfl <| r_ld (.int .i64 p0.Self) rfl rfl ⟨rfl, nl rfl, trivial⟩ rfl rfl ty3 rfl <| r_p (does_bin .neq 3 3 (.tmp 21) (.tmp 23) .i64 (v1.getD x3.1.toNat 0) p0.Self (.bool ((v1.getD x3.1.toNat 0) != p0.Self)) trivial trivial (bin_neq _ _ _ _)) m20 rfl <| r_mv rfl rfl <| r_gfa (.ptr 4 (0 + 0) [0]) fl32_0 rfl rfl rfl rfl rfl (fun _ => .same _) rfl rfl rfl <| r_gld (.int .u32 ((p0.Peers ((v1.getD x3.1.toNat 0).toNat)).Inc)) rfl rfl rfl rfl rfl (fun hc => .opt _ _ hc) rfl (fun hc => ⟨rfl, nl rfl, trivial⟩) rfl rfl ty22 rfl <| r_gmv rfl rfl rfl rfl rfl rfl <| r_gfa (.ptr 0 (0 + 43) [9]) fl35_9 rfl rfl rfl rfl rfl (fun _ => .same _) rfl rfl rfl <| r_g [(29, _), (28, _)] [(29, _), (28, _)] [(0, _)] rfl rfl m31 rfl (fun hc => ⟨(.opt _ _ hc), (.opt _ _ hc), trivial⟩) (fun hc => does_indexAddr 28 8 1 29 0 (0 + 43) [9] (.var (e_api_Core p0)) (.tmp 28) .i64 (v1.getD x3.1.toNat 0) el28 trivial (h8 hc).1 (h8 hc).2) rfl <| r_gld (.int .u32 (p0.Wanted ((v1.getD x3.1.toNat 0).toNat))) rfl rfl rfl rfl rfl (fun hc => .opt _ _ hc) rfl (fun hc => ⟨rfl, nl rfl, ⟨rfl, (ixl (h8 hc)), trivial⟩⟩) rfl rfl ty22 rfl <| r_g [(27, _), (31, _)] [(27, _), (31, _)] [] rfl rfl m30 rfl (fun hc => ⟨(.opt _ _ hc), (.opt _ _ hc), trivial⟩) (fun hc => does_bin .eql 22 22 (.tmp 27) (.tmp 31) .u32 ((p0.Peers ((v1.getD x3.1.toNat 0).toNat)).Inc) (p0.Wanted ((v1.getD x3.1.toNat 0).toNat)) (.bool (((p0.Peers ((v1.getD x3.1.toNat 0).toNat)).Inc) == (p0.Wanted ((v1.getD x3.1.toNat 0).toNat)))) trivial trivial (bin_eql _ _ _ _)) rfl <| r_p (does_and 25 32 ((v1.getD x3.1.toNat 0) != p0.Self) (((p0.Peers ((v1.getD x3.1.toNat 0).toNat)).Inc) == (p0.Wanted ((v1.getD x3.1.toNat 0).toNat)))) m20 rfl <| r_mv rfl rfl <| r_gfa (.ptr 4 (0 + 1) [1]) fl32_1 rfl rfl rfl rfl rfl (fun _ => .same _) rfl rfl rfl <| r_gld (e_api_Id ((p0.Peers ((v1.getD x3.1.toNat 0).toNat)).Conf)) rfl rfl rfl rfl rfl (fun hc => .opt _ _ hc) rfl (fun hc => ⟨rfl, nl rfl, trivial⟩) rfl rfl ty27 rfl <| r_gfa (.ptr 0 (0 + 20) [4]) fl35_4 rfl rfl rfl rfl rfl (fun _ => .same _) rfl rfl rfl <| r_gld (e_api_Id p0.Conf) rfl rfl rfl rfl rfl (fun hc => .opt _ _ hc) rfl (fun hc => ⟨rfl, nl rfl, trivial⟩) rfl rfl ty27 rfl <| r_geq false rfl rfl rfl rfl rfl rfl (fun hc => .opt _ _ hc) (fun hc => .opt _ _ hc) rfl rfl eg27 sh27 (al_api_Id _ _) (al_api_Id _ _) (q_api_Id _ _) rfl <| r_p (does_and 34 39 (((v1.getD x3.1.toNat 0) != p0.Self) && (((p0.Peers ((v1.getD x3.1.toNat 0).toNat)).Inc) == (p0.Wanted ((v1.getD x3.1.toNat 0).toNat)))) (b_api_Id ((p0.Peers ((v1.getD x3.1.toNat 0).toNat)).Conf) p0.Conf)) m20 rfl <| r_mv rfl rfl <| r_gfa (.ptr 4 (0 + 4) [2]) fl32_2 rfl rfl rfl rfl rfl (fun _ => .same _) rfl rfl rfl <| r_gld (e_api_Id ((p0.Peers ((v1.getD x3.1.toNat 0).toNat)).Promise)) rfl rfl rfl rfl rfl (fun hc => .opt _ _ hc) rfl (fun hc => ⟨rfl, nl rfl, trivial⟩) rfl rfl ty27 rfl <| r_gfa (.ptr 0 (0 + 40) [8]) fl35_8 rfl rfl rfl rfl rfl (fun _ => .same _) rfl rfl rfl <| r_gld (e_api_Id p0.Promise) rfl rfl rfl rfl rfl (fun hc => .opt _ _ hc) rfl (fun hc => ⟨rfl, nl rfl, trivial⟩) rfl rfl ty27 rfl <| r_geq false rfl rfl rfl rfl rfl rfl (fun hc => .opt _ _ hc) (fun hc => .opt _ _ hc) rfl rfl eg27 sh27 (al_api_Id _ _) (al_api_Id _ _) (q_api_Id _ _) rfl <| r_p (does_and 41 46 ((((v1.getD x3.1.toNat 0) != p0.Self) && (((p0.Peers ((v1.getD x3.1.toNat 0).toNat)).Inc) == (p0.Wanted ((v1.getD x3.1.toNat 0).toNat)))) && (b_api_Id ((p0.Peers ((v1.getD x3.1.toNat 0).toNat)).Conf) p0.Conf)) (b_api_Id ((p0.Peers ((v1.getD x3.1.toNat 0).toNat)).Promise) p0.Promise)) m20 rfl <| r_e) rfl ?_
        obtain ⟨v9, hv9, H⟩ := lt_of H
        refine aw_cov (cov_prune (s1 := ⟨[(1, _), (2, _), (3, _), (11, _), (12, _), (13, _), (6, _), (47, (.bool v9))], [(0, some _), (1, some _), (2, some _), (3, some _), (4, some _)], 5, []⟩) ⟨rfl, rfl, rfl, rfl, rfl, rfl, rfl, (by subst hv9; rfl), trivial⟩ a5 (Nat.le_refl _)) ?_
        refine aw_cond rfl (fun hc => ?_) (fun hc => ?_)
        · replace H := ite_t hc H
          obtain ⟨v10, h11, H⟩ := bnd H
          refine aw_region1 (r_lv rfl rfl ty29 rfl <| r_fa (.ptr 4 (0 + 7) [3]) fl32_3 rfl rfl rfl rfl <| r_ld (e_a8_u32 ((p0.Peers ((v1.getD x3.1.toNat 0).toNat)).Cut)) rfl rfl ⟨rfl, nl rfl, trivial⟩ rfl rfl ty29 rfl <| r_p (does_buildSl 131 2 8 (e_a8_u32 (fun _ => 0)) (fun j => (e_a8_u32 (([x3.2, (p0.Peers ((v1.getD x3.1.toNat 0).toNat)).Cut] : _root_.List (Nat → Int)).getD j (fun _ => 0)))) #[(0, (.tmp 48)), (1, (.tmp 50))] [(0, (.tmp 48)), (1, (.tmp 50))] [(0, (e_a8_u32 x3.2)), (1, (e_a8_u32 ((p0.Peers ((v1.getD x3.1.toNat 0).toNat)).Cut)))] rfl so131 (by decide) ⟨a1, a1, trivial⟩ ⟨⟨nl rfl, rfl, rfl⟩, ⟨nl rfl, rfl, rfl⟩, trivial⟩ (fun j h => match j, h with | 0, _ => rfl | 1, _ => rfl | k + 2, h => (nlt h).elim)) m20 rfl <| r_ca [_] [_] (nob := []) (flat := true) (cut_Union_spec _ _ h11) rfl rfl m10 fo85 ⟨trivial, trivial⟩ ⟨.data _ (d_s_a8_u32 _), trivial⟩ (f_a8_u32 v10) rfl <| r_sv rfl rfl rfl rfl rfl rfl ty29 rfl <| r_e) ?_
          refine nx_blk ?_
          exact nx_join (v10) H (cov_prune a6 a4 (nl rfl))
        · replace H := ite_f hc H
          refine aw_skip ?_
          refine nx_blk ?_
          exact nx_join (x3.2) H (cov_prune a6 a4 (nl rfl))
    · replace H := ite_f hc H
      refine aw_exit ?_
      refine ex_then ?_
      refine ex_then ?_
      refine ex_here ?_
      exact nx_ljoin (x3.2) H hsn4 (cov_prune a2 a2 (nl rfl))
theorem cut_Within_spec (p0 : (Nat → Int)) (p1 : (Nat → Int)) (r : Bool) (H : cut_Within p0 p1 = some r) : FSpec Try.prog 72 [(e_a8_u32 p0), (e_a8_u32 p1)] (.bool r) := by
  refine spec_of (fn := Try.f72) (args := [(e_a8_u32 p0), (e_a8_u32 p1)]) Try.func72 rfl (nl rfl) ?_
  rintro ⟨G, w0, W, S, Sp, gx⟩ hG
  cases hG
  unfold cut_Within at H
  refine aw_region (r_p (does_box 29 (.tmp 0) 0 (e_a8_u32 p0) trivial rfl) m10 rfl <| r_p (does_box 29 (.tmp 1) 1 (e_a8_u32 p1) trivial rfl) m10 rfl <| r_0 (does_assign (.const (.bool false)) (.bool false) (fun _ => rfl)) rfl rfl <| r_e) ?_
  refine aw_cov (cov_prune (s1 := ⟨[(2, _), (3, _)], [(0, some _), (1, some _)], 2, []⟩) a2 a2 (Nat.le_refl _)) ?_
  obtain ⟨v1, h2, H⟩ := bnd H
  refine aw_draw (mixed) (r_lv rfl rfl ty29 rfl <| r_lv rfl rfl ty29 rfl <| r_p (does_buildSl 131 2 8 (e_a8_u32 (fun _ => 0)) (fun j => (e_a8_u32 (([p0, p1] : _root_.List (Nat → Int)).getD j (fun _ => 0)))) #[(0, (.tmp 5)), (1, (.tmp 6))] [(0, (.tmp 5)), (1, (.tmp 6))] [(0, (e_a8_u32 p0)), (1, (e_a8_u32 p1))] rfl so131 (by decide) ⟨a1, a1, trivial⟩ ⟨⟨nl rfl, rfl, rfl⟩, ⟨nl rfl, rfl, rfl⟩, trivial⟩ (fun j h => match j, h with | 0, _ => rfl | 1, _ => rfl | k + 2, h => (nlt h).elim)) m20 rfl <| r_ca [_] [_] (nob := []) (flat := true) (cut_Union_spec _ _ h2) rfl rfl m10 fo85 ⟨trivial, trivial⟩ ⟨.data _ (d_s_a8_u32 _), trivial⟩ (f_a8_u32 v1) rfl <| r_lv rfl rfl ty29 rfl <| r_eq false rfl rfl rfl rfl eg29 sh29 (al_a8_u32 _ _) (al_a8_u32 _ _) (q_a8_u32 _ _) rfl <| r_as rfl rfl <| r_e) rfl ?_
  refine aw_cov (cov_prune (s1 := ⟨[(4, _)], [], 2, []⟩) a1 trivial (Nat.le_refl _)) ?_
  refine aw_ret ?_
  exact fun a w hr => ⟨_, [(.bool (b_a8_u32 v1 p1))], hr, ⟨⟨_, rfl, .data (.bool (b_a8_u32 v1 p1)) trivial⟩, trivial⟩, by decide, by cases H; rfl⟩
theorem gather_Done_1_spec (p0 : api_Peer) (q0 : api_Core) (r : Bool) (H : gather_Done_1 p0 q0 = some r) : FSpec Try.prog 96 [(e_api_Peer p0), (.cptr (e_api_Core q0))] (.bool r) := by
  refine spec_of (fn := Try.f96) (args := [(e_api_Peer p0), (.cptr (e_api_Core q0))]) Try.func96 rfl (nl rfl) ?_
  rintro ⟨G, w0, W, S, Sp, gx⟩ hG
  cases hG
  unfold gather_Done_1 at H
  refine aw_region (r_p (does_box 32 (.tmp 0) 0 (e_api_Peer p0) trivial rfl) m10 rfl <| r_0 (does_assign (.const (.bool false)) (.bool false) (fun _ => rfl)) rfl rfl <| r_e) ?_
  refine aw_cov (cov_prune (s1 := ⟨[(1, _), (2, _)], [(0, some _)], 1, []⟩) a2 a1 (Nat.le_refl _)) ?_
  refine aw_region (r_fa (.ptr 0 (0 + 4) [2]) fl32_2 rfl rfl rfl rfl <| r_ld (e_api_Id p0.Promise) rfl rfl ⟨rfl, nl rfl, trivial⟩ rfl rfl ty27 rfl <| r_p (does_fieldAddrc 35 8 40 1 (e_api_Core q0) fl35_8 rfl (nl rfl) rfl) m10 rfl <| r_p (does_loadc 27 6 (e_api_Id q0.Promise) ty27) m10 rfl <| r_eq false rfl rfl rfl rfl eg27 sh27 (al_api_Id _ _) (al_api_Id _ _) (q_api_Id _ _) rfl <| r_mv rfl rfl <| r_gfa (.ptr 0 (0 + 15) [4]) fl32_4 rfl rfl rfl rfl rfl (fun _ => .same _) rfl rfl rfl <| r_gld (.bool p0.Ready) rfl rfl rfl rfl rfl (fun hc => .opt _ _ hc) rfl (fun hc => ⟨rfl, nl rfl, trivial⟩) rfl rfl ty4 rfl <| r_p (does_and 9 11 (b_api_Id p0.Promise q0.Promise) p0.Ready) m20 rfl <| r_mv rfl rfl <| r_gfa (.ptr 0 (0 + 1) [1]) fl32_1 rfl rfl rfl rfl rfl (fun _ => .same _) rfl rfl rfl <| r_gld (e_api_Id p0.Conf) rfl rfl rfl rfl rfl (fun hc => .opt _ _ hc) rfl (fun hc => ⟨rfl, nl rfl, trivial⟩) rfl rfl ty27 rfl <| r_gp (Step.guarded rfl rfl rfl rfl (fun hc => does_fieldAddrc 35 8 40 1 (e_api_Core q0) fl35_8 rfl (nl rfl) rfl)) m20 rfl <| r_g [(16, _)] [(16, _)] [] rfl rfl m20 rfl (fun hc => ⟨(.opt _ _ hc), trivial⟩) (fun hc => does_loadc 27 16 (e_api_Id q0.Promise) ty27) rfl <| r_geq false rfl rfl rfl rfl rfl rfl (fun hc => .opt _ _ hc) (fun hc => .opt _ _ hc) rfl rfl eg27 sh27 (al_api_Id _ _) (al_api_Id _ _) (q_api_Id _ _) rfl <| r_p (does_or 13 18 ((b_api_Id p0.Promise q0.Promise) && p0.Ready) (b_api_Id p0.Conf q0.Promise)) m20 rfl <| r_as rfl rfl <| r_e) ?_
  obtain ⟨v1, hv1, H⟩ := lt_of H
  refine aw_cov (cov_prune (s1 := ⟨[(3, (.bool v1))], [], 1, []⟩) ⟨(by subst hv1; rfl), trivial⟩ trivial (Nat.le_refl _)) ?_
  refine aw_ret ?_
  exact fun a w hr => ⟨_, [(.bool v1)], hr, ⟨⟨_, rfl, .data (.bool v1) trivial⟩, trivial⟩, by decide, by cases H; rfl⟩
theorem gather_Done_spec (p0 : api_Core) (r : Bool) (H : gather_Done p0 = some r) : FSpec Try.prog 74 [(e_api_Core p0)] (.bool r) := by
  refine spec_of (fn := Try.f74) (args := [(e_api_Core p0)]) Try.func74 rfl (nl rfl) ?_
  rintro ⟨G, w0, W, S, Sp, gx⟩ hG
  cases hG
  unfold gather_Done at H
  refine aw_region (r_p (does_box 35 (.tmp 0) 0 (e_api_Core p0) trivial rfl) m10 rfl <| r_0 (does_assign (.const (.bool false)) (.bool false) (fun _ => rfl)) rfl rfl <| r_e) ?_
  refine aw_cov (cov_prune (s1 := ⟨[(1, _)], [(0, some _)], 1, []⟩) a1 a1 (Nat.le_refl _)) ?_
  obtain ⟨v1, h2, H⟩ := bnd H
  refine aw_region (r_lv rfl rfl ty35 rfl <| r_p (does_makeFunc 96 [(.tmp 1)] [(.ptr 0 0 [])] #[(.tmp 1)] rfl ⟨trivial, trivial⟩) m10 rfl <| r_ca [_, _] [_, _] (nob := [(0, (.var (e_api_Core p0)))]) (flat := true) (gather_each_spec p0 (fun z0 => gather_Done_1 z0 p0) 96 1 (fun j => ([.cptr (e_api_Core p0)] : _root_.List V).getD j (.bool false)) fo96 (fun j => match j with | 0 => .inr (.inl ⟨(e_api_Core p0), (d_api_Core p0), rfl⟩) | _ + 1 => .inl trivial) (fun z0 r h => gather_Done_1_spec z0 p0 r h) _ h2) rfl rfl m21 fo94 ⟨trivial, trivial, trivial⟩ ⟨.data _ (d_api_Core _), .fn _ _ _ _ (fun j hj => match j, hj with | 0, _ => .ptr 0 0 [] (.var (e_api_Core p0)) (e_api_Core p0) (.head _) trivial rfl rfl (d_api_Core p0) | k + 1, hj => (nlt hj).elim), trivial⟩ trivial rfl <| r_as rfl rfl <| r_e) ?_
  refine aw_cov (cov_prune (s1 := ⟨[(2, _)], [], 1, []⟩) a1 trivial (Nat.le_refl _)) ?_
  refine aw_ret ?_
  exact fun a w hr => ⟨_, [(.bool v1)], hr, ⟨⟨_, rfl, .data (.bool v1) trivial⟩, trivial⟩, by decide, by cases H; rfl⟩
end Go.Proofs.Ytcocahffigbmbaa
end

section
set_option linter.unusedVariables false
set_option maxRecDepth 100000
namespace Go.Proofs.Ytcocahffigbmbaa
open Go.Eng
set_option maxHeartbeats 1600000
theorem round_Least_spec (p0 : (Nat → Int)) (p1 : (Nat → Int)) (r : Int × Bool) (H : round_Least p0 p1 = some r) : FSpec Try.prog 97 [(e_a8_u32 p0), (e_a8_u32 p1)] (resV [(.int .u32 r.1), (.bool r.2)]) := by
  refine spec_of (fn := Try.f97) (args := [(e_a8_u32 p0), (e_a8_u32 p1)]) Try.func97 rfl (nl rfl) ?_
  rintro ⟨G, w0, W, S, Sp, gx⟩ hG
  cases hG
  unfold round_Least at H
  refine aw_region (r_p (does_box 29 (.tmp 0) 0 (e_a8_u32 p0) trivial rfl) m10 rfl <| r_p (does_box 28 (.tmp 1) 1 (e_a8_u32 p1) trivial rfl) m10 rfl <| r_0 (does_assign (.const (.int .u32 0)) (.int .u32 0) (fun _ => rfl)) rfl rfl <| r_0 (does_assign (.const (.bool false)) (.bool false) (fun _ => rfl)) rfl rfl <| r_e) ?_
  refine aw_cov (cov_prune (s1 := ⟨[(2, _), (3, _)], [(0, some _), (1, some _)], 2, []⟩) a2 a2 (Nat.le_refl _)) ?_
  obtain ⟨v1, h2, H⟩ := bnd H
  refine aw_region (r_lv rfl rfl ty28 rfl <| r_p (does_callO 66 0 (fun _ => .any) (.func 66) [(.tmp 10)] [(e_a8_u32 p1)] [] [] true [(e_a8_u32 p1)] _ (.own 2) _ 2 1 _ _ rfl fo66 rfl ⟨trivial, trivial⟩ ⟨.ro _ _ (.data _ (d_a8_u32 p1)), trivial⟩ (ident_List_spec p1 _ h2) rfl (by simp) rfl trivial ⟨⟨nl rfl, _, rfl, fun _ => trivial⟩, trivial⟩ (.own 0 (nl rfl))) m10 rfl <| r_as rfl rfl <| r_e) ?_
  refine aw_cov (cov_prune (s1 := ⟨[(2, _), (6, _)], [(0, some _), (2, some _)], 3, []⟩) a2 a2 (Nat.le_refl _)) ?_
  refine aw_seq ?_
  refine aw_region (r_mv rfl rfl <| r_p (does_leno 117 1 v1.length 12 2 (fun j => (.int .i64 (v1.getD j 0))) el117) m11 rfl <| r_p (does_bin .eql 3 3 (.tmp 13) (.const (.int .i64 0)) .i64 (v1.length : Int) 0 (.bool ((v1.length : Int) == 0)) trivial (fun _ => rfl) (bin_eql _ _ _ _)) m10 rfl <| r_e) ?_
  refine aw_cov (cov_prune (s1 := ⟨[(2, _), (6, _), (14, _)], [(0, some _), (2, some _)], 3, []⟩) a3 a2 (Nat.le_refl _)) ?_
  refine aw_cond rfl (fun hc => ?_) (fun hc => ?_)
  · replace H := ite_t hc H
    refine aw_region (r_0 (does_assign (.const (.int .u32 0)) (.int .u32 0) (fun _ => rfl)) rfl rfl <| r_0 (does_assign (.const (.bool false)) (.bool false) (fun _ => rfl)) rfl rfl <| r_e) ?_
    refine aw_cov (cov_prune (s1 := ⟨[(4, _), (5, _)], [], 3, []⟩) a2 trivial (Nat.le_refl _)) ?_
    refine aw_ret ?_
    refine rt_then ?_
    exact fun a w hr => ⟨_, [(.int .u32 0), (.bool false)], hr, ⟨⟨_, rfl, .data (.int .u32 0) trivial⟩, ⟨_, rfl, .data (.bool false) trivial⟩, trivial⟩, by decide, by cases H; rfl⟩
  · replace H := ite_f hc H
    refine aw_skip ?_
    refine nx_seq ?_
    refine aw_region (r_0 (does_assign (.const (.int .u32 4294967295)) (.int .u32 4294967295) (fun _ => rfl)) rfl rfl <| r_e) ?_
    refine aw_cov (cov_prune (s1 := ⟨[(2, _), (6, _), (7, _)], [(0, some _), (2, some _)], 3, []⟩) a3 a2 (Nat.le_refl _)) ?_
    refine aw_seq ?_
    refine aw_region (r_mv rfl rfl <| r_p (does_leno 117 1 v1.length 15 2 (fun j => (.int .i64 (v1.getD j 0))) el117) m11 rfl <| r_0 (does_move (.const (.int .i64 0)) (.int .i64 0) (fun _ => rfl)) rfl rfl <| r_e) ?_
    refine aw_cov (cov_prune (s1 := ⟨[(2, _), (7, _), (15, _), (16, _), (17, _)], [(0, some _), (2, some _)], 3, []⟩) a5 a2 (Nat.le_refl _)) ?_
    obtain ⟨wn4, hwn4, Hrn4⟩ := bnd H
    refine aw_meet (fun y8 : Int => (⟨[(7, (.int .u32 y8))], [], 3, []⟩ : St)) (fun y8 => Fl.nx y8 = wn4) (fun y8 hy => ?_) (aw_block (aw_runs (fun x3 : Int × Int => (⟨[(2, (.ptr 0 0 [])), (7, (.int .u32 x3.1)), (15, (.own 2)), (16, (.int .i64 (v1.length : Int))), (17, (.int .i64 x3.2))], [(0, some (.var (e_a8_u32 p0))), (2, some (.arr 1 v1.length fun j => (.int .i64 (v1.getD j 0))))], 3, []⟩ : St)) hwn4 (cov_prune a5 a2 (nl rfl)) (fun x3 st H hsn4 => ?_)))
    · have H := nx_of hy Hrn4
      refine nx_seq ?_
      refine aw_region (r_mv rfl rfl <| r_as rfl rfl <| r_0 (does_assign (.const (.bool true)) (.bool true) (fun _ => rfl)) rfl rfl <| r_e) ?_
      refine aw_cov (cov_prune (s1 := ⟨[(4, _), (5, _)], [], 3, []⟩) a2 trivial (Nat.le_refl _)) ?_
      refine aw_ret ?_
      exact fun a w hr => ⟨_, [(.int .u32 y8), (.bool true)], hr, ⟨⟨_, rfl, .data (.int .u32 y8) trivial⟩, ⟨_, rfl, .data (.bool true) trivial⟩, trivial⟩, by decide, by cases H; rfl⟩
    · refine aw_region (r_p (does_bin .lss 3 3 (.tmp 17) (.tmp 16) .i64 x3.2 (v1.length : Int) (.bool (decide (x3.2 < (v1.length : Int)))) trivial trivial (bin_lss _ _ _ _)) m20 rfl <| r_e) ?_
      refine aw_cov (cov_prune (s1 := ⟨[(2, _), (7, _), (15, _), (16, _), (17, _), (18, _)], [(0, some _), (2, some _)], 3, []⟩) a6 a2 (Nat.le_refl _)) ?_
      refine aw_seq ?_
      refine aw_cond rfl (fun hc => ?_) (fun hc => ?_)
      · replace H := ite_t hc H
        refine aw_skip ?_
        refine nx_seq ?_
        refine aw_seq ?_
        refine aw_block ?_
        obtain ⟨h5, H⟩ := ib_of H
        refine aw_region (r_p (does_indexAddro 117 1 v1.length 15 2 (fun j => (.int .i64 (v1.getD j 0))) (.tmp 17) .i64 x3.2 el117 trivial h5.1 h5.2) m21 rfl <| r_ld (.int .i64 (v1.getD x3.2.toNat 0)) rfl rfl ⟨(ixl h5), trivial⟩ rfl rfl ty3 rfl <| r_as rfl rfl <| r_e) ?_
        refine aw_cov (cov_prune (s1 := ⟨[(2, _), (7, _), (15, _), (16, _), (17, _), (9, _)], [(0, some _), (2, some _)], 3, []⟩) a6 a2 (Nat.le_refl _)) ?_
        obtain ⟨h6, H⟩ := ib_of H
        refine aw_region1 (r_mv rfl rfl <| r_mv rfl rfl <| r_p (does_indexAddr 29 8 1 2 0 0 [] (.var (e_a8_u32 p0)) (.tmp 22) .i64 (v1.getD x3.2.toNat 0) el29 trivial h6.1 h6.2) m21 rfl <| r_ld (.int .u32 (p0 ((v1.getD x3.2.toNat 0).toNat))) rfl rfl ⟨rfl, (ixl h6), trivial⟩ rfl rfl ty22 rfl <| r_p (does_min _ _ (.tmp 21) (.tmp 24) rfl .u32 x3.1 (p0 ((v1.getD x3.2.toNat 0).toNat)) trivial trivial) m20 rfl <| r_as rfl rfl <| r_e) ?_
        refine nx_blk ?_
        refine nx_seq ?_
        obtain ⟨v7, hv7, H⟩ := lt_of H
        refine aw_cov (cov_prune (s1 := ⟨[(2, _), (15, _), (16, _), (17, _), (7, (.int .u32 v7))], [(0, some _), (2, some _)], 3, []⟩) ⟨rfl, rfl, rfl, rfl, (by subst hv7; rfl), trivial⟩ a2 (Nat.le_refl _)) ?_
        refine aw_region1 (r_p (does_bin .add 3 3 (.tmp 17) (.const (.int .i64 1)) .i64 x3.2 1 (.int .i64 (IntKind.i64.wrap (x3.2 + 1))) trivial (fun _ => rfl) (bin_add _ _ _ _)) m10 rfl <| r_mv rfl rfl <| r_e) ?_
        exact nx_loop (v7, (IntKind.i64.wrap (x3.2 + 1))) H (cov_prune a5 a2 (nl rfl))
      · replace H := ite_f hc H
        refine aw_exit ?_
        refine ex_then ?_
        refine ex_then ?_
        refine ex_here ?_
        exact nx_ljoin (x3.1) H hsn4 (cov_prune a1 trivial (nl rfl))
theorem round_member_spec (p0 : (Nat → Int)) (p1 : Int) (r : Bool) (H : round_member p0 p1 = some r) : FSpec Try.prog 98 [(e_a8_u32 p0), (.int .i64 p1)] (.bool r) := by
  refine spec_of (fn := Try.f98) (args := [(e_a8_u32 p0), (.int .i64 p1)]) Try.func98 rfl (nl rfl) ?_
  rintro ⟨G, w0, W, S, Sp, gx⟩ hG
  cases hG
  unfold round_member at H
  refine aw_region (r_p (does_box 28 (.tmp 0) 0 (e_a8_u32 p0) trivial rfl) m10 rfl <| r_0 (does_assign (.const (.bool false)) (.bool false) (fun _ => rfl)) rfl rfl <| r_e) ?_
  refine aw_cov (cov_prune (s1 := ⟨[(1, _), (2, _)], [(0, some _)], 1, []⟩) a2 a1 (Nat.le_refl _)) ?_
  obtain ⟨h1, H⟩ := ibg_of H
  refine aw_region (r_mv rfl rfl <| r_p (does_bin .geq 3 3 (.tmp 5) (.const (.int .i64 0)) .i64 p1 0 (.bool (decide (p1 ≥ 0))) trivial (fun _ => rfl) (bin_geq _ _ _ _)) m10 rfl <| r_mv rfl rfl <| r_gmv rfl rfl rfl rfl rfl rfl <| r_g [(8, _)] [(8, _)] [] rfl rfl m20 rfl (fun hc => ⟨(.opt _ _ hc), trivial⟩) (fun hc => does_bin .lss 3 3 (.tmp 8) (.const (.int .i64 8)) .i64 p1 8 (.bool (decide (p1 < 8))) trivial (fun _ => rfl) (bin_lss _ _ _ _)) rfl <| r_p (does_and 7 9 (decide (p1 ≥ 0)) (decide (p1 < 8))) m20 rfl <| r_mv rfl rfl <| r_gmv rfl rfl rfl rfl rfl rfl <| r_g [(2, _), (12, _)] [(2, _), (12, _)] [(0, _)] rfl rfl m31 rfl (fun hc => ⟨(.same _), (.opt _ _ hc), trivial⟩) (fun hc => does_indexAddr 28 8 1 2 0 0 [] (.var (e_a8_u32 p0)) (.tmp 12) .i64 p1 el28 trivial (h1 hc).1 (h1 hc).2) rfl <| r_gld (.int .u32 (p0 p1.toNat)) rfl rfl rfl rfl rfl (fun hc => .opt _ _ hc) rfl (fun hc => ⟨rfl, (ixl (h1 hc)), trivial⟩) rfl rfl ty22 rfl <| r_g [(14, _)] [(14, _)] [] rfl rfl m20 rfl (fun hc => ⟨(.opt _ _ hc), trivial⟩) (fun hc => does_bin .neq 22 22 (.tmp 14) (.const (.int .u32 0)) .u32 (p0 p1.toNat) 0 (.bool ((p0 p1.toNat) != 0)) trivial (fun _ => rfl) (bin_neq _ _ _ _)) rfl <| r_p (does_and 11 15 ((decide (p1 ≥ 0)) && (decide (p1 < 8))) ((p0 p1.toNat) != 0)) m20 rfl <| r_as rfl rfl <| r_e) ?_
  refine aw_cov (cov_prune (s1 := ⟨[(4, _)], [], 1, []⟩) a1 trivial (Nat.le_refl _)) ?_
  refine aw_ret ?_
  exact fun a w hr => ⟨_, [(.bool (((decide (p1 ≥ 0)) && (decide (p1 < 8))) && ((p0 p1.toNat) != 0)))], hr, ⟨⟨_, rfl, .data (.bool (((decide (p1 ≥ 0)) && (decide (p1 < 8))) && ((p0 p1.toNat) != 0))) trivial⟩, trivial⟩, by decide, by cases H; rfl⟩
theorem round_May_spec (p0 : (Nat → Int)) (p1 : (Nat → Int)) (p2 : Int) (r : Bool) (H : round_May p0 p1 p2 = some r) : FSpec Try.prog 76 [(e_a8_u32 p0), (e_a8_u32 p1), (.int .i64 p2)] (.bool r) := by
  refine spec_of (fn := Try.f76) (args := [(e_a8_u32 p0), (e_a8_u32 p1), (.int .i64 p2)]) Try.func76 rfl (nl rfl) ?_
  rintro ⟨G, w0, W, S, Sp, gx⟩ hG
  cases hG
  unfold round_May at H
  refine aw_region (r_p (does_box 29 (.tmp 0) 0 (e_a8_u32 p0) trivial rfl) m10 rfl <| r_p (does_box 28 (.tmp 1) 1 (e_a8_u32 p1) trivial rfl) m10 rfl <| r_0 (does_assign (.const (.bool false)) (.bool false) (fun _ => rfl)) rfl rfl <| r_e) ?_
  refine aw_cov (cov_prune (s1 := ⟨[(2, _), (3, _), (4, _)], [(0, some _), (1, some _)], 2, []⟩) a3 a2 (Nat.le_refl _)) ?_
  obtain ⟨v1, h2, H⟩ := bnd H
  refine aw_region (r_lv rfl rfl ty29 rfl <| r_lv rfl rfl ty28 rfl <| r_ca [_, _] [_, _] (nob := []) (flat := true) (round_Least_spec p0 p1 _ h2) rfl rfl m20 fo97 ⟨trivial, trivial, trivial⟩ ⟨.data _ (d_a8_u32 _), .data _ (d_a8_u32 _), trivial⟩ (res_flat2 trivial trivial) rfl <| r_mv rfl rfl <| r_ex (.int .u32 v1.1) rfl (nl rfl) rfl rfl <| r_ex (.bool v1.2) rfl (nl rfl) rfl rfl <| r_as rfl rfl <| r_as rfl rfl <| r_e) ?_
  refine aw_cov (cov_prune (s1 := ⟨[(2, _), (3, _), (4, _), (7, _)], [(0, some _), (1, some _)], 2, []⟩) a4 a2 (Nat.le_refl _)) ?_
  obtain ⟨v3, h4, H⟩ := bnd H
  obtain ⟨h5, H⟩ := ibg_of H
  refine aw_region (r_lv rfl rfl ty28 rfl <| r_mv rfl rfl <| r_ca [_, _] [_, _] (nob := []) (flat := true) (round_member_spec p1 p2 _ h4) rfl rfl m20 fo98 ⟨trivial, trivial, trivial⟩ ⟨.data _ (d_a8_u32 _), .data _ trivial, trivial⟩ trivial rfl <| r_mv rfl rfl <| r_gmv rfl rfl rfl rfl rfl rfl <| r_g [(3, _), (19, _)] [(3, _), (19, _)] [(0, _)] rfl rfl m31 rfl (fun hc => ⟨(.same _), (.opt _ _ hc), trivial⟩) (fun hc => does_indexAddr 29 8 1 3 0 0 [] (.var (e_a8_u32 p0)) (.tmp 19) .i64 p2 el29 trivial (h5 hc).1 (h5 hc).2) rfl <| r_gld (.int .u32 (p0 p2.toNat)) rfl rfl rfl rfl rfl (fun hc => .opt _ _ hc) rfl (fun hc => ⟨rfl, (ixl (h5 hc)), trivial⟩) rfl rfl ty22 rfl <| r_gmv rfl rfl rfl rfl rfl rfl <| r_g [(21, _), (22, _)] [(21, _), (22, _)] [] rfl rfl m30 rfl (fun hc => ⟨(.opt _ _ hc), (.opt _ _ hc), trivial⟩) (fun hc => does_bin .eql 22 22 (.tmp 21) (.tmp 22) .u32 (p0 p2.toNat) v1.1 (.bool ((p0 p2.toNat) == v1.1)) trivial trivial (bin_eql _ _ _ _)) rfl <| r_p (does_and 18 23 v3 ((p0 p2.toNat) == v1.1)) m20 rfl <| r_as rfl rfl <| r_e) ?_
  refine aw_cov (cov_prune (s1 := ⟨[(6, _)], [], 2, []⟩) a1 trivial (Nat.le_refl _)) ?_
  refine aw_ret ?_
  exact fun a w hr => ⟨_, [(.bool (v3 && ((p0 p2.toNat) == v1.1)))], hr, ⟨⟨_, rfl, .data (.bool (v3 && ((p0 p2.toNat) == v1.1))) trivial⟩, trivial⟩, by decide, by cases H; rfl⟩
theorem slices_Index_int_int_spec (p0 : (_root_.List Int)) (p1 : Int) (r : Int) (H : slices_Index_int_int p0 p1 = some r) : FSpec Try.prog 104 [(e_s_i64 p0), (.int .i64 p1)] (.int .i64 r) := by
  refine spec_of (fn := Try.f104) (args := [(e_s_i64 p0), (.int .i64 p1)]) Try.func104 rfl (nl rfl) ?_
  rintro ⟨G, w0, W, S, Sp, gx⟩ hG
  cases hG
  unfold slices_Index_int_int at H
  refine aw_region (r_0 (does_assign (.const (.int .i64 0)) (.int .i64 0) (fun _ => rfl)) rfl rfl <| r_e) ?_
  refine aw_cov (cov_prune (s1 := ⟨[(0, _), (1, _)], [], 0, []⟩) a2 trivial (Nat.le_refl _)) ?_
  refine aw_seq ?_
  refine aw_region (r_mv rfl rfl <| r_p (does_lens 117 1 p0.length 6 (fun j => (.int .i64 (p0.getD j 0))) el117) m10 rfl <| r_0 (does_move (.const (.int .i64 0)) (.int .i64 0) (fun _ => rfl)) rfl rfl <| r_e) ?_
  refine aw_cov (cov_prune (s1 := ⟨[(0, _), (1, _), (7, _), (8, _)], [], 0, []⟩) a4 trivial (Nat.le_refl _)) ?_
  obtain ⟨wn2, hwn2, Hrn2⟩ := bnd H
  refine aw_meet (fun y4 : Unit => (⟨[], [], 0, []⟩ : St)) (fun y4 => Fl.nx y4 = wn2) (fun y4 hy => ?_) (aw_block (aw_runs (fun x1 : Int => (⟨[(0, (e_s_i64 p0)), (1, (.int .i64 p1)), (7, (.int .i64 (p0.length : Int))), (8, (.int .i64 x1))], [], 0, []⟩ : St)) hwn2 (cov_prune a4 trivial (nl rfl)) (fun x1 st H hsn2 => ?_)))
  · have H := nx_of hy Hrn2
    refine nx_seq ?_
    refine aw_region (r_0 (does_assign (.const (.int .i64 (-1))) (.int .i64 (-1)) (fun _ => rfl)) rfl rfl <| r_e) ?_
    refine aw_cov (cov_prune (s1 := ⟨[(4, _)], [], 0, []⟩) a1 trivial (Nat.le_refl _)) ?_
    refine aw_ret ?_
    exact fun a w hr => ⟨_, [(.int .i64 (-1))], hr, ⟨⟨_, rfl, .data (.int .i64 (-1)) trivial⟩, trivial⟩, by decide, by cases H; rfl⟩
  · refine aw_region (r_p (does_bin .lss 3 3 (.tmp 8) (.tmp 7) .i64 x1 (p0.length : Int) (.bool (decide (x1 < (p0.length : Int)))) trivial trivial (bin_lss _ _ _ _)) m20 rfl <| r_e) ?_
    refine aw_cov (cov_prune (s1 := ⟨[(0, _), (1, _), (7, _), (8, _), (9, _)], [], 0, []⟩) a5 trivial (Nat.le_refl _)) ?_
    refine aw_seq ?_
    refine aw_cond rfl (fun hc => ?_) (fun hc => ?_)
    · replace H := ite_t hc H
      refine aw_skip ?_
      refine nx_seq ?_
      refine aw_seq ?_
      refine aw_block ?_
      refine aw_region (r_mv rfl rfl <| r_as rfl rfl <| r_e) ?_
      refine aw_cov (cov_prune (s1 := ⟨[(0, _), (1, _), (7, _), (8, _), (5, _)], [], 0, []⟩) a5 trivial (Nat.le_refl _)) ?_
      obtain ⟨h3, H⟩ := ib_of H
      refine aw_region (r_mv rfl rfl <| r_mv rfl rfl <| r_mv rfl rfl <| r_p (does_indexAddrs 117 1 p0.length 12 (fun j => (.int .i64 (p0.getD j 0))) (.tmp 13) .i64 x1 el117 trivial h3.1 h3.2) m20 rfl <| r_p (does_loadc 3 14 (.int .i64 (p0.getD x1.toNat 0)) ty3) m10 rfl <| r_p (does_bin .eql 3 3 (.tmp 11) (.tmp 15) .i64 p1 (p0.getD x1.toNat 0) (.bool (p1 == (p0.getD x1.toNat 0))) trivial trivial (bin_eql _ _ _ _)) m20 rfl <| r_e) ?_
      refine aw_cov (cov_prune (s1 := ⟨[(0, _), (1, _), (7, _), (8, _), (5, _), (16, _)], [], 0, []⟩) a6 trivial (Nat.le_refl _)) ?_
      refine aw_cond rfl (fun hc => ?_) (fun hc => ?_)
      · replace H := ite_t hc H
        refine aw_region (r_mv rfl rfl <| r_as rfl rfl <| r_e) ?_
        refine aw_cov (cov_prune (s1 := ⟨[(4, _)], [], 0, []⟩) a1 trivial (Nat.le_refl _)) ?_
        refine aw_ret ?_
        replace H := rt_of H hsn2 Hrn2
        refine rt_blk ?_
        refine rt_then ?_
        refine rt_then ?_
        refine rt_blk ?_
        refine rt_then ?_
        refine rt_then ?_
        exact fun a w hr => ⟨_, [(.int .i64 x1)], hr, ⟨⟨_, rfl, .data (.int .i64 x1) trivial⟩, trivial⟩, by decide, by cases H; rfl⟩
      · replace H := ite_f hc H
        refine aw_skip ?_
        refine nx_blk ?_
        refine nx_seq ?_
        refine aw_region1 (r_p (does_bin .add 3 3 (.tmp 8) (.const (.int .i64 1)) .i64 x1 1 (.int .i64 (IntKind.i64.wrap (x1 + 1))) trivial (fun _ => rfl) (bin_add _ _ _ _)) m10 rfl <| r_mv rfl rfl <| r_e) ?_
        exact nx_loop ((IntKind.i64.wrap (x1 + 1))) H (cov_prune a4 trivial (nl rfl))
    · replace H := ite_f hc H
      refine aw_exit ?_
      refine ex_then ?_
      refine ex_then ?_
      refine ex_here ?_
      exact nx_ljoin () H hsn2 (cov_prune trivial trivial (nl rfl))
theorem slices_Contains_int_int_spec (p0 : (_root_.List Int)) (p1 : Int) (r : Bool) (H : slices_Contains_int_int p0 p1 = some r) : FSpec Try.prog 99 [(e_s_i64 p0), (.int .i64 p1)] (.bool r) := by
  refine spec_of (fn := Try.f99) (args := [(e_s_i64 p0), (.int .i64 p1)]) Try.func99 rfl (nl rfl) ?_
  rintro ⟨G, w0, W, S, Sp, gx⟩ hG
  cases hG
  unfold slices_Contains_int_int at H
  refine aw_region (r_0 (does_assign (.const (.bool false)) (.bool false) (fun _ => rfl)) rfl rfl <| r_e) ?_
  refine aw_cov (cov_prune (s1 := ⟨[(0, _), (1, _)], [], 0, []⟩) a2 trivial (Nat.le_refl _)) ?_
  obtain ⟨v1, h2, H⟩ := bnd H
  refine aw_region (r_mv rfl rfl <| r_mv rfl rfl <| r_ca [_, _] [_, _] (nob := []) (flat := true) (slices_Index_int_int_spec p0 p1 _ h2) rfl rfl m20 fo104 ⟨trivial, trivial, trivial⟩ ⟨.data _ (d_s_i64 _), .data _ trivial, trivial⟩ trivial rfl <| r_p (does_bin .geq 3 3 (.tmp 7) (.const (.int .i64 0)) .i64 v1 0 (.bool (decide (v1 ≥ 0))) trivial (fun _ => rfl) (bin_geq _ _ _ _)) m10 rfl <| r_as rfl rfl <| r_e) ?_
  refine aw_cov (cov_prune (s1 := ⟨[(4, _)], [], 0, []⟩) a1 trivial (Nat.le_refl _)) ?_
  refine aw_ret ?_
  exact fun a w hr => ⟨_, [(.bool (decide (v1 ≥ 0)))], hr, ⟨⟨_, rfl, .data (.bool (decide (v1 ≥ 0))) trivial⟩, trivial⟩, by decide, by cases H; rfl⟩
theorem slices_IndexFunc_api_Kept_api_Kept_spec (p0 : (_root_.List api_Kept)) (p1 : (api_Kept → Option (Bool))) (k1 n1 : Nat) (c1 : Nat → V) (o1 : FnOk Try.prog k1) (h1 : ∀ j, (c1 j).Cap) (g1 : ∀ (x0 : api_Kept) (r : Bool), p1 x0 = some r → FSpec Try.prog k1 ([(e_api_Kept x0)] ++ (List.range n1).map c1) (.bool r)) (r : Int) (H : slices_IndexFunc_api_Kept_api_Kept p0 p1 = some r) : FSpec Try.prog 83 [(e_s_api_Kept p0), (.fn k1 n1 c1)] (.int .i64 r) := by
  refine spec_of (fn := Try.f83) (args := [(e_s_api_Kept p0), (.fn k1 n1 c1)]) Try.func83 rfl (nl rfl) ?_
  rintro ⟨G, w0, W, S, Sp, gx⟩ hG
  cases hG
  unfold slices_IndexFunc_api_Kept_api_Kept at H
  refine aw_region (r_0 (does_assign (.const (.int .i64 0)) (.int .i64 0) (fun _ => rfl)) rfl rfl <| r_e) ?_
  refine aw_cov (cov_prune (s1 := ⟨[(0, _), (1, _)], [], 0, []⟩) a2 trivial (Nat.le_refl _)) ?_
  refine aw_seq ?_
  refine aw_region (r_mv rfl rfl <| r_p (does_lens 30 38 p0.length 6 (fun j => (e_api_Kept (p0.getD j z_api_Kept))) el30) m10 rfl <| r_0 (does_move (.const (.int .i64 0)) (.int .i64 0) (fun _ => rfl)) rfl rfl <| r_e) ?_
  refine aw_cov (cov_prune (s1 := ⟨[(0, _), (1, _), (7, _), (8, _)], [], 0, []⟩) a4 trivial (Nat.le_refl _)) ?_
  obtain ⟨wn2, hwn2, Hrn2⟩ := bnd H
  refine aw_meet (fun y6 : Unit => (⟨[], [], 0, []⟩ : St)) (fun y6 => Fl.nx y6 = wn2) (fun y6 hy => ?_) (aw_block (aw_runs (fun x1 : Int => (⟨[(0, (e_s_api_Kept p0)), (1, (.fn k1 n1 c1)), (7, (.int .i64 (p0.length : Int))), (8, (.int .i64 x1))], [], 0, []⟩ : St)) hwn2 (cov_prune a4 trivial (nl rfl)) (fun x1 st H hsn2 => ?_)))
  · have H := nx_of hy Hrn2
    refine nx_seq ?_
    refine aw_region (r_0 (does_assign (.const (.int .i64 (-1))) (.int .i64 (-1)) (fun _ => rfl)) rfl rfl <| r_e) ?_
    refine aw_cov (cov_prune (s1 := ⟨[(4, _)], [], 0, []⟩) a1 trivial (Nat.le_refl _)) ?_
    refine aw_ret ?_
    exact fun a w hr => ⟨_, [(.int .i64 (-1))], hr, ⟨⟨_, rfl, .data (.int .i64 (-1)) trivial⟩, trivial⟩, by decide, by cases H; rfl⟩
  · refine aw_region (r_p (does_bin .lss 3 3 (.tmp 8) (.tmp 7) .i64 x1 (p0.length : Int) (.bool (decide (x1 < (p0.length : Int)))) trivial trivial (bin_lss _ _ _ _)) m20 rfl <| r_e) ?_
    refine aw_cov (cov_prune (s1 := ⟨[(0, _), (1, _), (7, _), (8, _), (9, _)], [], 0, []⟩) a5 trivial (Nat.le_refl _)) ?_
    refine aw_seq ?_
    refine aw_cond rfl (fun hc => ?_) (fun hc => ?_)
    · replace H := ite_t hc H
      refine aw_skip ?_
      refine nx_seq ?_
      refine aw_seq ?_
      refine aw_block ?_
      refine aw_region (r_mv rfl rfl <| r_as rfl rfl <| r_e) ?_
      refine aw_cov (cov_prune (s1 := ⟨[(0, _), (1, _), (7, _), (8, _), (5, _)], [], 0, []⟩) a5 trivial (Nat.le_refl _)) ?_
      obtain ⟨h3, H⟩ := ib_of H
      obtain ⟨v4, h5, H⟩ := bnd H
      refine aw_region (r_mv rfl rfl <| r_mv rfl rfl <| r_mv rfl rfl <| r_p (does_indexAddrs 30 38 p0.length 12 (fun j => (e_api_Kept (p0.getD j z_api_Kept))) (.tmp 13) .i64 x1 el30 trivial h3.1 h3.2) m20 rfl <| r_p (does_loadc 64 14 (e_api_Kept (p0.getD x1.toNat z_api_Kept)) ty64) m10 rfl <| r_p (does_callf k1 n1 c1 11 [(.tmp 15)] [(e_api_Kept (p0.getD x1.toNat z_api_Kept))] [(e_api_Kept (p0.getD x1.toNat z_api_Kept))] [] true (.bool v4) _ _ rfl o1 ⟨trivial, trivial⟩ ⟨.data _ (d_api_Kept (p0.getD x1.toNat z_api_Kept)), trivial⟩ h1 (g1 (p0.getD x1.toNat z_api_Kept) _ h5) trivial) m20 rfl <| r_e) ?_
      refine aw_cov (cov_prune (s1 := ⟨[(0, _), (1, _), (7, _), (8, _), (5, _), (16, _)], [], 0, []⟩) a6 trivial (Nat.le_refl _)) ?_
      refine aw_cond rfl (fun hc => ?_) (fun hc => ?_)
      · replace H := ite_t hc H
        refine aw_region (r_mv rfl rfl <| r_as rfl rfl <| r_e) ?_
        refine aw_cov (cov_prune (s1 := ⟨[(4, _)], [], 0, []⟩) a1 trivial (Nat.le_refl _)) ?_
        refine aw_ret ?_
        replace H := rt_of H hsn2 Hrn2
        refine rt_blk ?_
        refine rt_then ?_
        refine rt_then ?_
        refine rt_blk ?_
        refine rt_then ?_
        refine rt_then ?_
        exact fun a w hr => ⟨_, [(.int .i64 x1)], hr, ⟨⟨_, rfl, .data (.int .i64 x1) trivial⟩, trivial⟩, by decide, by cases H; rfl⟩
      · replace H := ite_f hc H
        refine aw_skip ?_
        refine nx_blk ?_
        refine nx_seq ?_
        refine aw_region1 (r_p (does_bin .add 3 3 (.tmp 8) (.const (.int .i64 1)) .i64 x1 1 (.int .i64 (IntKind.i64.wrap (x1 + 1))) trivial (fun _ => rfl) (bin_add _ _ _ _)) m10 rfl <| r_mv rfl rfl <| r_e) ?_
        exact nx_loop ((IntKind.i64.wrap (x1 + 1))) H (cov_prune a4 trivial (nl rfl))
    · replace H := ite_f hc H
      refine aw_exit ?_
      refine ex_then ?_
      refine ex_then ?_
      refine ex_here ?_
      exact nx_ljoin () H hsn2 (cov_prune trivial trivial (nl rfl))
theorem slices_DeleteFunc_api_Kept_api_Kept_spec (p0 : (_root_.List api_Kept)) (p1 : (api_Kept → Option (Bool))) (k1 n1 : Nat) (c1 : Nat → V) (o1 : FnOk Try.prog k1) (h1 : ∀ j, (c1 j).Cap) (g1 : ∀ (x0 : api_Kept) (r : Bool), p1 x0 = some r → FSpec Try.prog k1 ([(e_api_Kept x0)] ++ (List.range n1).map c1) (.bool r)) (r : (_root_.List api_Kept)) (H : slices_DeleteFunc_api_Kept_api_Kept p0 p1 = some r) : FSpecO Try.prog 100 [(.own 0), (.fn k1 n1 c1)] [(0, some (.arr 38 p0.length fun j => (e_api_Kept (p0.getD j z_api_Kept))))] 1 (.own 0) [(0, some (.arr 38 r.length fun j => (e_api_Kept (r.getD j z_api_Kept))))] 1 := by
  refine specO_of (fn := Try.f100) (args := [(.own 0), (.fn k1 n1 c1)]) Try.func100 rfl (nl rfl) ?_
  rintro ⟨G, w0, W, S, Sp, gx⟩ hG
  cases hG
  unfold slices_DeleteFunc_api_Kept_api_Kept at H
  refine aw_region (r_0 (does_nil false 1 38 (fun j => (e_api_Kept (([] : _root_.List api_Kept).getD j z_api_Kept)))) rfl rfl <| r_e) ?_
  refine aw_cov (cov_prune (s1 := ⟨[(0, _), (1, _)], [(0, some _)], 2, []⟩) a2 a1 (Nat.le_refl _)) ?_
  obtain ⟨v1, h2, H⟩ := bnd H
  refine aw_region (r_mv rfl rfl <| r_mv rfl rfl <| r_ca [_, _] [_, _] (nob := [(0, (.arr 38 p0.length fun j => (e_api_Kept (p0.getD j z_api_Kept))))]) (flat := true) (slices_IndexFunc_api_Kept_api_Kept_spec p0 p1 k1 n1 c1 o1 h1 g1 _ h2) rfl rfl m21 fo83 ⟨trivial, trivial, trivial⟩ ⟨.own 0 _ _ _ (.head _) rfl (fun _ => (d_api_Kept _)), .fn _ _ _ _ (fun j _ => (h1 j).pass), trivial⟩ trivial rfl <| r_as rfl rfl <| r_e) ?_
  refine aw_cov (cov_prune (s1 := ⟨[(0, _), (1, _), (5, _)], [(0, some _)], 2, []⟩) a3 a1 (Nat.le_refl _)) ?_
  refine aw_seq ?_
  refine aw_region (r_mv rfl rfl <| r_p (does_bin .eql 3 3 (.tmp 11) (.const (.int .i64 (-1))) .i64 v1 (-1) (.bool (v1 == (-1))) trivial (fun _ => rfl) (bin_eql _ _ _ _)) m10 rfl <| r_e) ?_
  refine aw_cov (cov_prune (s1 := ⟨[(0, _), (1, _), (5, _), (12, _)], [(0, some _)], 2, []⟩) a4 a1 (Nat.le_refl _)) ?_
  refine aw_cond rfl (fun hc => ?_) (fun hc => ?_)
  · replace H := ite_t hc H
    refine aw_region (r_mv rfl rfl <| r_as rfl rfl <| r_e) ?_
    refine aw_cov (cov_prune (s1 := ⟨[(4, _)], [(0, some _)], 2, []⟩) a1 a1 (Nat.le_refl _)) ?_
    refine aw_ret ?_
    refine rt_then ?_
    exact fun a w hr => ⟨_, [(.own 0)], reach_of hr (cov_to (s1 := ⟨[(4, (.own 0))], [(0, some (.arr 38 p0.length fun j => (e_api_Kept (p0.getD j z_api_Kept))))], 1, []⟩) (fun i => match i with | 0 => 0 | k => k) [] ⟨⟨_, rfl, .own 0 _ _ (nl rfl) rfl rfl (Box.like_refl _)⟩, trivial⟩ ⟨⟨nl rfl, _, _, rfl, rfl, boxTo_arr (fun _ => (d_api_Kept _))⟩, trivial⟩ rfl rfl), a1, by decide, by cases H; rfl, by cases H; exact a1, nl rfl⟩
  · replace H := ite_f hc H
    refine aw_skip ?_
    refine nx_seq ?_
    refine aw_seq ?_
    refine aw_region (r_mv rfl rfl <| r_p (does_bin .add 3 3 (.tmp 14) (.const (.int .i64 1)) .i64 v1 1 (.int .i64 (IntKind.i64.wrap (v1 + 1))) trivial (fun _ => rfl) (bin_add _ _ _ _)) m10 rfl <| r_as rfl rfl <| r_e) ?_
    refine aw_cov (cov_prune (s1 := ⟨[(0, _), (1, _), (5, _), (6, _)], [(0, some _)], 2, []⟩) a4 a1 (Nat.le_refl _)) ?_
    obtain ⟨wn4, hwn4, Hrn4⟩ := bnd H
    refine aw_meet (fun y11 : Int × _root_.List api_Kept => (⟨[(0, (.own 0)), (5, (.int .i64 y11.1))], [(0, some (.arr 38 y11.2.length fun j => (e_api_Kept (y11.2.getD j z_api_Kept))))], 2, []⟩ : St)) (fun y11 => Fl.nx y11 = wn4) (fun y11 hy => ?_) (aw_block (aw_runs (fun x3 : Int × Int × _root_.List api_Kept => (⟨[(0, (.own 0)), (1, (.fn k1 n1 c1)), (5, (.int .i64 x3.1)), (6, (.int .i64 x3.2.1))], [(0, some (.arr 38 x3.2.2.length fun j => (e_api_Kept (x3.2.2.getD j z_api_Kept))))], 2, []⟩ : St)) hwn4 (cov_prune a4 a1 (nl rfl)) (fun x3 st H hsn4 => ?_)))
    · have H := nx_of hy Hrn4
      refine nx_seq ?_
      obtain ⟨h12, H⟩ := sb_of H
      obtain ⟨h13, H⟩ := inb_of H
      refine aw_region (r_mv rfl rfl <| r_mv rfl rfl <| r_p (does_sliceo 30 38 y11.2.length 36 0 y11.1.toNat y11.2.length (fun j => (e_api_Kept (y11.2.getD j z_api_Kept))) (some ((.tmp 37), .i64, y11.1)) none _ _ el30 rfl rfl trivial trivial (Int.toNat_of_nonneg h12.1).symm rfl (by omega) (by omega)) m21 rfl <| r_p (does_clearL e_api_Kept z_api_Kept y11.2 30 38 38 0 y11.1.toNat (y11.2.length - y11.1.toNat) so30 h13) m11 rfl <| r_e) ?_
      refine aw_cov (cov_prune (s1 := ⟨[(0, _), (5, _)], [(0, some _)], 2, []⟩) a2 a1 (Nat.le_refl _)) ?_
      obtain ⟨h14, H⟩ := sb_of H
      refine aw_region (r_mv rfl rfl <| r_mv rfl rfl <| r_p (does_sliceo 30 38 (clr y11.2 z_api_Kept y11.1.toNat (y11.2.length - y11.1.toNat)).length 39 0 0 y11.1.toNat (fun j => (e_api_Kept ((clr y11.2 z_api_Kept y11.1.toNat (y11.2.length - y11.1.toNat)).getD j z_api_Kept))) none (some ((.tmp 40), .i64, y11.1)) _ _ el30 rfl rfl trivial trivial rfl (Int.toNat_of_nonneg (Int.le_trans h14.1 h14.2.1)).symm (by omega) (by omega)) m21 rfl <| r_as rfl rfl <| r_e) ?_
      refine aw_cov (cov_prune (s1 := ⟨[(4, _)], [(0, some _)], 2, []⟩) a1 a1 (Nat.le_refl _)) ?_
      refine aw_ret ?_
      obtain ⟨h15, H⟩ := inb_of H
      exact fun a w hr => ⟨_, [(.own 0)], reach_of hr (cov_to (s1 := ⟨[(4, (.own 0))], [(0, some (.arr 38 ((clr y11.2 z_api_Kept y11.1.toNat (y11.2.length - y11.1.toNat)).take (y11.1.toNat - 0)).length fun j => (e_api_Kept (((clr y11.2 z_api_Kept y11.1.toNat (y11.2.length - y11.1.toNat)).take (y11.1.toNat - 0)).getD j z_api_Kept))))], 1, []⟩) (fun i => match i with | 0 => 0 | k => k) [] ⟨⟨_, rfl, .shr 0 _ _ _ _ _ _ (nl rfl) rfl rfl (len_take h15)⟩, trivial⟩ ⟨⟨nl rfl, _, _, rfl, rfl, boxTo_take e_api_Kept _ (fun _ => (d_api_Kept _))⟩, trivial⟩ rfl rfl), a1, by decide, by cases H; rfl, by cases H; exact a1, nl rfl⟩
    · refine aw_seq ?_
      refine aw_region (r_mv rfl rfl <| r_mv rfl rfl <| r_p (does_leno 30 38 x3.2.2.length 17 0 (fun j => (e_api_Kept (x3.2.2.getD j z_api_Kept))) el30) m11 rfl <| r_p (does_bin .lss 3 3 (.tmp 16) (.tmp 18) .i64 x3.2.1 (x3.2.2.length : Int) (.bool (decide (x3.2.1 < (x3.2.2.length : Int)))) trivial trivial (bin_lss _ _ _ _)) m20 rfl <| r_e) ?_
      refine aw_cov (cov_prune (s1 := ⟨[(0, _), (1, _), (5, _), (6, _), (19, _)], [(0, some _)], 2, []⟩) a5 a1 (Nat.le_refl _)) ?_
      refine aw_cond rfl (fun hc => ?_) (fun hc => ?_)
      · replace H := ite_t hc H
        refine aw_skip ?_
        refine nx_seq ?_
        refine aw_seq ?_
        refine aw_jn (fun x10 : Int × _root_.List api_Kept => (⟨[(0, (.own 0)), (1, (.fn k1 n1 c1)), (5, (.int .i64 x10.1)), (6, (.int .i64 x3.2.1))], [(0, some (.arr 38 x10.2.length fun j => (e_api_Kept (x10.2.getD j z_api_Kept))))], 3, []⟩ : St)) H (fun x10 H => ?_) (fun j5 H => ?_)
        · refine nx_seq ?_
          refine aw_region1 (r_mv rfl rfl <| r_p (does_bin .add 3 3 (.tmp 20) (.const (.int .i64 1)) .i64 x3.2.1 1 (.int .i64 (IntKind.i64.wrap (x3.2.1 + 1))) trivial (fun _ => rfl) (bin_add _ _ _ _)) m10 rfl <| r_as rfl rfl <| r_e) ?_
          exact nx_loop (x10.1, (IntKind.i64.wrap (x3.2.1 + 1)), x10.2) H (cov_of (fun i => match i with | 0 => 0 | k => k) ⟨⟨_, rfl, ⟨rfl, nl rfl⟩⟩, ⟨_, rfl, ⟨rfl, fun j => (h1 j).plain⟩⟩, ⟨_, rfl, a1⟩, ⟨_, rfl, a1⟩, trivial⟩ ⟨⟨nl rfl, _, _, rfl, rfl, ⟨rfl, rfl, fun _ => .inl ⟨rfl, (d_api_Kept _).plain⟩⟩⟩, trivial⟩ rfl)
        · refine aw_block ?_
          obtain ⟨h6, H⟩ := ib_of H
          refine aw_region (r_mv rfl rfl <| r_mv rfl rfl <| r_p (does_indexAddro 30 38 x3.2.2.length 22 0 (fun j => (e_api_Kept (x3.2.2.getD j z_api_Kept))) (.tmp 23) .i64 x3.2.1 el30 trivial h6.1 h6.2) m21 rfl <| r_ld (e_api_Kept (x3.2.2.getD x3.2.1.toNat z_api_Kept)) rfl rfl ⟨(ixl h6), trivial⟩ rfl rfl ty64 rfl <| r_0 (does_alloc 64 2 (e_api_Kept z_api_Kept) zr64) rfl rfl <| r_sv rfl rfl rfl rfl rfl rfl ty64 rfl <| r_e) ?_
          refine aw_cov (cov_prune (s1 := ⟨[(0, _), (1, _), (5, _), (6, _), (7, _)], [(0, some _), (2, some _)], 3, []⟩) a5 a2 (Nat.le_refl _)) ?_
          obtain ⟨v7, h8, H⟩ := bnd H
          refine aw_region (r_mv rfl rfl <| r_lv rfl rfl ty64 rfl <| r_p (does_callf k1 n1 c1 26 [(.tmp 27)] [(e_api_Kept (x3.2.2.getD x3.2.1.toNat z_api_Kept))] [(e_api_Kept (x3.2.2.getD x3.2.1.toNat z_api_Kept))] [] true (.bool v7) _ _ rfl o1 ⟨trivial, trivial⟩ ⟨.data _ (d_api_Kept (x3.2.2.getD x3.2.1.toNat z_api_Kept)), trivial⟩ h1 (g1 (x3.2.2.getD x3.2.1.toNat z_api_Kept) _ h8) trivial) m20 rfl <| r_p (does_not 4 (.tmp 28) v7 trivial) m10 rfl <| r_e) ?_
          refine aw_cov (cov_prune (s1 := ⟨[(0, _), (1, _), (5, _), (6, _), (7, _), (29, _)], [(0, some _), (2, some _)], 3, []⟩) a6 a2 (Nat.le_refl _)) ?_
          refine aw_cond rfl (fun hc => ?_) (fun hc => ?_)
          · replace H := ite_t hc H
            obtain ⟨h9, H⟩ := ib_of H
            refine aw_region (r_mv rfl rfl <| r_mv rfl rfl <| r_lv rfl rfl ty64 rfl <| r_p (does_indexAddro 30 38 x3.2.2.length 30 0 (fun j => (e_api_Kept (x3.2.2.getD j z_api_Kept))) (.tmp 31) .i64 x3.1 el30 trivial h9.1 h9.2) m21 rfl <| r_st (.arr 38 (x3.2.2.set x3.1.toNat (x3.2.2.getD x3.2.1.toNat z_api_Kept)).length fun j => (e_api_Kept ((x3.2.2.set x3.1.toNat (x3.2.2.getD x3.2.1.toNat z_api_Kept)).getD j z_api_Kept))) rfl rfl a1 trivial rfl ⟨(ixl h9), trivial⟩ rfl rfl (set_arr e_api_Kept z_api_Kept _ (ixl h9) rfl) ty64 rfl <| r_e) ?_
            refine aw_cov (cov_prune (s1 := ⟨[(0, _), (1, _), (5, _), (6, _)], [(0, some _)], 3, []⟩) a4 a1 (Nat.le_refl _)) ?_
            refine aw_region1 (r_mv rfl rfl <| r_p (does_bin .add 3 3 (.tmp 34) (.const (.int .i64 1)) .i64 x3.1 1 (.int .i64 (IntKind.i64.wrap (x3.1 + 1))) trivial (fun _ => rfl) (bin_add _ _ _ _)) m10 rfl <| r_as rfl rfl <| r_e) ?_
            refine nx_blk ?_
            exact nx_join ((IntKind.i64.wrap (x3.1 + 1)), x3.2.2.set x3.1.toNat (x3.2.2.getD x3.2.1.toNat z_api_Kept)) H (cov_prune a4 a1 (nl rfl))
          · replace H := ite_f hc H
            refine aw_skip ?_
            refine nx_blk ?_
            exact nx_join (x3.1, x3.2.2) H (cov_prune a4 a1 (nl rfl))
      · replace H := ite_f hc H
        refine aw_exit ?_
        refine ex_then ?_
        refine ex_then ?_
        refine ex_here ?_
        exact nx_ljoin (x3.1, x3.2.2) H hsn4 (cov_prune a2 a1 (nl rfl))
theorem kept_Take_1_spec (p0 : api_Kept) (q0 : api_Kept) (r : Bool) (H : kept_Take_1 p0 q0 = some r) : FSpec Try.prog 101 [(e_api_Kept p0), (.cptr (e_api_Kept q0))] (.bool r) := by
  refine spec_of (fn := Try.f101) (args := [(e_api_Kept p0), (.cptr (e_api_Kept q0))]) Try.func101 rfl (nl rfl) ?_
  rintro ⟨G, w0, W, S, Sp, gx⟩ hG
  cases hG
  unfold kept_Take_1 at H
  refine aw_region (r_p (does_box 64 (.tmp 0) 0 (e_api_Kept p0) trivial rfl) m10 rfl <| r_0 (does_assign (.const (.bool false)) (.bool false) (fun _ => rfl)) rfl rfl <| r_e) ?_
  refine aw_cov (cov_prune (s1 := ⟨[(1, _), (2, _)], [(0, some _)], 1, []⟩) a2 a1 (Nat.le_refl _)) ?_
  refine aw_region (r_fa (.ptr 0 (0 + 0) [0]) fl64_0 rfl rfl rfl rfl <| r_ld (.int .i64 p0.From) rfl rfl ⟨rfl, nl rfl, trivial⟩ rfl rfl ty3 rfl <| r_p (does_fieldAddrc 64 0 0 1 (e_api_Kept q0) fl64_0 rfl (nl rfl) rfl) m10 rfl <| r_p (does_loadc 3 6 (.int .i64 q0.From) ty3) m10 rfl <| r_p (does_bin .eql 3 3 (.tmp 5) (.tmp 7) .i64 p0.From q0.From (.bool (p0.From == q0.From)) trivial trivial (bin_eql _ _ _ _)) m20 rfl <| r_mv rfl rfl <| r_gp (Step.guarded rfl rfl rfl rfl (fun hc => does_fieldAddrc 64 1 1 1 (e_api_Kept q0) fl64_1 rfl (nl rfl) rfl)) m20 rfl <| r_g [(10, _)] [(10, _)] [] rfl rfl m20 rfl (fun hc => ⟨(.opt _ _ hc), trivial⟩) (fun hc => does_loadc 22 10 (.int .u32 q0.Round) ty22) rfl <| r_g [(11, _)] [(11, _)] [] rfl rfl m20 rfl (fun hc => ⟨(.opt _ _ hc), trivial⟩) (fun hc => does_bin .geq 22 22 (.tmp 11) (.const (.int .u32 3)) .u32 q0.Round 3 (.bool (decide (q0.Round ≥ 3))) trivial (fun _ => rfl) (bin_geq _ _ _ _)) rfl <| r_p (does_and 9 12 (p0.From == q0.From) (decide (q0.Round ≥ 3))) m20 rfl <| r_mv rfl rfl <| r_gfa (.ptr 0 (0 + 1) [1]) fl64_1 rfl rfl rfl rfl rfl (fun _ => .same _) rfl rfl rfl <| r_gld (.int .u32 p0.Round) rfl rfl rfl rfl rfl (fun hc => .opt _ _ hc) rfl (fun hc => ⟨rfl, nl rfl, trivial⟩) rfl rfl ty22 rfl <| r_gp (Step.guarded rfl rfl rfl rfl (fun hc => does_fieldAddrc 64 1 1 1 (e_api_Kept q0) fl64_1 rfl (nl rfl) rfl)) m20 rfl <| r_g [(17, _)] [(17, _)] [] rfl rfl m20 rfl (fun hc => ⟨(.opt _ _ hc), trivial⟩) (fun hc => does_loadc 22 17 (.int .u32 q0.Round) ty22) rfl <| r_g [(18, _)] [(18, _)] [] rfl rfl m20 rfl (fun hc => ⟨(.opt _ _ hc), trivial⟩) (fun hc => does_bin .sub 22 22 (.tmp 18) (.const (.int .u32 3)) .u32 q0.Round 3 (.int .u32 (IntKind.u32.wrap (q0.Round - 3))) trivial (fun _ => rfl) (bin_sub _ _ _ _)) rfl <| r_g [(16, _), (19, _)] [(16, _), (19, _)] [] rfl rfl m30 rfl (fun hc => ⟨(.opt _ _ hc), (.opt _ _ hc), trivial⟩) (fun hc => does_bin .leq 22 22 (.tmp 16) (.tmp 19) .u32 p0.Round (IntKind.u32.wrap (q0.Round - 3)) (.bool (decide (p0.Round ≤ (IntKind.u32.wrap (q0.Round - 3))))) trivial trivial (bin_leq _ _ _ _)) rfl <| r_p (does_and 14 20 ((p0.From == q0.From) && (decide (q0.Round ≥ 3))) (decide (p0.Round ≤ (IntKind.u32.wrap (q0.Round - 3))))) m20 rfl <| r_as rfl rfl <| r_e) ?_
  obtain ⟨v1, hv1, H⟩ := lt_of H
  refine aw_cov (cov_prune (s1 := ⟨[(3, (.bool v1))], [], 1, []⟩) ⟨(by subst hv1; rfl), trivial⟩ trivial (Nat.le_refl _)) ?_
  refine aw_ret ?_
  exact fun a w hr => ⟨_, [(.bool v1)], hr, ⟨⟨_, rfl, .data (.bool v1) trivial⟩, trivial⟩, by decide, by cases H; rfl⟩
theorem kept_Take_spec (p0 : (_root_.List api_Kept)) (p1 : (Nat → Int)) (p2 : (Nat → Int)) (p3 : api_Kept) (r : (_root_.List api_Kept) × (Nat → Int) × Bool) (H : kept_Take p0 p1 p2 p3 = some r) : FSpecO Try.prog 77 [(e_s_api_Kept p0), (e_a8_u32 p1), (e_a8_u32 p2), (e_api_Kept p3)] [] 0 (resV [(.own 0), (e_a8_u32 r.2.1), (.bool r.2.2)]) [(0, some (.arr 38 r.1.length fun j => (e_api_Kept (r.1.getD j z_api_Kept))))] 2 := by
  refine specO_of (fn := Try.f77) (args := [(e_s_api_Kept p0), (e_a8_u32 p1), (e_a8_u32 p2), (e_api_Kept p3)]) Try.func77 rfl (nl rfl) ?_
  rintro ⟨G, w0, W, S, Sp, gx⟩ hG
  cases hG
  unfold kept_Take at H
  refine aw_region (r_p (does_box 29 (.tmp 1) 0 (e_a8_u32 p1) trivial rfl) m10 rfl <| r_p (does_box 28 (.tmp 2) 1 (e_a8_u32 p2) trivial rfl) m10 rfl <| r_p (does_box 64 (.tmp 3) 2 (e_api_Kept p3) trivial rfl) m10 rfl <| r_0 (does_nil false 3 38 (fun j => (e_api_Kept (([] : _root_.List api_Kept).getD j z_api_Kept)))) rfl rfl <| r_0 (does_alloc 29 4 (e_a8_u32 (fun _ => 0)) zr29) rfl rfl <| r_0 (does_assign (.const (.bool false)) (.bool false) (fun _ => rfl)) rfl rfl <| r_e) ?_
  refine aw_cov (cov_prune (s1 := ⟨[(0, _), (5, _), (6, _), (7, _), (9, _)], [(0, some _), (1, some _), (2, some _), (4, some _)], 5, []⟩) a5 a4 (Nat.le_refl _)) ?_
  obtain ⟨v1, h2, H⟩ := bnd H
  refine aw_region (r_mv rfl rfl <| r_p (does_callO 64 0 (fun _ => .any) (.func 64) [(.tmp 12)] [(e_s_api_Kept p0)] [] [] true [(e_s_api_Kept p0)] _ (.own 5) _ 5 1 _ _ rfl fo64 rfl ⟨trivial, trivial⟩ ⟨.ro _ _ (.data _ (d_s_api_Kept p0)), trivial⟩ (slices_Clone_api_Kept_api_Kept_spec p0 _ h2) rfl (by simp) rfl trivial ⟨⟨nl rfl, _, rfl, fun _ => (f_api_Kept _)⟩, trivial⟩ (.own 0 (nl rfl))) m10 rfl <| r_as rfl rfl <| r_e) ?_
  refine aw_cov (cov_prune (s1 := ⟨[(5, _), (6, _), (7, _), (9, _), (11, _)], [(0, some _), (1, some _), (2, some _), (4, some _), (5, some _)], 6, []⟩) a5 a5 (Nat.le_refl _)) ?_
  refine aw_seq ?_
  obtain ⟨v3, h4, H⟩ := bnd H
  obtain ⟨v5, h6, H⟩ := bnd H
  obtain ⟨h7, H⟩ := ibg_of H
  obtain ⟨h8, H⟩ := ibg_of H
  refine aw_draw (mixed) (r_lv rfl rfl ty28 rfl <| r_p (does_callO 66 0 (fun _ => .any) (.func 66) [(.tmp 14)] [(e_a8_u32 p2)] [] [] true [(e_a8_u32 p2)] _ (.own 6) _ 6 1 _ _ rfl fo66 rfl ⟨trivial, trivial⟩ ⟨.ro _ _ (.data _ (d_a8_u32 p2)), trivial⟩ (ident_List_spec p2 _ h4) rfl (by simp) rfl trivial ⟨⟨nl rfl, _, rfl, fun _ => trivial⟩, trivial⟩ (.own 0 (nl rfl))) m10 rfl <| r_fa (.ptr 2 (0 + 0) [0]) fl64_0 rfl rfl rfl rfl <| r_ld (.int .i64 p3.From) rfl rfl ⟨rfl, nl rfl, trivial⟩ rfl rfl ty3 rfl <| r_ca [_, _] [_, _] (nob := [(6, (.arr 1 v3.length fun j => (.int .i64 (v3.getD j 0))))]) (flat := true) (slices_Contains_int_int_spec v3 _ _ h6) rfl rfl m21 fo99 ⟨trivial, trivial, trivial⟩ ⟨.own 6 _ _ _ (.head _) rfl (fun _ => trivial), .data _ trivial, trivial⟩ trivial rfl <| r_p (does_not 4 (.tmp 18) v5 trivial) m10 rfl <| r_mv rfl rfl <| r_gfa (.ptr 2 (0 + 0) [0]) fl64_0 rfl rfl rfl rfl rfl (fun _ => .same _) rfl rfl rfl <| r_gld (.int .i64 p3.From) rfl rfl rfl rfl rfl (fun hc => .opt _ _ hc) rfl (fun hc => ⟨rfl, nl rfl, trivial⟩) rfl rfl ty3 rfl <| r_g [(5, _), (22, _)] [(5, _), (22, _)] [(0, _)] rfl rfl m31 rfl (fun hc => ⟨(.same _), (.opt _ _ hc), trivial⟩) (fun hc => does_indexAddr 29 8 1 5 0 0 [] (.var (e_a8_u32 p1)) (.tmp 22) .i64 p3.From el29 trivial (h7 hc).1 (h7 hc).2) rfl <| r_gld (.int .u32 (p1 p3.From.toNat)) rfl rfl rfl rfl rfl (fun hc => .opt _ _ hc) rfl (fun hc => ⟨rfl, (ixl (h7 hc)), trivial⟩) rfl rfl ty22 rfl <| r_g [(24, _)] [(24, _)] [] rfl rfl m20 rfl (fun hc => ⟨(.opt _ _ hc), trivial⟩) (fun hc => does_bin .eql 22 22 (.tmp 24) (.const (.int .u32 4294967295)) .u32 (p1 p3.From.toNat) 4294967295 (.bool ((p1 p3.From.toNat) == 4294967295)) trivial (fun _ => rfl) (bin_eql _ _ _ _)) rfl <| r_p (does_or 20 25 (!v5) ((p1 p3.From.toNat) == 4294967295)) m20 rfl <| r_mv rfl rfl <| r_gfa (.ptr 2 (0 + 1) [1]) fl64_1 rfl rfl rfl rfl rfl (fun _ => .same _) rfl rfl rfl <| r_gld (.int .u32 p3.Round) rfl rfl rfl rfl rfl (fun hc => .opt _ _ hc) rfl (fun hc => ⟨rfl, nl rfl, trivial⟩) rfl rfl ty22 rfl <| r_gfa (.ptr 2 (0 + 0) [0]) fl64_0 rfl rfl rfl rfl rfl (fun _ => .same _) rfl rfl rfl <| r_gld (.int .i64 p3.From) rfl rfl rfl rfl rfl (fun hc => .opt _ _ hc) rfl (fun hc => ⟨rfl, nl rfl, trivial⟩) rfl rfl ty3 rfl <| r_g [(5, _), (31, _)] [(5, _), (31, _)] [(0, _)] rfl rfl m31 rfl (fun hc => ⟨(.same _), (.opt _ _ hc), trivial⟩) (fun hc => does_indexAddr 29 8 1 5 0 0 [] (.var (e_a8_u32 p1)) (.tmp 31) .i64 p3.From el29 trivial (h8 hc).1 (h8 hc).2) rfl <| r_gld (.int .u32 (p1 p3.From.toNat)) rfl rfl rfl rfl rfl (fun hc => .opt _ _ hc) rfl (fun hc => ⟨rfl, (ixl (h8 hc)), trivial⟩) rfl rfl ty22 rfl <| r_g [(33, _)] [(33, _)] [] rfl rfl m20 rfl (fun hc => ⟨(.opt _ _ hc), trivial⟩) (fun hc => does_bin .add 22 22 (.tmp 33) (.const (.int .u32 1)) .u32 (p1 p3.From.toNat) 1 (.int .u32 (IntKind.u32.wrap ((p1 p3.From.toNat) + 1))) trivial (fun _ => rfl) (bin_add _ _ _ _)) rfl <| r_g [(29, _), (34, _)] [(29, _), (34, _)] [] rfl rfl m30 rfl (fun hc => ⟨(.opt _ _ hc), (.opt _ _ hc), trivial⟩) (fun hc => does_bin .neq 22 22 (.tmp 29) (.tmp 34) .u32 p3.Round (IntKind.u32.wrap ((p1 p3.From.toNat) + 1)) (.bool (p3.Round != (IntKind.u32.wrap ((p1 p3.From.toNat) + 1)))) trivial trivial (bin_neq _ _ _ _)) rfl <| r_p (does_or 27 35 ((!v5) || ((p1 p3.From.toNat) == 4294967295)) (p3.Round != (IntKind.u32.wrap ((p1 p3.From.toNat) + 1)))) m20 rfl <| r_e) rfl ?_
  obtain ⟨v9, hv9, H⟩ := lt_of H
  refine aw_cov (cov_prune (s1 := ⟨[(5, _), (7, _), (9, _), (11, _), (36, (.bool v9))], [(0, some _), (2, some _), (4, some _), (5, some _)], 7, []⟩) ⟨rfl, rfl, rfl, rfl, (by subst hv9; rfl), trivial⟩ a4 (Nat.le_refl _)) ?_
  refine aw_cond rfl (fun hc => ?_) (fun hc => ?_)
  · replace H := ite_t hc H
    refine aw_draw (mixed) (r_mv rfl rfl <| r_lv rfl rfl ty29 rfl <| r_as rfl rfl <| r_sv rfl rfl rfl rfl rfl rfl ty29 rfl <| r_0 (does_assign (.const (.bool false)) (.bool false) (fun _ => rfl)) rfl rfl <| r_e) rfl ?_
    refine aw_cov (cov_prune (s1 := ⟨[(9, _), (8, _), (10, _)], [(4, some _), (5, some _)], 7, []⟩) a3 a2 (Nat.le_refl _)) ?_
    refine aw_ret ?_
    refine rt_then ?_
    exact fun a w hr => ⟨_, [(.own 0), (e_a8_u32 p1), (.bool false)], reach_of hr (cov_to (s1 := ⟨[(8, (.own 0)), (9, (.ptr 1 0 [])), (10, (.bool false))], [(0, some (.arr 38 v1.length fun j => (e_api_Kept (v1.getD j z_api_Kept)))), (1, some (.var (e_a8_u32 p1)))], 2, []⟩) (fun i => match i with | 0 => 5 | 1 => 4 | k => k) [] ⟨⟨_, rfl, .own 0 _ _ (nl rfl) rfl rfl (Box.like_refl _)⟩, ⟨_, rfl, .ptr 1 _ _ _ _ (nl rfl) rfl rfl⟩, ⟨_, rfl, .plain _ (trivial)⟩, trivial⟩ ⟨⟨nl rfl, _, _, rfl, rfl, boxTo_arr (fun _ => (d_api_Kept _))⟩, ⟨nl rfl, _, _, rfl, rfl, boxTo_var ((d_a8_u32 _).plain)⟩, trivial⟩ rfl rfl), ⟨rfl, ⟨1, rfl, rfl, ty29⟩, rfl, trivial⟩, by decide, by cases H; rfl, by cases H; exact a1, nl rfl⟩
  · replace H := ite_f hc H
    refine aw_skip ?_
    refine nx_seq ?_
    obtain ⟨v10, h11, H⟩ := bnd H
    refine aw_region (r_mv rfl rfl <| r_p (does_makeFunc 101 [(.tmp 7)] [(.ptr 2 0 [])] #[(.tmp 7)] rfl ⟨trivial, trivial⟩) m10 rfl <| r_p (does_callO 100 0 (fun _ => .any) (.func 100) [(.tmp 39), (.tmp 40)] [(.own 5), (.fn 101 1 (fun j => ([(.ptr 2 0 [])] : _root_.List V).getD j (.bool false)))] [(2, (.var (e_api_Kept p3)))] [(5, (.arr 38 v1.length fun j => (e_api_Kept (v1.getD j z_api_Kept))))] true [(.own 0), (.fn 101 1 (fun j => ([.cptr (e_api_Kept p3)] : _root_.List V).getD j (.bool false)))] _ (.own 7) _ 7 1 _ _ rfl fo100 rfl ⟨trivial, trivial, trivial⟩ ⟨(.mv 0 _ rfl), .ro _ _ (.fn _ _ _ _ (fun j hj => match j, hj with | 0, _ => .ptr 2 0 [] (.var (e_api_Kept p3)) (e_api_Kept p3) (.head _) trivial rfl rfl (d_api_Kept p3) | k + 1, hj => (nlt hj).elim)), trivial⟩ (slices_DeleteFunc_api_Kept_api_Kept_spec v1 (fun z0 => kept_Take_1 z0 p3) 101 1 (fun j => ([.cptr (e_api_Kept p3)] : _root_.List V).getD j (.bool false)) fo101 (fun j => match j with | 0 => .inl (.inr (.inl ⟨(e_api_Kept p3), (d_api_Kept p3), rfl⟩)) | _ + 1 => .inl (.inl trivial)) (fun z0 r h => kept_Take_1_spec z0 p3 r h) _ h11) rfl (by simp) rfl ⟨(fun _ => (f_api_Kept _)), trivial⟩ ⟨⟨nl rfl, _, rfl, fun _ => (f_api_Kept _)⟩, trivial⟩ (.own 0 (nl rfl))) ⟨a2, a2, rfl⟩ rfl <| r_as rfl rfl <| r_e) ?_
    refine aw_cov (cov_prune (s1 := ⟨[(5, _), (7, _), (9, _), (11, _)], [(0, some _), (2, some _), (4, some _), (7, some _)], 8, []⟩) a4 a4 (Nat.le_refl _)) ?_
    obtain ⟨h12, H⟩ := ib_of H
    refine aw_region (r_fa (.ptr 2 (0 + 0) [0]) fl64_0 rfl rfl rfl rfl <| r_ld (.int .i64 p3.From) rfl rfl ⟨rfl, nl rfl, trivial⟩ rfl rfl ty3 rfl <| r_fa (.ptr 2 (0 + 1) [1]) fl64_1 rfl rfl rfl rfl <| r_ld (.int .u32 p3.Round) rfl rfl ⟨rfl, nl rfl, trivial⟩ rfl rfl ty22 rfl <| r_p (does_indexAddr 29 8 1 5 0 0 [] (.var (e_a8_u32 p1)) (.tmp 43) .i64 p3.From el29 trivial h12.1 h12.2) m21 rfl <| r_st (.var (e_a8_u32 (aupd p1 p3.From.toNat p3.Round))) rfl rfl a1 trivial rfl ⟨rfl, (ixl h12), trivial⟩ rfl rfl (congrArg Box.var (set_cons rfl (vupd_map (fun z => V.int .u32 z) _ _ _))) ty22 rfl <| r_e) ?_
    refine aw_cov (cov_prune (s1 := ⟨[(5, _), (7, _), (9, _), (11, _)], [(0, some _), (2, some _), (4, some _), (7, some _)], 8, []⟩) a4 a4 (Nat.le_refl _)) ?_
    obtain ⟨h13, H⟩ := fit_of H
    refine aw_draw (mixed) (r_mv rfl rfl <| r_lv rfl rfl ty64 rfl <| r_p (does_buildSl 30 1 38 (e_api_Kept z_api_Kept) (fun j => (e_api_Kept (([p3] : _root_.List api_Kept).getD j z_api_Kept))) #[(0, (.tmp 48))] [(0, (.tmp 48))] [(0, (e_api_Kept p3))] rfl so30 (by decide) ⟨a1, trivial⟩ ⟨⟨nl rfl, rfl, rfl⟩, trivial⟩ (fun j h => match j, h with | 0, _ => rfl | k + 1, h => (nlt h).elim)) m10 rfl <| r_p (does_appendL e_api_Kept z_api_Kept v10 ([p3] : _root_.List api_Kept) 30 38 352 7 8 47 49 ap30 h13) m21 rfl <| r_lv rfl rfl ty29 rfl <| r_as rfl rfl <| r_sv rfl rfl rfl rfl rfl rfl ty29 rfl <| r_0 (does_assign (.const (.bool true)) (.bool true) (fun _ => rfl)) rfl rfl <| r_e) rfl ?_
    refine aw_cov (cov_prune (s1 := ⟨[(9, _), (8, _), (10, _)], [(4, some _), (8, some _)], 9, []⟩) a3 a2 (Nat.le_refl _)) ?_
    refine aw_ret ?_
    exact fun a w hr => ⟨_, [(.own 0), (e_a8_u32 (aupd p1 p3.From.toNat p3.Round)), (.bool true)], reach_of hr (cov_to (s1 := ⟨[(8, (.own 0)), (9, (.ptr 1 0 [])), (10, (.bool true))], [(0, some (.arr 38 (v10 ++ ([p3] : _root_.List api_Kept)).length fun j => (e_api_Kept ((v10 ++ ([p3] : _root_.List api_Kept)).getD j z_api_Kept)))), (1, some (.var (e_a8_u32 (aupd p1 p3.From.toNat p3.Round))))], 2, []⟩) (fun i => match i with | 0 => 8 | 1 => 4 | k => k) [] ⟨⟨_, rfl, .own 0 _ _ (nl rfl) rfl rfl (Box.like_refl _)⟩, ⟨_, rfl, .ptr 1 _ _ _ _ (nl rfl) rfl rfl⟩, ⟨_, rfl, .plain _ (trivial)⟩, trivial⟩ ⟨⟨nl rfl, _, _, rfl, rfl, boxTo_arr (fun _ => (d_api_Kept _))⟩, ⟨nl rfl, _, _, rfl, rfl, boxTo_var ((d_a8_u32 _).plain)⟩, trivial⟩ rfl rfl), ⟨rfl, ⟨1, rfl, rfl, ty29⟩, rfl, trivial⟩, by decide, by cases H; rfl, by cases H; exact a1, nl rfl⟩
end Go.Proofs.Ytcocahffigbmbaa
end
