/- A part of the proof of the law. Put together by a tool (shake.py) out of our own texts. Conditions: none. -/
import Derived.Test.YtcocahffigbmbaaCorePacketsD
import Derived.OpenShut
import Derived.ChangeOld
import Derived.SizedLaws
set_option linter.unusedVariables false
set_option linter.unusedSimpArgs false
section
set_option linter.unusedVariables false
set_option maxRecDepth 100000
namespace Go.Proofs.Ytcocahffigbmbaa
open Go.Eng
set_option maxHeartbeats 1600000
theorem core_Receive_spec (p0 : api_Core) (p1 : api_Packet) (r : api_Core × Bool × (_root_.List api_Happen)) (H : core_Receive p0 p1 = some r) : FSpecO Try.prog 18 [(e_api_Core p0), (e_api_Packet p1)] [] 0 (resV [(.agg (.st [1, 1, 1, 17, 3, 8, 8, 1, 3, 8, 8, 1, 128, 1]) (vupd (c_api_Core r.1) 7 (.own 0))), (.bool r.2.1), (.own 1)]) [(0, some (.arr 38 r.1.Kept.length fun j => (e_api_Kept (r.1.Kept.getD j z_api_Kept)))), (1, some (.arr 50 r.2.2.length fun j => (e_api_Happen (r.2.2.getD j z_api_Happen))))] 3 := by
  refine specO_of (fn := Try.f18) (args := [(e_api_Core p0), (e_api_Packet p1)]) Try.func18 rfl (nl rfl) ?_
  rintro ⟨G, w0, W, S, Sp, gx⟩ hG
  cases hG
  unfold core_Receive at H
  refine aw_region (r_p (does_box 35 (.tmp 0) 0 (e_api_Core p0) trivial rfl) m10 rfl <| r_p (does_box 50 (.tmp 1) 1 (e_api_Packet p1) trivial rfl) m10 rfl <| r_0 (does_alloc 35 2 (e_api_Core z_api_Core) zr35) rfl rfl <| r_0 (does_assign (.const (.bool false)) (.bool false) (fun _ => rfl)) rfl rfl <| r_0 (does_nil false 3 50 (fun j => (e_api_Happen (([] : _root_.List api_Happen).getD j z_api_Happen)))) rfl rfl <| r_e) ?_
  refine aw_cov (cov_prune (s1 := ⟨[(2, _), (3, _), (4, _)], [(0, some _), (1, some _), (2, some _)], 4, []⟩) a3 a3 (Nat.le_refl _)) ?_
  refine aw_inl (es := [_]) (fn := Try.f28) (K := 28) [(.tmp 13)] [(e_api_Core p0)] [(2, (.ptr 0 0 [])), (3, (.ptr 1 0 [])), (4, (.ptr 2 0 []))] (split_at (i := 1) rfl) ⟨Step.plain rfl (does_load 35 2 0 0 [] (.var (e_api_Core p0)) (e_api_Core p0) trivial rfl rfl ty35), m11, rfl, rfl⟩ Try.func28 rfl fo28 rfl ⟨trivial, trivial⟩ a1 (nl rfl) rfl ⟨(.inl ⟨nl rfl, rfl⟩), (.inl ⟨nl rfl, rfl⟩), (.inl ⟨nl rfl, rfl⟩), trivial⟩ (fun gx1 Kp1 hK1 => inl_jn (fun x4 : api_Core × api_Packet × api_Core × core_under × _root_.List api_Kept × _root_.List api_Happen => (⟨[(2, (.ptr 0 0 [])), (3, (.ptr 1 0 [])), (4, (.ptr 2 0 [])), (14, (.ptr 7 0 []))], [(0, some (.var (e_api_Core x4.1))), (1, some (.var (e_api_Packet x4.2.1))), (2, some (.var (e_api_Core x4.2.2.1))), (7, some (.var (.agg (.st [189, 1]) (vupd (vupd (c_core_under x4.2.2.2.1) 0 (.agg (.st [1, 1, 1, 17, 3, 8, 8, 1, 3, 8, 8, 1, 128, 1]) (vupd (c_api_Core x4.2.2.2.1.Core) 7 (.own 5)))) 1 (.own 6))))), (5, some (.arr 38 x4.2.2.2.2.1.length fun j => (e_api_Kept (x4.2.2.2.2.1.getD j z_api_Kept)))), (6, some (.arr 50 x4.2.2.2.2.2.length fun j => (e_api_Happen (x4.2.2.2.2.2.getD j z_api_Happen))))], 8, []⟩ : St)) H (fun x4 H => ?_) (fun j1 H => ?_))
  · refine hK1 _ [_] _ ⟨Step.plain rfl (does_assign (.tmp 14) (.ptr 7 0 []) trivial), m10, rfl, rfl⟩ ?_
    refine aw_cov (cov_prune (s1 := ⟨[(2, _), (3, _), (4, _), (7, _)], [(0, some _), (1, some _), (2, some _), (7, some _), (5, some _), (6, some _)], 8, []⟩) a4 a6 (Nat.le_refl _)) ?_
    obtain ⟨v5, h6, H⟩ := bnd H
    refine aw_draw (mixed) (r_mv rfl rfl <| r_nc rfl rfl rfl <| r_fa (.ptr 7 (0 + 0) [0]) fl80_0 rfl rfl rfl rfl <| r_fa (.ptr 7 ((0 + 0) + 3) [0, 3]) fl35_3 rfl rfl rfl rfl <| r_ld (e_api_Beat x4.2.2.2.1.Core.Beat) rfl rfl ⟨rfl, nl rfl, ⟨rfl, nl rfl, trivial⟩⟩ rfl rfl ty25 rfl <| r_fa (.ptr 1 (0 + 0) [0]) fl50_0 rfl rfl rfl rfl <| r_ld (.int .u32 x4.2.1.From) rfl rfl ⟨rfl, nl rfl, trivial⟩ rfl rfl ty22 rfl <| r_p (does_convInt 22 3 (.tmp 22) .u32 .i64 x4.2.1.From trivial rfl rfl) m10 rfl <| r_fa (.ptr 1 (0 + 1) [1]) fl50_1 rfl rfl rfl rfl <| r_ld (.int .u32 x4.2.1.Inc) rfl rfl ⟨rfl, nl rfl, trivial⟩ rfl rfl ty22 rfl <| r_ca [_, _, _] [_, _, _] (nob := []) (flat := true) (beat_Hear_spec _ _ _ _ h6) rfl rfl m30 fo50 ⟨trivial, trivial, trivial, trivial⟩ ⟨.data _ (d_api_Beat _), .data _ trivial, .data _ trivial, trivial⟩ (res_flat2 (f_api_Beat v5.1) trivial) rfl <| r_mv rfl rfl <| r_ex (e_api_Beat v5.1) rfl (nl rfl) rfl rfl <| r_ex (.bool v5.2) rfl (nl rfl) rfl rfl <| r_0 (does_alloc 25 8 (e_api_Beat z_api_Beat) zr25) rfl rfl <| r_sv rfl rfl rfl rfl rfl rfl ty25 rfl <| r_as rfl rfl <| r_e) rfl ?_
    refine aw_cov (cov_prune (s1 := ⟨[(2, _), (3, _), (4, _), (7, _), (8, _), (9, _)], [(0, some _), (1, some _), (2, some _), (7, some _), (5, some _), (6, some _), (8, some _)], 9, []⟩) a6 a7 (Nat.le_refl _)) ?_
    refine aw_seq ?_
    obtain ⟨v7, h8, H⟩ := bnd H
    refine aw_draw (mixed) (r_lv rfl rfl ty35 rfl <| r_ca [_] [_] (nob := []) (flat := true) (core_fits_spec _ _ h8) rfl rfl m10 fo29 ⟨trivial, trivial⟩ ⟨.data _ (d_api_Core _), trivial⟩ trivial rfl <| r_p (does_not 4 (.tmp 30) v7 trivial) m10 rfl <| r_mv rfl rfl <| r_gfa (.ptr 1 (0 + 0) [0]) fl50_0 rfl rfl rfl rfl rfl (fun _ => .same _) rfl rfl rfl <| r_gld (.int .u32 x4.2.1.From) rfl rfl rfl rfl rfl (fun hc => .opt _ _ hc) rfl (fun hc => ⟨rfl, nl rfl, trivial⟩) rfl rfl ty22 rfl <| r_g [(34, _)] [(34, _)] [] rfl rfl m20 rfl (fun hc => ⟨(.opt _ _ hc), trivial⟩) (fun hc => does_convInt 22 3 (.tmp 34) .u32 .i64 x4.2.1.From trivial rfl rfl) rfl <| r_gmv rfl rfl rfl rfl rfl rfl <| r_g [(36, _)] [(36, _)] [(7, _)] rfl rfl m21 rfl (fun hc => ⟨(.opt _ _ hc), trivial⟩) (fun hc => does_nilCheck 36 7 0 [] (.var (.agg (.st [189, 1]) (vupd (vupd (c_core_under x4.2.2.2.1) 0 (.agg (.st [1, 1, 1, 17, 3, 8, 8, 1, 3, 8, 8, 1, 128, 1]) (vupd (c_api_Core x4.2.2.2.1.Core) 7 (.own 5)))) 1 (.own 6))))) rfl <| r_gfa (.ptr 7 (0 + 0) [0]) fl80_0 rfl rfl rfl rfl rfl (fun hc => .opt _ _ hc) rfl rfl rfl <| r_gfa (.ptr 7 ((0 + 0) + 0) [0, 0]) fl35_0 rfl rfl rfl rfl rfl (fun hc => .opt _ _ hc) rfl rfl rfl <| r_gld (.int .i64 x4.2.2.2.1.Core.Self) rfl rfl rfl rfl rfl (fun hc => .opt _ _ hc) rfl (fun hc => ⟨rfl, nl rfl, ⟨rfl, nl rfl, trivial⟩⟩) rfl rfl ty3 rfl <| r_g [(35, _), (40, _)] [(35, _), (40, _)] [] rfl rfl m30 rfl (fun hc => ⟨(.opt _ _ hc), (.opt _ _ hc), trivial⟩) (fun hc => does_bin .eql 3 3 (.tmp 35) (.tmp 40) .i64 (IntKind.i64.wrap (x4.2.1.From)) x4.2.2.2.1.Core.Self (.bool ((IntKind.i64.wrap (x4.2.1.From)) == x4.2.2.2.1.Core.Self)) trivial trivial (bin_eql _ _ _ _)) rfl <| r_p (does_or 32 41 (!v7) ((IntKind.i64.wrap (x4.2.1.From)) == x4.2.2.2.1.Core.Self)) m20 rfl <| r_mv rfl rfl <| r_gmv rfl rfl rfl rfl rfl rfl <| r_g [(44, _)] [(44, _)] [] rfl rfl m20 rfl (fun hc => ⟨(.opt _ _ hc), trivial⟩) (fun hc => does_not 4 (.tmp 44) v5.2 trivial) rfl <| r_p (does_or 43 45 ((!v7) || ((IntKind.i64.wrap (x4.2.1.From)) == x4.2.2.2.1.Core.Self)) (!v5.2)) m20 rfl <| r_e) rfl ?_
    obtain ⟨v9, hv9, H⟩ := lt_of H
    refine aw_cov (cov_prune (s1 := ⟨[(3, _), (4, _), (7, _), (8, _), (46, (.bool v9))], [(1, some _), (2, some _), (7, some _), (5, some _), (6, some _), (8, some _)], 9, []⟩) ⟨rfl, rfl, rfl, rfl, (by subst hv9; rfl), trivial⟩ a6 (Nat.le_refl _)) ?_
    refine aw_cond rfl (fun hc => ?_) (fun hc => ?_)
    · replace H := ite_t hc H
      refine aw_region (r_mv rfl rfl <| r_nc rfl rfl rfl <| r_fa (.ptr 7 (0 + 0) [0]) fl80_0 rfl rfl rfl rfl <| r_ld (.agg (.st [1, 1, 1, 17, 3, 8, 8, 1, 3, 8, 8, 1, 128, 1]) (vupd (c_api_Core x4.2.2.2.1.Core) 7 (.own 5))) rfl rfl ⟨rfl, nl rfl, trivial⟩ rfl rfl ty35 rfl <| r_sv rfl rfl rfl rfl rfl rfl ty35 rfl <| r_0 (does_assign (.const (.bool false)) (.bool false) (fun _ => rfl)) rfl rfl <| r_0 (does_nil false 9 50 (fun j => (e_api_Happen (([] : _root_.List api_Happen).getD j z_api_Happen)))) rfl rfl <| r_e) ?_
      refine aw_cov (cov_prune (s1 := ⟨[(4, _), (5, _), (6, _)], [(2, some _), (5, some _), (9, some _)], 10, []⟩) a3 a3 (Nat.le_refl _)) ?_
      refine aw_ret ?_
      refine rt_then ?_
      exact fun a w hr => ⟨_, [(.agg (.st [1, 1, 1, 17, 3, 8, 8, 1, 3, 8, 8, 1, 128, 1]) (vupd (c_api_Core ({ x4.2.2.2.1.Core with Kept := x4.2.2.2.2.1 } : api_Core)) 7 (.own 0))), (.bool false), (.own 1)], reach_of hr (cov_to (s1 := ⟨[(4, (.ptr 2 0 [])), (5, (.bool false)), (6, (.own 1))], [(0, some (.arr 38 x4.2.2.2.2.1.length fun j => (e_api_Kept (x4.2.2.2.2.1.getD j z_api_Kept)))), (2, some (.var (.agg (.st [1, 1, 1, 17, 3, 8, 8, 1, 3, 8, 8, 1, 128, 1]) (vupd (c_api_Core ({ x4.2.2.2.1.Core with Kept := x4.2.2.2.2.1 } : api_Core)) 7 (.own 0))))), (1, some (.arr 50 ([] : _root_.List api_Happen).length fun j => (e_api_Happen (([] : _root_.List api_Happen).getD j z_api_Happen))))], 3, []⟩) (fun i => match i with | 0 => 5 | 2 => 2 | 1 => 9 | k => k) [] ⟨⟨_, rfl, .ptr 2 _ _ _ _ (nl rfl) rfl rfl⟩, ⟨_, rfl, .plain _ (trivial)⟩, ⟨_, rfl, .own 1 _ _ (nl rfl) rfl rfl (Box.like_refl _)⟩, trivial⟩ ⟨⟨nl rfl, _, _, rfl, rfl, boxTo_arr (fun _ => (d_api_Kept _))⟩, ⟨nl rfl, _, _, rfl, rfl, (boxTo_st (.agg _ _ _ (fun j => match j with | 0 => .plain _ (trivial) | 1 => .plain _ (trivial) | 2 => .plain _ (trivial) | 3 => .plain _ ((d_api_Beat _).plain) | 4 => .plain _ ((d_api_Id _).plain) | 5 => .plain _ ((d_a8_u32 _).plain) | 6 => .plain _ ((d_a8_u32 _).plain) | 7 => .own 0 _ _ (nl rfl) rfl rfl (Box.like_refl _) | 8 => .plain _ ((d_api_Id _).plain) | 9 => .plain _ ((d_a8_u32 _).plain) | 10 => .plain _ ((d_a8_u32 _).plain) | 11 => .plain _ (trivial) | 12 => .plain _ ((d_a8_api_Peer _).plain) | 13 => .plain _ (trivial) | _ + 14 => .plain _ trivial)))⟩, ⟨nl rfl, _, _, rfl, rfl, boxTo_arr (fun _ => (d_api_Happen _))⟩, trivial⟩ rfl rfl), ⟨⟨2, rfl, rfl, ty35⟩, rfl, rfl, trivial⟩, by decide, by cases H; rfl, by cases H; exact ⟨rfl, rfl, trivial⟩, nl rfl⟩
    · replace H := ite_f hc H
      refine aw_skip ?_
      refine nx_seq ?_
      refine aw_region (r_mv rfl rfl <| r_lv rfl rfl ty25 rfl <| r_nc rfl rfl rfl <| r_fa (.ptr 7 (0 + 0) [0]) fl80_0 rfl rfl rfl rfl <| r_fa (.ptr 7 ((0 + 0) + 3) [0, 3]) fl35_3 rfl rfl rfl rfl <| r_st (.var (.agg (.st [189, 1]) (vupd (vupd (c_core_under ({ x4.2.2.2.1 with Core := { x4.2.2.2.1.Core with Beat := v5.1 } })) 0 (.agg (.st [1, 1, 1, 17, 3, 8, 8, 1, 3, 8, 8, 1, 128, 1]) (vupd (c_api_Core (({ x4.2.2.2.1 with Core := { x4.2.2.2.1.Core with Beat := v5.1 } }).Core)) 7 (.own 5)))) 1 (.own 6)))) rfl rfl ⟨rfl, trivial⟩ trivial rfl ⟨rfl, nl rfl, ⟨rfl, nl rfl, trivial⟩⟩ rfl rfl (congrArg Box.var (set_cons (w := (.agg (.st [1, 1, 1, 17, 3, 8, 8, 1, 3, 8, 8, 1, 128, 1]) (vupd (c_api_Core (({ x4.2.2.2.1 with Core := { x4.2.2.2.1.Core with Beat := v5.1 } }).Core)) 7 (.own 5)))) (set_cons (w := (e_api_Beat ((({ x4.2.2.2.1 with Core := { x4.2.2.2.1.Core with Beat := v5.1 } }).Core).Beat))) rfl (fe14 rfl rfl rfl rfl rfl rfl rfl rfl rfl rfl rfl rfl rfl rfl (fun _ => rfl))) (fe2 rfl rfl (fun _ => rfl)))) ty25 rfl <| r_e) ?_
      obtain ⟨v10, hv10, H⟩ := lt_of H
      refine aw_cov (cov_prune (s1 := ⟨[(3, _), (4, _), (7, _)], [(1, some _), (2, some _), (7, some (.var (.agg (.st [189, 1]) (vupd (vupd (c_core_under v10) 0 (.agg (.st [1, 1, 1, 17, 3, 8, 8, 1, 3, 8, 8, 1, 128, 1]) (vupd (c_api_Core v10.Core) 7 (.own 5)))) 1 (.own 6))))), (5, some _), (6, some _)], 9, []⟩) a3 ⟨rfl, rfl, (by subst hv10; rfl), rfl, rfl, trivial⟩ (Nat.le_refl _)) ?_
      obtain ⟨h11, H⟩ := ib_of H
      obtain ⟨v12, h13, H⟩ := bnd H
      obtain ⟨h14, H⟩ := ib_of H
      refine aw_draw (mixed) (r_mv rfl rfl <| r_fa (.ptr 1 (0 + 0) [0]) fl50_0 rfl rfl rfl rfl <| r_ld (.int .u32 x4.2.1.From) rfl rfl ⟨rfl, nl rfl, trivial⟩ rfl rfl ty22 rfl <| r_mv rfl rfl <| r_fa (.ptr 1 (0 + 0) [0]) fl50_0 rfl rfl rfl rfl <| r_ld (.int .u32 x4.2.1.From) rfl rfl ⟨rfl, nl rfl, trivial⟩ rfl rfl ty22 rfl <| r_nc rfl rfl rfl <| r_fa (.ptr 7 (0 + 0) [0]) fl80_0 rfl rfl rfl rfl <| r_fa (.ptr 7 ((0 + 0) + 60) [0, 12]) fl35_12 rfl rfl rfl rfl <| r_p (does_indexAddr 33 8 16 64 7 ((0 + 0) + 60) [0, 12] (.var (.agg (.st [189, 1]) (vupd (vupd (c_core_under v10) 0 (.agg (.st [1, 1, 1, 17, 3, 8, 8, 1, 3, 8, 8, 1, 128, 1]) (vupd (c_api_Core v10.Core) 7 (.own 5)))) 1 (.own 6)))) (.tmp 61) .u32 x4.2.1.From el33 trivial h11.1 h11.2) ⟨⟨rfl, rfl, trivial⟩, ⟨rfl, trivial⟩, rfl⟩ rfl <| r_ld (e_api_Peer (v10.Core.Peers x4.2.1.From.toNat)) rfl rfl ⟨rfl, nl rfl, ⟨rfl, nl rfl, ⟨rfl, (ixl h11), trivial⟩⟩⟩ rfl rfl ty32 rfl <| r_lv rfl rfl ty50 rfl <| r_ca [_, _] [_, _] (nob := []) (flat := true) (gather_Update_spec _ _ _ h13) rfl rfl ⟨⟨rfl, rfl, trivial⟩, trivial, rfl⟩ fo51 ⟨trivial, trivial, trivial⟩ ⟨.data _ (d_api_Peer _), .data _ (d_api_Packet _), trivial⟩ (f_api_Peer v12) rfl <| r_nc rfl rfl rfl <| r_fa (.ptr 7 (0 + 0) [0]) fl80_0 rfl rfl rfl rfl <| r_fa (.ptr 7 ((0 + 0) + 60) [0, 12]) fl35_12 rfl rfl rfl rfl <| r_p (does_indexAddr 33 8 16 71 7 ((0 + 0) + 60) [0, 12] (.var (.agg (.st [189, 1]) (vupd (vupd (c_core_under v10) 0 (.agg (.st [1, 1, 1, 17, 3, 8, 8, 1, 3, 8, 8, 1, 128, 1]) (vupd (c_api_Core v10.Core) 7 (.own 5)))) 1 (.own 6)))) (.tmp 58) .u32 x4.2.1.From el33 trivial h14.1 h14.2) ⟨⟨rfl, rfl, trivial⟩, ⟨rfl, trivial⟩, rfl⟩ rfl <| r_st (.var (.agg (.st [189, 1]) (vupd (vupd (c_core_under ({ v10 with Core := { v10.Core with Peers := aupd v10.Core.Peers x4.2.1.From.toNat v12 } })) 0 (.agg (.st [1, 1, 1, 17, 3, 8, 8, 1, 3, 8, 8, 1, 128, 1]) (vupd (c_api_Core (({ v10 with Core := { v10.Core with Peers := aupd v10.Core.Peers x4.2.1.From.toNat v12 } }).Core)) 7 (.own 5)))) 1 (.own 6)))) rfl rfl ⟨rfl, trivial⟩ trivial rfl ⟨rfl, nl rfl, ⟨rfl, nl rfl, ⟨rfl, (ixl h14), trivial⟩⟩⟩ rfl rfl (congrArg Box.var (set_cons (w := (.agg (.st [1, 1, 1, 17, 3, 8, 8, 1, 3, 8, 8, 1, 128, 1]) (vupd (c_api_Core (({ v10 with Core := { v10.Core with Peers := aupd v10.Core.Peers x4.2.1.From.toNat v12 } }).Core)) 7 (.own 5)))) (set_cons (w := (e_a8_api_Peer ((({ v10 with Core := { v10.Core with Peers := aupd v10.Core.Peers x4.2.1.From.toNat v12 } }).Core).Peers))) (set_cons rfl (vupd_map e_api_Peer _ _ _)) (fe14 rfl rfl rfl rfl rfl rfl rfl rfl rfl rfl rfl rfl rfl rfl (fun _ => rfl))) (fe2 rfl rfl (fun _ => rfl)))) ty32 rfl <| r_e) rfl ?_
      obtain ⟨v15, hv15, H⟩ := lt_of H
      refine aw_cov (cov_prune (s1 := ⟨[(3, _), (4, _), (7, _)], [(1, some _), (2, some _), (7, some (.var (.agg (.st [189, 1]) (vupd (vupd (c_core_under v15) 0 (.agg (.st [1, 1, 1, 17, 3, 8, 8, 1, 3, 8, 8, 1, 128, 1]) (vupd (c_api_Core v15.Core) 7 (.own 5)))) 1 (.own 6))))), (5, some _), (6, some _)], 9, []⟩) a3 ⟨rfl, rfl, (by subst hv15; rfl), rfl, rfl, trivial⟩ (Nat.le_refl _)) ?_
      refine aw_draw (mixed) (r_mv rfl rfl <| r_mv rfl rfl <| r_nc rfl rfl rfl <| r_fa (.ptr 7 (0 + 0) [0]) fl80_0 rfl rfl rfl rfl <| r_fa (.ptr 7 ((0 + 0) + 188) [0, 13]) fl35_13 rfl rfl rfl rfl <| r_ld (.int .u32 v15.Core.Epoch) rfl rfl ⟨rfl, nl rfl, ⟨rfl, nl rfl, trivial⟩⟩ rfl rfl ty22 rfl <| r_fa (.ptr 1 (0 + 33) [8]) fl50_8 rfl rfl rfl rfl <| r_ld (.int .u32 x4.2.1.Epoch) rfl rfl ⟨rfl, nl rfl, trivial⟩ rfl rfl ty22 rfl <| r_fa (.ptr 1 (0 + 21) [5]) fl50_5 rfl rfl rfl rfl <| r_fa (.ptr 1 ((0 + 21) + 0) [5, 0]) fl27_0 rfl rfl rfl rfl <| r_ld (.int .u32 x4.2.1.Promise.Epoch) rfl rfl ⟨rfl, nl rfl, ⟨rfl, nl rfl, trivial⟩⟩ rfl rfl ty22 rfl <| r_p (does_max3 _ _ (.tmp 78) (.tmp 80) (.tmp 83) rfl .u32 v15.Core.Epoch x4.2.1.Epoch x4.2.1.Promise.Epoch trivial trivial trivial) ⟨⟨rfl, rfl, rfl, trivial⟩, trivial, rfl⟩ rfl <| r_nc rfl rfl rfl <| r_fa (.ptr 7 (0 + 0) [0]) fl80_0 rfl rfl rfl rfl <| r_fa (.ptr 7 ((0 + 0) + 188) [0, 13]) fl35_13 rfl rfl rfl rfl <| r_st (.var (.agg (.st [189, 1]) (vupd (vupd (c_core_under ({ v15 with Core := { v15.Core with Epoch := (if (if v15.Core.Epoch < x4.2.1.Epoch then x4.2.1.Epoch else v15.Core.Epoch) < x4.2.1.Promise.Epoch then x4.2.1.Promise.Epoch else (if v15.Core.Epoch < x4.2.1.Epoch then x4.2.1.Epoch else v15.Core.Epoch)) } })) 0 (.agg (.st [1, 1, 1, 17, 3, 8, 8, 1, 3, 8, 8, 1, 128, 1]) (vupd (c_api_Core (({ v15 with Core := { v15.Core with Epoch := (if (if v15.Core.Epoch < x4.2.1.Epoch then x4.2.1.Epoch else v15.Core.Epoch) < x4.2.1.Promise.Epoch then x4.2.1.Promise.Epoch else (if v15.Core.Epoch < x4.2.1.Epoch then x4.2.1.Epoch else v15.Core.Epoch)) } }).Core)) 7 (.own 5)))) 1 (.own 6)))) rfl rfl ⟨rfl, trivial⟩ trivial rfl ⟨rfl, nl rfl, ⟨rfl, nl rfl, trivial⟩⟩ rfl rfl (congrArg Box.var (set_cons (w := (.agg (.st [1, 1, 1, 17, 3, 8, 8, 1, 3, 8, 8, 1, 128, 1]) (vupd (c_api_Core (({ v15 with Core := { v15.Core with Epoch := (if (if v15.Core.Epoch < x4.2.1.Epoch then x4.2.1.Epoch else v15.Core.Epoch) < x4.2.1.Promise.Epoch then x4.2.1.Promise.Epoch else (if v15.Core.Epoch < x4.2.1.Epoch then x4.2.1.Epoch else v15.Core.Epoch)) } }).Core)) 7 (.own 5)))) (set_cons (w := (.int .u32 ((({ v15 with Core := { v15.Core with Epoch := (if (if v15.Core.Epoch < x4.2.1.Epoch then x4.2.1.Epoch else v15.Core.Epoch) < x4.2.1.Promise.Epoch then x4.2.1.Promise.Epoch else (if v15.Core.Epoch < x4.2.1.Epoch then x4.2.1.Epoch else v15.Core.Epoch)) } }).Core).Epoch))) rfl (fe14 rfl rfl rfl rfl rfl rfl rfl rfl rfl rfl rfl rfl rfl rfl (fun _ => rfl))) (fe2 rfl rfl (fun _ => rfl)))) ty22 rfl <| r_e) rfl ?_
      obtain ⟨v16, hv16, H⟩ := lt_of H
      refine aw_cov (cov_prune (s1 := ⟨[(3, _), (4, _), (7, _)], [(1, some _), (2, some _), (7, some (.var (.agg (.st [189, 1]) (vupd (vupd (c_core_under v16) 0 (.agg (.st [1, 1, 1, 17, 3, 8, 8, 1, 3, 8, 8, 1, 128, 1]) (vupd (c_api_Core v16.Core) 7 (.own 5)))) 1 (.own 6))))), (5, some _), (6, some _)], 9, []⟩) a3 ⟨rfl, rfl, (by subst hv16; rfl), rfl, rfl, trivial⟩ (Nat.le_refl _)) ?_
      refine aw_seq ?_
      obtain ⟨v17, h18, H⟩ := bnd H
      refine aw_draw (mixed) (r_mv rfl rfl <| r_nc rfl rfl rfl <| r_fa (.ptr 7 (0 + 0) [0]) fl80_0 rfl rfl rfl rfl <| r_fa (.ptr 7 ((0 + 0) + 40) [0, 8]) fl35_8 rfl rfl rfl rfl <| r_ld (e_api_Id v16.Core.Promise) rfl rfl ⟨rfl, nl rfl, ⟨rfl, nl rfl, trivial⟩⟩ rfl rfl ty27 rfl <| r_mv rfl rfl <| r_nc rfl rfl rfl <| r_fa (.ptr 7 (0 + 0) [0]) fl80_0 rfl rfl rfl rfl <| r_fa (.ptr 7 ((0 + 0) + 0) [0, 0]) fl35_0 rfl rfl rfl rfl <| r_ld (.int .i64 v16.Core.Self) rfl rfl ⟨rfl, nl rfl, ⟨rfl, nl rfl, trivial⟩⟩ rfl rfl ty3 rfl <| r_mv rfl rfl <| r_nc rfl rfl rfl <| r_fa (.ptr 7 (0 + 0) [0]) fl80_0 rfl rfl rfl rfl <| r_fa (.ptr 7 ((0 + 0) + 2) [0, 2]) fl35_2 rfl rfl rfl rfl <| r_ld (.int .u32 v16.Core.Own) rfl rfl ⟨rfl, nl rfl, ⟨rfl, nl rfl, trivial⟩⟩ rfl rfl ty22 rfl <| r_lv rfl rfl ty50 rfl <| r_ca [_, _, _, _] [_, _, _, _] (nob := []) (flat := true) (gather_Adopt_spec _ _ _ _ _ h18) rfl rfl ⟨a4, trivial, rfl⟩ fo52 ⟨trivial, trivial, trivial, trivial, trivial⟩ ⟨.data _ (d_api_Id _), .data _ trivial, .data _ trivial, .data _ (d_api_Packet _), trivial⟩ trivial rfl <| r_e) rfl ?_
      refine aw_cov (cov_prune (s1 := ⟨[(3, _), (4, _), (7, _), (104, _)], [(1, some _), (2, some _), (7, some _), (5, some _), (6, some _)], 9, []⟩) a4 a5 (Nat.le_refl _)) ?_
      refine aw_jn (fun x22 : api_Packet × api_Core × core_under × _root_.List api_Kept × _root_.List api_Happen => (⟨[(3, (.ptr 1 0 [])), (4, (.ptr 2 0 [])), (7, (.ptr 7 0 []))], [(1, some (.var (e_api_Packet x22.1))), (2, some (.var (e_api_Core x22.2.1))), (7, some (.var (.agg (.st [189, 1]) (vupd (vupd (c_core_under x22.2.2.1) 0 (.agg (.st [1, 1, 1, 17, 3, 8, 8, 1, 3, 8, 8, 1, 128, 1]) (vupd (c_api_Core x22.2.2.1.Core) 7 (.own 5)))) 1 (.own 6))))), (5, some (.arr 38 x22.2.2.2.1.length fun j => (e_api_Kept (x22.2.2.2.1.getD j z_api_Kept)))), (6, some (.arr 50 x22.2.2.2.2.length fun j => (e_api_Happen (x22.2.2.2.2.getD j z_api_Happen))))], 11, []⟩ : St)) H (fun x22 H => ?_) (fun j19 H => ?_)
      · refine nx_seq ?_
        refine aw_seq ?_
        obtain ⟨v23, h24, H⟩ := bnd H
        refine aw_region (r_mv rfl rfl <| r_ca [_] [_] (nob := [(7, (.var (.agg (.st [189, 1]) (vupd (vupd (c_core_under x22.2.2.1) 0 (.agg (.st [1, 1, 1, 17, 3, 8, 8, 1, 3, 8, 8, 1, 128, 1]) (vupd (c_api_Core x22.2.2.1.Core) 7 (.own 5)))) 1 (.own 6))))), (5, (.arr 38 x22.2.2.2.1.length fun j => (e_api_Kept (x22.2.2.2.1.getD j z_api_Kept)))), (6, (.arr 50 x22.2.2.2.2.length fun j => (e_api_Happen (x22.2.2.2.2.getD j z_api_Happen))))]) (flat := true) (core_under_bounds_spec _ _ h24) rfl rfl ⟨⟨rfl, trivial⟩, ⟨rfl, rfl, rfl, trivial⟩, rfl⟩ fo53 ⟨trivial, trivial⟩ ⟨.ptrP 7 0 [] (.var (.agg (.st [189, 1]) (vupd (vupd (c_core_under x22.2.2.1) 0 (.agg (.st [1, 1, 1, 17, 3, 8, 8, 1, 3, 8, 8, 1, 128, 1]) (vupd (c_api_Core x22.2.2.1.Core) 7 (.own 5)))) 1 (.own 6)))) (.agg (.st [189, 1]) (vupd (vupd (c_core_under x22.2.2.1) 0 (.agg (.st [1, 1, 1, 17, 3, 8, 8, 1, 3, 8, 8, 1, 128, 1]) (vupd (c_api_Core x22.2.2.1.Core) 7 (.own 5)))) 1 (.own 6))) (e_core_under ({ ({ x22.2.2.1 with Core := ({ x22.2.2.1.Core with Kept := x22.2.2.2.1 } : api_Core) } : core_under) with told := x22.2.2.2.2 } : core_under)) (.head _) trivial rfl rfl ⟨rfl, rfl⟩ (.agg _ _ _ (fun j => match j with | 0 => .agg _ _ _ (fun j => match j with | 0 => .data (.int .i64 ((({ ({ x22.2.2.1 with Core := ({ x22.2.2.1.Core with Kept := x22.2.2.2.1 } : api_Core) } : core_under) with told := x22.2.2.2.2 } : core_under).Core).Self)) trivial | 1 => .data (.int .i64 ((({ ({ x22.2.2.1 with Core := ({ x22.2.2.1.Core with Kept := x22.2.2.2.1 } : api_Core) } : core_under) with told := x22.2.2.2.2 } : core_under).Core).Wait)) trivial | 2 => .data (.int .u32 ((({ ({ x22.2.2.1 with Core := ({ x22.2.2.1.Core with Kept := x22.2.2.2.1 } : api_Core) } : core_under) with told := x22.2.2.2.2 } : core_under).Core).Own)) trivial | 3 => .data (e_api_Beat ((({ ({ x22.2.2.1 with Core := ({ x22.2.2.1.Core with Kept := x22.2.2.2.1 } : api_Core) } : core_under) with told := x22.2.2.2.2 } : core_under).Core).Beat)) (d_api_Beat _) | 4 => .data (e_api_Id ((({ ({ x22.2.2.1 with Core := ({ x22.2.2.1.Core with Kept := x22.2.2.2.1 } : api_Core) } : core_under) with told := x22.2.2.2.2 } : core_under).Core).Conf)) (d_api_Id _) | 5 => .data (e_a8_u32 ((({ ({ x22.2.2.1 with Core := ({ x22.2.2.1.Core with Kept := x22.2.2.2.1 } : api_Core) } : core_under) with told := x22.2.2.2.2 } : core_under).Core).Members)) (d_a8_u32 _) | 6 => .data (e_a8_u32 ((({ ({ x22.2.2.1 with Core := ({ x22.2.2.1.Core with Kept := x22.2.2.2.1 } : api_Core) } : core_under) with told := x22.2.2.2.2 } : core_under).Core).Count)) (d_a8_u32 _) | 7 => .own 5 _ _ _ (.tail _ (.head _)) rfl (fun _ => (d_api_Kept _)) | 8 => .data (e_api_Id ((({ ({ x22.2.2.1 with Core := ({ x22.2.2.1.Core with Kept := x22.2.2.2.1 } : api_Core) } : core_under) with told := x22.2.2.2.2 } : core_under).Core).Promise)) (d_api_Id _) | 9 => .data (e_a8_u32 ((({ ({ x22.2.2.1 with Core := ({ x22.2.2.1.Core with Kept := x22.2.2.2.1 } : api_Core) } : core_under) with told := x22.2.2.2.2 } : core_under).Core).Wanted)) (d_a8_u32 _) | 10 => .data (e_a8_u32 ((({ ({ x22.2.2.1 with Core := ({ x22.2.2.1.Core with Kept := x22.2.2.2.1 } : api_Core) } : core_under) with told := x22.2.2.2.2 } : core_under).Core).Cut)) (d_a8_u32 _) | 11 => .data (.bool ((({ ({ x22.2.2.1 with Core := ({ x22.2.2.1.Core with Kept := x22.2.2.2.1 } : api_Core) } : core_under) with told := x22.2.2.2.2 } : core_under).Core).Ready)) trivial | 12 => .data (e_a8_api_Peer ((({ ({ x22.2.2.1 with Core := ({ x22.2.2.1.Core with Kept := x22.2.2.2.1 } : api_Core) } : core_under) with told := x22.2.2.2.2 } : core_under).Core).Peers)) (d_a8_api_Peer _) | 13 => .data (.int .u32 ((({ ({ x22.2.2.1 with Core := ({ x22.2.2.1.Core with Kept := x22.2.2.2.1 } : api_Core) } : core_under) with told := x22.2.2.2.2 } : core_under).Core).Epoch)) trivial | _ + 14 => .data (.bool false) trivial) | 1 => .own 6 _ _ _ (.tail _ (.tail _ (.head _))) rfl (fun _ => (d_api_Happen _)) | _ + 2 => .data (.bool false) trivial)), trivial⟩ (res_flat2 (f_a8_u32 v23.1) trivial) rfl <| r_mv rfl rfl <| r_ex (e_a8_u32 v23.1) rfl (nl rfl) rfl rfl <| r_ex (.bool v23.2) rfl (nl rfl) rfl rfl <| r_0 (does_alloc 29 11 (e_a8_u32 (fun _ => 0)) zr29) rfl rfl <| r_sv rfl rfl rfl rfl rfl rfl ty29 rfl <| r_as rfl rfl <| r_e) ?_
        refine aw_cov (cov_prune (s1 := ⟨[(3, _), (4, _), (7, _), (10, _), (11, _)], [(1, some _), (2, some _), (7, some _), (5, some _), (6, some _), (11, some _)], 12, []⟩) a5 a6 (Nat.le_refl _)) ?_
        refine aw_draw (mixed) (r_mv rfl rfl <| r_mv rfl rfl <| r_gfa (.ptr 1 (0 + 2) [2]) fl50_2 rfl rfl rfl rfl rfl (fun _ => .same _) rfl rfl rfl <| r_gld (e_api_Id x22.1.Conf) rfl rfl rfl rfl rfl (fun hc => .opt _ _ hc) rfl (fun hc => ⟨rfl, nl rfl, trivial⟩) rfl rfl ty27 rfl <| r_gmv rfl rfl rfl rfl rfl rfl <| r_g [(120, _)] [(120, _)] [(7, _)] rfl rfl m21 rfl (fun hc => ⟨(.opt _ _ hc), trivial⟩) (fun hc => does_nilCheck 120 7 0 [] (.var (.agg (.st [189, 1]) (vupd (vupd (c_core_under x22.2.2.1) 0 (.agg (.st [1, 1, 1, 17, 3, 8, 8, 1, 3, 8, 8, 1, 128, 1]) (vupd (c_api_Core x22.2.2.1.Core) 7 (.own 5)))) 1 (.own 6))))) rfl <| r_gfa (.ptr 7 (0 + 0) [0]) fl80_0 rfl rfl rfl rfl rfl (fun hc => .opt _ _ hc) rfl rfl rfl <| r_gfa (.ptr 7 ((0 + 0) + 20) [0, 4]) fl35_4 rfl rfl rfl rfl rfl (fun hc => .opt _ _ hc) rfl rfl rfl <| r_gld (e_api_Id x22.2.2.1.Core.Conf) rfl rfl rfl rfl rfl (fun hc => .opt _ _ hc) rfl (fun hc => ⟨rfl, nl rfl, ⟨rfl, nl rfl, trivial⟩⟩) rfl rfl ty27 rfl <| r_geq false rfl rfl rfl rfl rfl rfl (fun hc => .opt _ _ hc) (fun hc => .opt _ _ hc) rfl rfl eg27 sh27 (al_api_Id _ _) (al_api_Id _ _) (q_api_Id _ _) rfl <| r_p (does_and 117 125 v23.2 (b_api_Id x22.1.Conf x22.2.2.1.Core.Conf)) m20 rfl <| r_e) rfl ?_
        refine aw_cov (cov_prune (s1 := ⟨[(3, _), (4, _), (7, _), (10, _), (126, _)], [(1, some _), (2, some _), (7, some _), (5, some _), (6, some _), (11, some _)], 12, []⟩) a5 a6 (Nat.le_refl _)) ?_
        refine aw_jn (fun x37 : api_Core × core_under × _root_.List api_Kept × _root_.List api_Happen => (⟨[(4, (.ptr 2 0 [])), (7, (.ptr 7 0 []))], [(2, some (.var (e_api_Core x37.1))), (7, some (.var (.agg (.st [189, 1]) (vupd (vupd (c_core_under x37.2.1) 0 (.agg (.st [1, 1, 1, 17, 3, 8, 8, 1, 3, 8, 8, 1, 128, 1]) (vupd (c_api_Core x37.2.1.Core) 7 (.own 5)))) 1 (.own 6))))), (5, some (.arr 38 x37.2.2.1.length fun j => (e_api_Kept (x37.2.2.1.getD j z_api_Kept)))), (6, some (.arr 50 x37.2.2.2.length fun j => (e_api_Happen (x37.2.2.2.getD j z_api_Happen))))], 16, []⟩ : St)) H (fun x37 H => ?_) (fun j25 H => ?_)
        · refine nx_seq ?_
          refine aw_inl (es := [_]) (fn := Try.f35) (K := 35) [(.tmp 160)] [(.ptr 7 0 [])] [(4, (.ptr 2 0 [])), (7, (.ptr 7 0 []))] (split_at (i := 1) rfl) ⟨Step.plain rfl (does_move (.tmp 7) (.ptr 7 0 []) trivial), m10, rfl, rfl⟩ Try.func35 rfl fo35 rfl ⟨trivial, trivial⟩ a1 (nl rfl) rfl ⟨(.inl ⟨nl rfl, rfl⟩), (.inl ⟨nl rfl, rfl⟩), trivial⟩ (fun gx10 Kp10 hK10 => inl_jn (fun x56 : api_Core × core_under × _root_.List api_Kept × _root_.List api_Happen => (⟨[(4, (.ptr 2 0 [])), (7, (.ptr 7 0 []))], [(2, some (.var (e_api_Core x56.1))), (7, some (.var (.agg (.st [189, 1]) (vupd (vupd (c_core_under x56.2.1) 0 (.agg (.st [1, 1, 1, 17, 3, 8, 8, 1, 3, 8, 8, 1, 128, 1]) (vupd (c_api_Core x56.2.1.Core) 7 (.own 5)))) 1 (.own 6))))), (5, some (.arr 38 x56.2.2.1.length fun j => (e_api_Kept (x56.2.2.1.getD j z_api_Kept)))), (6, some (.arr 50 x56.2.2.2.length fun j => (e_api_Happen (x56.2.2.2.getD j z_api_Happen))))], 18, []⟩ : St)) H (fun x56 H => ?_) (fun j38 H => ?_))
          · refine hK10 _ [] _ rfl ?_
            refine aw_cov (cov_prune (s1 := ⟨[(4, _), (7, _)], [(2, some _), (7, some _), (5, some _), (6, some _)], 18, []⟩) a2 a4 (Nat.le_refl _)) ?_
            refine aw_draw (mixed) (r_mv rfl rfl <| r_nc rfl rfl rfl <| r_fa (.ptr 7 (0 + 0) [0]) fl80_0 rfl rfl rfl rfl <| r_ld (.agg (.st [1, 1, 1, 17, 3, 8, 8, 1, 3, 8, 8, 1, 128, 1]) (vupd (c_api_Core x56.2.1.Core) 7 (.own 5))) rfl rfl ⟨rfl, nl rfl, trivial⟩ rfl rfl ty35 rfl <| r_mv rfl rfl <| r_nc rfl rfl rfl <| r_fa (.ptr 7 (0 + 189) [1]) fl80_1 rfl rfl rfl rfl <| r_ld (.own 6) rfl rfl ⟨rfl, nl rfl, trivial⟩ rfl rfl ty44 rfl <| r_sv rfl rfl rfl rfl rfl rfl ty35 rfl <| r_0 (does_assign (.const (.bool true)) (.bool true) (fun _ => rfl)) rfl rfl <| r_as rfl rfl <| r_e) rfl ?_
            refine aw_cov (cov_prune (s1 := ⟨[(4, _), (5, _), (6, _)], [(2, some _), (5, some _), (6, some _)], 18, []⟩) a3 a3 (Nat.le_refl _)) ?_
            refine aw_ret ?_
            exact fun a w hr => ⟨_, [(.agg (.st [1, 1, 1, 17, 3, 8, 8, 1, 3, 8, 8, 1, 128, 1]) (vupd (c_api_Core ({ x56.2.1.Core with Kept := x56.2.2.1 } : api_Core)) 7 (.own 0))), (.bool true), (.own 1)], reach_of hr (cov_to (s1 := ⟨[(4, (.ptr 2 0 [])), (5, (.bool true)), (6, (.own 1))], [(0, some (.arr 38 x56.2.2.1.length fun j => (e_api_Kept (x56.2.2.1.getD j z_api_Kept)))), (2, some (.var (.agg (.st [1, 1, 1, 17, 3, 8, 8, 1, 3, 8, 8, 1, 128, 1]) (vupd (c_api_Core ({ x56.2.1.Core with Kept := x56.2.2.1 } : api_Core)) 7 (.own 0))))), (1, some (.arr 50 x56.2.2.2.length fun j => (e_api_Happen (x56.2.2.2.getD j z_api_Happen))))], 3, []⟩) (fun i => match i with | 0 => 5 | 2 => 2 | 1 => 6 | k => k) [] ⟨⟨_, rfl, .ptr 2 _ _ _ _ (nl rfl) rfl rfl⟩, ⟨_, rfl, .plain _ (trivial)⟩, ⟨_, rfl, .own 1 _ _ (nl rfl) rfl rfl (Box.like_refl _)⟩, trivial⟩ ⟨⟨nl rfl, _, _, rfl, rfl, boxTo_arr (fun _ => (d_api_Kept _))⟩, ⟨nl rfl, _, _, rfl, rfl, (boxTo_st (.agg _ _ _ (fun j => match j with | 0 => .plain _ (trivial) | 1 => .plain _ (trivial) | 2 => .plain _ (trivial) | 3 => .plain _ ((d_api_Beat _).plain) | 4 => .plain _ ((d_api_Id _).plain) | 5 => .plain _ ((d_a8_u32 _).plain) | 6 => .plain _ ((d_a8_u32 _).plain) | 7 => .own 0 _ _ (nl rfl) rfl rfl (Box.like_refl _) | 8 => .plain _ ((d_api_Id _).plain) | 9 => .plain _ ((d_a8_u32 _).plain) | 10 => .plain _ ((d_a8_u32 _).plain) | 11 => .plain _ (trivial) | 12 => .plain _ ((d_a8_api_Peer _).plain) | 13 => .plain _ (trivial) | _ + 14 => .plain _ trivial)))⟩, ⟨nl rfl, _, _, rfl, rfl, boxTo_arr (fun _ => (d_api_Happen _))⟩, trivial⟩ rfl rfl), ⟨⟨2, rfl, rfl, ty35⟩, rfl, rfl, trivial⟩, by decide, by cases H; rfl, by cases H; exact ⟨rfl, rfl, trivial⟩, nl rfl⟩
          · refine aw_cov (cov_prune (s1 := ⟨[(0, _)], [(2, some _), (7, some _), (5, some _), (6, some _)], 16, [(4, (.ptr 2 0 [])), (7, (.ptr 7 0 []))]⟩) a1 a4 (Nat.le_refl _) (hgh := a2)) ?_
            refine aw_seq ?_
            obtain ⟨v39, h40, H⟩ := bnd H
            refine aw_region (r_mv rfl rfl <| r_nc rfl rfl rfl <| r_fa (.ptr 7 (0 + 0) [0]) fl80_0 rfl rfl rfl rfl <| r_ld (.agg (.st [1, 1, 1, 17, 3, 8, 8, 1, 3, 8, 8, 1, 128, 1]) (vupd (c_api_Core x37.2.1.Core) 7 (.own 5))) rfl rfl ⟨rfl, nl rfl, trivial⟩ rfl rfl ty35 rfl <| r_ca [_] [_] (nob := [(5, (.arr 38 x37.2.2.1.length fun j => (e_api_Kept (x37.2.2.1.getD j z_api_Kept))))]) (flat := true) (core_Gathers_spec _ _ h40) rfl rfl m11 fo17 ⟨trivial, trivial⟩ ⟨.agg _ _ _ (fun j => match j with | 0 => .data (.int .i64 (({ x37.2.1.Core with Kept := x37.2.2.1 } : api_Core).Self)) trivial | 1 => .data (.int .i64 (({ x37.2.1.Core with Kept := x37.2.2.1 } : api_Core).Wait)) trivial | 2 => .data (.int .u32 (({ x37.2.1.Core with Kept := x37.2.2.1 } : api_Core).Own)) trivial | 3 => .data (e_api_Beat (({ x37.2.1.Core with Kept := x37.2.2.1 } : api_Core).Beat)) (d_api_Beat _) | 4 => .data (e_api_Id (({ x37.2.1.Core with Kept := x37.2.2.1 } : api_Core).Conf)) (d_api_Id _) | 5 => .data (e_a8_u32 (({ x37.2.1.Core with Kept := x37.2.2.1 } : api_Core).Members)) (d_a8_u32 _) | 6 => .data (e_a8_u32 (({ x37.2.1.Core with Kept := x37.2.2.1 } : api_Core).Count)) (d_a8_u32 _) | 7 => .own 5 _ _ _ (.head _) rfl (fun _ => (d_api_Kept _)) | 8 => .data (e_api_Id (({ x37.2.1.Core with Kept := x37.2.2.1 } : api_Core).Promise)) (d_api_Id _) | 9 => .data (e_a8_u32 (({ x37.2.1.Core with Kept := x37.2.2.1 } : api_Core).Wanted)) (d_a8_u32 _) | 10 => .data (e_a8_u32 (({ x37.2.1.Core with Kept := x37.2.2.1 } : api_Core).Cut)) (d_a8_u32 _) | 11 => .data (.bool (({ x37.2.1.Core with Kept := x37.2.2.1 } : api_Core).Ready)) trivial | 12 => .data (e_a8_api_Peer (({ x37.2.1.Core with Kept := x37.2.2.1 } : api_Core).Peers)) (d_a8_api_Peer _) | 13 => .data (.int .u32 (({ x37.2.1.Core with Kept := x37.2.2.1 } : api_Core).Epoch)) trivial | _ + 14 => .data (.bool false) trivial), trivial⟩ trivial rfl <| r_p (does_not 4 (.tmp 6) v39 trivial) m10 rfl <| r_e) ?_
            refine aw_cov (cov_prune (s1 := ⟨[(0, _), (7, _)], [(2, some _), (7, some _), (5, some _), (6, some _)], 16, [(4, (.ptr 2 0 [])), (7, (.ptr 7 0 []))]⟩) a2 a4 (Nat.le_refl _) (hgh := a2)) ?_
            refine aw_cond rfl (fun hc => ?_) (fun hc => ?_)
            · replace H := ite_t hc H
              refine aw_ret ?_
              refine rt_then ?_
              exact inl_ret (x37.1, x37.2.1, x37.2.2.1, x37.2.2.2) H [] trivial (by decide) (cov_to (fun i => match i with | 2 => 2 | 7 => 7 | 5 => 5 | 6 => 6 | k => k) [] ⟨⟨_, rfl, .ptr 2 _ _ _ _ (nl rfl) rfl rfl⟩, ⟨_, rfl, .ptr 7 _ _ _ _ (nl rfl) rfl rfl⟩, trivial⟩ ⟨⟨nl rfl, _, _, rfl, rfl, boxTo_var ((d_api_Core _).plain)⟩, ⟨nl rfl, _, _, rfl, rfl, (boxTo_st (.agg _ _ _ (fun j => match j with | 0 => .agg _ _ _ (fun j => match j with | 0 => .plain _ (trivial) | 1 => .plain _ (trivial) | 2 => .plain _ (trivial) | 3 => .plain _ ((d_api_Beat _).plain) | 4 => .plain _ ((d_api_Id _).plain) | 5 => .plain _ ((d_a8_u32 _).plain) | 6 => .plain _ ((d_a8_u32 _).plain) | 7 => .own 5 _ _ (nl rfl) rfl rfl (Box.like_refl _) | 8 => .plain _ ((d_api_Id _).plain) | 9 => .plain _ ((d_a8_u32 _).plain) | 10 => .plain _ ((d_a8_u32 _).plain) | 11 => .plain _ (trivial) | 12 => .plain _ ((d_a8_api_Peer _).plain) | 13 => .plain _ (trivial) | _ + 14 => .plain _ trivial) | 1 => .own 6 _ _ (nl rfl) rfl rfl (Box.like_refl _) | _ + 2 => .plain _ trivial)))⟩, ⟨nl rfl, _, _, rfl, rfl, boxTo_arr (fun _ => (d_api_Kept _))⟩, ⟨nl rfl, _, _, rfl, rfl, boxTo_arr (fun _ => (d_api_Happen _))⟩, trivial⟩ rfl rfl)
            · replace H := ite_f hc H
              refine aw_skip ?_
              refine nx_seq ?_
              refine aw_seq ?_
              obtain ⟨v41, h42, H⟩ := whn_of H
              obtain ⟨v43, h44, H⟩ := whn_of H
              obtain ⟨v45, h46, H⟩ := whn_of H
              refine aw_draw (mixed) (r_mv rfl rfl <| r_nc rfl rfl rfl <| r_fa (.ptr 7 (0 + 0) [0]) fl80_0 rfl rfl rfl rfl <| r_fa (.ptr 7 ((0 + 0) + 59) [0, 11]) fl35_11 rfl rfl rfl rfl <| r_ld (.bool x37.2.1.Core.Ready) rfl rfl ⟨rfl, nl rfl, ⟨rfl, nl rfl, trivial⟩⟩ rfl rfl ty4 rfl <| r_p (does_not 4 (.tmp 12) x37.2.1.Core.Ready trivial) m10 rfl <| r_mv rfl rfl <| r_gmv rfl rfl rfl rfl rfl rfl <| r_g [(15, _)] [(15, _)] [(7, _)] rfl rfl m21 rfl (fun hc => ⟨(.opt _ _ hc), trivial⟩) (fun hc => does_nilCheck 15 7 0 [] (.var (.agg (.st [189, 1]) (vupd (vupd (c_core_under x37.2.1) 0 (.agg (.st [1, 1, 1, 17, 3, 8, 8, 1, 3, 8, 8, 1, 128, 1]) (vupd (c_api_Core x37.2.1.Core) 7 (.own 5)))) 1 (.own 6))))) rfl <| r_gfa (.ptr 7 (0 + 0) [0]) fl80_0 rfl rfl rfl rfl rfl (fun hc => .opt _ _ hc) rfl rfl rfl <| r_gld (.agg (.st [1, 1, 1, 17, 3, 8, 8, 1, 3, 8, 8, 1, 128, 1]) (vupd (c_api_Core x37.2.1.Core) 7 (.own 5))) rfl rfl rfl rfl rfl (fun hc => .opt _ _ hc) rfl (fun hc => ⟨rfl, nl rfl, trivial⟩) rfl rfl ty35 rfl <| r_gp (Step.guarded rfl rfl rfl rfl (fun hc => Does.strip (n' := [(18, (.opt (!x37.2.1.Core.Ready) (.agg (.st [1, 1, 1, 17, 3, 8, 8, 1, 3, 8, 8, 1, 128, 1]) (vupd (c_api_Core x37.2.1.Core) 7 (.own 5)))))]) (n := [(18, (.agg (.st [1, 1, 1, 17, 3, 8, 8, 1, 3, 8, 8, 1, 128, 1]) (vupd (c_api_Core x37.2.1.Core) 7 (.own 5))))]) ⟨(.opt _ _ hc), trivial⟩ (does_call 71 0 (fun _ => .any) (.func 71) [(.tmp 18)] [(.agg (.st [1, 1, 1, 17, 3, 8, 8, 1, 3, 8, 8, 1, 128, 1]) (vupd (c_api_Core x37.2.1.Core) 7 (.own 5)))] [(5, (.arr 38 x37.2.2.1.length fun j => (e_api_Kept (x37.2.2.1.getD j z_api_Kept))))] true [(e_api_Core ({ x37.2.1.Core with Kept := x37.2.2.1 } : api_Core))] (.bool v41) _ _ rfl fo71 rfl ⟨trivial, trivial⟩ ⟨.agg _ _ _ (fun j => match j with | 0 => .data (.int .i64 (({ x37.2.1.Core with Kept := x37.2.2.1 } : api_Core).Self)) trivial | 1 => .data (.int .i64 (({ x37.2.1.Core with Kept := x37.2.2.1 } : api_Core).Wait)) trivial | 2 => .data (.int .u32 (({ x37.2.1.Core with Kept := x37.2.2.1 } : api_Core).Own)) trivial | 3 => .data (e_api_Beat (({ x37.2.1.Core with Kept := x37.2.2.1 } : api_Core).Beat)) (d_api_Beat _) | 4 => .data (e_api_Id (({ x37.2.1.Core with Kept := x37.2.2.1 } : api_Core).Conf)) (d_api_Id _) | 5 => .data (e_a8_u32 (({ x37.2.1.Core with Kept := x37.2.2.1 } : api_Core).Members)) (d_a8_u32 _) | 6 => .data (e_a8_u32 (({ x37.2.1.Core with Kept := x37.2.2.1 } : api_Core).Count)) (d_a8_u32 _) | 7 => .own 5 _ _ _ (.head _) rfl (fun _ => (d_api_Kept _)) | 8 => .data (e_api_Id (({ x37.2.1.Core with Kept := x37.2.2.1 } : api_Core).Promise)) (d_api_Id _) | 9 => .data (e_a8_u32 (({ x37.2.1.Core with Kept := x37.2.2.1 } : api_Core).Wanted)) (d_a8_u32 _) | 10 => .data (e_a8_u32 (({ x37.2.1.Core with Kept := x37.2.2.1 } : api_Core).Cut)) (d_a8_u32 _) | 11 => .data (.bool (({ x37.2.1.Core with Kept := x37.2.2.1 } : api_Core).Ready)) trivial | 12 => .data (e_a8_api_Peer (({ x37.2.1.Core with Kept := x37.2.2.1 } : api_Core).Peers)) (d_a8_api_Peer _) | 13 => .data (.int .u32 (({ x37.2.1.Core with Kept := x37.2.2.1 } : api_Core).Epoch)) trivial | _ + 14 => .data (.bool false) trivial), trivial⟩ (gather_All_spec ({ x37.2.1.Core with Kept := x37.2.2.1 } : api_Core) _ (h42 hc)) trivial))) m21 rfl <| r_p (does_and 14 19 (!x37.2.1.Core.Ready) v41) m20 rfl <| r_mv rfl rfl <| r_gmv rfl rfl rfl rfl rfl rfl <| r_g [(22, _)] [(22, _)] [(7, _)] rfl rfl m21 rfl (fun hc => ⟨(.opt _ _ hc), trivial⟩) (fun hc => does_nilCheck 22 7 0 [] (.var (.agg (.st [189, 1]) (vupd (vupd (c_core_under x37.2.1) 0 (.agg (.st [1, 1, 1, 17, 3, 8, 8, 1, 3, 8, 8, 1, 128, 1]) (vupd (c_api_Core x37.2.1.Core) 7 (.own 5)))) 1 (.own 6))))) rfl <| r_gfa (.ptr 7 (0 + 0) [0]) fl80_0 rfl rfl rfl rfl rfl (fun hc => .opt _ _ hc) rfl rfl rfl <| r_gld (.agg (.st [1, 1, 1, 17, 3, 8, 8, 1, 3, 8, 8, 1, 128, 1]) (vupd (c_api_Core x37.2.1.Core) 7 (.own 5))) rfl rfl rfl rfl rfl (fun hc => .opt _ _ hc) rfl (fun hc => ⟨rfl, nl rfl, trivial⟩) rfl rfl ty35 rfl <| r_gp (Step.guarded rfl rfl rfl rfl (fun hc => Does.strip (n' := [(25, (.opt ((!x37.2.1.Core.Ready) && v41) (.agg (.st [1, 1, 1, 17, 3, 8, 8, 1, 3, 8, 8, 1, 128, 1]) (vupd (c_api_Core x37.2.1.Core) 7 (.own 5)))))]) (n := [(25, (.agg (.st [1, 1, 1, 17, 3, 8, 8, 1, 3, 8, 8, 1, 128, 1]) (vupd (c_api_Core x37.2.1.Core) 7 (.own 5))))]) ⟨(.opt _ _ hc), trivial⟩ (does_call 73 0 (fun _ => .any) (.func 73) [(.tmp 25)] [(.agg (.st [1, 1, 1, 17, 3, 8, 8, 1, 3, 8, 8, 1, 128, 1]) (vupd (c_api_Core x37.2.1.Core) 7 (.own 5)))] [(5, (.arr 38 x37.2.2.1.length fun j => (e_api_Kept (x37.2.2.1.getD j z_api_Kept))))] true [(e_api_Core ({ x37.2.1.Core with Kept := x37.2.2.1 } : api_Core))] (e_a8_u32 v43) _ _ rfl fo73 rfl ⟨trivial, trivial⟩ ⟨.agg _ _ _ (fun j => match j with | 0 => .data (.int .i64 (({ x37.2.1.Core with Kept := x37.2.2.1 } : api_Core).Self)) trivial | 1 => .data (.int .i64 (({ x37.2.1.Core with Kept := x37.2.2.1 } : api_Core).Wait)) trivial | 2 => .data (.int .u32 (({ x37.2.1.Core with Kept := x37.2.2.1 } : api_Core).Own)) trivial | 3 => .data (e_api_Beat (({ x37.2.1.Core with Kept := x37.2.2.1 } : api_Core).Beat)) (d_api_Beat _) | 4 => .data (e_api_Id (({ x37.2.1.Core with Kept := x37.2.2.1 } : api_Core).Conf)) (d_api_Id _) | 5 => .data (e_a8_u32 (({ x37.2.1.Core with Kept := x37.2.2.1 } : api_Core).Members)) (d_a8_u32 _) | 6 => .data (e_a8_u32 (({ x37.2.1.Core with Kept := x37.2.2.1 } : api_Core).Count)) (d_a8_u32 _) | 7 => .own 5 _ _ _ (.head _) rfl (fun _ => (d_api_Kept _)) | 8 => .data (e_api_Id (({ x37.2.1.Core with Kept := x37.2.2.1 } : api_Core).Promise)) (d_api_Id _) | 9 => .data (e_a8_u32 (({ x37.2.1.Core with Kept := x37.2.2.1 } : api_Core).Wanted)) (d_a8_u32 _) | 10 => .data (e_a8_u32 (({ x37.2.1.Core with Kept := x37.2.2.1 } : api_Core).Cut)) (d_a8_u32 _) | 11 => .data (.bool (({ x37.2.1.Core with Kept := x37.2.2.1 } : api_Core).Ready)) trivial | 12 => .data (e_a8_api_Peer (({ x37.2.1.Core with Kept := x37.2.2.1 } : api_Core).Peers)) (d_a8_api_Peer _) | 13 => .data (.int .u32 (({ x37.2.1.Core with Kept := x37.2.2.1 } : api_Core).Epoch)) trivial | _ + 14 => .data (.bool false) trivial), trivial⟩ (gather_Target_spec ({ x37.2.1.Core with Kept := x37.2.2.1 } : api_Core) _ (h44 hc)) (f_a8_u32 v43)))) m21 rfl <| r_gmv rfl rfl rfl rfl rfl rfl <| r_g [(27, _)] [(27, _)] [(7, _)] rfl rfl m21 rfl (fun hc => ⟨(.opt _ _ hc), trivial⟩) (fun hc => does_nilCheck 27 7 0 [] (.var (.agg (.st [189, 1]) (vupd (vupd (c_core_under x37.2.1) 0 (.agg (.st [1, 1, 1, 17, 3, 8, 8, 1, 3, 8, 8, 1, 128, 1]) (vupd (c_api_Core x37.2.1.Core) 7 (.own 5)))) 1 (.own 6))))) rfl <| r_gfa (.ptr 7 (0 + 0) [0]) fl80_0 rfl rfl rfl rfl rfl (fun hc => .opt _ _ hc) rfl rfl rfl <| r_gfa (.ptr 7 ((0 + 0) + 31) [0, 6]) fl35_6 rfl rfl rfl rfl rfl (fun hc => .opt _ _ hc) rfl rfl rfl <| r_gld (e_a8_u32 x37.2.1.Core.Count) rfl rfl rfl rfl rfl (fun hc => .opt _ _ hc) rfl (fun hc => ⟨rfl, nl rfl, ⟨rfl, nl rfl, trivial⟩⟩) rfl rfl ty29 rfl <| r_g [(26, _), (31, _)] [(26, _), (31, _)] [] rfl rfl m30 rfl (fun hc => ⟨(.opt _ _ hc), (.opt _ _ hc), trivial⟩) (fun hc => does_call 72 0 (fun _ => .any) (.func 72) [(.tmp 26), (.tmp 31)] [(e_a8_u32 v43), (e_a8_u32 x37.2.1.Core.Count)] [] true [(e_a8_u32 v43), (e_a8_u32 x37.2.1.Core.Count)] (.bool v45) _ _ rfl fo72 rfl ⟨trivial, trivial, trivial⟩ ⟨.data _ (d_a8_u32 v43), .data _ (d_a8_u32 x37.2.1.Core.Count), trivial⟩ (cut_Within_spec v43 x37.2.1.Core.Count _ (h46 hc)) trivial) rfl <| r_p (does_and 21 32 ((!x37.2.1.Core.Ready) && v41) v45) m20 rfl <| r_e) rfl ?_
              refine aw_cov (cov_prune (s1 := ⟨[(0, _), (33, _)], [(2, some _), (7, some _), (5, some _), (6, some _)], 16, [(4, (.ptr 2 0 [])), (7, (.ptr 7 0 []))]⟩) a2 a4 (Nat.le_refl _) (hgh := a2)) ?_
              refine aw_jn (fun x48 : core_under => (⟨[(0, (.ptr 7 0 []))], [(2, some (.var (e_api_Core x37.1))), (7, some (.var (.agg (.st [189, 1]) (vupd (vupd (c_core_under x48) 0 (.agg (.st [1, 1, 1, 17, 3, 8, 8, 1, 3, 8, 8, 1, 128, 1]) (vupd (c_api_Core x48.Core) 7 (.own 5)))) 1 (.own 6))))), (5, some (.arr 38 x37.2.2.1.length fun j => (e_api_Kept (x37.2.2.1.getD j z_api_Kept)))), (6, some (.arr 50 x37.2.2.2.length fun j => (e_api_Happen (x37.2.2.2.getD j z_api_Happen))))], 16, [(4, (.ptr 2 0 [])), (7, (.ptr 7 0 []))]⟩ : St)) H (fun x48 H => ?_) (fun j47 H => ?_)
              · refine nx_seq ?_
                obtain ⟨v49, h50, H⟩ := whn_of H
                refine aw_region (r_mv rfl rfl <| r_nc rfl rfl rfl <| r_fa (.ptr 7 (0 + 0) [0]) fl80_0 rfl rfl rfl rfl <| r_fa (.ptr 7 ((0 + 0) + 59) [0, 11]) fl35_11 rfl rfl rfl rfl <| r_ld (.bool x48.Core.Ready) rfl rfl ⟨rfl, nl rfl, ⟨rfl, nl rfl, trivial⟩⟩ rfl rfl ty4 rfl <| r_mv rfl rfl <| r_gmv rfl rfl rfl rfl rfl rfl <| r_g [(44, _)] [(44, _)] [(7, _)] rfl rfl m21 rfl (fun hc => ⟨(.opt _ _ hc), trivial⟩) (fun hc => does_nilCheck 44 7 0 [] (.var (.agg (.st [189, 1]) (vupd (vupd (c_core_under x48) 0 (.agg (.st [1, 1, 1, 17, 3, 8, 8, 1, 3, 8, 8, 1, 128, 1]) (vupd (c_api_Core x48.Core) 7 (.own 5)))) 1 (.own 6))))) rfl <| r_gfa (.ptr 7 (0 + 0) [0]) fl80_0 rfl rfl rfl rfl rfl (fun hc => .opt _ _ hc) rfl rfl rfl <| r_gld (.agg (.st [1, 1, 1, 17, 3, 8, 8, 1, 3, 8, 8, 1, 128, 1]) (vupd (c_api_Core x48.Core) 7 (.own 5))) rfl rfl rfl rfl rfl (fun hc => .opt _ _ hc) rfl (fun hc => ⟨rfl, nl rfl, trivial⟩) rfl rfl ty35 rfl <| r_gp (Step.guarded rfl rfl rfl rfl (fun hc => Does.strip (n' := [(47, (.opt x48.Core.Ready (.agg (.st [1, 1, 1, 17, 3, 8, 8, 1, 3, 8, 8, 1, 128, 1]) (vupd (c_api_Core x48.Core) 7 (.own 5)))))]) (n := [(47, (.agg (.st [1, 1, 1, 17, 3, 8, 8, 1, 3, 8, 8, 1, 128, 1]) (vupd (c_api_Core x48.Core) 7 (.own 5))))]) ⟨(.opt _ _ hc), trivial⟩ (does_call 74 0 (fun _ => .any) (.func 74) [(.tmp 47)] [(.agg (.st [1, 1, 1, 17, 3, 8, 8, 1, 3, 8, 8, 1, 128, 1]) (vupd (c_api_Core x48.Core) 7 (.own 5)))] [(5, (.arr 38 x37.2.2.1.length fun j => (e_api_Kept (x37.2.2.1.getD j z_api_Kept))))] true [(e_api_Core ({ x48.Core with Kept := x37.2.2.1 } : api_Core))] (.bool v49) _ _ rfl fo74 rfl ⟨trivial, trivial⟩ ⟨.agg _ _ _ (fun j => match j with | 0 => .data (.int .i64 (({ x48.Core with Kept := x37.2.2.1 } : api_Core).Self)) trivial | 1 => .data (.int .i64 (({ x48.Core with Kept := x37.2.2.1 } : api_Core).Wait)) trivial | 2 => .data (.int .u32 (({ x48.Core with Kept := x37.2.2.1 } : api_Core).Own)) trivial | 3 => .data (e_api_Beat (({ x48.Core with Kept := x37.2.2.1 } : api_Core).Beat)) (d_api_Beat _) | 4 => .data (e_api_Id (({ x48.Core with Kept := x37.2.2.1 } : api_Core).Conf)) (d_api_Id _) | 5 => .data (e_a8_u32 (({ x48.Core with Kept := x37.2.2.1 } : api_Core).Members)) (d_a8_u32 _) | 6 => .data (e_a8_u32 (({ x48.Core with Kept := x37.2.2.1 } : api_Core).Count)) (d_a8_u32 _) | 7 => .own 5 _ _ _ (.head _) rfl (fun _ => (d_api_Kept _)) | 8 => .data (e_api_Id (({ x48.Core with Kept := x37.2.2.1 } : api_Core).Promise)) (d_api_Id _) | 9 => .data (e_a8_u32 (({ x48.Core with Kept := x37.2.2.1 } : api_Core).Wanted)) (d_a8_u32 _) | 10 => .data (e_a8_u32 (({ x48.Core with Kept := x37.2.2.1 } : api_Core).Cut)) (d_a8_u32 _) | 11 => .data (.bool (({ x48.Core with Kept := x37.2.2.1 } : api_Core).Ready)) trivial | 12 => .data (e_a8_api_Peer (({ x48.Core with Kept := x37.2.2.1 } : api_Core).Peers)) (d_a8_api_Peer _) | 13 => .data (.int .u32 (({ x48.Core with Kept := x37.2.2.1 } : api_Core).Epoch)) trivial | _ + 14 => .data (.bool false) trivial), trivial⟩ (gather_Done_spec ({ x48.Core with Kept := x37.2.2.1 } : api_Core) _ (h50 hc)) trivial))) m21 rfl <| r_p (does_and 43 48 x48.Core.Ready v49) m20 rfl <| r_e) ?_
                refine aw_cov (cov_prune (s1 := ⟨[(0, _), (49, _)], [(2, some _), (7, some _), (5, some _), (6, some _)], 16, [(4, (.ptr 2 0 [])), (7, (.ptr 7 0 []))]⟩) a2 a4 (Nat.le_refl _) (hgh := a2)) ?_
                refine aw_cond rfl (fun hc => ?_) (fun hc => ?_)
                · replace H := ite_t hc H
                  refine aw_inl1 (es := [_]) (fn := Try.f75) (K := 75) [(.tmp 50)] [(.ptr 7 0 [])] [(56, (.ptr 2 0 [])), (59, (.ptr 7 0 []))] (split_at (i := 1) rfl) ⟨Step.plain rfl (does_move (.tmp 0) (.ptr 7 0 []) trivial), m10, rfl, rfl⟩ Try.func75 rfl fo75 rfl ⟨trivial, trivial⟩ a1 (nl rfl) rfl ⟨(.inr ⟨nl rfl, rfl⟩), (.inr ⟨nl rfl, rfl⟩), trivial⟩ (fun gx12 Kp12 hK12 => inl_jn (fun x55 : api_Core × core_under × _root_.List api_Kept × _root_.List api_Happen => (⟨[], [(2, some (.var (e_api_Core x55.1))), (7, some (.var (.agg (.st [189, 1]) (vupd (vupd (c_core_under x55.2.1) 0 (.agg (.st [1, 1, 1, 17, 3, 8, 8, 1, 3, 8, 8, 1, 128, 1]) (vupd (c_api_Core x55.2.1.Core) 7 (.own 17)))) 1 (.own 16))))), (17, some (.arr 38 x55.2.2.1.length fun j => (e_api_Kept (x55.2.2.1.getD j z_api_Kept)))), (16, some (.arr 50 x55.2.2.2.length fun j => (e_api_Happen (x55.2.2.2.getD j z_api_Happen))))], 18, [(4, (.ptr 2 0 [])), (7, (.ptr 7 0 []))]⟩ : St)) H (fun x55 H => ?_) (fun j51 H => ?_))
                  · refine hK12 _ [] _ rfl ?_
                    exact inl_nx (x55.1, x55.2.1, x55.2.2.1, x55.2.2.2) H [] trivial (by decide) (cov_to (fun i => match i with | 2 => 2 | 7 => 7 | 5 => 17 | 6 => 16 | k => k) [] ⟨⟨_, rfl, .ptr 2 _ _ _ _ (nl rfl) rfl rfl⟩, ⟨_, rfl, .ptr 7 _ _ _ _ (nl rfl) rfl rfl⟩, trivial⟩ ⟨⟨nl rfl, _, _, rfl, rfl, boxTo_var ((d_api_Core _).plain)⟩, ⟨nl rfl, _, _, rfl, rfl, (boxTo_st (.agg _ _ _ (fun j => match j with | 0 => .agg _ _ _ (fun j => match j with | 0 => .plain _ (trivial) | 1 => .plain _ (trivial) | 2 => .plain _ (trivial) | 3 => .plain _ ((d_api_Beat _).plain) | 4 => .plain _ ((d_api_Id _).plain) | 5 => .plain _ ((d_a8_u32 _).plain) | 6 => .plain _ ((d_a8_u32 _).plain) | 7 => .own 5 _ _ (nl rfl) rfl rfl (Box.like_refl _) | 8 => .plain _ ((d_api_Id _).plain) | 9 => .plain _ ((d_a8_u32 _).plain) | 10 => .plain _ ((d_a8_u32 _).plain) | 11 => .plain _ (trivial) | 12 => .plain _ ((d_a8_api_Peer _).plain) | 13 => .plain _ (trivial) | _ + 14 => .plain _ trivial) | 1 => .own 6 _ _ (nl rfl) rfl rfl (Box.like_refl _) | _ + 2 => .plain _ trivial)))⟩, ⟨nl rfl, _, _, rfl, rfl, boxTo_arr (fun _ => (d_api_Kept _))⟩, ⟨nl rfl, _, _, rfl, rfl, boxTo_arr (fun _ => (d_api_Happen _))⟩, trivial⟩ rfl rfl)
                  · refine aw_cov (cov_prune (s1 := ⟨[(0, _)], [(2, some _), (7, some _), (5, some _), (6, some _)], 16, [(56, (.ptr 2 0 [])), (59, (.ptr 7 0 []))]⟩) a1 a4 (Nat.le_refl _) (hgh := a2)) ?_
                    obtain ⟨h52, H⟩ := fit_of H
                    refine aw_draw (mixed) (r_mv rfl rfl <| r_mv rfl rfl <| r_nc rfl rfl rfl <| r_fa (.ptr 7 (0 + 189) [1]) fl80_1 rfl rfl rfl rfl <| r_ld (.own 6) rfl rfl ⟨rfl, nl rfl, trivial⟩ rfl rfl ty44 rfl <| r_mv rfl rfl <| r_nc rfl rfl rfl <| r_fa (.ptr 7 (0 + 0) [0]) fl80_0 rfl rfl rfl rfl <| r_fa (.ptr 7 ((0 + 0) + 40) [0, 8]) fl35_8 rfl rfl rfl rfl <| r_ld (e_api_Id x48.Core.Promise) rfl rfl ⟨rfl, nl rfl, ⟨rfl, nl rfl, trivial⟩⟩ rfl rfl ty27 rfl <| r_mv rfl rfl <| r_nc rfl rfl rfl <| r_fa (.ptr 7 (0 + 0) [0]) fl80_0 rfl rfl rfl rfl <| r_fa (.ptr 7 ((0 + 0) + 43) [0, 9]) fl35_9 rfl rfl rfl rfl <| r_ld (e_a8_u32 x48.Core.Wanted) rfl rfl ⟨rfl, nl rfl, ⟨rfl, nl rfl, trivial⟩⟩ rfl rfl ty28 rfl <| r_p (does_buildT 66 #[(0, (.const (.bool true))), (2, (.tmp 11)), (3, (.tmp 16))] [(0, (.const (.bool true))), (2, (.tmp 11)), (3, (.tmp 16))] [(0, (.bool true)), (2, (e_api_Id x48.Core.Promise)), (3, (e_a8_u32 x48.Core.Wanted))] (.st [1, 38, 3, 8]) (c_api_Happen z_api_Happen) (c_api_Happen ({ View := true, Kept := z_api_Kept, Conf := x48.Core.Promise, Members := x48.Core.Wanted } : api_Happen)) rfl bo66 ⟨⟨rfl, (fun _ => rfl)⟩, a1, a1, trivial⟩ ⟨⟨nl rfl, rfl, rfl⟩, ⟨nl rfl, rfl, rfl⟩, ⟨nl rfl, rfl, rfl⟩, trivial⟩ (fe4 rfl rfl rfl rfl (fun _ => rfl))) m20 rfl <| r_p (does_buildSl 44 1 50 (e_api_Happen z_api_Happen) (fun j => (e_api_Happen (([({ View := true, Kept := z_api_Kept, Conf := x48.Core.Promise, Members := x48.Core.Wanted } : api_Happen)] : _root_.List api_Happen).getD j z_api_Happen))) #[(0, (.tmp 17))] [(0, (.tmp 17))] [(0, (e_api_Happen ({ View := true, Kept := z_api_Kept, Conf := x48.Core.Promise, Members := x48.Core.Wanted } : api_Happen)))] rfl so44 (by decide) ⟨a1, trivial⟩ ⟨⟨nl rfl, rfl, rfl⟩, trivial⟩ (fun j h => match j, h with | 0, _ => rfl | k + 1, h => (nlt h).elim)) m10 rfl <| r_p (does_appendL e_api_Happen z_api_Happen x37.2.2.2 ([({ View := true, Kept := z_api_Kept, Conf := x48.Core.Promise, Members := x48.Core.Wanted } : api_Happen)] : _root_.List api_Happen) 44 50 408 6 16 6 18 ap44 h52) m21 rfl <| r_nc rfl rfl rfl <| r_fa (.ptr 7 (0 + 189) [1]) fl80_1 rfl rfl rfl rfl <| r_p (does_storeO 44 21 (.tmp 19) 7 (0 + 189) [1] (.var (.agg (.st [189, 1]) (vupd (vupd (c_core_under x48) 0 (.agg (.st [1, 1, 1, 17, 3, 8, 8, 1, 3, 8, 8, 1, 128, 1]) (vupd (c_api_Core x48.Core) 7 (.own 5)))) 1 (.own 6)))) (.var (.agg (.st [189, 1]) (vupd (vupd (c_core_under x48) 0 (.agg (.st [1, 1, 1, 17, 3, 8, 8, 1, 3, 8, 8, 1, 128, 1]) (vupd (c_api_Core x48.Core) 7 (.own 5)))) 1 (.own 16)))) 16 50 (x37.2.2.2 ++ ([({ View := true, Kept := z_api_Kept, Conf := x48.Core.Promise, Members := x48.Core.Wanted } : api_Happen)] : _root_.List api_Happen)).length (fun j => (e_api_Happen ((x37.2.2.2 ++ ([({ View := true, Kept := z_api_Kept, Conf := x48.Core.Promise, Members := x48.Core.Wanted } : api_Happen)] : _root_.List api_Happen)).getD j z_api_Happen))) (.own 16) rfl false trivial ⟨rfl, nl rfl, trivial⟩ rfl rfl (congrArg Box.var (set_cons (w := (.own 16)) rfl (fe2 rfl rfl (fun _ => rfl)))) ty44) ⟨a2, a2, rfl⟩ rfl <| r_e) rfl ?_
                    obtain ⟨v53, hv53, H⟩ := lt_of H
                    refine aw_cov (cov_prune (s1 := ⟨[(0, _)], [(2, some _), (7, some _), (5, some _), (16, some (.arr 50 v53.length fun j => (e_api_Happen (v53.getD j z_api_Happen))))], 17, [(56, (.ptr 2 0 [])), (59, (.ptr 7 0 []))]⟩) a1 ⟨rfl, rfl, rfl, (by subst hv53; rfl), trivial⟩ (Nat.le_refl _) (hgh := a2)) ?_
                    refine aw_draw (mixed) (r_mv rfl rfl <| r_mv rfl rfl <| r_mv rfl rfl <| r_mv rfl rfl <| r_nc rfl rfl rfl <| r_fa (.ptr 7 (0 + 0) [0]) fl80_0 rfl rfl rfl rfl <| r_fa (.ptr 7 ((0 + 0) + 40) [0, 8]) fl35_8 rfl rfl rfl rfl <| r_ld (e_api_Id x48.Core.Promise) rfl rfl ⟨rfl, nl rfl, ⟨rfl, nl rfl, trivial⟩⟩ rfl rfl ty27 rfl <| r_mv rfl rfl <| r_nc rfl rfl rfl <| r_fa (.ptr 7 (0 + 0) [0]) fl80_0 rfl rfl rfl rfl <| r_fa (.ptr 7 ((0 + 0) + 43) [0, 9]) fl35_9 rfl rfl rfl rfl <| r_ld (e_a8_u32 x48.Core.Wanted) rfl rfl ⟨rfl, nl rfl, ⟨rfl, nl rfl, trivial⟩⟩ rfl rfl ty28 rfl <| r_nc rfl rfl rfl <| r_fa (.ptr 7 (0 + 0) [0]) fl80_0 rfl rfl rfl rfl <| r_fa (.ptr 7 ((0 + 0) + 20) [0, 4]) fl35_4 rfl rfl rfl rfl <| r_st (.var (.agg (.st [189, 1]) (vupd (vupd (c_core_under ({ x48 with Core := { x48.Core with Conf := x48.Core.Promise } })) 0 (.agg (.st [1, 1, 1, 17, 3, 8, 8, 1, 3, 8, 8, 1, 128, 1]) (vupd (c_api_Core (({ x48 with Core := { x48.Core with Conf := x48.Core.Promise } }).Core)) 7 (.own 5)))) 1 (.own 16)))) rfl rfl ⟨rfl, trivial⟩ trivial rfl ⟨rfl, nl rfl, ⟨rfl, nl rfl, trivial⟩⟩ rfl rfl (congrArg Box.var (set_cons (w := (.agg (.st [1, 1, 1, 17, 3, 8, 8, 1, 3, 8, 8, 1, 128, 1]) (vupd (c_api_Core (({ x48 with Core := { x48.Core with Conf := x48.Core.Promise } }).Core)) 7 (.own 5)))) (set_cons (w := (e_api_Id ((({ x48 with Core := { x48.Core with Conf := x48.Core.Promise } }).Core).Conf))) rfl (fe14 rfl rfl rfl rfl rfl rfl rfl rfl rfl rfl rfl rfl rfl rfl (fun _ => rfl))) (fe2 rfl rfl (fun _ => rfl)))) ty27 rfl <| r_nc rfl rfl rfl <| r_fa (.ptr 7 (0 + 0) [0]) fl80_0 rfl rfl rfl rfl <| r_fa (.ptr 7 ((0 + 0) + 23) [0, 5]) fl35_5 rfl rfl rfl rfl <| r_st (.var (.agg (.st [189, 1]) (vupd (vupd (c_core_under ({ { x48 with Core := { x48.Core with Conf := x48.Core.Promise } } with Core := { ({ x48 with Core := { x48.Core with Conf := x48.Core.Promise } }).Core with Members := x48.Core.Wanted } })) 0 (.agg (.st [1, 1, 1, 17, 3, 8, 8, 1, 3, 8, 8, 1, 128, 1]) (vupd (c_api_Core (({ { x48 with Core := { x48.Core with Conf := x48.Core.Promise } } with Core := { ({ x48 with Core := { x48.Core with Conf := x48.Core.Promise } }).Core with Members := x48.Core.Wanted } }).Core)) 7 (.own 5)))) 1 (.own 16)))) rfl rfl ⟨rfl, trivial⟩ trivial rfl ⟨rfl, nl rfl, ⟨rfl, nl rfl, trivial⟩⟩ rfl rfl (congrArg Box.var (set_cons (w := (.agg (.st [1, 1, 1, 17, 3, 8, 8, 1, 3, 8, 8, 1, 128, 1]) (vupd (c_api_Core (({ { x48 with Core := { x48.Core with Conf := x48.Core.Promise } } with Core := { ({ x48 with Core := { x48.Core with Conf := x48.Core.Promise } }).Core with Members := x48.Core.Wanted } }).Core)) 7 (.own 5)))) (set_cons (w := (e_a8_u32 ((({ { x48 with Core := { x48.Core with Conf := x48.Core.Promise } } with Core := { ({ x48 with Core := { x48.Core with Conf := x48.Core.Promise } }).Core with Members := x48.Core.Wanted } }).Core).Members))) rfl (fe14 rfl rfl rfl rfl rfl rfl rfl rfl rfl rfl rfl rfl rfl rfl (fun _ => rfl))) (fe2 rfl rfl (fun _ => rfl)))) ty28 rfl <| r_nc rfl rfl rfl <| r_fa (.ptr 7 (0 + 0) [0]) fl80_0 rfl rfl rfl rfl <| r_fa (.ptr 7 ((0 + 0) + 59) [0, 11]) fl35_11 rfl rfl rfl rfl <| r_st (.var (.agg (.st [189, 1]) (vupd (vupd (c_core_under ({ { { x48 with Core := { x48.Core with Conf := x48.Core.Promise } } with Core := { ({ x48 with Core := { x48.Core with Conf := x48.Core.Promise } }).Core with Members := x48.Core.Wanted } } with Core := { ({ { x48 with Core := { x48.Core with Conf := x48.Core.Promise } } with Core := { ({ x48 with Core := { x48.Core with Conf := x48.Core.Promise } }).Core with Members := x48.Core.Wanted } }).Core with Ready := false } })) 0 (.agg (.st [1, 1, 1, 17, 3, 8, 8, 1, 3, 8, 8, 1, 128, 1]) (vupd (c_api_Core (({ { { x48 with Core := { x48.Core with Conf := x48.Core.Promise } } with Core := { ({ x48 with Core := { x48.Core with Conf := x48.Core.Promise } }).Core with Members := x48.Core.Wanted } } with Core := { ({ { x48 with Core := { x48.Core with Conf := x48.Core.Promise } } with Core := { ({ x48 with Core := { x48.Core with Conf := x48.Core.Promise } }).Core with Members := x48.Core.Wanted } }).Core with Ready := false } }).Core)) 7 (.own 5)))) 1 (.own 16)))) rfl rfl trivial (u := (.bool false)) (fun _ => rfl) rfl ⟨rfl, nl rfl, ⟨rfl, nl rfl, trivial⟩⟩ rfl rfl (congrArg Box.var (set_cons (w := (.agg (.st [1, 1, 1, 17, 3, 8, 8, 1, 3, 8, 8, 1, 128, 1]) (vupd (c_api_Core (({ { { x48 with Core := { x48.Core with Conf := x48.Core.Promise } } with Core := { ({ x48 with Core := { x48.Core with Conf := x48.Core.Promise } }).Core with Members := x48.Core.Wanted } } with Core := { ({ { x48 with Core := { x48.Core with Conf := x48.Core.Promise } } with Core := { ({ x48 with Core := { x48.Core with Conf := x48.Core.Promise } }).Core with Members := x48.Core.Wanted } }).Core with Ready := false } }).Core)) 7 (.own 5)))) (set_cons (w := (.bool ((({ { { x48 with Core := { x48.Core with Conf := x48.Core.Promise } } with Core := { ({ x48 with Core := { x48.Core with Conf := x48.Core.Promise } }).Core with Members := x48.Core.Wanted } } with Core := { ({ { x48 with Core := { x48.Core with Conf := x48.Core.Promise } } with Core := { ({ x48 with Core := { x48.Core with Conf := x48.Core.Promise } }).Core with Members := x48.Core.Wanted } }).Core with Ready := false } }).Core).Ready))) rfl (fe14 rfl rfl rfl rfl rfl rfl rfl rfl rfl rfl rfl rfl rfl rfl (fun _ => rfl))) (fe2 rfl rfl (fun _ => rfl)))) ty4 rfl <| r_e) rfl ?_
                    obtain ⟨v54, hv54, H⟩ := lt_of H
                    refine aw_cov (cov_prune (s1 := ⟨[(0, _)], [(2, some _), (7, some (.var (.agg (.st [189, 1]) (vupd (vupd (c_core_under v54) 0 (.agg (.st [1, 1, 1, 17, 3, 8, 8, 1, 3, 8, 8, 1, 128, 1]) (vupd (c_api_Core v54.Core) 7 (.own 5)))) 1 (.own 16))))), (5, some _), (16, some _)], 17, [(56, (.ptr 2 0 [])), (59, (.ptr 7 0 []))]⟩) a1 ⟨rfl, (by subst hv54; rfl), rfl, rfl, trivial⟩ (Nat.le_refl _) (hgh := a2)) ?_
                    refine aw_region1 (r_mv rfl rfl <| r_mv rfl rfl <| r_mv rfl rfl <| r_0 (does_buildT 29 #[] [] [] (.ar 8 1) (fun j => (.int .u32 ((fun _ => 0) j))) (fun j => (.int .u32 ((aset (fun _ => 0) []) j))) rfl bo29 trivial trivial (setAll_map (fun z => V.int .u32 z) [] _)) rfl rfl <| r_0 (does_buildT 29 #[] [] [] (.ar 8 1) (fun j => (.int .u32 ((fun _ => 0) j))) (fun j => (.int .u32 ((aset (fun _ => 0) []) j))) rfl bo29 trivial trivial (setAll_map (fun z => V.int .u32 z) [] _)) rfl rfl <| r_nc rfl rfl rfl <| r_fa (.ptr 7 (0 + 0) [0]) fl80_0 rfl rfl rfl rfl <| r_fa (.ptr 7 ((0 + 0) + 31) [0, 6]) fl35_6 rfl rfl rfl rfl <| r_st (.var (.agg (.st [189, 1]) (vupd (vupd (c_core_under ({ v54 with Core := { v54.Core with Count := (aset (fun _ => 0) []) } })) 0 (.agg (.st [1, 1, 1, 17, 3, 8, 8, 1, 3, 8, 8, 1, 128, 1]) (vupd (c_api_Core (({ v54 with Core := { v54.Core with Count := (aset (fun _ => 0) []) } }).Core)) 7 (.own 5)))) 1 (.own 16)))) rfl rfl ⟨rfl, trivial⟩ trivial rfl ⟨rfl, nl rfl, ⟨rfl, nl rfl, trivial⟩⟩ rfl rfl (congrArg Box.var (set_cons (w := (.agg (.st [1, 1, 1, 17, 3, 8, 8, 1, 3, 8, 8, 1, 128, 1]) (vupd (c_api_Core (({ v54 with Core := { v54.Core with Count := (aset (fun _ => 0) []) } }).Core)) 7 (.own 5)))) (set_cons (w := (e_a8_u32 ((({ v54 with Core := { v54.Core with Count := (aset (fun _ => 0) []) } }).Core).Count))) rfl (fe14 rfl rfl rfl rfl rfl rfl rfl rfl rfl rfl rfl rfl rfl rfl (fun _ => rfl))) (fe2 rfl rfl (fun _ => rfl)))) ty29 rfl <| r_nc rfl rfl rfl <| r_fa (.ptr 7 (0 + 0) [0]) fl80_0 rfl rfl rfl rfl <| r_fa (.ptr 7 ((0 + 0) + 51) [0, 10]) fl35_10 rfl rfl rfl rfl <| r_st (.var (.agg (.st [189, 1]) (vupd (vupd (c_core_under ({ { v54 with Core := { v54.Core with Count := (aset (fun _ => 0) []) } } with Core := { ({ v54 with Core := { v54.Core with Count := (aset (fun _ => 0) []) } }).Core with Cut := (aset (fun _ => 0) []) } })) 0 (.agg (.st [1, 1, 1, 17, 3, 8, 8, 1, 3, 8, 8, 1, 128, 1]) (vupd (c_api_Core (({ { v54 with Core := { v54.Core with Count := (aset (fun _ => 0) []) } } with Core := { ({ v54 with Core := { v54.Core with Count := (aset (fun _ => 0) []) } }).Core with Cut := (aset (fun _ => 0) []) } }).Core)) 7 (.own 5)))) 1 (.own 16)))) rfl rfl ⟨rfl, trivial⟩ trivial rfl ⟨rfl, nl rfl, ⟨rfl, nl rfl, trivial⟩⟩ rfl rfl (congrArg Box.var (set_cons (w := (.agg (.st [1, 1, 1, 17, 3, 8, 8, 1, 3, 8, 8, 1, 128, 1]) (vupd (c_api_Core (({ { v54 with Core := { v54.Core with Count := (aset (fun _ => 0) []) } } with Core := { ({ v54 with Core := { v54.Core with Count := (aset (fun _ => 0) []) } }).Core with Cut := (aset (fun _ => 0) []) } }).Core)) 7 (.own 5)))) (set_cons (w := (e_a8_u32 ((({ { v54 with Core := { v54.Core with Count := (aset (fun _ => 0) []) } } with Core := { ({ v54 with Core := { v54.Core with Count := (aset (fun _ => 0) []) } }).Core with Cut := (aset (fun _ => 0) []) } }).Core).Cut))) rfl (fe14 rfl rfl rfl rfl rfl rfl rfl rfl rfl rfl rfl rfl rfl rfl (fun _ => rfl))) (fe2 rfl rfl (fun _ => rfl)))) ty29 rfl <| r_nc rfl rfl rfl <| r_fa (.ptr 7 (0 + 0) [0]) fl80_0 rfl rfl rfl rfl <| r_fa (.ptr 7 ((0 + 0) + 39) [0, 7]) fl35_7 rfl rfl rfl rfl <| r_p (does_storeN 30 57 (.const (.slice none 0 0)) 7 ((0 + 0) + 39) [0, 7] (.var (.agg (.st [189, 1]) (vupd (vupd (c_core_under ({ { v54 with Core := { v54.Core with Count := (aset (fun _ => 0) []) } } with Core := { ({ v54 with Core := { v54.Core with Count := (aset (fun _ => 0) []) } }).Core with Cut := (aset (fun _ => 0) []) } })) 0 (.agg (.st [1, 1, 1, 17, 3, 8, 8, 1, 3, 8, 8, 1, 128, 1]) (vupd (c_api_Core (({ { v54 with Core := { v54.Core with Count := (aset (fun _ => 0) []) } } with Core := { ({ v54 with Core := { v54.Core with Count := (aset (fun _ => 0) []) } }).Core with Cut := (aset (fun _ => 0) []) } }).Core)) 7 (.own 5)))) 1 (.own 16)))) (.var (.agg (.st [189, 1]) (vupd (vupd (c_core_under ({ { v54 with Core := { v54.Core with Count := (aset (fun _ => 0) []) } } with Core := { ({ v54 with Core := { v54.Core with Count := (aset (fun _ => 0) []) } }).Core with Cut := (aset (fun _ => 0) []) } })) 0 (.agg (.st [1, 1, 1, 17, 3, 8, 8, 1, 3, 8, 8, 1, 128, 1]) (vupd (c_api_Core (({ { v54 with Core := { v54.Core with Count := (aset (fun _ => 0) []) } } with Core := { ({ v54 with Core := { v54.Core with Count := (aset (fun _ => 0) []) } }).Core with Cut := (aset (fun _ => 0) []) } }).Core)) 7 (.own 17)))) 1 (.own 16)))) 17 38 (fun j => (e_api_Kept (([] : _root_.List api_Kept).getD j z_api_Kept))) false (fun _ => rfl) ⟨rfl, nl rfl, ⟨rfl, nl rfl, trivial⟩⟩ rfl rfl (congrArg Box.var (set_cons (w := (.agg (.st [1, 1, 1, 17, 3, 8, 8, 1, 3, 8, 8, 1, 128, 1]) (vupd (c_api_Core (({ { v54 with Core := { v54.Core with Count := (aset (fun _ => 0) []) } } with Core := { ({ v54 with Core := { v54.Core with Count := (aset (fun _ => 0) []) } }).Core with Cut := (aset (fun _ => 0) []) } }).Core)) 7 (.own 17)))) (set_cons (w := (.own 17)) rfl (fe14 rfl rfl rfl rfl rfl rfl rfl rfl rfl rfl rfl rfl rfl rfl (fun _ => rfl))) (fe2 rfl rfl (fun _ => rfl)))) ty30) ⟨⟨rfl, trivial⟩, ⟨rfl, trivial⟩, rfl⟩ rfl <| r_e) ?_
                    exact inl_nx (x37.1, { { v54 with Core := { v54.Core with Count := (aset (fun _ => 0) []) } } with Core := { ({ v54 with Core := { v54.Core with Count := (aset (fun _ => 0) []) } }).Core with Cut := (aset (fun _ => 0) []) } }, ([] : _root_.List api_Kept), v53) H [] trivial (by decide) (cov_prune trivial ⟨rfl, rfl, rfl, rfl, trivial⟩ (nl rfl) (hgh := ⟨rfl, rfl, trivial⟩))
                · replace H := ite_f hc H
                  refine aw_skip ?_
                  exact inl_nx (x37.1, x48, x37.2.2.1, x37.2.2.2) H [] trivial (by decide) (cov_to (fun i => match i with | 2 => 2 | 7 => 7 | 5 => 5 | 6 => 6 | k => k) [] ⟨⟨_, rfl, .ptr 2 _ _ _ _ (nl rfl) rfl rfl⟩, ⟨_, rfl, .ptr 7 _ _ _ _ (nl rfl) rfl rfl⟩, trivial⟩ ⟨⟨nl rfl, _, _, rfl, rfl, boxTo_var ((d_api_Core _).plain)⟩, ⟨nl rfl, _, _, rfl, rfl, (boxTo_st (.agg _ _ _ (fun j => match j with | 0 => .agg _ _ _ (fun j => match j with | 0 => .plain _ (trivial) | 1 => .plain _ (trivial) | 2 => .plain _ (trivial) | 3 => .plain _ ((d_api_Beat _).plain) | 4 => .plain _ ((d_api_Id _).plain) | 5 => .plain _ ((d_a8_u32 _).plain) | 6 => .plain _ ((d_a8_u32 _).plain) | 7 => .own 5 _ _ (nl rfl) rfl rfl (Box.like_refl _) | 8 => .plain _ ((d_api_Id _).plain) | 9 => .plain _ ((d_a8_u32 _).plain) | 10 => .plain _ ((d_a8_u32 _).plain) | 11 => .plain _ (trivial) | 12 => .plain _ ((d_a8_api_Peer _).plain) | 13 => .plain _ (trivial) | _ + 14 => .plain _ trivial) | 1 => .own 6 _ _ (nl rfl) rfl rfl (Box.like_refl _) | _ + 2 => .plain _ trivial)))⟩, ⟨nl rfl, _, _, rfl, rfl, boxTo_arr (fun _ => (d_api_Kept _))⟩, ⟨nl rfl, _, _, rfl, rfl, boxTo_arr (fun _ => (d_api_Happen _))⟩, trivial⟩ rfl rfl)
              · refine aw_cond rfl (fun hc => ?_) (fun hc => ?_)
                · replace H := ite_t hc H
                  refine aw_region1 (r_mv rfl rfl <| r_nc rfl rfl rfl <| r_fa (.ptr 7 (0 + 0) [0]) fl80_0 rfl rfl rfl rfl <| r_fa (.ptr 7 ((0 + 0) + 59) [0, 11]) fl35_11 rfl rfl rfl rfl <| r_st (.var (.agg (.st [189, 1]) (vupd (vupd (c_core_under ({ x37.2.1 with Core := { x37.2.1.Core with Ready := true } })) 0 (.agg (.st [1, 1, 1, 17, 3, 8, 8, 1, 3, 8, 8, 1, 128, 1]) (vupd (c_api_Core (({ x37.2.1 with Core := { x37.2.1.Core with Ready := true } }).Core)) 7 (.own 5)))) 1 (.own 6)))) rfl rfl trivial (u := (.bool true)) (fun _ => rfl) rfl ⟨rfl, nl rfl, ⟨rfl, nl rfl, trivial⟩⟩ rfl rfl (congrArg Box.var (set_cons (w := (.agg (.st [1, 1, 1, 17, 3, 8, 8, 1, 3, 8, 8, 1, 128, 1]) (vupd (c_api_Core (({ x37.2.1 with Core := { x37.2.1.Core with Ready := true } }).Core)) 7 (.own 5)))) (set_cons (w := (.bool ((({ x37.2.1 with Core := { x37.2.1.Core with Ready := true } }).Core).Ready))) rfl (fe14 rfl rfl rfl rfl rfl rfl rfl rfl rfl rfl rfl rfl rfl rfl (fun _ => rfl))) (fe2 rfl rfl (fun _ => rfl)))) ty4 rfl <| r_e) ?_
                  exact nx_join ({ x37.2.1 with Core := { x37.2.1.Core with Ready := true } }) H (cov_prune ⟨rfl, trivial⟩ ⟨rfl, rfl, rfl, rfl, trivial⟩ (nl rfl) (hgh := ⟨rfl, rfl, trivial⟩))
                · replace H := ite_f hc H
                  refine aw_skip ?_
                  exact nx_join (x37.2.1) H (cov_prune a1 a4 (nl rfl) (hgh := a2))
        · refine aw_cond rfl (fun hc => ?_) (fun hc => ?_)
          · replace H := ite_t hc H
            refine aw_region (r_0 (does_nil false 12 38 (fun j => (e_api_Kept (([] : _root_.List api_Kept).getD j z_api_Kept)))) rfl rfl <| r_e) ?_
            refine aw_cov (cov_prune (s1 := ⟨[(3, _), (4, _), (7, _), (10, _)], [(1, some _), (2, some _), (7, some _), (5, some _), (6, some _), (11, some _)], 13, []⟩) a4 a6 (Nat.le_refl _)) ?_
            obtain ⟨v26, h27, H⟩ := bnd H
            refine aw_draw (mixed) (r_mv rfl rfl <| r_mv rfl rfl <| r_mv rfl rfl <| r_nc rfl rfl rfl <| r_fa (.ptr 7 (0 + 0) [0]) fl80_0 rfl rfl rfl rfl <| r_fa (.ptr 7 ((0 + 0) + 39) [0, 7]) fl35_7 rfl rfl rfl rfl <| r_ld (.own 5) rfl rfl ⟨rfl, nl rfl, ⟨rfl, nl rfl, trivial⟩⟩ rfl rfl ty30 rfl <| r_mv rfl rfl <| r_nc rfl rfl rfl <| r_fa (.ptr 7 (0 + 0) [0]) fl80_0 rfl rfl rfl rfl <| r_fa (.ptr 7 ((0 + 0) + 31) [0, 6]) fl35_6 rfl rfl rfl rfl <| r_ld (e_a8_u32 x22.2.2.1.Core.Count) rfl rfl ⟨rfl, nl rfl, ⟨rfl, nl rfl, trivial⟩⟩ rfl rfl ty29 rfl <| r_mv rfl rfl <| r_nc rfl rfl rfl <| r_fa (.ptr 7 (0 + 0) [0]) fl80_0 rfl rfl rfl rfl <| r_fa (.ptr 7 ((0 + 0) + 23) [0, 5]) fl35_5 rfl rfl rfl rfl <| r_ld (e_a8_u32 x22.2.2.1.Core.Members) rfl rfl ⟨rfl, nl rfl, ⟨rfl, nl rfl, trivial⟩⟩ rfl rfl ty28 rfl <| r_lv rfl rfl ty50 rfl <| r_lv rfl rfl ty29 rfl <| r_p (does_callO 54 0 (fun _ => .any) (.func 54) [(.tmp 134), (.tmp 139), (.tmp 144), (.tmp 145), (.tmp 146)] [(.own 5), (e_a8_u32 x22.2.2.1.Core.Count), (e_a8_u32 x22.2.2.1.Core.Members), (e_api_Packet x22.1), (e_a8_u32 v23.1)] [(5, (.arr 38 x22.2.2.2.1.length fun j => (e_api_Kept (x22.2.2.2.1.getD j z_api_Kept))))] [] true [(e_s_api_Kept x22.2.2.2.1), (e_a8_u32 x22.2.2.1.Core.Count), (e_a8_u32 x22.2.2.1.Core.Members), (e_api_Packet x22.1), (e_a8_u32 v23.1)] _ (resV [(.own 13), (e_a8_u32 v26.2.1), (.own 14)]) _ 13 3 _ _ rfl fo54 rfl ⟨trivial, trivial, trivial, trivial, trivial, trivial⟩ ⟨.ro _ _ (.own 5 _ _ _ (.head _) rfl (fun _ => (d_api_Kept _))), .ro _ _ (.data _ (d_a8_u32 x22.2.2.1.Core.Count)), .ro _ _ (.data _ (d_a8_u32 x22.2.2.1.Core.Members)), .ro _ _ (.data _ (d_api_Packet x22.1)), .ro _ _ (.data _ (d_a8_u32 v23.1)), trivial⟩ (kept_Offer_spec x22.2.2.2.1 x22.2.2.1.Core.Count x22.2.2.1.Core.Members x22.1 v23.1 _ h27) rfl (by simp) rfl trivial ⟨⟨nl rfl, _, rfl, fun _ => (f_api_Kept _)⟩, ⟨nl rfl, _, rfl, fun _ => (f_api_Kept _)⟩, trivial⟩ (.tup _ _ _ (fun j => match j with | 0 => .own 0 (nl rfl) | 1 => .data _ ((f_a8_u32 v26.2.1)) | 2 => .own 1 (nl rfl) | _ + 3 => .data _ trivial))) ⟨⟨rfl, rfl, rfl, rfl, rfl, trivial⟩, ⟨rfl, trivial⟩, rfl⟩ rfl <| r_mv rfl rfl <| r_ex (.own 13) rfl (nl rfl) rfl rfl <| r_ex (e_a8_u32 v26.2.1) rfl (nl rfl) rfl rfl <| r_ex (.own 14) rfl (nl rfl) rfl rfl <| r_nc rfl rfl rfl <| r_fa (.ptr 7 (0 + 0) [0]) fl80_0 rfl rfl rfl rfl <| r_fa (.ptr 7 ((0 + 0) + 39) [0, 7]) fl35_7 rfl rfl rfl rfl <| r_p (does_storeO 30 153 (.tmp 148) 7 ((0 + 0) + 39) [0, 7] (.var (.agg (.st [189, 1]) (vupd (vupd (c_core_under x22.2.2.1) 0 (.agg (.st [1, 1, 1, 17, 3, 8, 8, 1, 3, 8, 8, 1, 128, 1]) (vupd (c_api_Core x22.2.2.1.Core) 7 (.own 5)))) 1 (.own 6)))) (.var (.agg (.st [189, 1]) (vupd (vupd (c_core_under x22.2.2.1) 0 (.agg (.st [1, 1, 1, 17, 3, 8, 8, 1, 3, 8, 8, 1, 128, 1]) (vupd (c_api_Core x22.2.2.1.Core) 7 (.own 13)))) 1 (.own 6)))) 13 38 v26.1.length (fun j => (e_api_Kept (v26.1.getD j z_api_Kept))) (.own 13) rfl false trivial ⟨rfl, nl rfl, ⟨rfl, nl rfl, trivial⟩⟩ rfl rfl (congrArg Box.var (set_cons (w := (.agg (.st [1, 1, 1, 17, 3, 8, 8, 1, 3, 8, 8, 1, 128, 1]) (vupd (c_api_Core x22.2.2.1.Core) 7 (.own 13)))) (set_cons (w := (.own 13)) rfl (fe14 rfl rfl rfl rfl rfl rfl rfl rfl rfl rfl rfl rfl rfl rfl (fun _ => rfl))) (fe2 rfl rfl (fun _ => rfl)))) ty30) ⟨⟨rfl, rfl, trivial⟩, ⟨rfl, rfl, trivial⟩, rfl⟩ rfl <| r_nc rfl rfl rfl <| r_fa (.ptr 7 (0 + 0) [0]) fl80_0 rfl rfl rfl rfl <| r_fa (.ptr 7 ((0 + 0) + 31) [0, 6]) fl35_6 rfl rfl rfl rfl <| r_st (.var (.agg (.st [189, 1]) (vupd (vupd (c_core_under ({ x22.2.2.1 with Core := { x22.2.2.1.Core with Count := v26.2.1 } })) 0 (.agg (.st [1, 1, 1, 17, 3, 8, 8, 1, 3, 8, 8, 1, 128, 1]) (vupd (c_api_Core (({ x22.2.2.1 with Core := { x22.2.2.1.Core with Count := v26.2.1 } }).Core)) 7 (.own 13)))) 1 (.own 6)))) rfl rfl ⟨rfl, trivial⟩ trivial rfl ⟨rfl, nl rfl, ⟨rfl, nl rfl, trivial⟩⟩ rfl rfl (congrArg Box.var (set_cons (w := (.agg (.st [1, 1, 1, 17, 3, 8, 8, 1, 3, 8, 8, 1, 128, 1]) (vupd (c_api_Core (({ x22.2.2.1 with Core := { x22.2.2.1.Core with Count := v26.2.1 } }).Core)) 7 (.own 13)))) (set_cons (w := (e_a8_u32 ((({ x22.2.2.1 with Core := { x22.2.2.1.Core with Count := v26.2.1 } }).Core).Count))) rfl (fe14 rfl rfl rfl rfl rfl rfl rfl rfl rfl rfl rfl rfl rfl rfl (fun _ => rfl))) (fe2 rfl rfl (fun _ => rfl)))) ty29 rfl <| r_as rfl rfl <| r_e) rfl ?_
            obtain ⟨v28, hv28, H⟩ := lt_of H
            refine aw_cov (cov_prune (s1 := ⟨[(4, _), (7, _), (12, _)], [(2, some _), (7, some (.var (.agg (.st [189, 1]) (vupd (vupd (c_core_under v28) 0 (.agg (.st [1, 1, 1, 17, 3, 8, 8, 1, 3, 8, 8, 1, 128, 1]) (vupd (c_api_Core v28.Core) 7 (.own 13)))) 1 (.own 6))))), (6, some _), (13, some _), (14, some _)], 16, []⟩) a3 ⟨rfl, (by subst hv28; rfl), rfl, rfl, rfl, trivial⟩ (Nat.le_refl _)) ?_
            refine aw_inl1 (es := [_, _]) (fn := Try.f55) (K := 55) [(.tmp 157), (.tmp 158)] [(.ptr 7 0 []), (.own 14)] [(4, (.ptr 2 0 [])), (7, (.ptr 7 0 []))] (split_at (i := 2) rfl) ⟨Step.plain rfl (does_move (.tmp 7) (.ptr 7 0 []) trivial), m10, rfl,
              Step.plain rfl (does_move (.tmp 12) (.own 14) trivial), m10, rfl, rfl⟩ Try.func55 rfl fo55 rfl ⟨trivial, trivial, trivial⟩ a2 (nl rfl) rfl ⟨(.inl ⟨nl rfl, rfl⟩), (.inl ⟨nl rfl, rfl⟩), trivial⟩ (fun gx5 Kp5 hK5 => inl_jn (fun x36 : api_Core × core_under × _root_.List api_Kept × _root_.List api_Happen => (⟨[(4, (.ptr 2 0 [])), (7, (.ptr 7 0 []))], [(2, some (.var (e_api_Core x36.1))), (7, some (.var (.agg (.st [189, 1]) (vupd (vupd (c_core_under x36.2.1) 0 (.agg (.st [1, 1, 1, 17, 3, 8, 8, 1, 3, 8, 8, 1, 128, 1]) (vupd (c_api_Core x36.2.1.Core) 7 (.own 13)))) 1 (.own 6))))), (13, some (.arr 38 x36.2.2.1.length fun j => (e_api_Kept (x36.2.2.1.getD j z_api_Kept)))), (6, some (.arr 50 x36.2.2.2.length fun j => (e_api_Happen (x36.2.2.2.getD j z_api_Happen))))], 16, []⟩ : St)) H (fun x36 H => ?_) (fun j29 H => ?_))
            · refine hK5 _ [] _ rfl ?_
              exact nx_join (x36.1, x36.2.1, x36.2.2.1, x36.2.2.2) H (cov_to (fun i => match i with | 2 => 2 | 7 => 7 | 5 => 13 | 6 => 6 | k => k) [] ⟨⟨_, rfl, .ptr 2 _ _ _ _ (nl rfl) rfl rfl⟩, ⟨_, rfl, .ptr 7 _ _ _ _ (nl rfl) rfl rfl⟩, trivial⟩ ⟨⟨nl rfl, _, _, rfl, rfl, boxTo_var ((d_api_Core _).plain)⟩, ⟨nl rfl, _, _, rfl, rfl, (boxTo_st (.agg _ _ _ (fun j => match j with | 0 => .agg _ _ _ (fun j => match j with | 0 => .plain _ (trivial) | 1 => .plain _ (trivial) | 2 => .plain _ (trivial) | 3 => .plain _ ((d_api_Beat _).plain) | 4 => .plain _ ((d_api_Id _).plain) | 5 => .plain _ ((d_a8_u32 _).plain) | 6 => .plain _ ((d_a8_u32 _).plain) | 7 => .own 5 _ _ (nl rfl) rfl rfl (Box.like_refl _) | 8 => .plain _ ((d_api_Id _).plain) | 9 => .plain _ ((d_a8_u32 _).plain) | 10 => .plain _ ((d_a8_u32 _).plain) | 11 => .plain _ (trivial) | 12 => .plain _ ((d_a8_api_Peer _).plain) | 13 => .plain _ (trivial) | _ + 14 => .plain _ trivial) | 1 => .own 6 _ _ (nl rfl) rfl rfl (Box.like_refl _) | _ + 2 => .plain _ trivial)))⟩, ⟨nl rfl, _, _, rfl, rfl, boxTo_arr (fun _ => (d_api_Kept _))⟩, ⟨nl rfl, _, _, rfl, rfl, boxTo_arr (fun _ => (d_api_Happen _))⟩, trivial⟩ rfl rfl)
            · refine aw_cov (cov_prune (s1 := ⟨[(0, _), (1, _)], [(2, some _), (7, some _), (6, some _), (13, some _), (14, some _)], 16, [(4, (.ptr 2 0 [])), (7, (.ptr 7 0 []))]⟩) a2 a5 (Nat.le_refl _) (hgh := a2)) ?_
              refine aw_region (r_mv rfl rfl <| r_p (does_leno 30 38 v26.2.2.length 6 14 (fun j => (e_api_Kept (v26.2.2.getD j z_api_Kept))) el30) m11 rfl <| r_0 (does_move (.const (.int .i64 0)) (.int .i64 0) (fun _ => rfl)) rfl rfl <| r_e) ?_
              refine aw_cov (cov_prune (s1 := ⟨[(0, _), (6, _), (7, _), (8, _)], [(2, some _), (7, some _), (6, some _), (13, some _), (14, some _)], 16, [(4, (.ptr 2 0 [])), (7, (.ptr 7 0 []))]⟩) a4 a5 (Nat.le_refl _) (hgh := a2)) ?_
              obtain ⟨wn31, hwn31, Hrn31⟩ := bnd H
              refine aw_meet (fun y35 : _root_.List api_Happen => (⟨[], [(2, some (.var (e_api_Core x22.2.1))), (7, some (.var (.agg (.st [189, 1]) (vupd (vupd (c_core_under v28) 0 (.agg (.st [1, 1, 1, 17, 3, 8, 8, 1, 3, 8, 8, 1, 128, 1]) (vupd (c_api_Core v28.Core) 7 (.own 13)))) 1 (.own 6))))), (13, some (.arr 38 v26.1.length fun j => (e_api_Kept (v26.1.getD j z_api_Kept)))), (6, some (.arr 50 y35.length fun j => (e_api_Happen (y35.getD j z_api_Happen))))], 16, [(4, (.ptr 2 0 [])), (7, (.ptr 7 0 []))]⟩ : St)) (fun y35 => Fl.nx y35 = wn31) (fun y35 hy => ?_) (aw_block (aw_runs (fun x30 : Int × _root_.List api_Happen => (⟨[(0, (.ptr 7 0 [])), (6, (.own 14)), (7, (.int .i64 (v26.2.2.length : Int))), (8, (.int .i64 x30.1))], [(2, some (.var (e_api_Core x22.2.1))), (7, some (.var (.agg (.st [189, 1]) (vupd (vupd (c_core_under v28) 0 (.agg (.st [1, 1, 1, 17, 3, 8, 8, 1, 3, 8, 8, 1, 128, 1]) (vupd (c_api_Core v28.Core) 7 (.own 13)))) 1 (.own 6))))), (6, some (.arr 50 x30.2.length fun j => (e_api_Happen (x30.2.getD j z_api_Happen)))), (13, some (.arr 38 v26.1.length fun j => (e_api_Kept (v26.1.getD j z_api_Kept)))), (14, some (.arr 38 v26.2.2.length fun j => (e_api_Kept (v26.2.2.getD j z_api_Kept))))], 16, [(4, (.ptr 2 0 [])), (7, (.ptr 7 0 []))]⟩ : St)) hwn31 (cov_prune a4 a5 (nl rfl) (hgh := a2)) (fun x30 st H hsn31 => ?_)))
              · have H := nx_of hy Hrn31
                exact inl_nx (x22.2.1, v28, v26.1, y35) H [] trivial (by decide) (cov_prune a2 a4 (nl rfl))
              · refine aw_region (r_p (does_bin .lss 3 3 (.tmp 8) (.tmp 7) .i64 x30.1 (v26.2.2.length : Int) (.bool (decide (x30.1 < (v26.2.2.length : Int)))) trivial trivial (bin_lss _ _ _ _)) m20 rfl <| r_e) ?_
                refine aw_cov (cov_prune (s1 := ⟨[(0, _), (6, _), (7, _), (8, _), (9, _)], [(2, some _), (7, some _), (6, some _), (13, some _), (14, some _)], 16, [(4, (.ptr 2 0 [])), (7, (.ptr 7 0 []))]⟩) a5 a5 (Nat.le_refl _) (hgh := a2)) ?_
                refine aw_seq ?_
                refine aw_cond rfl (fun hc => ?_) (fun hc => ?_)
                · replace H := ite_t hc H
                  refine aw_skip ?_
                  refine nx_seq ?_
                  refine aw_seq ?_
                  refine aw_block ?_
                  obtain ⟨h32, H⟩ := ib_of H
                  refine aw_region (r_p (does_indexAddro 30 38 v26.2.2.length 6 14 (fun j => (e_api_Kept (v26.2.2.getD j z_api_Kept))) (.tmp 8) .i64 x30.1 el30 trivial h32.1 h32.2) m21 rfl <| r_ld (e_api_Kept (v26.2.2.getD x30.1.toNat z_api_Kept)) rfl rfl ⟨(ixl h32), trivial⟩ rfl rfl ty64 rfl <| r_0 (does_alloc 64 16 (e_api_Kept z_api_Kept) zr64) rfl rfl <| r_sv rfl rfl rfl rfl rfl rfl ty64 rfl <| r_e) ?_
                  refine aw_cov (cov_prune (s1 := ⟨[(0, _), (6, _), (7, _), (8, _), (5, _)], [(2, some _), (7, some _), (6, some _), (13, some _), (14, some _), (16, some _)], 17, [(4, (.ptr 2 0 [])), (7, (.ptr 7 0 []))]⟩) a5 a6 (Nat.le_refl _) (hgh := a2)) ?_
                  obtain ⟨h33, H⟩ := fit_of H
                  refine aw_draw1 (mixed) (r_mv rfl rfl <| r_mv rfl rfl <| r_nc rfl rfl rfl <| r_fa (.ptr 7 (0 + 189) [1]) fl80_1 rfl rfl rfl rfl <| r_ld (.own 6) rfl rfl ⟨rfl, nl rfl, trivial⟩ rfl rfl ty44 rfl <| r_lv rfl rfl ty64 rfl <| r_p (does_buildT 66 #[(1, (.tmp 17))] [(1, (.tmp 17))] [(1, (e_api_Kept (v26.2.2.getD x30.1.toNat z_api_Kept)))] (.st [1, 38, 3, 8]) (c_api_Happen z_api_Happen) (c_api_Happen ({ View := false, Kept := v26.2.2.getD x30.1.toNat z_api_Kept, Conf := z_api_Id, Members := (fun _ => 0) } : api_Happen)) rfl bo66 ⟨a1, trivial⟩ ⟨⟨nl rfl, rfl, rfl⟩, trivial⟩ (fe4 rfl rfl rfl rfl (fun _ => rfl))) m10 rfl <| r_p (does_buildSl 44 1 50 (e_api_Happen z_api_Happen) (fun j => (e_api_Happen (([({ View := false, Kept := v26.2.2.getD x30.1.toNat z_api_Kept, Conf := z_api_Id, Members := (fun _ => 0) } : api_Happen)] : _root_.List api_Happen).getD j z_api_Happen))) #[(0, (.tmp 18))] [(0, (.tmp 18))] [(0, (e_api_Happen ({ View := false, Kept := v26.2.2.getD x30.1.toNat z_api_Kept, Conf := z_api_Id, Members := (fun _ => 0) } : api_Happen)))] rfl so44 (by decide) ⟨a1, trivial⟩ ⟨⟨nl rfl, rfl, rfl⟩, trivial⟩ (fun j h => match j, h with | 0, _ => rfl | k + 1, h => (nlt h).elim)) m10 rfl <| r_p (does_appendL e_api_Happen z_api_Happen x30.2 ([({ View := false, Kept := v26.2.2.getD x30.1.toNat z_api_Kept, Conf := z_api_Id, Members := (fun _ => 0) } : api_Happen)] : _root_.List api_Happen) 44 50 408 6 17 16 19 ap44 h33) m21 rfl <| r_nc rfl rfl rfl <| r_fa (.ptr 7 (0 + 189) [1]) fl80_1 rfl rfl rfl rfl <| r_p (does_storeO 44 22 (.tmp 20) 7 (0 + 189) [1] (.var (.agg (.st [189, 1]) (vupd (vupd (c_core_under v28) 0 (.agg (.st [1, 1, 1, 17, 3, 8, 8, 1, 3, 8, 8, 1, 128, 1]) (vupd (c_api_Core v28.Core) 7 (.own 13)))) 1 (.own 6)))) (.var (.agg (.st [189, 1]) (vupd (vupd (c_core_under v28) 0 (.agg (.st [1, 1, 1, 17, 3, 8, 8, 1, 3, 8, 8, 1, 128, 1]) (vupd (c_api_Core v28.Core) 7 (.own 13)))) 1 (.own 17)))) 17 50 (x30.2 ++ ([({ View := false, Kept := v26.2.2.getD x30.1.toNat z_api_Kept, Conf := z_api_Id, Members := (fun _ => 0) } : api_Happen)] : _root_.List api_Happen)).length (fun j => (e_api_Happen ((x30.2 ++ ([({ View := false, Kept := v26.2.2.getD x30.1.toNat z_api_Kept, Conf := z_api_Id, Members := (fun _ => 0) } : api_Happen)] : _root_.List api_Happen)).getD j z_api_Happen))) (.own 17) rfl false trivial ⟨rfl, nl rfl, trivial⟩ rfl rfl (congrArg Box.var (set_cons (w := (.own 17)) rfl (fe2 rfl rfl (fun _ => rfl)))) ty44) ⟨a2, a2, rfl⟩ rfl <| r_e) rfl ?_
                  refine nx_blk ?_
                  refine nx_seq ?_
                  obtain ⟨v34, hv34, H⟩ := lt_of H
                  refine aw_cov (cov_prune (s1 := ⟨[(0, _), (6, _), (7, _), (8, _)], [(2, some _), (7, some _), (13, some _), (14, some _), (17, some (.arr 50 v34.length fun j => (e_api_Happen (v34.getD j z_api_Happen))))], 18, [(4, (.ptr 2 0 [])), (7, (.ptr 7 0 []))]⟩) a4 ⟨rfl, rfl, rfl, rfl, (by subst hv34; rfl), trivial⟩ (Nat.le_refl _) (hgh := a2)) ?_
                  refine aw_region1 (r_p (does_bin .add 3 3 (.tmp 8) (.const (.int .i64 1)) .i64 x30.1 1 (.int .i64 (IntKind.i64.wrap (x30.1 + 1))) trivial (fun _ => rfl) (bin_add _ _ _ _)) m10 rfl <| r_mv rfl rfl <| r_e) ?_
                  exact nx_loop ((IntKind.i64.wrap (x30.1 + 1)), v34) H (cov_to (fun i => match i with | 2 => 2 | 7 => 7 | 13 => 13 | 6 => 17 | 14 => 14 | k => k) [] ⟨⟨_, rfl, .ptr 7 _ _ _ _ (nl rfl) rfl rfl⟩, ⟨_, rfl, .own 14 _ _ (nl rfl) rfl rfl (Box.like_refl _)⟩, ⟨_, rfl, .plain _ (trivial)⟩, ⟨_, rfl, .plain _ (trivial)⟩, trivial⟩ ⟨⟨nl rfl, _, _, rfl, rfl, boxTo_var ((d_api_Core _).plain)⟩, ⟨nl rfl, _, _, rfl, rfl, (boxTo_st (.agg _ _ _ (fun j => match j with | 0 => .agg _ _ _ (fun j => match j with | 0 => .plain _ (trivial) | 1 => .plain _ (trivial) | 2 => .plain _ (trivial) | 3 => .plain _ ((d_api_Beat _).plain) | 4 => .plain _ ((d_api_Id _).plain) | 5 => .plain _ ((d_a8_u32 _).plain) | 6 => .plain _ ((d_a8_u32 _).plain) | 7 => .own 13 _ _ (nl rfl) rfl rfl (Box.like_refl _) | 8 => .plain _ ((d_api_Id _).plain) | 9 => .plain _ ((d_a8_u32 _).plain) | 10 => .plain _ ((d_a8_u32 _).plain) | 11 => .plain _ (trivial) | 12 => .plain _ ((d_a8_api_Peer _).plain) | 13 => .plain _ (trivial) | _ + 14 => .plain _ trivial) | 1 => .own 6 _ _ (nl rfl) rfl rfl (Box.like_refl _) | _ + 2 => .plain _ trivial)))⟩, ⟨nl rfl, _, _, rfl, rfl, boxTo_arr (fun _ => (d_api_Happen _))⟩, ⟨nl rfl, _, _, rfl, rfl, boxTo_arr (fun _ => (d_api_Kept _))⟩, ⟨nl rfl, _, _, rfl, rfl, boxTo_arr (fun _ => (d_api_Kept _))⟩, trivial⟩ rfl rfl (hgh := ⟨⟨_, rfl, .ptr 2 _ _ _ _ (nl rfl) rfl rfl⟩, ⟨_, rfl, .ptr 7 _ _ _ _ (nl rfl) rfl rfl⟩, trivial⟩))
                · replace H := ite_f hc H
                  refine aw_exit ?_
                  refine ex_then ?_
                  refine ex_then ?_
                  refine ex_here ?_
                  exact nx_ljoin (x30.2) H hsn31 (cov_prune trivial a4 (nl rfl) (hgh := a2))
          · replace H := ite_f hc H
            refine aw_skip ?_
            exact nx_join (x22.2.1, x22.2.2.1, x22.2.2.2.1, x22.2.2.2.2) H (cov_to (fun i => match i with | 2 => 2 | 7 => 7 | 5 => 5 | 6 => 6 | k => k) [] ⟨⟨_, rfl, .ptr 2 _ _ _ _ (nl rfl) rfl rfl⟩, ⟨_, rfl, .ptr 7 _ _ _ _ (nl rfl) rfl rfl⟩, trivial⟩ ⟨⟨nl rfl, _, _, rfl, rfl, boxTo_var ((d_api_Core _).plain)⟩, ⟨nl rfl, _, _, rfl, rfl, (boxTo_st (.agg _ _ _ (fun j => match j with | 0 => .agg _ _ _ (fun j => match j with | 0 => .plain _ (trivial) | 1 => .plain _ (trivial) | 2 => .plain _ (trivial) | 3 => .plain _ ((d_api_Beat _).plain) | 4 => .plain _ ((d_api_Id _).plain) | 5 => .plain _ ((d_a8_u32 _).plain) | 6 => .plain _ ((d_a8_u32 _).plain) | 7 => .own 5 _ _ (nl rfl) rfl rfl (Box.like_refl _) | 8 => .plain _ ((d_api_Id _).plain) | 9 => .plain _ ((d_a8_u32 _).plain) | 10 => .plain _ ((d_a8_u32 _).plain) | 11 => .plain _ (trivial) | 12 => .plain _ ((d_a8_api_Peer _).plain) | 13 => .plain _ (trivial) | _ + 14 => .plain _ trivial) | 1 => .own 6 _ _ (nl rfl) rfl rfl (Box.like_refl _) | _ + 2 => .plain _ trivial)))⟩, ⟨nl rfl, _, _, rfl, rfl, boxTo_arr (fun _ => (d_api_Kept _))⟩, ⟨nl rfl, _, _, rfl, rfl, boxTo_arr (fun _ => (d_api_Happen _))⟩, trivial⟩ rfl rfl)
      · refine aw_cond rfl (fun hc => ?_) (fun hc => ?_)
        · replace H := ite_t hc H
          refine aw_inl1 (es := [_, _, _, _, _]) (fn := Try.f34) (K := 34) [(.tmp 105), (.tmp 107), (.tmp 109)] [(.ptr 7 0 []), (e_api_Id x4.2.1.Promise), (e_a8_u32 x4.2.1.Wanted)] [(3, (.ptr 1 0 [])), (4, (.ptr 2 0 [])), (7, (.ptr 7 0 []))] (split_at (i := 5) rfl) ⟨Step.plain rfl (does_move (.tmp 7) (.ptr 7 0 []) trivial), m10, rfl,
            Step.plain rfl (does_fieldAddr 50 5 21 3 1 0 [] (.var (e_api_Packet x4.2.1)) fl50_5), m11, rfl,
            Step.plain rfl (does_load 27 106 1 (0 + 21) [5] (.var (e_api_Packet x4.2.1)) (e_api_Id x4.2.1.Promise) ⟨rfl, nl rfl, trivial⟩ rfl rfl ty27), m11, rfl,
            Step.plain rfl (does_fieldAddr 50 6 24 3 1 0 [] (.var (e_api_Packet x4.2.1)) fl50_6), m11, rfl,
            Step.plain rfl (does_load 28 108 1 (0 + 24) [6] (.var (e_api_Packet x4.2.1)) (e_a8_u32 x4.2.1.Wanted) ⟨rfl, nl rfl, trivial⟩ rfl rfl ty28), m11, rfl, rfl⟩ Try.func34 rfl fo34 rfl ⟨trivial, trivial, trivial, trivial⟩ a3 (nl rfl) rfl ⟨(.inl ⟨nl rfl, rfl⟩), (.inl ⟨nl rfl, rfl⟩), (.inl ⟨nl rfl, rfl⟩), trivial⟩ (fun gx3 Kp3 hK3 => inl_jn (fun x21 : api_Packet × api_Core × core_under × _root_.List api_Kept × _root_.List api_Happen => (⟨[(3, (.ptr 1 0 [])), (4, (.ptr 2 0 [])), (7, (.ptr 7 0 []))], [(1, some (.var (e_api_Packet x21.1))), (2, some (.var (e_api_Core x21.2.1))), (7, some (.var (.agg (.st [189, 1]) (vupd (vupd (c_core_under x21.2.2.1) 0 (.agg (.st [1, 1, 1, 17, 3, 8, 8, 1, 3, 8, 8, 1, 128, 1]) (vupd (c_api_Core x21.2.2.1.Core) 7 (.own 5)))) 1 (.own 6))))), (5, some (.arr 38 x21.2.2.2.1.length fun j => (e_api_Kept (x21.2.2.2.1.getD j z_api_Kept)))), (6, some (.arr 50 x21.2.2.2.2.length fun j => (e_api_Happen (x21.2.2.2.2.getD j z_api_Happen))))], 11, []⟩ : St)) H (fun x21 H => ?_) (fun j20 H => ?_))
          · refine hK3 _ [] _ rfl ?_
            exact nx_join (x21.1, x21.2.1, x21.2.2.1, x21.2.2.2.1, x21.2.2.2.2) H (cov_prune a3 a5 (nl rfl))
          · refine aw_cov (cov_prune (s1 := ⟨[(0, _), (1, _), (2, _)], [(1, some _), (2, some _), (7, some _), (5, some _), (6, some _)], 9, [(3, (.ptr 1 0 [])), (4, (.ptr 2 0 [])), (7, (.ptr 7 0 []))]⟩) a3 a5 (Nat.le_refl _) (hgh := a3)) ?_
            refine aw_region (r_p (does_box 27 (.tmp 1) 9 (e_api_Id x4.2.1.Promise) trivial rfl) m10 rfl <| r_p (does_box 28 (.tmp 2) 10 (e_a8_u32 x4.2.1.Wanted) trivial rfl) m10 rfl <| r_e) ?_
            refine aw_cov (cov_prune (s1 := ⟨[(0, _), (4, _), (5, _)], [(1, some _), (2, some _), (7, some _), (5, some _), (6, some _), (9, some _), (10, some _)], 11, [(3, (.ptr 1 0 [])), (4, (.ptr 2 0 [])), (7, (.ptr 7 0 []))]⟩) a3 a7 (Nat.le_refl _) (hgh := a3)) ?_
            refine aw_draw1 (mixed) (r_mv rfl rfl <| r_mv rfl rfl <| r_mv rfl rfl <| r_mv rfl rfl <| r_lv rfl rfl ty27 rfl <| r_lv rfl rfl ty28 rfl <| r_mv rfl rfl <| r_nc rfl rfl rfl <| r_fa (.ptr 7 (0 + 0) [0]) fl80_0 rfl rfl rfl rfl <| r_fa (.ptr 7 ((0 + 0) + 31) [0, 6]) fl35_6 rfl rfl rfl rfl <| r_ld (e_a8_u32 v16.Core.Count) rfl rfl ⟨rfl, nl rfl, ⟨rfl, nl rfl, trivial⟩⟩ rfl rfl ty29 rfl <| r_nc rfl rfl rfl <| r_fa (.ptr 7 (0 + 0) [0]) fl80_0 rfl rfl rfl rfl <| r_fa (.ptr 7 ((0 + 0) + 40) [0, 8]) fl35_8 rfl rfl rfl rfl <| r_st (.var (.agg (.st [189, 1]) (vupd (vupd (c_core_under ({ v16 with Core := { v16.Core with Promise := x4.2.1.Promise } })) 0 (.agg (.st [1, 1, 1, 17, 3, 8, 8, 1, 3, 8, 8, 1, 128, 1]) (vupd (c_api_Core (({ v16 with Core := { v16.Core with Promise := x4.2.1.Promise } }).Core)) 7 (.own 5)))) 1 (.own 6)))) rfl rfl ⟨rfl, trivial⟩ trivial rfl ⟨rfl, nl rfl, ⟨rfl, nl rfl, trivial⟩⟩ rfl rfl (congrArg Box.var (set_cons (w := (.agg (.st [1, 1, 1, 17, 3, 8, 8, 1, 3, 8, 8, 1, 128, 1]) (vupd (c_api_Core (({ v16 with Core := { v16.Core with Promise := x4.2.1.Promise } }).Core)) 7 (.own 5)))) (set_cons (w := (e_api_Id ((({ v16 with Core := { v16.Core with Promise := x4.2.1.Promise } }).Core).Promise))) rfl (fe14 rfl rfl rfl rfl rfl rfl rfl rfl rfl rfl rfl rfl rfl rfl (fun _ => rfl))) (fe2 rfl rfl (fun _ => rfl)))) ty27 rfl <| r_nc rfl rfl rfl <| r_fa (.ptr 7 (0 + 0) [0]) fl80_0 rfl rfl rfl rfl <| r_fa (.ptr 7 ((0 + 0) + 43) [0, 9]) fl35_9 rfl rfl rfl rfl <| r_st (.var (.agg (.st [189, 1]) (vupd (vupd (c_core_under ({ { v16 with Core := { v16.Core with Promise := x4.2.1.Promise } } with Core := { ({ v16 with Core := { v16.Core with Promise := x4.2.1.Promise } }).Core with Wanted := x4.2.1.Wanted } })) 0 (.agg (.st [1, 1, 1, 17, 3, 8, 8, 1, 3, 8, 8, 1, 128, 1]) (vupd (c_api_Core (({ { v16 with Core := { v16.Core with Promise := x4.2.1.Promise } } with Core := { ({ v16 with Core := { v16.Core with Promise := x4.2.1.Promise } }).Core with Wanted := x4.2.1.Wanted } }).Core)) 7 (.own 5)))) 1 (.own 6)))) rfl rfl ⟨rfl, trivial⟩ trivial rfl ⟨rfl, nl rfl, ⟨rfl, nl rfl, trivial⟩⟩ rfl rfl (congrArg Box.var (set_cons (w := (.agg (.st [1, 1, 1, 17, 3, 8, 8, 1, 3, 8, 8, 1, 128, 1]) (vupd (c_api_Core (({ { v16 with Core := { v16.Core with Promise := x4.2.1.Promise } } with Core := { ({ v16 with Core := { v16.Core with Promise := x4.2.1.Promise } }).Core with Wanted := x4.2.1.Wanted } }).Core)) 7 (.own 5)))) (set_cons (w := (e_a8_u32 ((({ { v16 with Core := { v16.Core with Promise := x4.2.1.Promise } } with Core := { ({ v16 with Core := { v16.Core with Promise := x4.2.1.Promise } }).Core with Wanted := x4.2.1.Wanted } }).Core).Wanted))) rfl (fe14 rfl rfl rfl rfl rfl rfl rfl rfl rfl rfl rfl rfl rfl rfl (fun _ => rfl))) (fe2 rfl rfl (fun _ => rfl)))) ty28 rfl <| r_nc rfl rfl rfl <| r_fa (.ptr 7 (0 + 0) [0]) fl80_0 rfl rfl rfl rfl <| r_fa (.ptr 7 ((0 + 0) + 51) [0, 10]) fl35_10 rfl rfl rfl rfl <| r_st (.var (.agg (.st [189, 1]) (vupd (vupd (c_core_under ({ { { v16 with Core := { v16.Core with Promise := x4.2.1.Promise } } with Core := { ({ v16 with Core := { v16.Core with Promise := x4.2.1.Promise } }).Core with Wanted := x4.2.1.Wanted } } with Core := { ({ { v16 with Core := { v16.Core with Promise := x4.2.1.Promise } } with Core := { ({ v16 with Core := { v16.Core with Promise := x4.2.1.Promise } }).Core with Wanted := x4.2.1.Wanted } }).Core with Cut := v16.Core.Count } })) 0 (.agg (.st [1, 1, 1, 17, 3, 8, 8, 1, 3, 8, 8, 1, 128, 1]) (vupd (c_api_Core (({ { { v16 with Core := { v16.Core with Promise := x4.2.1.Promise } } with Core := { ({ v16 with Core := { v16.Core with Promise := x4.2.1.Promise } }).Core with Wanted := x4.2.1.Wanted } } with Core := { ({ { v16 with Core := { v16.Core with Promise := x4.2.1.Promise } } with Core := { ({ v16 with Core := { v16.Core with Promise := x4.2.1.Promise } }).Core with Wanted := x4.2.1.Wanted } }).Core with Cut := v16.Core.Count } }).Core)) 7 (.own 5)))) 1 (.own 6)))) rfl rfl ⟨rfl, trivial⟩ trivial rfl ⟨rfl, nl rfl, ⟨rfl, nl rfl, trivial⟩⟩ rfl rfl (congrArg Box.var (set_cons (w := (.agg (.st [1, 1, 1, 17, 3, 8, 8, 1, 3, 8, 8, 1, 128, 1]) (vupd (c_api_Core (({ { { v16 with Core := { v16.Core with Promise := x4.2.1.Promise } } with Core := { ({ v16 with Core := { v16.Core with Promise := x4.2.1.Promise } }).Core with Wanted := x4.2.1.Wanted } } with Core := { ({ { v16 with Core := { v16.Core with Promise := x4.2.1.Promise } } with Core := { ({ v16 with Core := { v16.Core with Promise := x4.2.1.Promise } }).Core with Wanted := x4.2.1.Wanted } }).Core with Cut := v16.Core.Count } }).Core)) 7 (.own 5)))) (set_cons (w := (e_a8_u32 ((({ { { v16 with Core := { v16.Core with Promise := x4.2.1.Promise } } with Core := { ({ v16 with Core := { v16.Core with Promise := x4.2.1.Promise } }).Core with Wanted := x4.2.1.Wanted } } with Core := { ({ { v16 with Core := { v16.Core with Promise := x4.2.1.Promise } } with Core := { ({ v16 with Core := { v16.Core with Promise := x4.2.1.Promise } }).Core with Wanted := x4.2.1.Wanted } }).Core with Cut := v16.Core.Count } }).Core).Cut))) rfl (fe14 rfl rfl rfl rfl rfl rfl rfl rfl rfl rfl rfl rfl rfl rfl (fun _ => rfl))) (fe2 rfl rfl (fun _ => rfl)))) ty29 rfl <| r_nc rfl rfl rfl <| r_fa (.ptr 7 (0 + 0) [0]) fl80_0 rfl rfl rfl rfl <| r_fa (.ptr 7 ((0 + 0) + 59) [0, 11]) fl35_11 rfl rfl rfl rfl <| r_st (.var (.agg (.st [189, 1]) (vupd (vupd (c_core_under ({ { { { v16 with Core := { v16.Core with Promise := x4.2.1.Promise } } with Core := { ({ v16 with Core := { v16.Core with Promise := x4.2.1.Promise } }).Core with Wanted := x4.2.1.Wanted } } with Core := { ({ { v16 with Core := { v16.Core with Promise := x4.2.1.Promise } } with Core := { ({ v16 with Core := { v16.Core with Promise := x4.2.1.Promise } }).Core with Wanted := x4.2.1.Wanted } }).Core with Cut := v16.Core.Count } } with Core := { ({ { { v16 with Core := { v16.Core with Promise := x4.2.1.Promise } } with Core := { ({ v16 with Core := { v16.Core with Promise := x4.2.1.Promise } }).Core with Wanted := x4.2.1.Wanted } } with Core := { ({ { v16 with Core := { v16.Core with Promise := x4.2.1.Promise } } with Core := { ({ v16 with Core := { v16.Core with Promise := x4.2.1.Promise } }).Core with Wanted := x4.2.1.Wanted } }).Core with Cut := v16.Core.Count } }).Core with Ready := false } })) 0 (.agg (.st [1, 1, 1, 17, 3, 8, 8, 1, 3, 8, 8, 1, 128, 1]) (vupd (c_api_Core (({ { { { v16 with Core := { v16.Core with Promise := x4.2.1.Promise } } with Core := { ({ v16 with Core := { v16.Core with Promise := x4.2.1.Promise } }).Core with Wanted := x4.2.1.Wanted } } with Core := { ({ { v16 with Core := { v16.Core with Promise := x4.2.1.Promise } } with Core := { ({ v16 with Core := { v16.Core with Promise := x4.2.1.Promise } }).Core with Wanted := x4.2.1.Wanted } }).Core with Cut := v16.Core.Count } } with Core := { ({ { { v16 with Core := { v16.Core with Promise := x4.2.1.Promise } } with Core := { ({ v16 with Core := { v16.Core with Promise := x4.2.1.Promise } }).Core with Wanted := x4.2.1.Wanted } } with Core := { ({ { v16 with Core := { v16.Core with Promise := x4.2.1.Promise } } with Core := { ({ v16 with Core := { v16.Core with Promise := x4.2.1.Promise } }).Core with Wanted := x4.2.1.Wanted } }).Core with Cut := v16.Core.Count } }).Core with Ready := false } }).Core)) 7 (.own 5)))) 1 (.own 6)))) rfl rfl trivial (u := (.bool false)) (fun _ => rfl) rfl ⟨rfl, nl rfl, ⟨rfl, nl rfl, trivial⟩⟩ rfl rfl (congrArg Box.var (set_cons (w := (.agg (.st [1, 1, 1, 17, 3, 8, 8, 1, 3, 8, 8, 1, 128, 1]) (vupd (c_api_Core (({ { { { v16 with Core := { v16.Core with Promise := x4.2.1.Promise } } with Core := { ({ v16 with Core := { v16.Core with Promise := x4.2.1.Promise } }).Core with Wanted := x4.2.1.Wanted } } with Core := { ({ { v16 with Core := { v16.Core with Promise := x4.2.1.Promise } } with Core := { ({ v16 with Core := { v16.Core with Promise := x4.2.1.Promise } }).Core with Wanted := x4.2.1.Wanted } }).Core with Cut := v16.Core.Count } } with Core := { ({ { { v16 with Core := { v16.Core with Promise := x4.2.1.Promise } } with Core := { ({ v16 with Core := { v16.Core with Promise := x4.2.1.Promise } }).Core with Wanted := x4.2.1.Wanted } } with Core := { ({ { v16 with Core := { v16.Core with Promise := x4.2.1.Promise } } with Core := { ({ v16 with Core := { v16.Core with Promise := x4.2.1.Promise } }).Core with Wanted := x4.2.1.Wanted } }).Core with Cut := v16.Core.Count } }).Core with Ready := false } }).Core)) 7 (.own 5)))) (set_cons (w := (.bool ((({ { { { v16 with Core := { v16.Core with Promise := x4.2.1.Promise } } with Core := { ({ v16 with Core := { v16.Core with Promise := x4.2.1.Promise } }).Core with Wanted := x4.2.1.Wanted } } with Core := { ({ { v16 with Core := { v16.Core with Promise := x4.2.1.Promise } } with Core := { ({ v16 with Core := { v16.Core with Promise := x4.2.1.Promise } }).Core with Wanted := x4.2.1.Wanted } }).Core with Cut := v16.Core.Count } } with Core := { ({ { { v16 with Core := { v16.Core with Promise := x4.2.1.Promise } } with Core := { ({ v16 with Core := { v16.Core with Promise := x4.2.1.Promise } }).Core with Wanted := x4.2.1.Wanted } } with Core := { ({ { v16 with Core := { v16.Core with Promise := x4.2.1.Promise } } with Core := { ({ v16 with Core := { v16.Core with Promise := x4.2.1.Promise } }).Core with Wanted := x4.2.1.Wanted } }).Core with Cut := v16.Core.Count } }).Core with Ready := false } }).Core).Ready))) rfl (fe14 rfl rfl rfl rfl rfl rfl rfl rfl rfl rfl rfl rfl rfl rfl (fun _ => rfl))) (fe2 rfl rfl (fun _ => rfl)))) ty4 rfl <| r_e) rfl ?_
            exact inl_nx (x4.2.1, x4.2.2.1, { { { { v16 with Core := { v16.Core with Promise := x4.2.1.Promise } } with Core := { ({ v16 with Core := { v16.Core with Promise := x4.2.1.Promise } }).Core with Wanted := x4.2.1.Wanted } } with Core := { ({ { v16 with Core := { v16.Core with Promise := x4.2.1.Promise } } with Core := { ({ v16 with Core := { v16.Core with Promise := x4.2.1.Promise } }).Core with Wanted := x4.2.1.Wanted } }).Core with Cut := v16.Core.Count } } with Core := { ({ { { v16 with Core := { v16.Core with Promise := x4.2.1.Promise } } with Core := { ({ v16 with Core := { v16.Core with Promise := x4.2.1.Promise } }).Core with Wanted := x4.2.1.Wanted } } with Core := { ({ { v16 with Core := { v16.Core with Promise := x4.2.1.Promise } } with Core := { ({ v16 with Core := { v16.Core with Promise := x4.2.1.Promise } }).Core with Wanted := x4.2.1.Wanted } }).Core with Cut := v16.Core.Count } }).Core with Ready := false } }, x4.2.2.2.2.1, x4.2.2.2.2.2) H [] trivial (by decide) (cov_prune ⟨rfl, rfl, rfl, trivial⟩ ⟨rfl, rfl, rfl, rfl, rfl, trivial⟩ (nl rfl))
        · replace H := ite_f hc H
          refine aw_skip ?_
          exact nx_join (x4.2.1, x4.2.2.1, v16, x4.2.2.2.2.1, x4.2.2.2.2.2) H (cov_prune a3 a5 (nl rfl))
  · refine aw_cov (cov_prune (s1 := ⟨[(0, _)], [(0, some _), (1, some _), (2, some _)], 4, [(2, (.ptr 0 0 [])), (3, (.ptr 1 0 [])), (4, (.ptr 2 0 []))]⟩) a1 a3 (Nat.le_refl _) (hgh := a3)) ?_
    refine aw_region (r_p (does_box 35 (.tmp 0) 4 (e_api_Core p0) trivial rfl) m10 rfl <| r_0 (does_assign (.const (.pointer none)) .any (fun _ => trivial)) rfl rfl <| r_e) ?_
    refine aw_cov (cov_prune (s1 := ⟨[(1, _)], [(0, some _), (1, some _), (2, some _), (4, some _)], 5, [(2, (.ptr 0 0 [])), (3, (.ptr 1 0 [])), (4, (.ptr 2 0 []))]⟩) a1 a4 (Nat.le_refl _) (hgh := a3)) ?_
    obtain ⟨v2, h3, H⟩ := bnd H
    refine aw_region (r_fa (.ptr 4 (0 + 39) [7]) fl35_7 rfl rfl rfl rfl <| r_ld (e_s_api_Kept p0.Kept) rfl rfl ⟨rfl, nl rfl, trivial⟩ rfl rfl ty30 rfl <| r_p (does_callO 64 0 (fun _ => .any) (.func 64) [(.tmp 4)] [(e_s_api_Kept p0.Kept)] [] [] true [(e_s_api_Kept p0.Kept)] _ (.own 5) _ 5 1 _ _ rfl fo64 rfl ⟨trivial, trivial⟩ ⟨.ro _ _ (.data _ (d_s_api_Kept p0.Kept)), trivial⟩ (slices_Clone_api_Kept_api_Kept_spec p0.Kept _ h3) rfl (by simp) rfl trivial ⟨⟨nl rfl, _, rfl, fun _ => (f_api_Kept _)⟩, trivial⟩ (.own 0 (nl rfl))) m10 rfl <| r_fa (.ptr 4 (0 + 39) [7]) fl35_7 rfl rfl rfl rfl <| r_p (does_storeO 30 6 (.tmp 5) 4 (0 + 39) [7] (.var (e_api_Core p0)) (.var (.agg (.st [1, 1, 1, 17, 3, 8, 8, 1, 3, 8, 8, 1, 128, 1]) (vupd (c_api_Core p0) 7 (.own 5)))) 5 38 v2.length (fun j => (e_api_Kept (v2.getD j z_api_Kept))) (.own 5) rfl false trivial ⟨rfl, nl rfl, trivial⟩ rfl rfl (congrArg Box.var (set_cons (w := (.own 5)) rfl (fe14 rfl rfl rfl rfl rfl rfl rfl rfl rfl rfl rfl rfl rfl rfl (fun _ => rfl)))) ty30) ⟨a2, a2, rfl⟩ rfl <| r_e) ?_
    refine aw_cov (cov_prune (s1 := ⟨[(1, _)], [(0, some _), (1, some _), (2, some _), (4, some _), (5, some _)], 6, [(2, (.ptr 0 0 [])), (3, (.ptr 1 0 [])), (4, (.ptr 2 0 []))]⟩) a1 a5 (Nat.le_refl _) (hgh := a3)) ?_
    refine aw_region (r_lv rfl rfl ty35 rfl <| r_p (does_buildNO 80 #[(0, (.tmp 7))] [(0, (.tmp 7))] [(0, (.agg (.st [1, 1, 1, 17, 3, 8, 8, 1, 3, 8, 8, 1, 128, 1]) (vupd (c_api_Core p0) 7 (.own 5))))] (.st [189, 1]) (c_core_under z_core_under) (vupd (vupd (c_core_under ({ Core := p0, told := [] } : core_under)) 0 (.agg (.st [1, 1, 1, 17, 3, 8, 8, 1, 3, 8, 8, 1, 128, 1]) (vupd (c_api_Core (({ Core := p0, told := [] } : core_under).Core)) 7 (.own 5)))) 1 (.own 6)) (fun j => (e_api_Happen (([] : _root_.List api_Happen).getD j z_api_Happen))) (fun j => (e_api_Happen (([] : _root_.List api_Happen).getD j z_api_Happen))) 1 50 6 [(5, (.arr 38 v2.length fun j => (e_api_Kept (v2.getD j z_api_Kept))))] rfl bo80 ⟨a1, trivial⟩ (fun e hn => ⟨⟨nl rfl, sol_agg _ _, rfl⟩, trivial⟩) (nl rfl) rfl (fe2 rfl rfl (fun _ => rfl))) m11 rfl <| r_p (does_box 80 (.tmp 8) 7 (.agg (.st [189, 1]) (vupd (vupd (c_core_under ({ Core := p0, told := [] } : core_under)) 0 (.agg (.st [1, 1, 1, 17, 3, 8, 8, 1, 3, 8, 8, 1, 128, 1]) (vupd (c_api_Core (({ Core := p0, told := [] } : core_under).Core)) 7 (.own 5)))) 1 (.own 6))) trivial rfl) m10 rfl <| r_as rfl rfl <| r_e) ?_
    refine aw_cov (cov_prune (s1 := ⟨[(2, _)], [(0, some _), (1, some _), (2, some _), (5, some _), (6, some _), (7, some _)], 8, [(2, (.ptr 0 0 [])), (3, (.ptr 1 0 [])), (4, (.ptr 2 0 []))]⟩) a1 a6 (Nat.le_refl _) (hgh := a3)) ?_
    refine aw_ret ?_
    exact inl_ret (p0, p1, z_api_Core, ({ Core := p0, told := [] } : core_under), v2, ([] : _root_.List api_Happen)) H [(.ptr 7 0 [])] a1 (by decide) (cov_prune a4 a6 (nl rfl))
end Go.Proofs.Ytcocahffigbmbaa
end

section
set_option linter.unusedVariables false
set_option maxRecDepth 100000
namespace Go.Proofs.Ytcocahffigbmbaa
open Go.Eng
set_option maxHeartbeats 1600000
theorem kept_Get_1_spec (p0 : api_Kept) (q0 : Int) (q1 : Int) (r : Bool) (H : kept_Get_1 p0 q0 q1 = some r) : FSpec Try.prog 84 [(e_api_Kept p0), (.cptr (.int .i64 q0)), (.cptr (.int .u32 q1))] (.bool r) := by
  refine spec_of (fn := Try.f84) (args := [(e_api_Kept p0), (.cptr (.int .i64 q0)), (.cptr (.int .u32 q1))]) Try.func84 rfl (nl rfl) ?_
  rintro ⟨G, w0, W, S, Sp, gx⟩ hG
  cases hG
  unfold kept_Get_1 at H
  refine aw_region (r_p (does_box 64 (.tmp 0) 0 (e_api_Kept p0) trivial rfl) m10 rfl <| r_0 (does_assign (.const (.bool false)) (.bool false) (fun _ => rfl)) rfl rfl <| r_e) ?_
  refine aw_cov (cov_prune (s1 := ⟨[(1, _), (2, _), (3, _)], [(0, some _)], 1, []⟩) a3 a1 (Nat.le_refl _)) ?_
  refine aw_region (r_fa (.ptr 0 (0 + 0) [0]) fl64_0 rfl rfl rfl rfl <| r_ld (.int .i64 p0.From) rfl rfl ⟨rfl, nl rfl, trivial⟩ rfl rfl ty3 rfl <| r_p (does_loadc 3 1 (.int .i64 q0) ty3) m10 rfl <| r_p (does_bin .eql 3 3 (.tmp 6) (.tmp 7) .i64 p0.From q0 (.bool (p0.From == q0)) trivial trivial (bin_eql _ _ _ _)) m20 rfl <| r_mv rfl rfl <| r_gfa (.ptr 0 (0 + 1) [1]) fl64_1 rfl rfl rfl rfl rfl (fun _ => .same _) rfl rfl rfl <| r_gld (.int .u32 p0.Round) rfl rfl rfl rfl rfl (fun hc => .opt _ _ hc) rfl (fun hc => ⟨rfl, nl rfl, trivial⟩) rfl rfl ty22 rfl <| r_gp (Step.guarded rfl rfl rfl rfl (fun hc => does_loadc 22 2 (.int .u32 q1) ty22)) m20 rfl <| r_g [(11, _), (12, _)] [(11, _), (12, _)] [] rfl rfl m30 rfl (fun hc => ⟨(.opt _ _ hc), (.opt _ _ hc), trivial⟩) (fun hc => does_bin .eql 22 22 (.tmp 11) (.tmp 12) .u32 p0.Round q1 (.bool (p0.Round == q1)) trivial trivial (bin_eql _ _ _ _)) rfl <| r_p (does_and 9 13 (p0.From == q0) (p0.Round == q1)) m20 rfl <| r_as rfl rfl <| r_e) ?_
  refine aw_cov (cov_prune (s1 := ⟨[(4, _)], [], 1, []⟩) a1 trivial (Nat.le_refl _)) ?_
  refine aw_ret ?_
  exact fun a w hr => ⟨_, [(.bool ((p0.From == q0) && (p0.Round == q1)))], hr, ⟨⟨_, rfl, .data (.bool ((p0.From == q0) && (p0.Round == q1))) trivial⟩, trivial⟩, by decide, by cases H; rfl⟩
theorem kept_Get_spec (p0 : (_root_.List api_Kept)) (p1 : Int) (p2 : Int) (r : (Nat → (Nat → api_Entry)) × Bool) (H : kept_Get p0 p1 p2 = some r) : FSpec Try.prog 46 [(e_s_api_Kept p0), (.int .i64 p1), (.int .u32 p2)] (resV [(e_a3_a2_api_Entry r.1), (.bool r.2)]) := by
  refine spec_of (fn := Try.f46) (args := [(e_s_api_Kept p0), (.int .i64 p1), (.int .u32 p2)]) Try.func46 rfl (nl rfl) ?_
  rintro ⟨G, w0, W, S, Sp, gx⟩ hG
  cases hG
  unfold kept_Get at H
  refine aw_region (r_p (does_box 3 (.tmp 1) 0 (.int .i64 p1) trivial rfl) m10 rfl <| r_p (does_box 22 (.tmp 2) 1 (.int .u32 p2) trivial rfl) m10 rfl <| r_0 (does_alloc 41 2 (e_a3_a2_api_Entry (fun _ => (fun _ => z_api_Entry))) zr41) rfl rfl <| r_0 (does_assign (.const (.bool false)) (.bool false) (fun _ => rfl)) rfl rfl <| r_e) ?_
  refine aw_cov (cov_prune (s1 := ⟨[(0, _), (4, _), (5, _), (6, _)], [(0, some _), (1, some _), (2, some _)], 3, []⟩) a4 a3 (Nat.le_refl _)) ?_
  obtain ⟨v1, h2, H⟩ := bnd H
  refine aw_region (r_mv rfl rfl <| r_p (does_makeFunc 84 [(.tmp 4), (.tmp 5)] [(.ptr 0 0 []), (.ptr 1 0 [])] #[(.tmp 4), (.tmp 5)] rfl ⟨trivial, trivial, trivial⟩) m20 rfl <| r_ca [_, _] [_, _] (nob := [(0, (.var (.int .i64 p1))), (1, (.var (.int .u32 p2)))]) (flat := true) (slices_IndexFunc_api_Kept_api_Kept_spec p0 (fun z0 => kept_Get_1 z0 p1 p2) 84 2 (fun j => ([.cptr (.int .i64 p1), .cptr (.int .u32 p2)] : _root_.List V).getD j (.bool false)) fo84 (fun j => match j with | 0 => .inl (.inr (.inl ⟨(.int .i64 p1), trivial, rfl⟩)) | 1 => .inl (.inr (.inl ⟨(.int .u32 p2), trivial, rfl⟩)) | _ + 2 => .inl (.inl trivial)) (fun z0 r h => kept_Get_1_spec z0 p1 p2 r h) _ h2) rfl rfl ⟨a2, a2, rfl⟩ fo83 ⟨trivial, trivial, trivial⟩ ⟨.data _ (d_s_api_Kept _), .fn _ _ _ _ (fun j hj => match j, hj with | 0, _ => .ptr 0 0 [] (.var (.int .i64 p1)) (.int .i64 p1) (.head _) trivial rfl rfl trivial | 1, _ => .ptr 1 0 [] (.var (.int .u32 p2)) (.int .u32 p2) (.tail _ (.head _)) trivial rfl rfl trivial | k + 2, hj => (nlt hj).elim), trivial⟩ trivial rfl <| r_as rfl rfl <| r_e) ?_
  refine aw_cov (cov_prune (s1 := ⟨[(0, _), (6, _), (8, _)], [(2, some _)], 3, []⟩) a3 a1 (Nat.le_refl _)) ?_
  refine aw_seq ?_
  refine aw_region (r_mv rfl rfl <| r_p (does_bin .lss 3 3 (.tmp 12) (.const (.int .i64 0)) .i64 v1 0 (.bool (decide (v1 < 0))) trivial (fun _ => rfl) (bin_lss _ _ _ _)) m10 rfl <| r_e) ?_
  refine aw_cov (cov_prune (s1 := ⟨[(0, _), (6, _), (8, _), (13, _)], [(2, some _)], 3, []⟩) a4 a1 (Nat.le_refl _)) ?_
  refine aw_cond rfl (fun hc => ?_) (fun hc => ?_)
  · replace H := ite_t hc H
    refine aw_region (r_0 (does_buildT 41 #[] [] [] (.ar 3 12) (fun j => (e_a2_api_Entry ((fun _ => (fun _ => z_api_Entry)) j))) (fun j => (e_a2_api_Entry ((aset (fun _ => (fun _ => z_api_Entry)) []) j))) rfl bo41 trivial trivial (setAll_map e_a2_api_Entry [] _)) rfl rfl <| r_sv rfl rfl rfl rfl rfl rfl ty41 rfl <| r_0 (does_assign (.const (.bool false)) (.bool false) (fun _ => rfl)) rfl rfl <| r_e) ?_
    refine aw_cov (cov_prune (s1 := ⟨[(6, _), (7, _)], [(2, some _)], 3, []⟩) a2 a1 (Nat.le_refl _)) ?_
    refine aw_ret ?_
    refine rt_then ?_
    exact fun a w hr => ⟨_, [(e_a3_a2_api_Entry (aset (fun _ => (fun _ => z_api_Entry)) [])), (.bool false)], hr, ⟨⟨2, _, rfl, rfl, .data _ (d_a3_a2_api_Entry (aset (fun _ => (fun _ => z_api_Entry)) [])), ty41⟩, ⟨_, rfl, .data (.bool false) trivial⟩, trivial⟩, by decide, by cases H; rfl⟩
  · replace H := ite_f hc H
    refine aw_skip ?_
    refine nx_seq ?_
    obtain ⟨h3, H⟩ := ib_of H
    refine aw_region (r_mv rfl rfl <| r_mv rfl rfl <| r_p (does_indexAddrs 30 38 p0.length 15 (fun j => (e_api_Kept (p0.getD j z_api_Kept))) (.tmp 16) .i64 v1 el30 trivial h3.1 h3.2) m20 rfl <| r_p (does_fieldAddrc 64 2 2 17 (e_api_Kept (p0.getD v1.toNat z_api_Kept)) fl64_2 rfl (nl rfl) rfl) m10 rfl <| r_p (does_loadc 41 18 (e_a3_a2_api_Entry ((p0.getD v1.toNat z_api_Kept).Frame)) ty41) m10 rfl <| r_sv rfl rfl rfl rfl rfl rfl ty41 rfl <| r_0 (does_assign (.const (.bool true)) (.bool true) (fun _ => rfl)) rfl rfl <| r_e) ?_
    refine aw_cov (cov_prune (s1 := ⟨[(6, _), (7, _)], [(2, some _)], 3, []⟩) a2 a1 (Nat.le_refl _)) ?_
    refine aw_ret ?_
    exact fun a w hr => ⟨_, [(e_a3_a2_api_Entry ((p0.getD v1.toNat z_api_Kept).Frame)), (.bool true)], hr, ⟨⟨2, _, rfl, rfl, .data _ (d_a3_a2_api_Entry ((p0.getD v1.toNat z_api_Kept).Frame)), ty41⟩, ⟨_, rfl, .data (.bool true) trivial⟩, trivial⟩, by decide, by cases H; rfl⟩
theorem kept_Pick_spec (p0 : (_root_.List api_Kept)) (p1 : Int) (r : api_Kept × Bool) (H : kept_Pick p0 p1 = some r) : FSpec Try.prog 47 [(e_s_api_Kept p0), (.int .u32 p1)] (resV [(e_api_Kept r.1), (.bool r.2)]) := by
  refine spec_of (fn := Try.f47) (args := [(e_s_api_Kept p0), (.int .u32 p1)]) Try.func47 rfl (nl rfl) ?_
  rintro ⟨G, w0, W, S, Sp, gx⟩ hG
  cases hG
  unfold kept_Pick at H
  refine aw_region (r_0 (does_alloc 64 0 (e_api_Kept z_api_Kept) zr64) rfl rfl <| r_0 (does_assign (.const (.bool false)) (.bool false) (fun _ => rfl)) rfl rfl <| r_e) ?_
  refine aw_cov (cov_prune (s1 := ⟨[(0, _), (1, _), (4, _)], [(0, some _)], 1, []⟩) a3 a1 (Nat.le_refl _)) ?_
  refine aw_seq ?_
  refine aw_region (r_mv rfl rfl <| r_p (does_lens 30 38 p0.length 6 (fun j => (e_api_Kept (p0.getD j z_api_Kept))) el30) m10 rfl <| r_p (does_bin .eql 3 3 (.tmp 7) (.const (.int .i64 0)) .i64 (p0.length : Int) 0 (.bool ((p0.length : Int) == 0)) trivial (fun _ => rfl) (bin_eql _ _ _ _)) m10 rfl <| r_e) ?_
  refine aw_cov (cov_prune (s1 := ⟨[(0, _), (1, _), (4, _), (8, _)], [(0, some _)], 1, []⟩) a4 a1 (Nat.le_refl _)) ?_
  refine aw_cond rfl (fun hc => ?_) (fun hc => ?_)
  · replace H := ite_t hc H
    refine aw_region (r_0 (does_buildT 64 #[] [] [] (.st [1, 1, 36]) (c_api_Kept z_api_Kept) (c_api_Kept ({ From := 0, Round := 0, Frame := (fun _ => (fun _ => z_api_Entry)) } : api_Kept)) rfl bo64 trivial trivial (fe3 rfl rfl rfl (fun _ => rfl))) rfl rfl <| r_sv rfl rfl rfl rfl rfl rfl ty64 rfl <| r_0 (does_assign (.const (.bool false)) (.bool false) (fun _ => rfl)) rfl rfl <| r_e) ?_
    obtain ⟨v1, hv1, H⟩ := lt_of H
    refine aw_cov (cov_prune (s1 := ⟨[(4, _), (5, _)], [(0, some (.var (e_api_Kept v1)))], 1, []⟩) a2 ⟨(by subst hv1; rfl), trivial⟩ (Nat.le_refl _)) ?_
    refine aw_ret ?_
    refine rt_then ?_
    exact fun a w hr => ⟨_, [(e_api_Kept v1), (.bool false)], hr, ⟨⟨0, _, rfl, rfl, .data _ (d_api_Kept v1), ty64⟩, ⟨_, rfl, .data (.bool false) trivial⟩, trivial⟩, by decide, by cases H; rfl⟩
  · replace H := ite_f hc H
    refine aw_skip ?_
    refine nx_seq ?_
    obtain ⟨h2, H⟩ := nz_of H
    obtain ⟨h3, H⟩ := ib_of H
    refine aw_region (r_mv rfl rfl <| r_mv rfl rfl <| r_p (does_convInt 22 36 (.tmp 11) .u32 .u64 p1 trivial rfl rfl) m10 rfl <| r_mv rfl rfl <| r_p (does_lens 30 38 p0.length 13 (fun j => (e_api_Kept (p0.getD j z_api_Kept))) el30) m10 rfl <| r_p (does_convInt 3 36 (.tmp 14) .i64 .u64 (p0.length : Int) trivial rfl rfl) m10 rfl <| r_p (does_bin .rem 36 36 (.tmp 12) (.tmp 15) .u64 (IntKind.u64.wrap (p1)) (IntKind.u64.wrap ((p0.length : Int))) (.int .u64 ((IntKind.u64.wrap (p1)).tmod (IntKind.u64.wrap ((p0.length : Int))))) trivial trivial (bin_rem _ _ _ _ h2)) m20 rfl <| r_p (does_indexAddrs 30 38 p0.length 10 (fun j => (e_api_Kept (p0.getD j z_api_Kept))) (.tmp 16) .u64 ((IntKind.u64.wrap (p1)).tmod (IntKind.u64.wrap ((p0.length : Int)))) el30 trivial h3.1 h3.2) m20 rfl <| r_p (does_loadc 64 17 (e_api_Kept (p0.getD (((IntKind.u64.wrap (p1)).tmod (IntKind.u64.wrap ((p0.length : Int)))).toNat) z_api_Kept)) ty64) m10 rfl <| r_sv rfl rfl rfl rfl rfl rfl ty64 rfl <| r_0 (does_assign (.const (.bool true)) (.bool true) (fun _ => rfl)) rfl rfl <| r_e) ?_
    obtain ⟨v4, hv4, H⟩ := lt_of H
    refine aw_cov (cov_prune (s1 := ⟨[(4, _), (5, _)], [(0, some (.var (e_api_Kept v4)))], 1, []⟩) a2 ⟨(by subst hv4; rfl), trivial⟩ (Nat.le_refl _)) ?_
    refine aw_ret ?_
    exact fun a w hr => ⟨_, [(e_api_Kept v4), (.bool true)], hr, ⟨⟨0, _, rfl, rfl, .data _ (d_api_Kept v4), ty64⟩, ⟨_, rfl, .data (.bool true) trivial⟩, trivial⟩, by decide, by cases H; rfl⟩
theorem core_Packet_spec (p0 : api_Core) (r : api_Packet) (H : core_Packet p0 = some r) : FSpec Try.prog 15 [(e_api_Core p0)] (e_api_Packet r) := by
  refine spec_of (fn := Try.f15) (args := [(e_api_Core p0)]) Try.func15 rfl (nl rfl) ?_
  rintro ⟨G, w0, W, S, Sp, gx⟩ hG
  cases hG
  unfold core_Packet at H
  refine aw_region (r_p (does_box 35 (.tmp 0) 0 (e_api_Core p0) trivial rfl) m10 rfl <| r_0 (does_alloc 50 1 (e_api_Packet z_api_Packet) zr50) rfl rfl <| r_e) ?_
  refine aw_cov (cov_prune (s1 := ⟨[(1, _), (2, _)], [(0, some _), (1, some _)], 2, []⟩) a2 a2 (Nat.le_refl _)) ?_
  refine aw_region (r_fa (.ptr 0 (0 + 0) [0]) fl35_0 rfl rfl rfl rfl <| r_ld (.int .i64 p0.Self) rfl rfl ⟨rfl, nl rfl, trivial⟩ rfl rfl ty3 rfl <| r_p (does_convInt 3 22 (.tmp 7) .i64 .u32 p0.Self trivial rfl rfl) m10 rfl <| r_fa (.ptr 0 (0 + 2) [2]) fl35_2 rfl rfl rfl rfl <| r_ld (.int .u32 p0.Own) rfl rfl ⟨rfl, nl rfl, trivial⟩ rfl rfl ty22 rfl <| r_fa (.ptr 0 (0 + 20) [4]) fl35_4 rfl rfl rfl rfl <| r_ld (e_api_Id p0.Conf) rfl rfl ⟨rfl, nl rfl, trivial⟩ rfl rfl ty27 rfl <| r_fa (.ptr 0 (0 + 23) [5]) fl35_5 rfl rfl rfl rfl <| r_ld (e_a8_u32 p0.Members) rfl rfl ⟨rfl, nl rfl, trivial⟩ rfl rfl ty28 rfl <| r_fa (.ptr 0 (0 + 31) [6]) fl35_6 rfl rfl rfl rfl <| r_ld (e_a8_u32 p0.Count) rfl rfl ⟨rfl, nl rfl, trivial⟩ rfl rfl ty29 rfl <| r_fa (.ptr 0 (0 + 40) [8]) fl35_8 rfl rfl rfl rfl <| r_ld (e_api_Id p0.Promise) rfl rfl ⟨rfl, nl rfl, trivial⟩ rfl rfl ty27 rfl <| r_fa (.ptr 0 (0 + 43) [9]) fl35_9 rfl rfl rfl rfl <| r_ld (e_a8_u32 p0.Wanted) rfl rfl ⟨rfl, nl rfl, trivial⟩ rfl rfl ty28 rfl <| r_fa (.ptr 0 (0 + 59) [11]) fl35_11 rfl rfl rfl rfl <| r_ld (.bool p0.Ready) rfl rfl ⟨rfl, nl rfl, trivial⟩ rfl rfl ty4 rfl <| r_fa (.ptr 0 (0 + 188) [13]) fl35_13 rfl rfl rfl rfl <| r_ld (.int .u32 p0.Epoch) rfl rfl ⟨rfl, nl rfl, trivial⟩ rfl rfl ty22 rfl <| r_p (does_buildT 50 #[(0, (.tmp 8)), (1, (.tmp 10)), (2, (.tmp 12)), (3, (.tmp 14)), (4, (.tmp 16)), (5, (.tmp 18)), (6, (.tmp 20)), (7, (.tmp 22)), (8, (.tmp 24))] [(0, (.tmp 8)), (1, (.tmp 10)), (2, (.tmp 12)), (3, (.tmp 14)), (4, (.tmp 16)), (5, (.tmp 18)), (6, (.tmp 20)), (7, (.tmp 22)), (8, (.tmp 24))] [(0, (.int .u32 (IntKind.u32.wrap (p0.Self)))), (1, (.int .u32 p0.Own)), (2, (e_api_Id p0.Conf)), (3, (e_a8_u32 p0.Members)), (4, (e_a8_u32 p0.Count)), (5, (e_api_Id p0.Promise)), (6, (e_a8_u32 p0.Wanted)), (7, (.bool p0.Ready)), (8, (.int .u32 p0.Epoch))] (.st [1, 1, 3, 8, 8, 3, 8, 1, 1, 1, 36, 36, 1, 1, 36]) (c_api_Packet z_api_Packet) (c_api_Packet ({ From := (IntKind.u32.wrap (p0.Self)), Inc := p0.Own, Conf := p0.Conf, Members := p0.Members, Count := p0.Count, Promise := p0.Promise, Wanted := p0.Wanted, Ready := p0.Ready, Epoch := p0.Epoch, Round := 0, Newest := (fun _ => (fun _ => z_api_Entry)), Older := (fun _ => (fun _ => z_api_Entry)), RelayOf := 0, RelayRound := 0, Relay := (fun _ => (fun _ => z_api_Entry)) } : api_Packet)) rfl bo50 ⟨a1, a1, a1, a1, a1, a1, a1, a1, a1, trivial⟩ ⟨⟨nl rfl, rfl, rfl⟩, ⟨nl rfl, rfl, rfl⟩, ⟨nl rfl, rfl, rfl⟩, ⟨nl rfl, rfl, rfl⟩, ⟨nl rfl, rfl, rfl⟩, ⟨nl rfl, rfl, rfl⟩, ⟨nl rfl, rfl, rfl⟩, ⟨nl rfl, rfl, rfl⟩, ⟨nl rfl, rfl, rfl⟩, trivial⟩ (by funext j; match j with | 0 => rfl | 1 => rfl | 2 => rfl | 3 => rfl | 4 => rfl | 5 => rfl | 6 => rfl | 7 => rfl | 8 => rfl | 9 => rfl | 10 => rfl | 11 => rfl | 12 => rfl | 13 => rfl | 14 => rfl | _ + 15 => rfl)) ⟨a9, trivial, rfl⟩ rfl <| r_0 (does_alloc 50 2 (e_api_Packet z_api_Packet) zr50) rfl rfl <| r_sv rfl rfl rfl rfl rfl rfl ty50 rfl <| r_e) ?_
  obtain ⟨v1, hv1, H⟩ := lt_of H
  refine aw_cov (cov_prune (s1 := ⟨[(1, _), (2, _), (3, _)], [(0, some _), (1, some _), (2, some (.var (e_api_Packet v1)))], 3, []⟩) a3 ⟨rfl, rfl, (by subst hv1; rfl), trivial⟩ (Nat.le_refl _)) ?_
  refine aw_seq ?_
  obtain ⟨v2, h3, H⟩ := bnd H
  refine aw_region (r_lv rfl rfl ty35 rfl <| r_ca [_] [_] (nob := []) (flat := true) (core_fits_spec p0 _ h3) rfl rfl m10 fo29 ⟨trivial, trivial⟩ ⟨.data _ (d_api_Core _), trivial⟩ trivial rfl <| r_p (does_not 4 (.tmp 27) v2 trivial) m10 rfl <| r_e) ?_
  refine aw_cov (cov_prune (s1 := ⟨[(1, _), (2, _), (3, _), (28, _)], [(0, some _), (1, some _), (2, some _)], 3, []⟩) a4 a3 (Nat.le_refl _)) ?_
  refine aw_cond rfl (fun hc => ?_) (fun hc => ?_)
  · replace H := ite_t hc H
    refine aw_region (r_lv rfl rfl ty50 rfl <| r_sv rfl rfl rfl rfl rfl rfl ty50 rfl <| r_e) ?_
    refine aw_cov (cov_prune (s1 := ⟨[(2, _)], [(1, some _)], 3, []⟩) a1 a1 (Nat.le_refl _)) ?_
    refine aw_ret ?_
    refine rt_then ?_
    exact fun a w hr => ⟨_, [(e_api_Packet v1)], hr, ⟨⟨1, _, rfl, rfl, .data _ (d_api_Packet v1), ty50⟩, trivial⟩, by decide, by cases H; rfl⟩
  · replace H := ite_f hc H
    refine aw_skip ?_
    refine nx_seq ?_
    obtain ⟨h4, H⟩ := ib_of H
    refine aw_region (r_fa (.ptr 0 (0 + 0) [0]) fl35_0 rfl rfl rfl rfl <| r_ld (.int .i64 p0.Self) rfl rfl ⟨rfl, nl rfl, trivial⟩ rfl rfl ty3 rfl <| r_fa (.ptr 0 (0 + 31) [6]) fl35_6 rfl rfl rfl rfl <| r_p (does_indexAddr 29 8 1 32 0 (0 + 31) [6] (.var (e_api_Core p0)) (.tmp 31) .i64 p0.Self el29 trivial h4.1 h4.2) m21 rfl <| r_ld (.int .u32 (p0.Count p0.Self.toNat)) rfl rfl ⟨rfl, nl rfl, ⟨rfl, (ixl h4), trivial⟩⟩ rfl rfl ty22 rfl <| r_fa (.ptr 2 (0 + 34) [9]) fl50_9 rfl rfl rfl rfl <| r_st (.var (e_api_Packet ({ v1 with Round := p0.Count p0.Self.toNat }))) rfl rfl a1 trivial rfl ⟨rfl, nl rfl, trivial⟩ rfl rfl (congrArg Box.var (set_cons rfl (st_api_Packet_9 _ _))) ty22 rfl <| r_e) ?_
    refine aw_cov (cov_prune (s1 := ⟨[(1, _), (2, _), (3, _)], [(0, some _), (1, some _), (2, some _)], 3, []⟩) a3 a3 (Nat.le_refl _)) ?_
    obtain ⟨v5, h6, H⟩ := bnd H
    refine aw_region (r_fa (.ptr 0 (0 + 39) [7]) fl35_7 rfl rfl rfl rfl <| r_ld (e_s_api_Kept p0.Kept) rfl rfl ⟨rfl, nl rfl, trivial⟩ rfl rfl ty30 rfl <| r_fa (.ptr 0 (0 + 0) [0]) fl35_0 rfl rfl rfl rfl <| r_ld (.int .i64 p0.Self) rfl rfl ⟨rfl, nl rfl, trivial⟩ rfl rfl ty3 rfl <| r_fa (.ptr 2 (0 + 34) [9]) fl50_9 rfl rfl rfl rfl <| r_ld (.int .u32 (({ v1 with Round := p0.Count p0.Self.toNat } : api_Packet).Round)) rfl rfl ⟨rfl, nl rfl, trivial⟩ rfl rfl ty22 rfl <| r_ca [_, _, _] [_, _, _] (nob := []) (flat := true) (kept_Get_spec _ _ _ _ h6) rfl rfl m30 fo46 ⟨trivial, trivial, trivial, trivial⟩ ⟨.data _ (d_s_api_Kept _), .data _ trivial, .data _ trivial, trivial⟩ (res_flat2 (f_a3_a2_api_Entry v5.1) trivial) rfl <| r_mv rfl rfl <| r_ex (e_a3_a2_api_Entry v5.1) rfl (nl rfl) rfl rfl <| r_ex (.bool v5.2) rfl (nl rfl) rfl rfl <| r_fa (.ptr 2 (0 + 35) [10]) fl50_10 rfl rfl rfl rfl <| r_st (.var (e_api_Packet ({ { v1 with Round := p0.Count p0.Self.toNat } with Newest := v5.1 }))) rfl rfl a1 trivial rfl ⟨rfl, nl rfl, trivial⟩ rfl rfl (congrArg Box.var (set_cons rfl (st_api_Packet_10 _ _))) ty41 rfl <| r_e) ?_
    obtain ⟨v7, hv7, H⟩ := lt_of H
    refine aw_cov (cov_prune (s1 := ⟨[(1, _), (2, _), (3, _)], [(0, some _), (1, some _), (2, some (.var (e_api_Packet v7)))], 3, []⟩) a3 ⟨rfl, rfl, (by subst hv7; rfl), trivial⟩ (Nat.le_refl _)) ?_
    refine aw_seq ?_
    refine aw_region (r_fa (.ptr 2 (0 + 34) [9]) fl50_9 rfl rfl rfl rfl <| r_ld (.int .u32 v7.Round) rfl rfl ⟨rfl, nl rfl, trivial⟩ rfl rfl ty22 rfl <| r_p (does_bin .gtr 22 22 (.tmp 48) (.const (.int .u32 0)) .u32 v7.Round 0 (.bool (decide (v7.Round > 0))) trivial (fun _ => rfl) (bin_gtr _ _ _ _)) m10 rfl <| r_e) ?_
    refine aw_cov (cov_prune (s1 := ⟨[(1, _), (2, _), (3, _), (49, _)], [(0, some _), (1, some _), (2, some _)], 3, []⟩) a4 a3 (Nat.le_refl _)) ?_
    refine aw_jn (fun x11 : api_Packet => (⟨[(1, (.ptr 0 0 [])), (2, (.ptr 1 0 [])), (3, (.ptr 2 0 []))], [(0, some (.var (e_api_Core p0))), (1, some (.var (e_api_Packet z_api_Packet))), (2, some (.var (e_api_Packet x11)))], 3, []⟩ : St)) H (fun x11 H => ?_) (fun j8 H => ?_)
    · refine nx_seq ?_
      refine aw_seq ?_
      obtain ⟨v12, h13, H⟩ := bnd H
      refine aw_region (r_lv rfl rfl ty35 rfl <| r_ca [_] [_] (nob := []) (flat := true) (core_Gathers_spec p0 _ h13) rfl rfl m10 fo17 ⟨trivial, trivial⟩ ⟨.data _ (d_api_Core _), trivial⟩ trivial rfl <| r_e) ?_
      refine aw_cov (cov_prune (s1 := ⟨[(1, _), (2, _), (3, _), (63, _)], [(0, some _), (1, some _), (2, some _)], 3, []⟩) a4 a3 (Nat.le_refl _)) ?_
      refine aw_jn (fun x15 : api_Packet => (⟨[(1, (.ptr 0 0 [])), (2, (.ptr 1 0 [])), (3, (.ptr 2 0 []))], [(0, some (.var (e_api_Core p0))), (1, some (.var (e_api_Packet z_api_Packet))), (2, some (.var (e_api_Packet x15)))], 3, []⟩ : St)) H (fun x15 H => ?_) (fun j14 H => ?_)
      · refine nx_seq ?_
        refine aw_seq ?_
        obtain ⟨v16, h17, H⟩ := bnd H
        refine aw_region (r_fa (.ptr 0 (0 + 39) [7]) fl35_7 rfl rfl rfl rfl <| r_ld (e_s_api_Kept p0.Kept) rfl rfl ⟨rfl, nl rfl, trivial⟩ rfl rfl ty30 rfl <| r_fa (.ptr 0 (0 + 3) [3]) fl35_3 rfl rfl rfl rfl <| r_fa (.ptr 0 ((0 + 3) + 0) [3, 0]) fl25_0 rfl rfl rfl rfl <| r_ld (.int .u32 p0.Beat.Now) rfl rfl ⟨rfl, nl rfl, ⟨rfl, nl rfl, trivial⟩⟩ rfl rfl ty22 rfl <| r_ca [_, _] [_, _] (nob := []) (flat := true) (kept_Pick_spec _ _ _ h17) rfl rfl m20 fo47 ⟨trivial, trivial, trivial⟩ ⟨.data _ (d_s_api_Kept _), .data _ trivial, trivial⟩ (res_flat2 (f_api_Kept v16.1) trivial) rfl <| r_mv rfl rfl <| r_ex (e_api_Kept v16.1) rfl (nl rfl) rfl rfl <| r_ex (.bool v16.2) rfl (nl rfl) rfl rfl <| r_0 (does_alloc 64 3 (e_api_Kept z_api_Kept) zr64) rfl rfl <| r_sv rfl rfl rfl rfl rfl rfl ty64 rfl <| r_as rfl rfl <| r_e) ?_
        refine aw_cov (cov_prune (s1 := ⟨[(2, _), (3, _), (4, _), (5, _)], [(1, some _), (2, some _), (3, some _)], 4, []⟩) a4 a3 (Nat.le_refl _)) ?_
        refine aw_region (r_mv rfl rfl <| r_e) ?_
        refine aw_cov (cov_prune (s1 := ⟨[(2, _), (3, _), (4, _), (76, _)], [(1, some _), (2, some _), (3, some _)], 4, []⟩) a4 a3 (Nat.le_refl _)) ?_
        refine aw_jn (fun x19 : api_Packet => (⟨[(2, (.ptr 1 0 [])), (3, (.ptr 2 0 []))], [(1, some (.var (e_api_Packet z_api_Packet))), (2, some (.var (e_api_Packet x19)))], 4, []⟩ : St)) H (fun x19 H => ?_) (fun j18 H => ?_)
        · refine nx_seq ?_
          refine aw_region (r_lv rfl rfl ty50 rfl <| r_sv rfl rfl rfl rfl rfl rfl ty50 rfl <| r_e) ?_
          refine aw_cov (cov_prune (s1 := ⟨[(2, _)], [(1, some _)], 4, []⟩) a1 a1 (Nat.le_refl _)) ?_
          refine aw_ret ?_
          exact fun a w hr => ⟨_, [(e_api_Packet x19)], hr, ⟨⟨1, _, rfl, rfl, .data _ (d_api_Packet x19), ty50⟩, trivial⟩, by decide, by cases H; rfl⟩
        · refine aw_cond rfl (fun hc => ?_) (fun hc => ?_)
          · replace H := ite_t hc H
            refine aw_draw1 (mixed) (r_fa (.ptr 3 (0 + 0) [0]) fl64_0 rfl rfl rfl rfl <| r_ld (.int .i64 v16.1.From) rfl rfl ⟨rfl, nl rfl, trivial⟩ rfl rfl ty3 rfl <| r_p (does_convInt 3 22 (.tmp 78) .i64 .u32 v16.1.From trivial rfl rfl) m10 rfl <| r_fa (.ptr 3 (0 + 1) [1]) fl64_1 rfl rfl rfl rfl <| r_ld (.int .u32 v16.1.Round) rfl rfl ⟨rfl, nl rfl, trivial⟩ rfl rfl ty22 rfl <| r_fa (.ptr 3 (0 + 2) [2]) fl64_2 rfl rfl rfl rfl <| r_ld (e_a3_a2_api_Entry v16.1.Frame) rfl rfl ⟨rfl, nl rfl, trivial⟩ rfl rfl ty41 rfl <| r_fa (.ptr 2 (0 + 107) [12]) fl50_12 rfl rfl rfl rfl <| r_st (.var (e_api_Packet ({ x15 with RelayOf := (IntKind.u32.wrap (v16.1.From)) }))) rfl rfl a1 trivial rfl ⟨rfl, nl rfl, trivial⟩ rfl rfl (congrArg Box.var (set_cons rfl (st_api_Packet_12 _ _))) ty22 rfl <| r_fa (.ptr 2 (0 + 108) [13]) fl50_13 rfl rfl rfl rfl <| r_st (.var (e_api_Packet ({ { x15 with RelayOf := (IntKind.u32.wrap (v16.1.From)) } with RelayRound := v16.1.Round }))) rfl rfl a1 trivial rfl ⟨rfl, nl rfl, trivial⟩ rfl rfl (congrArg Box.var (set_cons rfl (st_api_Packet_13 _ _))) ty22 rfl <| r_fa (.ptr 2 (0 + 109) [14]) fl50_14 rfl rfl rfl rfl <| r_st (.var (e_api_Packet ({ { { x15 with RelayOf := (IntKind.u32.wrap (v16.1.From)) } with RelayRound := v16.1.Round } with Relay := v16.1.Frame }))) rfl rfl a1 trivial rfl ⟨rfl, nl rfl, trivial⟩ rfl rfl (congrArg Box.var (set_cons rfl (st_api_Packet_14 _ _))) ty41 rfl <| r_e) rfl ?_
            exact nx_join ({ { { x15 with RelayOf := (IntKind.u32.wrap (v16.1.From)) } with RelayRound := v16.1.Round } with Relay := v16.1.Frame }) H (cov_prune ⟨rfl, rfl, trivial⟩ ⟨rfl, rfl, trivial⟩ (nl rfl))
          · replace H := ite_f hc H
            refine aw_skip ?_
            exact nx_join (x15) H (cov_prune a2 a2 (nl rfl))
      · refine aw_cond rfl (fun hc => ?_) (fun hc => ?_)
        · replace H := ite_t hc H
          refine aw_region1 (r_fa (.ptr 0 (0 + 51) [10]) fl35_10 rfl rfl rfl rfl <| r_ld (e_a8_u32 p0.Cut) rfl rfl ⟨rfl, nl rfl, trivial⟩ rfl rfl ty29 rfl <| r_fa (.ptr 2 (0 + 13) [4]) fl50_4 rfl rfl rfl rfl <| r_st (.var (e_api_Packet ({ x11 with Count := p0.Cut }))) rfl rfl a1 trivial rfl ⟨rfl, nl rfl, trivial⟩ rfl rfl (congrArg Box.var (set_cons rfl (st_api_Packet_4 _ _))) ty29 rfl <| r_e) ?_
          exact nx_join ({ x11 with Count := p0.Cut }) H (cov_prune a3 a3 (nl rfl))
        · replace H := ite_f hc H
          refine aw_skip ?_
          exact nx_join (x11) H (cov_prune a3 a3 (nl rfl))
    · refine aw_cond rfl (fun hc => ?_) (fun hc => ?_)
      · replace H := ite_t hc H
        obtain ⟨v9, h10, H⟩ := bnd H
        refine aw_region1 (r_fa (.ptr 0 (0 + 39) [7]) fl35_7 rfl rfl rfl rfl <| r_ld (e_s_api_Kept p0.Kept) rfl rfl ⟨rfl, nl rfl, trivial⟩ rfl rfl ty30 rfl <| r_fa (.ptr 0 (0 + 0) [0]) fl35_0 rfl rfl rfl rfl <| r_ld (.int .i64 p0.Self) rfl rfl ⟨rfl, nl rfl, trivial⟩ rfl rfl ty3 rfl <| r_fa (.ptr 2 (0 + 34) [9]) fl50_9 rfl rfl rfl rfl <| r_ld (.int .u32 v7.Round) rfl rfl ⟨rfl, nl rfl, trivial⟩ rfl rfl ty22 rfl <| r_p (does_bin .sub 22 22 (.tmp 56) (.const (.int .u32 1)) .u32 v7.Round 1 (.int .u32 (IntKind.u32.wrap (v7.Round - 1))) trivial (fun _ => rfl) (bin_sub _ _ _ _)) m10 rfl <| r_ca [_, _, _] [_, _, _] (nob := []) (flat := true) (kept_Get_spec _ _ _ _ h10) rfl rfl m30 fo46 ⟨trivial, trivial, trivial, trivial⟩ ⟨.data _ (d_s_api_Kept _), .data _ trivial, .data _ trivial, trivial⟩ (res_flat2 (f_a3_a2_api_Entry v9.1) trivial) rfl <| r_mv rfl rfl <| r_ex (e_a3_a2_api_Entry v9.1) rfl (nl rfl) rfl rfl <| r_ex (.bool v9.2) rfl (nl rfl) rfl rfl <| r_fa (.ptr 2 (0 + 71) [11]) fl50_11 rfl rfl rfl rfl <| r_st (.var (e_api_Packet ({ v7 with Older := v9.1 }))) rfl rfl a1 trivial rfl ⟨rfl, nl rfl, trivial⟩ rfl rfl (congrArg Box.var (set_cons rfl (st_api_Packet_11 _ _))) ty41 rfl <| r_e) ?_
        exact nx_join ({ v7 with Older := v9.1 }) H (cov_prune a3 a3 (nl rfl))
      · replace H := ite_f hc H
        refine aw_skip ?_
        exact nx_join (v7) H (cov_prune a3 a3 (nl rfl))
theorem congresslaw13_fixed_spec (r : Bool) (H : congresslaw13_fixed = some r) : FSpec Try.prog 9 [] (.bool r) := by
  refine spec_of (fn := Try.f9) (args := []) Try.func9 rfl (nl rfl) ?_
  rintro ⟨G, w0, W, S, Sp, gx⟩ hG
  cases hG
  unfold congresslaw13_fixed at H
  refine aw_region (r_0 (does_assign (.const (.bool false)) (.bool false) (fun _ => rfl)) rfl rfl <| r_e) ?_
  refine aw_cov (cov_prune (s1 := ⟨[], [], 0, []⟩) trivial trivial (Nat.le_refl _)) ?_
  obtain ⟨v1, h2, H⟩ := bnd H
  refine aw_region (r_0 (does_call 20 0 (fun _ => .any) (.func 20) [(.const (.int .i64 0)), (.const (.int .u32 1)), (.const (.int .i64 3))] [(.int .i64 0), (.int .u32 1), (.int .i64 3)] [] false [(.int .i64 0), (.int .u32 1), (.int .i64 3)] (resV [(e_api_Core v1.1), (.bool v1.2)]) _ _ rfl fo20 rfl ⟨(fun _ => rfl), (fun _ => rfl), (fun _ => rfl), trivial⟩ ⟨.data _ trivial, .data _ trivial, .data _ trivial, trivial⟩ (core_Start_spec 0 1 3 _ h2) (res_data2 (d_api_Core v1.1) trivial)) rfl rfl <| r_mv rfl rfl <| r_ex (e_api_Core v1.1) rfl (nl rfl) rfl rfl <| r_ex (.bool v1.2) rfl (nl rfl) rfl rfl <| r_0 (does_alloc 35 0 (e_api_Core z_api_Core) zr35) rfl rfl <| r_sv rfl rfl rfl rfl rfl rfl ty35 rfl <| r_as rfl rfl <| r_e) ?_
  refine aw_cov (cov_prune (s1 := ⟨[(1, _), (2, _)], [(0, some _)], 1, []⟩) a2 a1 (Nat.le_refl _)) ?_
  obtain ⟨v3, h4, H⟩ := bnd H
  refine aw_region (r_0 (does_call 20 0 (fun _ => .any) (.func 20) [(.const (.int .i64 8)), (.const (.int .u32 1)), (.const (.int .i64 3))] [(.int .i64 8), (.int .u32 1), (.int .i64 3)] [] false [(.int .i64 8), (.int .u32 1), (.int .i64 3)] (resV [(e_api_Core v3.1), (.bool v3.2)]) _ _ rfl fo20 rfl ⟨(fun _ => rfl), (fun _ => rfl), (fun _ => rfl), trivial⟩ ⟨.data _ trivial, .data _ trivial, .data _ trivial, trivial⟩ (core_Start_spec 8 1 3 _ h4) (res_data2 (d_api_Core v3.1) trivial)) rfl rfl <| r_mv rfl rfl <| r_ex (e_api_Core v3.1) rfl (nl rfl) rfl rfl <| r_ex (.bool v3.2) rfl (nl rfl) rfl rfl <| r_0 (does_alloc 35 1 (e_api_Core z_api_Core) zr35) rfl rfl <| r_sv rfl rfl rfl rfl rfl rfl ty35 rfl <| r_as rfl rfl <| r_e) ?_
  refine aw_cov (cov_prune (s1 := ⟨[(1, _), (2, _), (4, _)], [(0, some _)], 2, []⟩) a3 a1 (Nat.le_refl _)) ?_
  obtain ⟨v5, h6, H⟩ := bnd H
  refine aw_region (r_lv rfl rfl ty35 rfl <| r_0 (does_buildT 41 #[] [] [] (.ar 3 12) (fun j => (e_a2_api_Entry ((fun _ => (fun _ => z_api_Entry)) j))) (fun j => (e_a2_api_Entry ((aset (fun _ => (fun _ => z_api_Entry)) []) j))) rfl bo41 trivial trivial (setAll_map e_a2_api_Entry [] _)) rfl rfl <| r_p (does_callO 11 0 (fun _ => .any) (.func 11) [(.tmp 26), (.tmp 27)] [(e_api_Core v1.1), (e_a3_a2_api_Entry (aset (fun _ => (fun _ => z_api_Entry)) []))] [] [] true [(e_api_Core v1.1), (e_a3_a2_api_Entry (aset (fun _ => (fun _ => z_api_Entry)) []))] _ (resV [(.agg (.st [1, 1, 1, 17, 3, 8, 8, 1, 3, 8, 8, 1, 128, 1]) (vupd (c_api_Core v5.1) 7 (.own 2))), (.bool v5.2.1), (.own 3)]) _ 2 3 _ _ rfl fo11 rfl ⟨trivial, trivial, trivial⟩ ⟨.ro _ _ (.data _ (d_api_Core v1.1)), .ro _ _ (.data _ (d_a3_a2_api_Entry (aset (fun _ => (fun _ => z_api_Entry)) []))), trivial⟩ (core_Tick_spec v1.1 (aset (fun _ => (fun _ => z_api_Entry)) []) _ h6) rfl (by simp) rfl trivial ⟨⟨nl rfl, _, rfl, fun _ => (f_api_Kept _)⟩, ⟨nl rfl, _, rfl, fun _ => (f_api_Happen _)⟩, trivial⟩ (.tup _ _ _ (fun j => match j with | 0 => .agg _ _ _ (fun j => match j with | 0 => .data _ (trivial) | 1 => .data _ (trivial) | 2 => .data _ (trivial) | 3 => .data _ ((f_api_Beat _)) | 4 => .data _ ((f_api_Id _)) | 5 => .data _ ((f_a8_u32 _)) | 6 => .data _ ((f_a8_u32 _)) | 7 => .own 0 (nl rfl) | 8 => .data _ ((f_api_Id _)) | 9 => .data _ ((f_a8_u32 _)) | 10 => .data _ ((f_a8_u32 _)) | 11 => .data _ (trivial) | 12 => .data _ ((f_a8_api_Peer _)) | 13 => .data _ (trivial) | _ + 14 => .data _ trivial) | 1 => .data _ (trivial) | 2 => .own 1 (nl rfl) | _ + 3 => .data _ trivial))) m20 rfl <| r_mv rfl rfl <| r_ex (.agg (.st [1, 1, 1, 17, 3, 8, 8, 1, 3, 8, 8, 1, 128, 1]) (vupd (c_api_Core v5.1) 7 (.own 2))) rfl (nl rfl) rfl rfl <| r_ex (.bool v5.2.1) rfl (nl rfl) rfl rfl <| r_ex (.own 3) rfl (nl rfl) rfl rfl <| r_0 (does_alloc 35 5 (e_api_Core z_api_Core) zr35) rfl rfl <| r_sv rfl rfl rfl rfl rfl rfl ty35 rfl <| r_as rfl rfl <| r_as rfl rfl <| r_e) ?_
  refine aw_cov (cov_prune (s1 := ⟨[(2, _), (4, _), (5, _), (6, _), (7, _)], [(2, some _), (3, some _), (5, some _)], 6, []⟩) a5 a3 (Nat.le_refl _)) ?_
  obtain ⟨v7, h8, H⟩ := bnd H
  refine aw_region (r_lv rfl rfl ty35 rfl <| r_0 (does_buildT 41 #[] [] [] (.ar 3 12) (fun j => (e_a2_api_Entry ((fun _ => (fun _ => z_api_Entry)) j))) (fun j => (e_a2_api_Entry ((aset (fun _ => (fun _ => z_api_Entry)) []) j))) rfl bo41 trivial trivial (setAll_map e_a2_api_Entry [] _)) rfl rfl <| r_p (does_callO 11 0 (fun _ => .any) (.func 11) [(.tmp 33), (.tmp 34)] [(.agg (.st [1, 1, 1, 17, 3, 8, 8, 1, 3, 8, 8, 1, 128, 1]) (vupd (c_api_Core v5.1) 7 (.own 2))), (e_a3_a2_api_Entry (aset (fun _ => (fun _ => z_api_Entry)) []))] [(2, (.arr 38 v5.1.Kept.length fun j => (e_api_Kept (v5.1.Kept.getD j z_api_Kept))))] [] true [(e_api_Core ({ v5.1 with Kept := v5.1.Kept } : api_Core)), (e_a3_a2_api_Entry (aset (fun _ => (fun _ => z_api_Entry)) []))] _ (resV [(.agg (.st [1, 1, 1, 17, 3, 8, 8, 1, 3, 8, 8, 1, 128, 1]) (vupd (c_api_Core v7.1) 7 (.own 6))), (.bool v7.2.1), (.own 7)]) _ 6 3 _ _ rfl fo11 rfl ⟨trivial, trivial, trivial⟩ ⟨.ro _ _ (.agg _ _ _ (fun j => match j with | 0 => .data (.int .i64 (({ v5.1 with Kept := v5.1.Kept } : api_Core).Self)) trivial | 1 => .data (.int .i64 (({ v5.1 with Kept := v5.1.Kept } : api_Core).Wait)) trivial | 2 => .data (.int .u32 (({ v5.1 with Kept := v5.1.Kept } : api_Core).Own)) trivial | 3 => .data (e_api_Beat (({ v5.1 with Kept := v5.1.Kept } : api_Core).Beat)) (d_api_Beat _) | 4 => .data (e_api_Id (({ v5.1 with Kept := v5.1.Kept } : api_Core).Conf)) (d_api_Id _) | 5 => .data (e_a8_u32 (({ v5.1 with Kept := v5.1.Kept } : api_Core).Members)) (d_a8_u32 _) | 6 => .data (e_a8_u32 (({ v5.1 with Kept := v5.1.Kept } : api_Core).Count)) (d_a8_u32 _) | 7 => .own 2 _ _ _ (.head _) rfl (fun _ => (d_api_Kept _)) | 8 => .data (e_api_Id (({ v5.1 with Kept := v5.1.Kept } : api_Core).Promise)) (d_api_Id _) | 9 => .data (e_a8_u32 (({ v5.1 with Kept := v5.1.Kept } : api_Core).Wanted)) (d_a8_u32 _) | 10 => .data (e_a8_u32 (({ v5.1 with Kept := v5.1.Kept } : api_Core).Cut)) (d_a8_u32 _) | 11 => .data (.bool (({ v5.1 with Kept := v5.1.Kept } : api_Core).Ready)) trivial | 12 => .data (e_a8_api_Peer (({ v5.1 with Kept := v5.1.Kept } : api_Core).Peers)) (d_a8_api_Peer _) | 13 => .data (.int .u32 (({ v5.1 with Kept := v5.1.Kept } : api_Core).Epoch)) trivial | _ + 14 => .data (.bool false) trivial)), .ro _ _ (.data _ (d_a3_a2_api_Entry (aset (fun _ => (fun _ => z_api_Entry)) []))), trivial⟩ (core_Tick_spec ({ v5.1 with Kept := v5.1.Kept } : api_Core) (aset (fun _ => (fun _ => z_api_Entry)) []) _ h8) rfl (by simp) rfl trivial ⟨⟨nl rfl, _, rfl, fun _ => (f_api_Kept _)⟩, ⟨nl rfl, _, rfl, fun _ => (f_api_Happen _)⟩, trivial⟩ (.tup _ _ _ (fun j => match j with | 0 => .agg _ _ _ (fun j => match j with | 0 => .data _ (trivial) | 1 => .data _ (trivial) | 2 => .data _ (trivial) | 3 => .data _ ((f_api_Beat _)) | 4 => .data _ ((f_api_Id _)) | 5 => .data _ ((f_a8_u32 _)) | 6 => .data _ ((f_a8_u32 _)) | 7 => .own 0 (nl rfl) | 8 => .data _ ((f_api_Id _)) | 9 => .data _ ((f_a8_u32 _)) | 10 => .data _ ((f_a8_u32 _)) | 11 => .data _ (trivial) | 12 => .data _ ((f_a8_api_Peer _)) | 13 => .data _ (trivial) | _ + 14 => .data _ trivial) | 1 => .data _ (trivial) | 2 => .own 1 (nl rfl) | _ + 3 => .data _ trivial))) m21 rfl <| r_mv rfl rfl <| r_ex (.agg (.st [1, 1, 1, 17, 3, 8, 8, 1, 3, 8, 8, 1, 128, 1]) (vupd (c_api_Core v7.1) 7 (.own 6))) rfl (nl rfl) rfl rfl <| r_ex (.bool v7.2.1) rfl (nl rfl) rfl rfl <| r_ex (.own 7) rfl (nl rfl) rfl rfl <| r_0 (does_alloc 35 9 (e_api_Core z_api_Core) zr35) rfl rfl <| r_sv rfl rfl rfl rfl rfl rfl ty35 rfl <| r_as rfl rfl <| r_as rfl rfl <| r_e) ?_
  refine aw_cov (cov_prune (s1 := ⟨[(2, _), (4, _), (6, _), (7, _), (8, _), (9, _)], [(3, some _), (6, some _), (9, some _)], 10, []⟩) a6 a3 (Nat.le_refl _)) ?_
  obtain ⟨v9, h10, H⟩ := bnd H
  refine aw_region (r_lv rfl rfl ty35 rfl <| r_0 (does_buildT 27 #[(1, (.const (.int .u32 1))), (2, (.const (.int .u32 1)))] [(1, (.const (.int .u32 1))), (2, (.const (.int .u32 1)))] [(1, (.int .u32 1)), (2, (.int .u32 1))] (.st [1, 1, 1]) (c_api_Id z_api_Id) (c_api_Id ({ Epoch := 0, Coord := 1, Inc := 1 } : api_Id)) rfl bo27 ⟨⟨rfl, (fun _ => rfl)⟩, ⟨rfl, (fun _ => rfl)⟩, trivial⟩ ⟨⟨nl rfl, rfl, rfl⟩, ⟨nl rfl, rfl, rfl⟩, trivial⟩ (fe3 rfl rfl rfl (fun _ => rfl))) rfl rfl <| r_0 (does_buildT 27 #[(1, (.const (.int .u32 1))), (2, (.const (.int .u32 1)))] [(1, (.const (.int .u32 1))), (2, (.const (.int .u32 1)))] [(1, (.int .u32 1)), (2, (.int .u32 1))] (.st [1, 1, 1]) (c_api_Id z_api_Id) (c_api_Id ({ Epoch := 0, Coord := 1, Inc := 1 } : api_Id)) rfl bo27 ⟨⟨rfl, (fun _ => rfl)⟩, ⟨rfl, (fun _ => rfl)⟩, trivial⟩ ⟨⟨nl rfl, rfl, rfl⟩, ⟨nl rfl, rfl, rfl⟩, trivial⟩ (fe3 rfl rfl rfl (fun _ => rfl))) rfl rfl <| r_p (does_buildT 50 #[(0, (.const (.int .u32 1))), (1, (.const (.int .u32 1))), (2, (.tmp 41)), (5, (.tmp 42))] [(0, (.const (.int .u32 1))), (1, (.const (.int .u32 1))), (2, (.tmp 41)), (5, (.tmp 42))] [(0, (.int .u32 1)), (1, (.int .u32 1)), (2, (e_api_Id ({ Epoch := 0, Coord := 1, Inc := 1 } : api_Id))), (5, (e_api_Id ({ Epoch := 0, Coord := 1, Inc := 1 } : api_Id)))] (.st [1, 1, 3, 8, 8, 3, 8, 1, 1, 1, 36, 36, 1, 1, 36]) (c_api_Packet z_api_Packet) (c_api_Packet ({ From := 1, Inc := 1, Conf := ({ Epoch := 0, Coord := 1, Inc := 1 } : api_Id), Members := (fun _ => 0), Count := (fun _ => 0), Promise := ({ Epoch := 0, Coord := 1, Inc := 1 } : api_Id), Wanted := (fun _ => 0), Ready := false, Epoch := 0, Round := 0, Newest := (fun _ => (fun _ => z_api_Entry)), Older := (fun _ => (fun _ => z_api_Entry)), RelayOf := 0, RelayRound := 0, Relay := (fun _ => (fun _ => z_api_Entry)) } : api_Packet)) rfl bo50 ⟨⟨rfl, (fun _ => rfl)⟩, ⟨rfl, (fun _ => rfl)⟩, a1, a1, trivial⟩ ⟨⟨nl rfl, rfl, rfl⟩, ⟨nl rfl, rfl, rfl⟩, ⟨nl rfl, rfl, rfl⟩, ⟨nl rfl, rfl, rfl⟩, trivial⟩ (by funext j; match j with | 0 => rfl | 1 => rfl | 2 => rfl | 3 => rfl | 4 => rfl | 5 => rfl | 6 => rfl | 7 => rfl | 8 => rfl | 9 => rfl | 10 => rfl | 11 => rfl | 12 => rfl | 13 => rfl | 14 => rfl | _ + 15 => rfl)) m20 rfl <| r_p (does_callO 18 0 (fun _ => .any) (.func 18) [(.tmp 40), (.tmp 43)] [(.agg (.st [1, 1, 1, 17, 3, 8, 8, 1, 3, 8, 8, 1, 128, 1]) (vupd (c_api_Core v7.1) 7 (.own 6))), (e_api_Packet ({ From := 1, Inc := 1, Conf := ({ Epoch := 0, Coord := 1, Inc := 1 } : api_Id), Members := (fun _ => 0), Count := (fun _ => 0), Promise := ({ Epoch := 0, Coord := 1, Inc := 1 } : api_Id), Wanted := (fun _ => 0), Ready := false, Epoch := 0, Round := 0, Newest := (fun _ => (fun _ => z_api_Entry)), Older := (fun _ => (fun _ => z_api_Entry)), RelayOf := 0, RelayRound := 0, Relay := (fun _ => (fun _ => z_api_Entry)) } : api_Packet))] [(6, (.arr 38 v7.1.Kept.length fun j => (e_api_Kept (v7.1.Kept.getD j z_api_Kept))))] [] true [(e_api_Core ({ v7.1 with Kept := v7.1.Kept } : api_Core)), (e_api_Packet ({ From := 1, Inc := 1, Conf := ({ Epoch := 0, Coord := 1, Inc := 1 } : api_Id), Members := (fun _ => 0), Count := (fun _ => 0), Promise := ({ Epoch := 0, Coord := 1, Inc := 1 } : api_Id), Wanted := (fun _ => 0), Ready := false, Epoch := 0, Round := 0, Newest := (fun _ => (fun _ => z_api_Entry)), Older := (fun _ => (fun _ => z_api_Entry)), RelayOf := 0, RelayRound := 0, Relay := (fun _ => (fun _ => z_api_Entry)) } : api_Packet))] _ (resV [(.agg (.st [1, 1, 1, 17, 3, 8, 8, 1, 3, 8, 8, 1, 128, 1]) (vupd (c_api_Core v9.1) 7 (.own 10))), (.bool v9.2.1), (.own 11)]) _ 10 3 _ _ rfl fo18 rfl ⟨trivial, trivial, trivial⟩ ⟨.ro _ _ (.agg _ _ _ (fun j => match j with | 0 => .data (.int .i64 (({ v7.1 with Kept := v7.1.Kept } : api_Core).Self)) trivial | 1 => .data (.int .i64 (({ v7.1 with Kept := v7.1.Kept } : api_Core).Wait)) trivial | 2 => .data (.int .u32 (({ v7.1 with Kept := v7.1.Kept } : api_Core).Own)) trivial | 3 => .data (e_api_Beat (({ v7.1 with Kept := v7.1.Kept } : api_Core).Beat)) (d_api_Beat _) | 4 => .data (e_api_Id (({ v7.1 with Kept := v7.1.Kept } : api_Core).Conf)) (d_api_Id _) | 5 => .data (e_a8_u32 (({ v7.1 with Kept := v7.1.Kept } : api_Core).Members)) (d_a8_u32 _) | 6 => .data (e_a8_u32 (({ v7.1 with Kept := v7.1.Kept } : api_Core).Count)) (d_a8_u32 _) | 7 => .own 6 _ _ _ (.head _) rfl (fun _ => (d_api_Kept _)) | 8 => .data (e_api_Id (({ v7.1 with Kept := v7.1.Kept } : api_Core).Promise)) (d_api_Id _) | 9 => .data (e_a8_u32 (({ v7.1 with Kept := v7.1.Kept } : api_Core).Wanted)) (d_a8_u32 _) | 10 => .data (e_a8_u32 (({ v7.1 with Kept := v7.1.Kept } : api_Core).Cut)) (d_a8_u32 _) | 11 => .data (.bool (({ v7.1 with Kept := v7.1.Kept } : api_Core).Ready)) trivial | 12 => .data (e_a8_api_Peer (({ v7.1 with Kept := v7.1.Kept } : api_Core).Peers)) (d_a8_api_Peer _) | 13 => .data (.int .u32 (({ v7.1 with Kept := v7.1.Kept } : api_Core).Epoch)) trivial | _ + 14 => .data (.bool false) trivial)), .ro _ _ (.data _ (d_api_Packet ({ From := 1, Inc := 1, Conf := ({ Epoch := 0, Coord := 1, Inc := 1 } : api_Id), Members := (fun _ => 0), Count := (fun _ => 0), Promise := ({ Epoch := 0, Coord := 1, Inc := 1 } : api_Id), Wanted := (fun _ => 0), Ready := false, Epoch := 0, Round := 0, Newest := (fun _ => (fun _ => z_api_Entry)), Older := (fun _ => (fun _ => z_api_Entry)), RelayOf := 0, RelayRound := 0, Relay := (fun _ => (fun _ => z_api_Entry)) } : api_Packet))), trivial⟩ (core_Receive_spec ({ v7.1 with Kept := v7.1.Kept } : api_Core) ({ From := 1, Inc := 1, Conf := ({ Epoch := 0, Coord := 1, Inc := 1 } : api_Id), Members := (fun _ => 0), Count := (fun _ => 0), Promise := ({ Epoch := 0, Coord := 1, Inc := 1 } : api_Id), Wanted := (fun _ => 0), Ready := false, Epoch := 0, Round := 0, Newest := (fun _ => (fun _ => z_api_Entry)), Older := (fun _ => (fun _ => z_api_Entry)), RelayOf := 0, RelayRound := 0, Relay := (fun _ => (fun _ => z_api_Entry)) } : api_Packet) _ h10) rfl (by simp) rfl trivial ⟨⟨nl rfl, _, rfl, fun _ => (f_api_Kept _)⟩, ⟨nl rfl, _, rfl, fun _ => (f_api_Happen _)⟩, trivial⟩ (.tup _ _ _ (fun j => match j with | 0 => .agg _ _ _ (fun j => match j with | 0 => .data _ (trivial) | 1 => .data _ (trivial) | 2 => .data _ (trivial) | 3 => .data _ ((f_api_Beat _)) | 4 => .data _ ((f_api_Id _)) | 5 => .data _ ((f_a8_u32 _)) | 6 => .data _ ((f_a8_u32 _)) | 7 => .own 0 (nl rfl) | 8 => .data _ ((f_api_Id _)) | 9 => .data _ ((f_a8_u32 _)) | 10 => .data _ ((f_a8_u32 _)) | 11 => .data _ (trivial) | 12 => .data _ ((f_a8_api_Peer _)) | 13 => .data _ (trivial) | _ + 14 => .data _ trivial) | 1 => .data _ (trivial) | 2 => .own 1 (nl rfl) | _ + 3 => .data _ trivial))) m21 rfl <| r_mv rfl rfl <| r_ex (.agg (.st [1, 1, 1, 17, 3, 8, 8, 1, 3, 8, 8, 1, 128, 1]) (vupd (c_api_Core v9.1) 7 (.own 10))) rfl (nl rfl) rfl rfl <| r_ex (.bool v9.2.1) rfl (nl rfl) rfl rfl <| r_ex (.own 11) rfl (nl rfl) rfl rfl <| r_0 (does_alloc 35 13 (e_api_Core z_api_Core) zr35) rfl rfl <| r_sv rfl rfl rfl rfl rfl rfl ty35 rfl <| r_as rfl rfl <| r_as rfl rfl <| r_e) ?_
  refine aw_cov (cov_prune (s1 := ⟨[(2, _), (4, _), (6, _), (7, _), (8, _), (9, _), (11, _), (12, _)], [(3, some _), (6, some _), (9, some _), (10, some _), (13, some _)], 14, []⟩) a8 a5 (Nat.le_refl _)) ?_
  obtain ⟨v11, h12, H⟩ := bnd H
  refine aw_region (r_lv rfl rfl ty35 rfl <| r_0 (does_buildT 41 #[] [] [] (.ar 3 12) (fun j => (e_a2_api_Entry ((fun _ => (fun _ => z_api_Entry)) j))) (fun j => (e_a2_api_Entry ((aset (fun _ => (fun _ => z_api_Entry)) []) j))) rfl bo41 trivial trivial (setAll_map e_a2_api_Entry [] _)) rfl rfl <| r_p (does_callO 11 0 (fun _ => .any) (.func 11) [(.tmp 49), (.tmp 50)] [(.agg (.st [1, 1, 1, 17, 3, 8, 8, 1, 3, 8, 8, 1, 128, 1]) (vupd (c_api_Core v9.1) 7 (.own 10))), (e_a3_a2_api_Entry (aset (fun _ => (fun _ => z_api_Entry)) []))] [(10, (.arr 38 v9.1.Kept.length fun j => (e_api_Kept (v9.1.Kept.getD j z_api_Kept))))] [] true [(e_api_Core ({ v9.1 with Kept := v9.1.Kept } : api_Core)), (e_a3_a2_api_Entry (aset (fun _ => (fun _ => z_api_Entry)) []))] _ (resV [(.agg (.st [1, 1, 1, 17, 3, 8, 8, 1, 3, 8, 8, 1, 128, 1]) (vupd (c_api_Core v11.1) 7 (.own 14))), (.bool v11.2.1), (.own 15)]) _ 14 3 _ _ rfl fo11 rfl ⟨trivial, trivial, trivial⟩ ⟨.ro _ _ (.agg _ _ _ (fun j => match j with | 0 => .data (.int .i64 (({ v9.1 with Kept := v9.1.Kept } : api_Core).Self)) trivial | 1 => .data (.int .i64 (({ v9.1 with Kept := v9.1.Kept } : api_Core).Wait)) trivial | 2 => .data (.int .u32 (({ v9.1 with Kept := v9.1.Kept } : api_Core).Own)) trivial | 3 => .data (e_api_Beat (({ v9.1 with Kept := v9.1.Kept } : api_Core).Beat)) (d_api_Beat _) | 4 => .data (e_api_Id (({ v9.1 with Kept := v9.1.Kept } : api_Core).Conf)) (d_api_Id _) | 5 => .data (e_a8_u32 (({ v9.1 with Kept := v9.1.Kept } : api_Core).Members)) (d_a8_u32 _) | 6 => .data (e_a8_u32 (({ v9.1 with Kept := v9.1.Kept } : api_Core).Count)) (d_a8_u32 _) | 7 => .own 10 _ _ _ (.head _) rfl (fun _ => (d_api_Kept _)) | 8 => .data (e_api_Id (({ v9.1 with Kept := v9.1.Kept } : api_Core).Promise)) (d_api_Id _) | 9 => .data (e_a8_u32 (({ v9.1 with Kept := v9.1.Kept } : api_Core).Wanted)) (d_a8_u32 _) | 10 => .data (e_a8_u32 (({ v9.1 with Kept := v9.1.Kept } : api_Core).Cut)) (d_a8_u32 _) | 11 => .data (.bool (({ v9.1 with Kept := v9.1.Kept } : api_Core).Ready)) trivial | 12 => .data (e_a8_api_Peer (({ v9.1 with Kept := v9.1.Kept } : api_Core).Peers)) (d_a8_api_Peer _) | 13 => .data (.int .u32 (({ v9.1 with Kept := v9.1.Kept } : api_Core).Epoch)) trivial | _ + 14 => .data (.bool false) trivial)), .ro _ _ (.data _ (d_a3_a2_api_Entry (aset (fun _ => (fun _ => z_api_Entry)) []))), trivial⟩ (core_Tick_spec ({ v9.1 with Kept := v9.1.Kept } : api_Core) (aset (fun _ => (fun _ => z_api_Entry)) []) _ h12) rfl (by simp) rfl trivial ⟨⟨nl rfl, _, rfl, fun _ => (f_api_Kept _)⟩, ⟨nl rfl, _, rfl, fun _ => (f_api_Happen _)⟩, trivial⟩ (.tup _ _ _ (fun j => match j with | 0 => .agg _ _ _ (fun j => match j with | 0 => .data _ (trivial) | 1 => .data _ (trivial) | 2 => .data _ (trivial) | 3 => .data _ ((f_api_Beat _)) | 4 => .data _ ((f_api_Id _)) | 5 => .data _ ((f_a8_u32 _)) | 6 => .data _ ((f_a8_u32 _)) | 7 => .own 0 (nl rfl) | 8 => .data _ ((f_api_Id _)) | 9 => .data _ ((f_a8_u32 _)) | 10 => .data _ ((f_a8_u32 _)) | 11 => .data _ (trivial) | 12 => .data _ ((f_a8_api_Peer _)) | 13 => .data _ (trivial) | _ + 14 => .data _ trivial) | 1 => .data _ (trivial) | 2 => .own 1 (nl rfl) | _ + 3 => .data _ trivial))) m21 rfl <| r_mv rfl rfl <| r_ex (.agg (.st [1, 1, 1, 17, 3, 8, 8, 1, 3, 8, 8, 1, 128, 1]) (vupd (c_api_Core v11.1) 7 (.own 14))) rfl (nl rfl) rfl rfl <| r_ex (.bool v11.2.1) rfl (nl rfl) rfl rfl <| r_ex (.own 15) rfl (nl rfl) rfl rfl <| r_0 (does_alloc 35 17 (e_api_Core z_api_Core) zr35) rfl rfl <| r_sv rfl rfl rfl rfl rfl rfl ty35 rfl <| r_as rfl rfl <| r_as rfl rfl <| r_e) ?_
  refine aw_cov (cov_prune (s1 := ⟨[(2, _), (4, _), (6, _), (7, _), (8, _), (9, _), (12, _), (14, _), (15, _)], [(3, some _), (6, some _), (9, some _), (14, some _), (17, some _)], 18, []⟩) a9 a5 (Nat.le_refl _)) ?_
  obtain ⟨h13, H⟩ := ibg_of H
  obtain ⟨v14, h15, H⟩ := whn_of H
  obtain ⟨v16, h17, H⟩ := whn_of H
  obtain ⟨v18, h19, H⟩ := whn_of H
  refine aw_region (r_mv rfl rfl <| r_mv rfl rfl <| r_gmv rfl rfl rfl rfl rfl rfl <| r_g [(57, _)] [(57, _)] [] rfl rfl m20 rfl (fun hc => ⟨(.opt _ _ hc), trivial⟩) (fun hc => does_not 4 (.tmp 57) v3.2 trivial) rfl <| r_p (does_and 56 58 v1.2 (!v3.2)) m20 rfl <| r_mv rfl rfl <| r_gmv rfl rfl rfl rfl rfl rfl <| r_p (does_and 60 61 (v1.2 && (!v3.2)) v5.2.1) m20 rfl <| r_mv rfl rfl <| r_gmv rfl rfl rfl rfl rfl rfl <| r_gp (Step.guarded rfl rfl rfl rfl (fun hc => Does.strip (n' := [(64, (.opt ((v1.2 && (!v3.2)) && v5.2.1) (.own 3)))]) (n := [(64, (.own 3))]) ⟨(.opt _ _ hc), trivial⟩ (does_leno 44 50 v5.2.2.length 64 3 (fun j => (e_api_Happen (v5.2.2.getD j z_api_Happen))) el44))) m21 rfl <| r_g [(65, _)] [(65, _)] [] rfl rfl m20 rfl (fun hc => ⟨(.opt _ _ hc), trivial⟩) (fun hc => does_bin .eql 3 3 (.tmp 65) (.const (.int .i64 1)) .i64 (v5.2.2.length : Int) 1 (.bool ((v5.2.2.length : Int) == 1)) trivial (fun _ => rfl) (bin_eql _ _ _ _)) rfl <| r_p (does_and 63 66 ((v1.2 && (!v3.2)) && v5.2.1) ((v5.2.2.length : Int) == 1)) m20 rfl <| r_mv rfl rfl <| r_gmv rfl rfl rfl rfl rfl rfl <| r_gp (Step.guarded rfl rfl rfl rfl (fun hc => Does.strip (n' := [(69, (.opt (((v1.2 && (!v3.2)) && v5.2.1) && ((v5.2.2.length : Int) == 1)) (.own 3)))]) (n := [(69, (.own 3))]) ⟨(.opt _ _ hc), trivial⟩ (does_indexAddro 44 50 v5.2.2.length 69 3 (fun j => (e_api_Happen (v5.2.2.getD j z_api_Happen))) (.const (.int .i64 0)) .i64 0 el44 (fun _ => rfl) (h13 hc).1 (h13 hc).2))) m21 rfl <| r_gfa (.ptr 3 ((0 * 50) + 1) [0, 1]) fl66_1 rfl rfl rfl rfl rfl (fun hc => .opt _ _ hc) rfl rfl rfl <| r_gfa (.ptr 3 (((0 * 50) + 1) + 1) [0, 1, 1]) fl64_1 rfl rfl rfl rfl rfl (fun hc => .opt _ _ hc) rfl rfl rfl <| r_gld (.int .u32 (((v5.2.2.getD 0 z_api_Happen).Kept).Round)) rfl rfl rfl rfl rfl (fun hc => .opt _ _ hc) rfl (fun hc => ⟨(ixl (h13 hc)), ⟨rfl, nl rfl, ⟨rfl, nl rfl, trivial⟩⟩⟩) rfl rfl ty22 rfl <| r_g [(73, _)] [(73, _)] [] rfl rfl m20 rfl (fun hc => ⟨(.opt _ _ hc), trivial⟩) (fun hc => does_bin .eql 22 22 (.tmp 73) (.const (.int .u32 1)) .u32 (((v5.2.2.getD 0 z_api_Happen).Kept).Round) 1 (.bool ((((v5.2.2.getD 0 z_api_Happen).Kept).Round) == 1)) trivial (fun _ => rfl) (bin_eql _ _ _ _)) rfl <| r_p (does_and 68 74 (((v1.2 && (!v3.2)) && v5.2.1) && ((v5.2.2.length : Int) == 1)) ((((v5.2.2.getD 0 z_api_Happen).Kept).Round) == 1)) m20 rfl <| r_mv rfl rfl <| r_gmv rfl rfl rfl rfl rfl rfl <| r_p (does_and 76 77 ((((v1.2 && (!v3.2)) && v5.2.1) && ((v5.2.2.length : Int) == 1)) && ((((v5.2.2.getD 0 z_api_Happen).Kept).Round) == 1)) v7.2.1) m20 rfl <| r_mv rfl rfl <| r_gmv rfl rfl rfl rfl rfl rfl <| r_p (does_and 79 80 (((((v1.2 && (!v3.2)) && v5.2.1) && ((v5.2.2.length : Int) == 1)) && ((((v5.2.2.getD 0 z_api_Happen).Kept).Round) == 1)) && v7.2.1) v9.2.1) m20 rfl <| r_mv rfl rfl <| r_gmv rfl rfl rfl rfl rfl rfl <| r_g [(83, _)] [(83, _)] [] rfl rfl m20 rfl (fun hc => ⟨(.opt _ _ hc), trivial⟩) (fun hc => does_not 4 (.tmp 83) v11.2.1 trivial) rfl <| r_p (does_and 82 84 ((((((v1.2 && (!v3.2)) && v5.2.1) && ((v5.2.2.length : Int) == 1)) && ((((v5.2.2.getD 0 z_api_Happen).Kept).Round) == 1)) && v7.2.1) && v9.2.1) (!v11.2.1)) m20 rfl <| r_mv rfl rfl <| r_gld (.agg (.st [1, 1, 1, 17, 3, 8, 8, 1, 3, 8, 8, 1, 128, 1]) (vupd (c_api_Core v11.1) 7 (.own 14))) rfl rfl rfl rfl rfl (fun _ => .same _) rfl (fun hc => trivial) rfl rfl ty35 rfl <| r_gp (Step.guarded rfl rfl rfl rfl (fun hc => Does.strip (n' := [(87, (.opt (((((((v1.2 && (!v3.2)) && v5.2.1) && ((v5.2.2.length : Int) == 1)) && ((((v5.2.2.getD 0 z_api_Happen).Kept).Round) == 1)) && v7.2.1) && v9.2.1) && (!v11.2.1)) (.agg (.st [1, 1, 1, 17, 3, 8, 8, 1, 3, 8, 8, 1, 128, 1]) (vupd (c_api_Core v11.1) 7 (.own 14)))))]) (n := [(87, (.agg (.st [1, 1, 1, 17, 3, 8, 8, 1, 3, 8, 8, 1, 128, 1]) (vupd (c_api_Core v11.1) 7 (.own 14))))]) ⟨(.opt _ _ hc), trivial⟩ (does_call 17 0 (fun _ => .any) (.func 17) [(.tmp 87)] [(.agg (.st [1, 1, 1, 17, 3, 8, 8, 1, 3, 8, 8, 1, 128, 1]) (vupd (c_api_Core v11.1) 7 (.own 14)))] [(14, (.arr 38 v11.1.Kept.length fun j => (e_api_Kept (v11.1.Kept.getD j z_api_Kept))))] true [(e_api_Core ({ v11.1 with Kept := v11.1.Kept } : api_Core))] (.bool v14) _ _ rfl fo17 rfl ⟨trivial, trivial⟩ ⟨.agg _ _ _ (fun j => match j with | 0 => .data (.int .i64 (({ v11.1 with Kept := v11.1.Kept } : api_Core).Self)) trivial | 1 => .data (.int .i64 (({ v11.1 with Kept := v11.1.Kept } : api_Core).Wait)) trivial | 2 => .data (.int .u32 (({ v11.1 with Kept := v11.1.Kept } : api_Core).Own)) trivial | 3 => .data (e_api_Beat (({ v11.1 with Kept := v11.1.Kept } : api_Core).Beat)) (d_api_Beat _) | 4 => .data (e_api_Id (({ v11.1 with Kept := v11.1.Kept } : api_Core).Conf)) (d_api_Id _) | 5 => .data (e_a8_u32 (({ v11.1 with Kept := v11.1.Kept } : api_Core).Members)) (d_a8_u32 _) | 6 => .data (e_a8_u32 (({ v11.1 with Kept := v11.1.Kept } : api_Core).Count)) (d_a8_u32 _) | 7 => .own 14 _ _ _ (.head _) rfl (fun _ => (d_api_Kept _)) | 8 => .data (e_api_Id (({ v11.1 with Kept := v11.1.Kept } : api_Core).Promise)) (d_api_Id _) | 9 => .data (e_a8_u32 (({ v11.1 with Kept := v11.1.Kept } : api_Core).Wanted)) (d_a8_u32 _) | 10 => .data (e_a8_u32 (({ v11.1 with Kept := v11.1.Kept } : api_Core).Cut)) (d_a8_u32 _) | 11 => .data (.bool (({ v11.1 with Kept := v11.1.Kept } : api_Core).Ready)) trivial | 12 => .data (e_a8_api_Peer (({ v11.1 with Kept := v11.1.Kept } : api_Core).Peers)) (d_a8_api_Peer _) | 13 => .data (.int .u32 (({ v11.1 with Kept := v11.1.Kept } : api_Core).Epoch)) trivial | _ + 14 => .data (.bool false) trivial), trivial⟩ (core_Gathers_spec ({ v11.1 with Kept := v11.1.Kept } : api_Core) _ (h15 hc)) trivial))) m21 rfl <| r_p (does_and 86 88 (((((((v1.2 && (!v3.2)) && v5.2.1) && ((v5.2.2.length : Int) == 1)) && ((((v5.2.2.getD 0 z_api_Happen).Kept).Round) == 1)) && v7.2.1) && v9.2.1) && (!v11.2.1)) v14) m20 rfl <| r_mv rfl rfl <| r_gld (.agg (.st [1, 1, 1, 17, 3, 8, 8, 1, 3, 8, 8, 1, 128, 1]) (vupd (c_api_Core v7.1) 7 (.own 6))) rfl rfl rfl rfl rfl (fun _ => .same _) rfl (fun hc => trivial) rfl rfl ty35 rfl <| r_gp (Step.guarded rfl rfl rfl rfl (fun hc => Does.strip (n' := [(91, (.opt ((((((((v1.2 && (!v3.2)) && v5.2.1) && ((v5.2.2.length : Int) == 1)) && ((((v5.2.2.getD 0 z_api_Happen).Kept).Round) == 1)) && v7.2.1) && v9.2.1) && (!v11.2.1)) && v14) (.agg (.st [1, 1, 1, 17, 3, 8, 8, 1, 3, 8, 8, 1, 128, 1]) (vupd (c_api_Core v7.1) 7 (.own 6)))))]) (n := [(91, (.agg (.st [1, 1, 1, 17, 3, 8, 8, 1, 3, 8, 8, 1, 128, 1]) (vupd (c_api_Core v7.1) 7 (.own 6))))]) ⟨(.opt _ _ hc), trivial⟩ (does_call 17 0 (fun _ => .any) (.func 17) [(.tmp 91)] [(.agg (.st [1, 1, 1, 17, 3, 8, 8, 1, 3, 8, 8, 1, 128, 1]) (vupd (c_api_Core v7.1) 7 (.own 6)))] [(6, (.arr 38 v7.1.Kept.length fun j => (e_api_Kept (v7.1.Kept.getD j z_api_Kept))))] true [(e_api_Core ({ v7.1 with Kept := v7.1.Kept } : api_Core))] (.bool v16) _ _ rfl fo17 rfl ⟨trivial, trivial⟩ ⟨.agg _ _ _ (fun j => match j with | 0 => .data (.int .i64 (({ v7.1 with Kept := v7.1.Kept } : api_Core).Self)) trivial | 1 => .data (.int .i64 (({ v7.1 with Kept := v7.1.Kept } : api_Core).Wait)) trivial | 2 => .data (.int .u32 (({ v7.1 with Kept := v7.1.Kept } : api_Core).Own)) trivial | 3 => .data (e_api_Beat (({ v7.1 with Kept := v7.1.Kept } : api_Core).Beat)) (d_api_Beat _) | 4 => .data (e_api_Id (({ v7.1 with Kept := v7.1.Kept } : api_Core).Conf)) (d_api_Id _) | 5 => .data (e_a8_u32 (({ v7.1 with Kept := v7.1.Kept } : api_Core).Members)) (d_a8_u32 _) | 6 => .data (e_a8_u32 (({ v7.1 with Kept := v7.1.Kept } : api_Core).Count)) (d_a8_u32 _) | 7 => .own 6 _ _ _ (.head _) rfl (fun _ => (d_api_Kept _)) | 8 => .data (e_api_Id (({ v7.1 with Kept := v7.1.Kept } : api_Core).Promise)) (d_api_Id _) | 9 => .data (e_a8_u32 (({ v7.1 with Kept := v7.1.Kept } : api_Core).Wanted)) (d_a8_u32 _) | 10 => .data (e_a8_u32 (({ v7.1 with Kept := v7.1.Kept } : api_Core).Cut)) (d_a8_u32 _) | 11 => .data (.bool (({ v7.1 with Kept := v7.1.Kept } : api_Core).Ready)) trivial | 12 => .data (e_a8_api_Peer (({ v7.1 with Kept := v7.1.Kept } : api_Core).Peers)) (d_a8_api_Peer _) | 13 => .data (.int .u32 (({ v7.1 with Kept := v7.1.Kept } : api_Core).Epoch)) trivial | _ + 14 => .data (.bool false) trivial), trivial⟩ (core_Gathers_spec ({ v7.1 with Kept := v7.1.Kept } : api_Core) _ (h17 hc)) trivial))) m21 rfl <| r_g [(92, _)] [(92, _)] [] rfl rfl m20 rfl (fun hc => ⟨(.opt _ _ hc), trivial⟩) (fun hc => does_not 4 (.tmp 92) v16 trivial) rfl <| r_p (does_and 90 93 ((((((((v1.2 && (!v3.2)) && v5.2.1) && ((v5.2.2.length : Int) == 1)) && ((((v5.2.2.getD 0 z_api_Happen).Kept).Round) == 1)) && v7.2.1) && v9.2.1) && (!v11.2.1)) && v14) (!v16)) m20 rfl <| r_mv rfl rfl <| r_gfa (.ptr 17 (0 + 40) [8]) fl35_8 rfl rfl rfl rfl rfl (fun _ => .same _) rfl rfl rfl <| r_gld (e_api_Id v11.1.Promise) rfl rfl rfl rfl rfl (fun hc => .opt _ _ hc) rfl (fun hc => ⟨rfl, nl rfl, trivial⟩) rfl rfl ty27 rfl <| r_gp (Step.guarded rfl rfl rfl rfl (fun hc => does_buildT 27 #[(0, (.const (.int .u32 1))), (2, (.const (.int .u32 1)))] [(0, (.const (.int .u32 1))), (2, (.const (.int .u32 1)))] [(0, (.int .u32 1)), (2, (.int .u32 1))] (.st [1, 1, 1]) (c_api_Id z_api_Id) (c_api_Id ({ Epoch := 1, Coord := 0, Inc := 1 } : api_Id)) rfl bo27 ⟨⟨rfl, (fun _ => rfl)⟩, ⟨rfl, (fun _ => rfl)⟩, trivial⟩ ⟨⟨nl rfl, rfl, rfl⟩, ⟨nl rfl, rfl, rfl⟩, trivial⟩ (fe3 rfl rfl rfl (fun _ => rfl)))) m10 rfl <| r_geq false rfl rfl rfl rfl rfl rfl (fun hc => .opt _ _ hc) (fun hc => .opt _ _ hc) rfl rfl eg27 sh27 (al_api_Id _ _) (al_api_Id _ _) (q_api_Id _ _) rfl <| r_p (does_and 95 99 (((((((((v1.2 && (!v3.2)) && v5.2.1) && ((v5.2.2.length : Int) == 1)) && ((((v5.2.2.getD 0 z_api_Happen).Kept).Round) == 1)) && v7.2.1) && v9.2.1) && (!v11.2.1)) && v14) && (!v16)) (b_api_Id v11.1.Promise ({ Epoch := 1, Coord := 0, Inc := 1 } : api_Id))) m20 rfl <| r_mv rfl rfl <| r_gld (.agg (.st [1, 1, 1, 17, 3, 8, 8, 1, 3, 8, 8, 1, 128, 1]) (vupd (c_api_Core v7.1) 7 (.own 6))) rfl rfl rfl rfl rfl (fun _ => .same _) rfl (fun hc => trivial) rfl rfl ty35 rfl <| r_gp (Step.guarded rfl rfl rfl rfl (fun hc => Does.strip (n' := [(102, (.opt ((((((((((v1.2 && (!v3.2)) && v5.2.1) && ((v5.2.2.length : Int) == 1)) && ((((v5.2.2.getD 0 z_api_Happen).Kept).Round) == 1)) && v7.2.1) && v9.2.1) && (!v11.2.1)) && v14) && (!v16)) && (b_api_Id v11.1.Promise ({ Epoch := 1, Coord := 0, Inc := 1 } : api_Id))) (.agg (.st [1, 1, 1, 17, 3, 8, 8, 1, 3, 8, 8, 1, 128, 1]) (vupd (c_api_Core v7.1) 7 (.own 6)))))]) (n := [(102, (.agg (.st [1, 1, 1, 17, 3, 8, 8, 1, 3, 8, 8, 1, 128, 1]) (vupd (c_api_Core v7.1) 7 (.own 6))))]) ⟨(.opt _ _ hc), trivial⟩ (does_call 15 0 (fun _ => .any) (.func 15) [(.tmp 102)] [(.agg (.st [1, 1, 1, 17, 3, 8, 8, 1, 3, 8, 8, 1, 128, 1]) (vupd (c_api_Core v7.1) 7 (.own 6)))] [(6, (.arr 38 v7.1.Kept.length fun j => (e_api_Kept (v7.1.Kept.getD j z_api_Kept))))] true [(e_api_Core ({ v7.1 with Kept := v7.1.Kept } : api_Core))] (e_api_Packet v18) _ _ rfl fo15 rfl ⟨trivial, trivial⟩ ⟨.agg _ _ _ (fun j => match j with | 0 => .data (.int .i64 (({ v7.1 with Kept := v7.1.Kept } : api_Core).Self)) trivial | 1 => .data (.int .i64 (({ v7.1 with Kept := v7.1.Kept } : api_Core).Wait)) trivial | 2 => .data (.int .u32 (({ v7.1 with Kept := v7.1.Kept } : api_Core).Own)) trivial | 3 => .data (e_api_Beat (({ v7.1 with Kept := v7.1.Kept } : api_Core).Beat)) (d_api_Beat _) | 4 => .data (e_api_Id (({ v7.1 with Kept := v7.1.Kept } : api_Core).Conf)) (d_api_Id _) | 5 => .data (e_a8_u32 (({ v7.1 with Kept := v7.1.Kept } : api_Core).Members)) (d_a8_u32 _) | 6 => .data (e_a8_u32 (({ v7.1 with Kept := v7.1.Kept } : api_Core).Count)) (d_a8_u32 _) | 7 => .own 6 _ _ _ (.head _) rfl (fun _ => (d_api_Kept _)) | 8 => .data (e_api_Id (({ v7.1 with Kept := v7.1.Kept } : api_Core).Promise)) (d_api_Id _) | 9 => .data (e_a8_u32 (({ v7.1 with Kept := v7.1.Kept } : api_Core).Wanted)) (d_a8_u32 _) | 10 => .data (e_a8_u32 (({ v7.1 with Kept := v7.1.Kept } : api_Core).Cut)) (d_a8_u32 _) | 11 => .data (.bool (({ v7.1 with Kept := v7.1.Kept } : api_Core).Ready)) trivial | 12 => .data (e_a8_api_Peer (({ v7.1 with Kept := v7.1.Kept } : api_Core).Peers)) (d_a8_api_Peer _) | 13 => .data (.int .u32 (({ v7.1 with Kept := v7.1.Kept } : api_Core).Epoch)) trivial | _ + 14 => .data (.bool false) trivial), trivial⟩ (core_Packet_spec ({ v7.1 with Kept := v7.1.Kept } : api_Core) _ (h19 hc)) (f_api_Packet v18)))) m21 rfl <| r_g [(103, _)] [(103, _)] [] rfl rfl m20 rfl (fun hc => ⟨(.opt _ _ hc), trivial⟩) (fun hc => does_field 50 9 34 22 103 1 false [1, 1, 3, 8, 8, 3, 8, 1, 1, 1, 36, 36, 1, 1, 36] (c_api_Packet v18) fv50_9 ty22 (nl rfl) rfl rfl rfl) rfl <| r_g [(104, _)] [(104, _)] [] rfl rfl m20 rfl (fun hc => ⟨(.opt _ _ hc), trivial⟩) (fun hc => does_bin .eql 22 22 (.tmp 104) (.const (.int .u32 2)) .u32 v18.Round 2 (.bool (v18.Round == 2)) trivial (fun _ => rfl) (bin_eql _ _ _ _)) rfl <| r_p (does_and 101 105 ((((((((((v1.2 && (!v3.2)) && v5.2.1) && ((v5.2.2.length : Int) == 1)) && ((((v5.2.2.getD 0 z_api_Happen).Kept).Round) == 1)) && v7.2.1) && v9.2.1) && (!v11.2.1)) && v14) && (!v16)) && (b_api_Id v11.1.Promise ({ Epoch := 1, Coord := 0, Inc := 1 } : api_Id))) (v18.Round == 2)) m20 rfl <| r_as rfl rfl <| r_e) ?_
  obtain ⟨v20, hv20, H⟩ := lt_of H
  refine aw_cov (cov_prune (s1 := ⟨[(0, (.bool v20))], [], 18, []⟩) ⟨(by subst hv20; rfl), trivial⟩ trivial (Nat.le_refl _)) ?_
  refine aw_ret ?_
  exact fun a w hr => ⟨_, [(.bool v20)], hr, ⟨⟨_, rfl, .data (.bool v20) trivial⟩, trivial⟩, by decide, by cases H; rfl⟩
end Go.Proofs.Ytcocahffigbmbaa
end

section
set_option linter.unusedVariables false
set_option maxRecDepth 100000
namespace Go.Proofs.Ytcocahffigbmbaa
open Go.Eng
set_option maxHeartbeats 1600000
theorem congressref07_three_spec (p0 : api_Id) (r : (Nat → Int)) (H : congressref07_three p0 = some r) : FSpec Try.prog 62 [(e_api_Id p0)] (e_a3_u32 r) := by
  refine spec_of (fn := Try.f62) (args := [(e_api_Id p0)]) Try.func62 rfl (nl rfl) ?_
  rintro ⟨G, w0, W, S, Sp, gx⟩ hG
  cases hG
  unfold congressref07_three at H
  refine aw_region (r_p (does_box 27 (.tmp 0) 0 (e_api_Id p0) trivial rfl) m10 rfl <| r_0 (does_alloc 112 1 (e_a3_u32 (fun _ => 0)) zr112) rfl rfl <| r_e) ?_
  refine aw_cov (cov_prune (s1 := ⟨[(1, _), (2, _)], [(0, some _), (1, some _)], 2, []⟩) a2 a2 (Nat.le_refl _)) ?_
  refine aw_region (r_fa (.ptr 0 (0 + 0) [0]) fl27_0 rfl rfl rfl rfl <| r_ld (.int .u32 p0.Epoch) rfl rfl ⟨rfl, nl rfl, trivial⟩ rfl rfl ty22 rfl <| r_fa (.ptr 0 (0 + 1) [1]) fl27_1 rfl rfl rfl rfl <| r_ld (.int .u32 p0.Coord) rfl rfl ⟨rfl, nl rfl, trivial⟩ rfl rfl ty22 rfl <| r_fa (.ptr 0 (0 + 2) [2]) fl27_2 rfl rfl rfl rfl <| r_ld (.int .u32 p0.Inc) rfl rfl ⟨rfl, nl rfl, trivial⟩ rfl rfl ty22 rfl <| r_p (does_buildT 112 #[(0, (.tmp 4)), (1, (.tmp 6)), (2, (.tmp 8))] [(0, (.tmp 4)), (1, (.tmp 6)), (2, (.tmp 8))] [(0, (.int .u32 p0.Epoch)), (1, (.int .u32 p0.Coord)), (2, (.int .u32 p0.Inc))] (.ar 3 1) (fun j => (.int .u32 ((fun _ => 0) j))) (fun j => (.int .u32 ((aset (fun _ => 0) [(0, p0.Epoch), (1, p0.Coord), (2, p0.Inc)]) j))) rfl bo112 ⟨a1, a1, a1, trivial⟩ ⟨⟨nl rfl, rfl, rfl⟩, ⟨nl rfl, rfl, rfl⟩, ⟨nl rfl, rfl, rfl⟩, trivial⟩ (setAll_map (fun z => V.int .u32 z) [(0, p0.Epoch), (1, p0.Coord), (2, p0.Inc)] _)) m30 rfl <| r_sv rfl rfl rfl rfl rfl rfl ty112 rfl <| r_e) ?_
  refine aw_cov (cov_prune (s1 := ⟨[(2, _)], [(1, some _)], 2, []⟩) a1 a1 (Nat.le_refl _)) ?_
  refine aw_ret ?_
  exact fun a w hr => ⟨_, [(e_a3_u32 (aset (fun _ => 0) [(0, p0.Epoch), (1, p0.Coord), (2, p0.Inc)]))], hr, ⟨⟨1, _, rfl, rfl, .data _ (d_a3_u32 (aset (fun _ => 0) [(0, p0.Epoch), (1, p0.Coord), (2, p0.Inc)])), ty112⟩, trivial⟩, by decide, by cases H; rfl⟩
theorem congressref07_Compare_spec (p0 : api_Id) (p1 : api_Id) (r : Int) (H : congressref07_Compare p0 p1 = some r) : FSpec Try.prog 23 [(e_api_Id p0), (e_api_Id p1)] (.int .i64 r) := by
  refine spec_of (fn := Try.f23) (args := [(e_api_Id p0), (e_api_Id p1)]) Try.func23 rfl (nl rfl) ?_
  rintro ⟨G, w0, W, S, Sp, gx⟩ hG
  cases hG
  unfold congressref07_Compare at H
  refine aw_region (r_p (does_box 27 (.tmp 0) 0 (e_api_Id p0) trivial rfl) m10 rfl <| r_p (does_box 27 (.tmp 1) 1 (e_api_Id p1) trivial rfl) m10 rfl <| r_0 (does_assign (.const (.int .i64 0)) (.int .i64 0) (fun _ => rfl)) rfl rfl <| r_e) ?_
  refine aw_cov (cov_prune (s1 := ⟨[(2, _), (3, _)], [(0, some _), (1, some _)], 2, []⟩) a2 a2 (Nat.le_refl _)) ?_
  obtain ⟨v1, h2, H⟩ := bnd H
  obtain ⟨v3, h4, H⟩ := bnd H
  refine aw_draw (mixed) (r_lv rfl rfl ty27 rfl <| r_ca [_] [_] (nob := []) (flat := true) (congressref07_three_spec p0 _ h2) rfl rfl m10 fo62 ⟨trivial, trivial⟩ ⟨.data _ (d_api_Id _), trivial⟩ (f_a3_u32 v1) rfl <| r_lv rfl rfl ty27 rfl <| r_ca [_] [_] (nob := []) (flat := true) (congressref07_three_spec p1 _ h4) rfl rfl m10 fo62 ⟨trivial, trivial⟩ ⟨.data _ (d_api_Id _), trivial⟩ (f_a3_u32 v3) rfl <| r_0 (does_alloc 112 2 (e_a3_u32 (fun _ => 0)) zr112) rfl rfl <| r_0 (does_alloc 112 3 (e_a3_u32 (fun _ => 0)) zr112) rfl rfl <| r_sv rfl rfl rfl rfl rfl rfl ty112 rfl <| r_sv rfl rfl rfl rfl rfl rfl ty112 rfl <| r_e) rfl ?_
  refine aw_cov (cov_prune (s1 := ⟨[(5, _), (6, _)], [(2, some _), (3, some _)], 4, []⟩) a2 a2 (Nat.le_refl _)) ?_
  refine aw_seq ?_
  refine aw_region (r_0 (does_assign (.const (.int .i64 0)) (.int .i64 0) (fun _ => rfl)) rfl rfl <| r_e) ?_
  refine aw_cov (cov_prune (s1 := ⟨[(5, _), (6, _), (7, _)], [(2, some _), (3, some _)], 4, []⟩) a3 a2 (Nat.le_refl _)) ?_
  obtain ⟨wn6, hwn6, Hrn6⟩ := bnd H
  refine aw_meet (fun y11 : Unit => (⟨[], [], 4, []⟩ : St)) (fun y11 => Fl.nx y11 = wn6) (fun y11 hy => ?_) (aw_block (aw_runs (fun x5 : Int => (⟨[(5, (.ptr 2 0 [])), (6, (.ptr 3 0 [])), (7, (.int .i64 x5))], [(2, some (.var (e_a3_u32 v1))), (3, some (.var (e_a3_u32 v3)))], 4, []⟩ : St)) hwn6 (cov_prune a3 a2 (nl rfl)) (fun x5 st H hsn6 => ?_)))
  · have H := nx_of hy Hrn6
    refine nx_seq ?_
    refine aw_region (r_0 (does_assign (.const (.int .i64 0)) (.int .i64 0) (fun _ => rfl)) rfl rfl <| r_e) ?_
    refine aw_cov (cov_prune (s1 := ⟨[(4, _)], [], 4, []⟩) a1 trivial (Nat.le_refl _)) ?_
    refine aw_ret ?_
    exact fun a w hr => ⟨_, [(.int .i64 0)], hr, ⟨⟨_, rfl, .data (.int .i64 0) trivial⟩, trivial⟩, by decide, by cases H; rfl⟩
  · refine aw_seq ?_
    refine aw_region (r_mv rfl rfl <| r_p (does_bin .lss 3 3 (.tmp 12) (.const (.int .i64 3)) .i64 x5 3 (.bool (decide (x5 < 3))) trivial (fun _ => rfl) (bin_lss _ _ _ _)) m10 rfl <| r_e) ?_
    refine aw_cov (cov_prune (s1 := ⟨[(5, _), (6, _), (7, _), (13, _)], [(2, some _), (3, some _)], 4, []⟩) a4 a2 (Nat.le_refl _)) ?_
    refine aw_cond rfl (fun hc => ?_) (fun hc => ?_)
    · replace H := ite_t hc H
      refine aw_skip ?_
      refine nx_seq ?_
      refine aw_seq ?_
      refine aw_block ?_
      refine aw_seq ?_
      obtain ⟨h7, H⟩ := ib_of H
      obtain ⟨h8, H⟩ := ib_of H
      refine aw_draw (mixed) (r_mv rfl rfl <| r_p (does_indexAddr 112 3 1 5 2 0 [] (.var (e_a3_u32 v1)) (.tmp 16) .i64 x5 el112 trivial h7.1 h7.2) m21 rfl <| r_ld (.int .u32 (v1 x5.toNat)) rfl rfl ⟨rfl, (ixl h7), trivial⟩ rfl rfl ty22 rfl <| r_mv rfl rfl <| r_p (does_indexAddr 112 3 1 6 3 0 [] (.var (e_a3_u32 v3)) (.tmp 19) .i64 x5 el112 trivial h8.1 h8.2) m21 rfl <| r_ld (.int .u32 (v3 x5.toNat)) rfl rfl ⟨rfl, (ixl h8), trivial⟩ rfl rfl ty22 rfl <| r_p (does_bin .lss 22 22 (.tmp 18) (.tmp 21) .u32 (v1 x5.toNat) (v3 x5.toNat) (.bool (decide ((v1 x5.toNat) < (v3 x5.toNat)))) trivial trivial (bin_lss _ _ _ _)) m20 rfl <| r_e) rfl ?_
      refine aw_cov (cov_prune (s1 := ⟨[(5, _), (6, _), (7, _), (22, _)], [(2, some _), (3, some _)], 4, []⟩) a4 a2 (Nat.le_refl _)) ?_
      refine aw_cond rfl (fun hc => ?_) (fun hc => ?_)
      · replace H := ite_t hc H
        refine aw_region (r_0 (does_assign (.const (.int .i64 (-1))) (.int .i64 (-1)) (fun _ => rfl)) rfl rfl <| r_e) ?_
        refine aw_cov (cov_prune (s1 := ⟨[(4, _)], [], 4, []⟩) a1 trivial (Nat.le_refl _)) ?_
        refine aw_ret ?_
        replace H := rt_of H hsn6 Hrn6
        refine rt_then ?_
        refine rt_blk ?_
        refine rt_then ?_
        refine rt_then ?_
        refine rt_blk ?_
        refine rt_then ?_
        refine rt_then ?_
        exact fun a w hr => ⟨_, [(.int .i64 (-1))], hr, ⟨⟨_, rfl, .data (.int .i64 (-1)) trivial⟩, trivial⟩, by decide, by cases H; rfl⟩
      · replace H := ite_f hc H
        refine aw_skip ?_
        refine nx_seq ?_
        obtain ⟨h9, H⟩ := ib_of H
        obtain ⟨h10, H⟩ := ib_of H
        refine aw_draw (mixed) (r_mv rfl rfl <| r_p (does_indexAddr 112 3 1 5 2 0 [] (.var (e_a3_u32 v1)) (.tmp 23) .i64 x5 el112 trivial h9.1 h9.2) m21 rfl <| r_ld (.int .u32 (v1 x5.toNat)) rfl rfl ⟨rfl, (ixl h9), trivial⟩ rfl rfl ty22 rfl <| r_mv rfl rfl <| r_p (does_indexAddr 112 3 1 6 3 0 [] (.var (e_a3_u32 v3)) (.tmp 26) .i64 x5 el112 trivial h10.1 h10.2) m21 rfl <| r_ld (.int .u32 (v3 x5.toNat)) rfl rfl ⟨rfl, (ixl h10), trivial⟩ rfl rfl ty22 rfl <| r_p (does_bin .gtr 22 22 (.tmp 25) (.tmp 28) .u32 (v1 x5.toNat) (v3 x5.toNat) (.bool (decide ((v1 x5.toNat) > (v3 x5.toNat)))) trivial trivial (bin_gtr _ _ _ _)) m20 rfl <| r_e) rfl ?_
        refine aw_cov (cov_prune (s1 := ⟨[(5, _), (6, _), (7, _), (29, _)], [(2, some _), (3, some _)], 4, []⟩) a4 a2 (Nat.le_refl _)) ?_
        refine aw_cond rfl (fun hc => ?_) (fun hc => ?_)
        · replace H := ite_t hc H
          refine aw_region (r_0 (does_assign (.const (.int .i64 1)) (.int .i64 1) (fun _ => rfl)) rfl rfl <| r_e) ?_
          refine aw_cov (cov_prune (s1 := ⟨[(4, _)], [], 4, []⟩) a1 trivial (Nat.le_refl _)) ?_
          refine aw_ret ?_
          replace H := rt_of H hsn6 Hrn6
          refine rt_blk ?_
          refine rt_then ?_
          refine rt_then ?_
          refine rt_blk ?_
          refine rt_then ?_
          refine rt_then ?_
          exact fun a w hr => ⟨_, [(.int .i64 1)], hr, ⟨⟨_, rfl, .data (.int .i64 1) trivial⟩, trivial⟩, by decide, by cases H; rfl⟩
        · replace H := ite_f hc H
          refine aw_skip ?_
          refine nx_blk ?_
          refine nx_seq ?_
          refine aw_region1 (r_mv rfl rfl <| r_p (does_bin .add 3 3 (.tmp 14) (.const (.int .i64 1)) .i64 x5 1 (.int .i64 (IntKind.i64.wrap (x5 + 1))) trivial (fun _ => rfl) (bin_add _ _ _ _)) m10 rfl <| r_as rfl rfl <| r_e) ?_
          exact nx_loop ((IntKind.i64.wrap (x5 + 1))) H (cov_prune a3 a2 (nl rfl))
    · replace H := ite_f hc H
      refine aw_exit ?_
      refine ex_then ?_
      refine ex_then ?_
      refine ex_here ?_
      exact nx_ljoin () H hsn6 (cov_prune trivial trivial (nl rfl))
end Go.Proofs.Ytcocahffigbmbaa
end

section
set_option linter.unusedVariables false
set_option maxRecDepth 100000
namespace Go.Proofs.Ytcocahffigbmbaa
open Go.Eng
set_option maxHeartbeats 1600000
theorem congresslaw13_step_spec (p0 : api_Core) (p1 : congresslaw13_Event) (r : api_Core × (_root_.List api_Happen)) (H : congresslaw13_step p0 p1 = some r) : FSpecO Try.prog 22 [(e_api_Core p0), (e_congresslaw13_Event p1)] [] 0 (resV [(.agg (.st [1, 1, 1, 17, 3, 8, 8, 1, 3, 8, 8, 1, 128, 1]) (vupd (c_api_Core r.1) 7 (.own 0))), (.own 1)]) [(0, some (.arr 38 r.1.Kept.length fun j => (e_api_Kept (r.1.Kept.getD j z_api_Kept)))), (1, some (.arr 50 r.2.length fun j => (e_api_Happen (r.2.getD j z_api_Happen))))] 3 := by
  refine specO_of (fn := Try.f22) (args := [(e_api_Core p0), (e_congresslaw13_Event p1)]) Try.func22 rfl (nl rfl) ?_
  rintro ⟨G, w0, W, S, Sp, gx⟩ hG
  cases hG
  unfold congresslaw13_step at H
  refine aw_region (r_p (does_box 35 (.tmp 0) 0 (e_api_Core p0) trivial rfl) m10 rfl <| r_p (does_box 61 (.tmp 1) 1 (e_congresslaw13_Event p1) trivial rfl) m10 rfl <| r_0 (does_alloc 35 2 (e_api_Core z_api_Core) zr35) rfl rfl <| r_0 (does_nil false 3 50 (fun j => (e_api_Happen (([] : _root_.List api_Happen).getD j z_api_Happen)))) rfl rfl <| r_e) ?_
  refine aw_cov (cov_prune (s1 := ⟨[(2, _), (3, _), (4, _)], [(0, some _), (1, some _), (2, some _)], 4, []⟩) a3 a3 (Nat.le_refl _)) ?_
  refine aw_seq ?_
  refine aw_region (r_fa (.ptr 1 (0 + 0) [0]) fl61_0 rfl rfl rfl rfl <| r_ld (.bool p1.Tick) rfl rfl ⟨rfl, nl rfl, trivial⟩ rfl rfl ty4 rfl <| r_e) ?_
  refine aw_cov (cov_prune (s1 := ⟨[(2, _), (3, _), (4, _), (13, _)], [(0, some _), (1, some _), (2, some _)], 4, []⟩) a4 a3 (Nat.le_refl _)) ?_
  refine aw_cond rfl (fun hc => ?_) (fun hc => ?_)
  · replace H := ite_t hc H
    obtain ⟨v1, h2, H⟩ := bnd H
    refine aw_region (r_lv rfl rfl ty35 rfl <| r_fa (.ptr 1 (0 + 1) [1]) fl61_1 rfl rfl rfl rfl <| r_ld (e_a3_a2_api_Entry p1.F) rfl rfl ⟨rfl, nl rfl, trivial⟩ rfl rfl ty41 rfl <| r_p (does_callO 11 0 (fun _ => .any) (.func 11) [(.tmp 15), (.tmp 17)] [(e_api_Core p0), (e_a3_a2_api_Entry p1.F)] [] [] true [(e_api_Core p0), (e_a3_a2_api_Entry p1.F)] _ (resV [(.agg (.st [1, 1, 1, 17, 3, 8, 8, 1, 3, 8, 8, 1, 128, 1]) (vupd (c_api_Core v1.1) 7 (.own 4))), (.bool v1.2.1), (.own 5)]) _ 4 3 _ _ rfl fo11 rfl ⟨trivial, trivial, trivial⟩ ⟨.ro _ _ (.data _ (d_api_Core p0)), .ro _ _ (.data _ (d_a3_a2_api_Entry p1.F)), trivial⟩ (core_Tick_spec p0 p1.F _ h2) rfl (by simp) rfl trivial ⟨⟨nl rfl, _, rfl, fun _ => (f_api_Kept _)⟩, ⟨nl rfl, _, rfl, fun _ => (f_api_Happen _)⟩, trivial⟩ (.tup _ _ _ (fun j => match j with | 0 => .agg _ _ _ (fun j => match j with | 0 => .data _ (trivial) | 1 => .data _ (trivial) | 2 => .data _ (trivial) | 3 => .data _ ((f_api_Beat _)) | 4 => .data _ ((f_api_Id _)) | 5 => .data _ ((f_a8_u32 _)) | 6 => .data _ ((f_a8_u32 _)) | 7 => .own 0 (nl rfl) | 8 => .data _ ((f_api_Id _)) | 9 => .data _ ((f_a8_u32 _)) | 10 => .data _ ((f_a8_u32 _)) | 11 => .data _ (trivial) | 12 => .data _ ((f_a8_api_Peer _)) | 13 => .data _ (trivial) | _ + 14 => .data _ trivial) | 1 => .data _ (trivial) | 2 => .own 1 (nl rfl) | _ + 3 => .data _ trivial))) m20 rfl <| r_mv rfl rfl <| r_ex (.agg (.st [1, 1, 1, 17, 3, 8, 8, 1, 3, 8, 8, 1, 128, 1]) (vupd (c_api_Core v1.1) 7 (.own 4))) rfl (nl rfl) rfl rfl <| r_ex (.bool v1.2.1) rfl (nl rfl) rfl rfl <| r_ex (.own 5) rfl (nl rfl) rfl rfl <| r_0 (does_alloc 35 7 (e_api_Core z_api_Core) zr35) rfl rfl <| r_sv rfl rfl rfl rfl rfl rfl ty35 rfl <| r_as rfl rfl <| r_as rfl rfl <| r_e) ?_
    refine aw_cov (cov_prune (s1 := ⟨[(4, _), (6, _), (8, _)], [(2, some _), (4, some _), (5, some _), (7, some _)], 8, []⟩) a3 a4 (Nat.le_refl _)) ?_
    refine aw_region (r_lv rfl rfl ty35 rfl <| r_mv rfl rfl <| r_sv rfl rfl rfl rfl rfl rfl ty35 rfl <| r_as rfl rfl <| r_e) ?_
    refine aw_cov (cov_prune (s1 := ⟨[(4, _), (5, _)], [(2, some _), (4, some _), (5, some _)], 8, []⟩) a2 a3 (Nat.le_refl _)) ?_
    refine aw_ret ?_
    refine rt_then ?_
    exact fun a w hr => ⟨_, [(.agg (.st [1, 1, 1, 17, 3, 8, 8, 1, 3, 8, 8, 1, 128, 1]) (vupd (c_api_Core ({ v1.1 with Kept := v1.1.Kept } : api_Core)) 7 (.own 0))), (.own 1)], reach_of hr (cov_to (s1 := ⟨[(4, (.ptr 2 0 [])), (5, (.own 1))], [(0, some (.arr 38 v1.1.Kept.length fun j => (e_api_Kept (v1.1.Kept.getD j z_api_Kept)))), (2, some (.var (.agg (.st [1, 1, 1, 17, 3, 8, 8, 1, 3, 8, 8, 1, 128, 1]) (vupd (c_api_Core ({ v1.1 with Kept := v1.1.Kept } : api_Core)) 7 (.own 0))))), (1, some (.arr 50 v1.2.2.length fun j => (e_api_Happen (v1.2.2.getD j z_api_Happen))))], 3, []⟩) (fun i => match i with | 0 => 4 | 2 => 2 | 1 => 5 | k => k) [] ⟨⟨_, rfl, .ptr 2 _ _ _ _ (nl rfl) rfl rfl⟩, ⟨_, rfl, .own 1 _ _ (nl rfl) rfl rfl (Box.like_refl _)⟩, trivial⟩ ⟨⟨nl rfl, _, _, rfl, rfl, boxTo_arr (fun _ => (d_api_Kept _))⟩, ⟨nl rfl, _, _, rfl, rfl, (boxTo_st (.agg _ _ _ (fun j => match j with | 0 => .plain _ (trivial) | 1 => .plain _ (trivial) | 2 => .plain _ (trivial) | 3 => .plain _ ((d_api_Beat _).plain) | 4 => .plain _ ((d_api_Id _).plain) | 5 => .plain _ ((d_a8_u32 _).plain) | 6 => .plain _ ((d_a8_u32 _).plain) | 7 => .own 0 _ _ (nl rfl) rfl rfl (Box.like_refl _) | 8 => .plain _ ((d_api_Id _).plain) | 9 => .plain _ ((d_a8_u32 _).plain) | 10 => .plain _ ((d_a8_u32 _).plain) | 11 => .plain _ (trivial) | 12 => .plain _ ((d_a8_api_Peer _).plain) | 13 => .plain _ (trivial) | _ + 14 => .plain _ trivial)))⟩, ⟨nl rfl, _, _, rfl, rfl, boxTo_arr (fun _ => (d_api_Happen _))⟩, trivial⟩ rfl rfl), ⟨⟨2, rfl, rfl, ty35⟩, rfl, trivial⟩, by decide, by cases H; rfl, by cases H; exact ⟨rfl, rfl, trivial⟩, nl rfl⟩
  · replace H := ite_f hc H
    refine aw_skip ?_
    refine nx_seq ?_
    obtain ⟨v3, h4, H⟩ := bnd H
    refine aw_region (r_lv rfl rfl ty35 rfl <| r_fa (.ptr 1 (0 + 37) [2]) fl61_2 rfl rfl rfl rfl <| r_ld (e_api_Packet p1.P) rfl rfl ⟨rfl, nl rfl, trivial⟩ rfl rfl ty50 rfl <| r_p (does_callO 18 0 (fun _ => .any) (.func 18) [(.tmp 25), (.tmp 27)] [(e_api_Core p0), (e_api_Packet p1.P)] [] [] true [(e_api_Core p0), (e_api_Packet p1.P)] _ (resV [(.agg (.st [1, 1, 1, 17, 3, 8, 8, 1, 3, 8, 8, 1, 128, 1]) (vupd (c_api_Core v3.1) 7 (.own 4))), (.bool v3.2.1), (.own 5)]) _ 4 3 _ _ rfl fo18 rfl ⟨trivial, trivial, trivial⟩ ⟨.ro _ _ (.data _ (d_api_Core p0)), .ro _ _ (.data _ (d_api_Packet p1.P)), trivial⟩ (core_Receive_spec p0 p1.P _ h4) rfl (by simp) rfl trivial ⟨⟨nl rfl, _, rfl, fun _ => (f_api_Kept _)⟩, ⟨nl rfl, _, rfl, fun _ => (f_api_Happen _)⟩, trivial⟩ (.tup _ _ _ (fun j => match j with | 0 => .agg _ _ _ (fun j => match j with | 0 => .data _ (trivial) | 1 => .data _ (trivial) | 2 => .data _ (trivial) | 3 => .data _ ((f_api_Beat _)) | 4 => .data _ ((f_api_Id _)) | 5 => .data _ ((f_a8_u32 _)) | 6 => .data _ ((f_a8_u32 _)) | 7 => .own 0 (nl rfl) | 8 => .data _ ((f_api_Id _)) | 9 => .data _ ((f_a8_u32 _)) | 10 => .data _ ((f_a8_u32 _)) | 11 => .data _ (trivial) | 12 => .data _ ((f_a8_api_Peer _)) | 13 => .data _ (trivial) | _ + 14 => .data _ trivial) | 1 => .data _ (trivial) | 2 => .own 1 (nl rfl) | _ + 3 => .data _ trivial))) m20 rfl <| r_mv rfl rfl <| r_ex (.agg (.st [1, 1, 1, 17, 3, 8, 8, 1, 3, 8, 8, 1, 128, 1]) (vupd (c_api_Core v3.1) 7 (.own 4))) rfl (nl rfl) rfl rfl <| r_ex (.bool v3.2.1) rfl (nl rfl) rfl rfl <| r_ex (.own 5) rfl (nl rfl) rfl rfl <| r_0 (does_alloc 35 7 (e_api_Core z_api_Core) zr35) rfl rfl <| r_sv rfl rfl rfl rfl rfl rfl ty35 rfl <| r_as rfl rfl <| r_as rfl rfl <| r_e) ?_
    refine aw_cov (cov_prune (s1 := ⟨[(4, _), (9, _), (11, _)], [(2, some _), (4, some _), (5, some _), (7, some _)], 8, []⟩) a3 a4 (Nat.le_refl _)) ?_
    refine aw_region (r_lv rfl rfl ty35 rfl <| r_mv rfl rfl <| r_sv rfl rfl rfl rfl rfl rfl ty35 rfl <| r_as rfl rfl <| r_e) ?_
    refine aw_cov (cov_prune (s1 := ⟨[(4, _), (5, _)], [(2, some _), (4, some _), (5, some _)], 8, []⟩) a2 a3 (Nat.le_refl _)) ?_
    refine aw_ret ?_
    exact fun a w hr => ⟨_, [(.agg (.st [1, 1, 1, 17, 3, 8, 8, 1, 3, 8, 8, 1, 128, 1]) (vupd (c_api_Core ({ v3.1 with Kept := v3.1.Kept } : api_Core)) 7 (.own 0))), (.own 1)], reach_of hr (cov_to (s1 := ⟨[(4, (.ptr 2 0 [])), (5, (.own 1))], [(0, some (.arr 38 v3.1.Kept.length fun j => (e_api_Kept (v3.1.Kept.getD j z_api_Kept)))), (2, some (.var (.agg (.st [1, 1, 1, 17, 3, 8, 8, 1, 3, 8, 8, 1, 128, 1]) (vupd (c_api_Core ({ v3.1 with Kept := v3.1.Kept } : api_Core)) 7 (.own 0))))), (1, some (.arr 50 v3.2.2.length fun j => (e_api_Happen (v3.2.2.getD j z_api_Happen))))], 3, []⟩) (fun i => match i with | 0 => 4 | 2 => 2 | 1 => 5 | k => k) [] ⟨⟨_, rfl, .ptr 2 _ _ _ _ (nl rfl) rfl rfl⟩, ⟨_, rfl, .own 1 _ _ (nl rfl) rfl rfl (Box.like_refl _)⟩, trivial⟩ ⟨⟨nl rfl, _, _, rfl, rfl, boxTo_arr (fun _ => (d_api_Kept _))⟩, ⟨nl rfl, _, _, rfl, rfl, (boxTo_st (.agg _ _ _ (fun j => match j with | 0 => .plain _ (trivial) | 1 => .plain _ (trivial) | 2 => .plain _ (trivial) | 3 => .plain _ ((d_api_Beat _).plain) | 4 => .plain _ ((d_api_Id _).plain) | 5 => .plain _ ((d_a8_u32 _).plain) | 6 => .plain _ ((d_a8_u32 _).plain) | 7 => .own 0 _ _ (nl rfl) rfl rfl (Box.like_refl _) | 8 => .plain _ ((d_api_Id _).plain) | 9 => .plain _ ((d_a8_u32 _).plain) | 10 => .plain _ ((d_a8_u32 _).plain) | 11 => .plain _ (trivial) | 12 => .plain _ ((d_a8_api_Peer _).plain) | 13 => .plain _ (trivial) | _ + 14 => .plain _ trivial)))⟩, ⟨nl rfl, _, _, rfl, rfl, boxTo_arr (fun _ => (d_api_Happen _))⟩, trivial⟩ rfl rfl), ⟨⟨2, rfl, rfl, ty35⟩, rfl, trivial⟩, by decide, by cases H; rfl, by cases H; exact ⟨rfl, rfl, trivial⟩, nl rfl⟩
end Go.Proofs.Ytcocahffigbmbaa
end

section
set_option linter.unusedVariables false
set_option maxRecDepth 100000
namespace Go.Proofs.Ytcocahffigbmbaa
open Go.Eng
set_option maxHeartbeats 1600000
theorem congressref03_May_spec (p0 : api_Entry) (r : Bool) (H : congressref03_May p0 = some r) : FSpec Try.prog 63 [(e_api_Entry p0)] (.bool r) := by
  refine spec_of (fn := Try.f63) (args := [(e_api_Entry p0)]) Try.func63 rfl (nl rfl) ?_
  rintro ⟨G, w0, W, S, Sp, gx⟩ hG
  cases hG
  unfold congressref03_May at H
  refine aw_region (r_p (does_box 38 (.tmp 0) 0 (e_api_Entry p0) trivial rfl) m10 rfl <| r_0 (does_assign (.const (.bool false)) (.bool false) (fun _ => rfl)) rfl rfl <| r_e) ?_
  refine aw_cov (cov_prune (s1 := ⟨[(1, _)], [(0, some _)], 1, []⟩) a1 a1 (Nat.le_refl _)) ?_
  refine aw_seq ?_
  refine aw_region (r_fa (.ptr 0 (0 + 0) [0]) fl38_0 rfl rfl rfl rfl <| r_ld (.int .i64 p0.Kind) rfl rfl ⟨rfl, nl rfl, trivial⟩ rfl rfl ty3 rfl <| r_p (does_bin .eql 3 3 (.tmp 4) (.const (.int .i64 0)) .i64 p0.Kind 0 (.bool (p0.Kind == 0)) trivial (fun _ => rfl) (bin_eql _ _ _ _)) m10 rfl <| r_e) ?_
  refine aw_cov (cov_prune (s1 := ⟨[(1, _), (5, _)], [(0, some _)], 1, []⟩) a2 a1 (Nat.le_refl _)) ?_
  refine aw_cond rfl (fun hc => ?_) (fun hc => ?_)
  · replace H := ite_t hc H
    refine aw_region (r_fa (.ptr 0 (0 + 1) [1]) fl38_1 rfl rfl rfl rfl <| r_ld (.int .i64 p0.Service) rfl rfl ⟨rfl, nl rfl, trivial⟩ rfl rfl ty3 rfl <| r_p (does_bin .eql 3 3 (.tmp 7) (.const (.int .i64 0)) .i64 p0.Service 0 (.bool (p0.Service == 0)) trivial (fun _ => rfl) (bin_eql _ _ _ _)) m10 rfl <| r_mv rfl rfl <| r_gfa (.ptr 0 (0 + 2) [2]) fl38_2 rfl rfl rfl rfl rfl (fun _ => .same _) rfl rfl rfl <| r_gld (.int .i64 p0.Group) rfl rfl rfl rfl rfl (fun hc => .opt _ _ hc) rfl (fun hc => ⟨rfl, nl rfl, trivial⟩) rfl rfl ty3 rfl <| r_g [(11, _)] [(11, _)] [] rfl rfl m20 rfl (fun hc => ⟨(.opt _ _ hc), trivial⟩) (fun hc => does_bin .eql 3 3 (.tmp 11) (.const (.int .i64 0)) .i64 p0.Group 0 (.bool (p0.Group == 0)) trivial (fun _ => rfl) (bin_eql _ _ _ _)) rfl <| r_p (does_and 9 12 (p0.Service == 0) (p0.Group == 0)) m20 rfl <| r_mv rfl rfl <| r_gfa (.ptr 0 (0 + 3) [3]) fl38_3 rfl rfl rfl rfl rfl (fun _ => .same _) rfl rfl rfl <| r_gld (.int .u64 p0.Session) rfl rfl rfl rfl rfl (fun hc => .opt _ _ hc) rfl (fun hc => ⟨rfl, nl rfl, trivial⟩) rfl rfl ty36 rfl <| r_g [(16, _)] [(16, _)] [] rfl rfl m20 rfl (fun hc => ⟨(.opt _ _ hc), trivial⟩) (fun hc => does_bin .eql 36 36 (.tmp 16) (.const (.int .u64 0)) .u64 p0.Session 0 (.bool (p0.Session == 0)) trivial (fun _ => rfl) (bin_eql _ _ _ _)) rfl <| r_p (does_and 14 17 ((p0.Service == 0) && (p0.Group == 0)) (p0.Session == 0)) m20 rfl <| r_mv rfl rfl <| r_gfa (.ptr 0 (0 + 4) [4]) fl38_4 rfl rfl rfl rfl rfl (fun _ => .same _) rfl rfl rfl <| r_gld (.int .u64 p0.Number) rfl rfl rfl rfl rfl (fun hc => .opt _ _ hc) rfl (fun hc => ⟨rfl, nl rfl, trivial⟩) rfl rfl ty36 rfl <| r_g [(21, _)] [(21, _)] [] rfl rfl m20 rfl (fun hc => ⟨(.opt _ _ hc), trivial⟩) (fun hc => does_bin .eql 36 36 (.tmp 21) (.const (.int .u64 0)) .u64 p0.Number 0 (.bool (p0.Number == 0)) trivial (fun _ => rfl) (bin_eql _ _ _ _)) rfl <| r_p (does_and 19 22 (((p0.Service == 0) && (p0.Group == 0)) && (p0.Session == 0)) (p0.Number == 0)) m20 rfl <| r_mv rfl rfl <| r_gfa (.ptr 0 (0 + 5) [5]) fl38_5 rfl rfl rfl rfl rfl (fun _ => .same _) rfl rfl rfl <| r_gld (.str p0.Text) rfl rfl rfl rfl rfl (fun hc => .opt _ _ hc) rfl (fun hc => ⟨rfl, nl rfl, trivial⟩) rfl rfl ty9 rfl <| r_g [(26, _)] [(26, _)] [] rfl rfl m20 rfl (fun hc => ⟨(.opt _ _ hc), trivial⟩) (fun hc => does_eqStr false 9 9 (.tmp 26) (.const (.string ByteArray.empty)) p0.Text ByteArray.empty trivial (fun _ => rfl)) rfl <| r_p (does_and 24 27 ((((p0.Service == 0) && (p0.Group == 0)) && (p0.Session == 0)) && (p0.Number == 0)) (p0.Text == ByteArray.empty)) m20 rfl <| r_as rfl rfl <| r_e) ?_
    obtain ⟨v1, hv1, H⟩ := lt_of H
    refine aw_cov (cov_prune (s1 := ⟨[(2, (.bool v1))], [], 1, []⟩) ⟨(by subst hv1; rfl), trivial⟩ trivial (Nat.le_refl _)) ?_
    refine aw_ret ?_
    refine rt_then ?_
    exact fun a w hr => ⟨_, [(.bool v1)], hr, ⟨⟨_, rfl, .data (.bool v1) trivial⟩, trivial⟩, by decide, by cases H; rfl⟩
  · replace H := ite_f hc H
    refine aw_skip ?_
    refine nx_seq ?_
    refine aw_seq ?_
    refine aw_region (r_fa (.ptr 0 (0 + 2) [2]) fl38_2 rfl rfl rfl rfl <| r_ld (.int .i64 p0.Group) rfl rfl ⟨rfl, nl rfl, trivial⟩ rfl rfl ty3 rfl <| r_p (does_bin .lss 3 3 (.tmp 30) (.const (.int .i64 0)) .i64 p0.Group 0 (.bool (decide (p0.Group < 0))) trivial (fun _ => rfl) (bin_lss _ _ _ _)) m10 rfl <| r_mv rfl rfl <| r_gfa (.ptr 0 (0 + 2) [2]) fl38_2 rfl rfl rfl rfl rfl (fun _ => .same _) rfl rfl rfl <| r_gld (.int .i64 p0.Group) rfl rfl rfl rfl rfl (fun hc => .opt _ _ hc) rfl (fun hc => ⟨rfl, nl rfl, trivial⟩) rfl rfl ty3 rfl <| r_g [(34, _)] [(34, _)] [] rfl rfl m20 rfl (fun hc => ⟨(.opt _ _ hc), trivial⟩) (fun hc => does_bin .gtr 3 3 (.tmp 34) (.const (.int .i64 7)) .i64 p0.Group 7 (.bool (decide (p0.Group > 7))) trivial (fun _ => rfl) (bin_gtr _ _ _ _)) rfl <| r_p (does_or 32 35 (decide (p0.Group < 0)) (decide (p0.Group > 7))) m20 rfl <| r_mv rfl rfl <| r_gfa (.ptr 0 (0 + 3) [3]) fl38_3 rfl rfl rfl rfl rfl (fun _ => .same _) rfl rfl rfl <| r_gld (.int .u64 p0.Session) rfl rfl rfl rfl rfl (fun hc => .opt _ _ hc) rfl (fun hc => ⟨rfl, nl rfl, trivial⟩) rfl rfl ty36 rfl <| r_g [(39, _)] [(39, _)] [] rfl rfl m20 rfl (fun hc => ⟨(.opt _ _ hc), trivial⟩) (fun hc => does_bin .gtr 36 36 (.tmp 39) (.const (.int .u64 65535)) .u64 p0.Session 65535 (.bool (decide (p0.Session > 65535))) trivial (fun _ => rfl) (bin_gtr _ _ _ _)) rfl <| r_p (does_or 37 40 ((decide (p0.Group < 0)) || (decide (p0.Group > 7))) (decide (p0.Session > 65535))) m20 rfl <| r_mv rfl rfl <| r_gfa (.ptr 0 (0 + 4) [4]) fl38_4 rfl rfl rfl rfl rfl (fun _ => .same _) rfl rfl rfl <| r_gld (.int .u64 p0.Number) rfl rfl rfl rfl rfl (fun hc => .opt _ _ hc) rfl (fun hc => ⟨rfl, nl rfl, trivial⟩) rfl rfl ty36 rfl <| r_g [(44, _)] [(44, _)] [] rfl rfl m20 rfl (fun hc => ⟨(.opt _ _ hc), trivial⟩) (fun hc => does_bin .gtr 36 36 (.tmp 44) (.const (.int .u64 4294967295)) .u64 p0.Number 4294967295 (.bool (decide (p0.Number > 4294967295))) trivial (fun _ => rfl) (bin_gtr _ _ _ _)) rfl <| r_p (does_or 42 45 (((decide (p0.Group < 0)) || (decide (p0.Group > 7))) || (decide (p0.Session > 65535))) (decide (p0.Number > 4294967295))) m20 rfl <| r_mv rfl rfl <| r_gfa (.ptr 0 (0 + 5) [5]) fl38_5 rfl rfl rfl rfl rfl (fun _ => .same _) rfl rfl rfl <| r_gld (.str p0.Text) rfl rfl rfl rfl rfl (fun hc => .opt _ _ hc) rfl (fun hc => ⟨rfl, nl rfl, trivial⟩) rfl rfl ty9 rfl <| r_g [(49, _)] [(49, _)] [] rfl rfl m20 rfl (fun hc => ⟨(.opt _ _ hc), trivial⟩) (fun hc => does_lenstr 9 49 p0.Text rfl) rfl <| r_g [(50, _)] [(50, _)] [] rfl rfl m20 rfl (fun hc => ⟨(.opt _ _ hc), trivial⟩) (fun hc => does_bin .gtr 3 3 (.tmp 50) (.const (.int .i64 16)) .i64 (p0.Text.size : Int) 16 (.bool (decide ((p0.Text.size : Int) > 16))) trivial (fun _ => rfl) (bin_gtr _ _ _ _)) rfl <| r_p (does_or 47 51 ((((decide (p0.Group < 0)) || (decide (p0.Group > 7))) || (decide (p0.Session > 65535))) || (decide (p0.Number > 4294967295))) (decide ((p0.Text.size : Int) > 16))) m20 rfl <| r_e) ?_
    obtain ⟨v2, hv2, H⟩ := lt_of H
    refine aw_cov (cov_prune (s1 := ⟨[(1, _), (52, (.bool v2))], [(0, some _)], 1, []⟩) ⟨rfl, (by subst hv2; rfl), trivial⟩ a1 (Nat.le_refl _)) ?_
    refine aw_cond rfl (fun hc => ?_) (fun hc => ?_)
    · replace H := ite_t hc H
      refine aw_region (r_0 (does_assign (.const (.bool false)) (.bool false) (fun _ => rfl)) rfl rfl <| r_e) ?_
      refine aw_cov (cov_prune (s1 := ⟨[(2, _)], [], 1, []⟩) a1 trivial (Nat.le_refl _)) ?_
      refine aw_ret ?_
      refine rt_then ?_
      exact fun a w hr => ⟨_, [(.bool false)], hr, ⟨⟨_, rfl, .data (.bool false) trivial⟩, trivial⟩, by decide, by cases H; rfl⟩
    · replace H := ite_f hc H
      refine aw_skip ?_
      refine nx_seq ?_
      refine aw_seq ?_
      refine aw_region (r_fa (.ptr 0 (0 + 0) [0]) fl38_0 rfl rfl rfl rfl <| r_ld (.int .i64 p0.Kind) rfl rfl ⟨rfl, nl rfl, trivial⟩ rfl rfl ty3 rfl <| r_p (does_bin .eql 3 3 (.tmp 54) (.const (.int .i64 1)) .i64 p0.Kind 1 (.bool (p0.Kind == 1)) trivial (fun _ => rfl) (bin_eql _ _ _ _)) m10 rfl <| r_e) ?_
      refine aw_cov (cov_prune (s1 := ⟨[(1, _), (55, _)], [(0, some _)], 1, []⟩) a2 a1 (Nat.le_refl _)) ?_
      refine aw_cond rfl (fun hc => ?_) (fun hc => ?_)
      · replace H := ite_t hc H
        refine aw_region (r_fa (.ptr 0 (0 + 1) [1]) fl38_1 rfl rfl rfl rfl <| r_ld (.int .i64 p0.Service) rfl rfl ⟨rfl, nl rfl, trivial⟩ rfl rfl ty3 rfl <| r_p (does_bin .geq 3 3 (.tmp 57) (.const (.int .i64 0)) .i64 p0.Service 0 (.bool (decide (p0.Service ≥ 0))) trivial (fun _ => rfl) (bin_geq _ _ _ _)) m10 rfl <| r_mv rfl rfl <| r_gfa (.ptr 0 (0 + 1) [1]) fl38_1 rfl rfl rfl rfl rfl (fun _ => .same _) rfl rfl rfl <| r_gld (.int .i64 p0.Service) rfl rfl rfl rfl rfl (fun hc => .opt _ _ hc) rfl (fun hc => ⟨rfl, nl rfl, trivial⟩) rfl rfl ty3 rfl <| r_g [(61, _)] [(61, _)] [] rfl rfl m20 rfl (fun hc => ⟨(.opt _ _ hc), trivial⟩) (fun hc => does_bin .leq 3 3 (.tmp 61) (.const (.int .i64 3)) .i64 p0.Service 3 (.bool (decide (p0.Service ≤ 3))) trivial (fun _ => rfl) (bin_leq _ _ _ _)) rfl <| r_p (does_and 59 62 (decide (p0.Service ≥ 0)) (decide (p0.Service ≤ 3))) m20 rfl <| r_as rfl rfl <| r_e) ?_
        refine aw_cov (cov_prune (s1 := ⟨[(2, _)], [], 1, []⟩) a1 trivial (Nat.le_refl _)) ?_
        refine aw_ret ?_
        refine rt_then ?_
        exact fun a w hr => ⟨_, [(.bool ((decide (p0.Service ≥ 0)) && (decide (p0.Service ≤ 3))))], hr, ⟨⟨_, rfl, .data (.bool ((decide (p0.Service ≥ 0)) && (decide (p0.Service ≤ 3)))) trivial⟩, trivial⟩, by decide, by cases H; rfl⟩
      · replace H := ite_f hc H
        refine aw_skip ?_
        refine nx_seq ?_
        refine aw_region (r_fa (.ptr 0 (0 + 0) [0]) fl38_0 rfl rfl rfl rfl <| r_ld (.int .i64 p0.Kind) rfl rfl ⟨rfl, nl rfl, trivial⟩ rfl rfl ty3 rfl <| r_p (does_bin .eql 3 3 (.tmp 65) (.const (.int .i64 2)) .i64 p0.Kind 2 (.bool (p0.Kind == 2)) trivial (fun _ => rfl) (bin_eql _ _ _ _)) m10 rfl <| r_mv rfl rfl <| r_gfa (.ptr 0 (0 + 0) [0]) fl38_0 rfl rfl rfl rfl rfl (fun _ => .same _) rfl rfl rfl <| r_gld (.int .i64 p0.Kind) rfl rfl rfl rfl rfl (fun hc => .opt _ _ hc) rfl (fun hc => ⟨rfl, nl rfl, trivial⟩) rfl rfl ty3 rfl <| r_g [(69, _)] [(69, _)] [] rfl rfl m20 rfl (fun hc => ⟨(.opt _ _ hc), trivial⟩) (fun hc => does_bin .eql 3 3 (.tmp 69) (.const (.int .i64 3)) .i64 p0.Kind 3 (.bool (p0.Kind == 3)) trivial (fun _ => rfl) (bin_eql _ _ _ _)) rfl <| r_p (does_or 67 70 (p0.Kind == 2) (p0.Kind == 3)) m20 rfl <| r_mv rfl rfl <| r_gfa (.ptr 0 (0 + 1) [1]) fl38_1 rfl rfl rfl rfl rfl (fun _ => .same _) rfl rfl rfl <| r_gld (.int .i64 p0.Service) rfl rfl rfl rfl rfl (fun hc => .opt _ _ hc) rfl (fun hc => ⟨rfl, nl rfl, trivial⟩) rfl rfl ty3 rfl <| r_g [(74, _)] [(74, _)] [] rfl rfl m20 rfl (fun hc => ⟨(.opt _ _ hc), trivial⟩) (fun hc => does_bin .eql 3 3 (.tmp 74) (.const (.int .i64 2)) .i64 p0.Service 2 (.bool (p0.Service == 2)) trivial (fun _ => rfl) (bin_eql _ _ _ _)) rfl <| r_p (does_and 72 75 ((p0.Kind == 2) || (p0.Kind == 3)) (p0.Service == 2)) m20 rfl <| r_mv rfl rfl <| r_gfa (.ptr 0 (0 + 5) [5]) fl38_5 rfl rfl rfl rfl rfl (fun _ => .same _) rfl rfl rfl <| r_gld (.str p0.Text) rfl rfl rfl rfl rfl (fun hc => .opt _ _ hc) rfl (fun hc => ⟨rfl, nl rfl, trivial⟩) rfl rfl ty9 rfl <| r_g [(79, _)] [(79, _)] [] rfl rfl m20 rfl (fun hc => ⟨(.opt _ _ hc), trivial⟩) (fun hc => does_eqStr false 9 9 (.tmp 79) (.const (.string ByteArray.empty)) p0.Text ByteArray.empty trivial (fun _ => rfl)) rfl <| r_p (does_and 77 80 (((p0.Kind == 2) || (p0.Kind == 3)) && (p0.Service == 2)) (p0.Text == ByteArray.empty)) m20 rfl <| r_as rfl rfl <| r_e) ?_
        obtain ⟨v3, hv3, H⟩ := lt_of H
        refine aw_cov (cov_prune (s1 := ⟨[(2, (.bool v3))], [], 1, []⟩) ⟨(by subst hv3; rfl), trivial⟩ trivial (Nat.le_refl _)) ?_
        refine aw_ret ?_
        exact fun a w hr => ⟨_, [(.bool v3)], hr, ⟨⟨_, rfl, .data (.bool v3) trivial⟩, trivial⟩, by decide, by cases H; rfl⟩
theorem congressref04_Check_spec (p0 : (Nat → (Nat → api_Entry))) (r : Int) (H : congressref04_Check p0 = some r) : FSpec Try.prog 27 [(e_a3_a2_api_Entry p0)] (.int .i64 r) := by
  refine spec_of (fn := Try.f27) (args := [(e_a3_a2_api_Entry p0)]) Try.func27 rfl (nl rfl) ?_
  rintro ⟨G, w0, W, S, Sp, gx⟩ hG
  cases hG
  unfold congressref04_Check at H
  refine aw_region (r_p (does_box 41 (.tmp 0) 0 (e_a3_a2_api_Entry p0) trivial rfl) m10 rfl <| r_0 (does_assign (.const (.int .i64 0)) (.int .i64 0) (fun _ => rfl)) rfl rfl <| r_e) ?_
  refine aw_cov (cov_prune (s1 := ⟨[(1, _)], [(0, some _)], 1, []⟩) a1 a1 (Nat.le_refl _)) ?_
  refine aw_seq ?_
  refine aw_region (r_0 (does_assign (.const (.int .i64 0)) (.int .i64 0) (fun _ => rfl)) rfl rfl <| r_e) ?_
  refine aw_cov (cov_prune (s1 := ⟨[(1, _), (3, _)], [(0, some _)], 1, []⟩) a2 a1 (Nat.le_refl _)) ?_
  obtain ⟨wn2, hwn2, Hrn2⟩ := bnd H
  refine aw_meet (fun y10 : Unit => (⟨[], [], 1, []⟩ : St)) (fun y10 => Fl.nx y10 = wn2) (fun y10 hy => ?_) (aw_block (aw_runs (fun x1 : Int => (⟨[(1, (.ptr 0 0 [])), (3, (.int .i64 x1))], [(0, some (.var (e_a3_a2_api_Entry p0)))], 1, []⟩ : St)) hwn2 (cov_prune a2 a1 (nl rfl)) (fun x1 st H hsn2 => ?_)))
  · have H := nx_of hy Hrn2
    refine nx_seq ?_
    refine aw_region (r_0 (does_assign (.const (.int .i64 0)) (.int .i64 0) (fun _ => rfl)) rfl rfl <| r_e) ?_
    refine aw_cov (cov_prune (s1 := ⟨[(2, _)], [], 1, []⟩) a1 trivial (Nat.le_refl _)) ?_
    refine aw_ret ?_
    exact fun a w hr => ⟨_, [(.int .i64 0)], hr, ⟨⟨_, rfl, .data (.int .i64 0) trivial⟩, trivial⟩, by decide, by cases H; rfl⟩
  · refine aw_seq ?_
    refine aw_region (r_mv rfl rfl <| r_p (does_bin .lss 3 3 (.tmp 5) (.const (.int .i64 3)) .i64 x1 3 (.bool (decide (x1 < 3))) trivial (fun _ => rfl) (bin_lss _ _ _ _)) m10 rfl <| r_e) ?_
    refine aw_cov (cov_prune (s1 := ⟨[(1, _), (3, _), (6, _)], [(0, some _)], 1, []⟩) a3 a1 (Nat.le_refl _)) ?_
    refine aw_cond rfl (fun hc => ?_) (fun hc => ?_)
    · replace H := ite_t hc H
      refine aw_skip ?_
      refine nx_seq ?_
      refine aw_seq ?_
      refine aw_block ?_
      refine aw_region (r_0 (does_assign (.const (.int .i64 0)) (.int .i64 0) (fun _ => rfl)) rfl rfl <| r_e) ?_
      refine aw_cov (cov_prune (s1 := ⟨[(1, _), (3, _), (4, _)], [(0, some _)], 1, []⟩) a3 a1 (Nat.le_refl _)) ?_
      obtain ⟨wn4, hwn4, Hrn4⟩ := bnd H
      refine aw_meet (fun y9 : Unit => (⟨[(1, (.ptr 0 0 [])), (3, (.int .i64 x1))], [(0, some (.var (e_a3_a2_api_Entry p0)))], 1, []⟩ : St)) (fun y9 => Fl.nx y9 = wn4) (fun y9 hy => ?_) (aw_block (aw_runs (fun x3 : Int => (⟨[(1, (.ptr 0 0 [])), (3, (.int .i64 x1)), (4, (.int .i64 x3))], [(0, some (.var (e_a3_a2_api_Entry p0)))], 1, []⟩ : St)) hwn4 (cov_prune a3 a1 (nl rfl)) (fun x3 st H hsn4 => ?_)))
      · have H := nx_of hy Hrn4
        refine nx_blk ?_
        refine nx_seq ?_
        refine aw_region1 (r_mv rfl rfl <| r_p (does_bin .add 3 3 (.tmp 7) (.const (.int .i64 1)) .i64 x1 1 (.int .i64 (IntKind.i64.wrap (x1 + 1))) trivial (fun _ => rfl) (bin_add _ _ _ _)) m10 rfl <| r_as rfl rfl <| r_e) ?_
        exact nx_loop ((IntKind.i64.wrap (x1 + 1))) H (cov_prune a2 a1 (nl rfl))
      · refine aw_seq ?_
        refine aw_region (r_mv rfl rfl <| r_p (does_bin .lss 3 3 (.tmp 9) (.const (.int .i64 2)) .i64 x3 2 (.bool (decide (x3 < 2))) trivial (fun _ => rfl) (bin_lss _ _ _ _)) m10 rfl <| r_e) ?_
        refine aw_cov (cov_prune (s1 := ⟨[(1, _), (3, _), (4, _), (10, _)], [(0, some _)], 1, []⟩) a4 a1 (Nat.le_refl _)) ?_
        refine aw_cond rfl (fun hc => ?_) (fun hc => ?_)
        · replace H := ite_t hc H
          refine aw_skip ?_
          refine nx_seq ?_
          refine aw_seq ?_
          refine aw_block ?_
          obtain ⟨h5, H⟩ := ib_of H
          obtain ⟨h6, H⟩ := ib_of H
          obtain ⟨v7, h8, H⟩ := bnd H
          refine aw_region (r_mv rfl rfl <| r_mv rfl rfl <| r_p (does_indexAddr 41 3 12 1 0 0 [] (.var (e_a3_a2_api_Entry p0)) (.tmp 13) .i64 x1 el41 trivial h5.1 h5.2) m21 rfl <| r_p (does_indexAddr 39 2 6 15 0 (0 + x1.toNat * 12) [x1.toNat] (.var (e_a3_a2_api_Entry p0)) (.tmp 14) .i64 x3 el39 trivial h6.1 h6.2) m21 rfl <| r_ld (e_api_Entry ((p0 x1.toNat) x3.toNat)) rfl rfl ⟨rfl, (ixl h5), ⟨rfl, (ixl h6), trivial⟩⟩ rfl rfl ty38 rfl <| r_ca [_] [_] (nob := []) (flat := true) (congressref03_May_spec _ _ h8) rfl rfl m10 fo63 ⟨trivial, trivial⟩ ⟨.data _ (d_api_Entry _), trivial⟩ trivial rfl <| r_p (does_not 4 (.tmp 18) v7 trivial) m10 rfl <| r_e) ?_
          refine aw_cov (cov_prune (s1 := ⟨[(1, _), (3, _), (4, _), (19, _)], [(0, some _)], 1, []⟩) a4 a1 (Nat.le_refl _)) ?_
          refine aw_cond rfl (fun hc => ?_) (fun hc => ?_)
          · replace H := ite_t hc H
            refine aw_region (r_0 (does_assign (.const (.int .i64 30)) (.int .i64 30) (fun _ => rfl)) rfl rfl <| r_e) ?_
            refine aw_cov (cov_prune (s1 := ⟨[(2, _)], [], 1, []⟩) a1 trivial (Nat.le_refl _)) ?_
            refine aw_ret ?_
            replace H := rt_of H hsn4 Hrn4
            replace H := rt_of H hsn2 Hrn2
            refine rt_blk ?_
            refine rt_then ?_
            refine rt_then ?_
            refine rt_blk ?_
            refine rt_then ?_
            refine rt_blk ?_
            refine rt_then ?_
            refine rt_then ?_
            refine rt_blk ?_
            refine rt_then ?_
            refine rt_then ?_
            exact fun a w hr => ⟨_, [(.int .i64 30)], hr, ⟨⟨_, rfl, .data (.int .i64 30) trivial⟩, trivial⟩, by decide, by cases H; rfl⟩
          · replace H := ite_f hc H
            refine aw_skip ?_
            refine nx_blk ?_
            refine nx_seq ?_
            refine aw_region1 (r_mv rfl rfl <| r_p (does_bin .add 3 3 (.tmp 11) (.const (.int .i64 1)) .i64 x3 1 (.int .i64 (IntKind.i64.wrap (x3 + 1))) trivial (fun _ => rfl) (bin_add _ _ _ _)) m10 rfl <| r_as rfl rfl <| r_e) ?_
            exact nx_loop ((IntKind.i64.wrap (x3 + 1))) H (cov_prune a3 a1 (nl rfl))
        · replace H := ite_f hc H
          refine aw_exit ?_
          refine ex_then ?_
          refine ex_then ?_
          refine ex_here ?_
          exact nx_ljoin () H hsn4 (cov_prune a2 a1 (nl rfl))
    · replace H := ite_f hc H
      refine aw_exit ?_
      refine ex_then ?_
      refine ex_then ?_
      refine ex_here ?_
      exact nx_ljoin () H hsn2 (cov_prune trivial trivial (nl rfl))
theorem congressref05_Check_spec (p0 : api_Packet) (r : Int) (H : congressref05_Check p0 = some r) : FSpec Try.prog 26 [(e_api_Packet p0)] (.int .i64 r) := by
  refine spec_of (fn := Try.f26) (args := [(e_api_Packet p0)]) Try.func26 rfl (nl rfl) ?_
  rintro ⟨G, w0, W, S, Sp, gx⟩ hG
  cases hG
  unfold congressref05_Check at H
  refine aw_region (r_p (does_box 50 (.tmp 0) 0 (e_api_Packet p0) trivial rfl) m10 rfl <| r_0 (does_assign (.const (.int .i64 0)) (.int .i64 0) (fun _ => rfl)) rfl rfl <| r_e) ?_
  refine aw_cov (cov_prune (s1 := ⟨[(1, _)], [(0, some _)], 1, []⟩) a1 a1 (Nat.le_refl _)) ?_
  refine aw_seq ?_
  refine aw_region (r_fa (.ptr 0 (0 + 0) [0]) fl50_0 rfl rfl rfl rfl <| r_ld (.int .u32 p0.From) rfl rfl ⟨rfl, nl rfl, trivial⟩ rfl rfl ty22 rfl <| r_p (does_bin .gtr 22 22 (.tmp 4) (.const (.int .u32 7)) .u32 p0.From 7 (.bool (decide (p0.From > 7))) trivial (fun _ => rfl) (bin_gtr _ _ _ _)) m10 rfl <| r_mv rfl rfl <| r_gfa (.ptr 0 (0 + 107) [12]) fl50_12 rfl rfl rfl rfl rfl (fun _ => .same _) rfl rfl rfl <| r_gld (.int .u32 p0.RelayOf) rfl rfl rfl rfl rfl (fun hc => .opt _ _ hc) rfl (fun hc => ⟨rfl, nl rfl, trivial⟩) rfl rfl ty22 rfl <| r_g [(8, _)] [(8, _)] [] rfl rfl m20 rfl (fun hc => ⟨(.opt _ _ hc), trivial⟩) (fun hc => does_bin .gtr 22 22 (.tmp 8) (.const (.int .u32 7)) .u32 p0.RelayOf 7 (.bool (decide (p0.RelayOf > 7))) trivial (fun _ => rfl) (bin_gtr _ _ _ _)) rfl <| r_p (does_or 6 9 (decide (p0.From > 7)) (decide (p0.RelayOf > 7))) m20 rfl <| r_mv rfl rfl <| r_gfa (.ptr 0 (0 + 2) [2]) fl50_2 rfl rfl rfl rfl rfl (fun _ => .same _) rfl rfl rfl <| r_gfa (.ptr 0 ((0 + 2) + 1) [2, 1]) fl27_1 rfl rfl rfl rfl rfl (fun hc => .opt _ _ hc) rfl rfl rfl <| r_gld (.int .u32 p0.Conf.Coord) rfl rfl rfl rfl rfl (fun hc => .opt _ _ hc) rfl (fun hc => ⟨rfl, nl rfl, ⟨rfl, nl rfl, trivial⟩⟩) rfl rfl ty22 rfl <| r_g [(14, _)] [(14, _)] [] rfl rfl m20 rfl (fun hc => ⟨(.opt _ _ hc), trivial⟩) (fun hc => does_bin .gtr 22 22 (.tmp 14) (.const (.int .u32 7)) .u32 p0.Conf.Coord 7 (.bool (decide (p0.Conf.Coord > 7))) trivial (fun _ => rfl) (bin_gtr _ _ _ _)) rfl <| r_p (does_or 11 15 ((decide (p0.From > 7)) || (decide (p0.RelayOf > 7))) (decide (p0.Conf.Coord > 7))) m20 rfl <| r_mv rfl rfl <| r_gfa (.ptr 0 (0 + 21) [5]) fl50_5 rfl rfl rfl rfl rfl (fun _ => .same _) rfl rfl rfl <| r_gfa (.ptr 0 ((0 + 21) + 1) [5, 1]) fl27_1 rfl rfl rfl rfl rfl (fun hc => .opt _ _ hc) rfl rfl rfl <| r_gld (.int .u32 p0.Promise.Coord) rfl rfl rfl rfl rfl (fun hc => .opt _ _ hc) rfl (fun hc => ⟨rfl, nl rfl, ⟨rfl, nl rfl, trivial⟩⟩) rfl rfl ty22 rfl <| r_g [(20, _)] [(20, _)] [] rfl rfl m20 rfl (fun hc => ⟨(.opt _ _ hc), trivial⟩) (fun hc => does_bin .gtr 22 22 (.tmp 20) (.const (.int .u32 7)) .u32 p0.Promise.Coord 7 (.bool (decide (p0.Promise.Coord > 7))) trivial (fun _ => rfl) (bin_gtr _ _ _ _)) rfl <| r_p (does_or 17 21 (((decide (p0.From > 7)) || (decide (p0.RelayOf > 7))) || (decide (p0.Conf.Coord > 7))) (decide (p0.Promise.Coord > 7))) m20 rfl <| r_e) ?_
  obtain ⟨v1, hv1, H⟩ := lt_of H
  refine aw_cov (cov_prune (s1 := ⟨[(1, _), (22, (.bool v1))], [(0, some _)], 1, []⟩) ⟨rfl, (by subst hv1; rfl), trivial⟩ a1 (Nat.le_refl _)) ?_
  refine aw_cond rfl (fun hc => ?_) (fun hc => ?_)
  · replace H := ite_t hc H
    refine aw_region (r_0 (does_assign (.const (.int .i64 52)) (.int .i64 52) (fun _ => rfl)) rfl rfl <| r_e) ?_
    refine aw_cov (cov_prune (s1 := ⟨[(2, _)], [], 1, []⟩) a1 trivial (Nat.le_refl _)) ?_
    refine aw_ret ?_
    refine rt_then ?_
    exact fun a w hr => ⟨_, [(.int .i64 52)], hr, ⟨⟨_, rfl, .data (.int .i64 52) trivial⟩, trivial⟩, by decide, by cases H; rfl⟩
  · replace H := ite_f hc H
    refine aw_skip ?_
    refine nx_seq ?_
    refine aw_seq ?_
    obtain ⟨v2, h3, H⟩ := bnd H
    obtain ⟨v4, h5, H⟩ := whn_of H
    obtain ⟨v6, h7, H⟩ := whn_of H
    refine aw_region (r_fa (.ptr 0 (0 + 35) [10]) fl50_10 rfl rfl rfl rfl <| r_ld (e_a3_a2_api_Entry p0.Newest) rfl rfl ⟨rfl, nl rfl, trivial⟩ rfl rfl ty41 rfl <| r_ca [_] [_] (nob := []) (flat := true) (congressref04_Check_spec _ _ h3) rfl rfl m10 fo27 ⟨trivial, trivial⟩ ⟨.data _ (d_a3_a2_api_Entry _), trivial⟩ trivial rfl <| r_p (does_bin .neq 73 73 (.tmp 25) (.const (.int .i64 0)) .i64 v2 0 (.bool (v2 != 0)) trivial (fun _ => rfl) (bin_neq _ _ _ _)) m10 rfl <| r_mv rfl rfl <| r_gfa (.ptr 0 (0 + 71) [11]) fl50_11 rfl rfl rfl rfl rfl (fun _ => .same _) rfl rfl rfl <| r_gld (e_a3_a2_api_Entry p0.Older) rfl rfl rfl rfl rfl (fun hc => .opt _ _ hc) rfl (fun hc => ⟨rfl, nl rfl, trivial⟩) rfl rfl ty41 rfl <| r_g [(29, _)] [(29, _)] [] rfl rfl m20 rfl (fun hc => ⟨(.opt _ _ hc), trivial⟩) (fun hc => does_call 27 0 (fun _ => .any) (.func 27) [(.tmp 29)] [(e_a3_a2_api_Entry p0.Older)] [] true [(e_a3_a2_api_Entry p0.Older)] (.int .i64 v4) _ _ rfl fo27 rfl ⟨trivial, trivial⟩ ⟨.data _ (d_a3_a2_api_Entry p0.Older), trivial⟩ (congressref04_Check_spec p0.Older _ (h5 hc)) trivial) rfl <| r_g [(30, _)] [(30, _)] [] rfl rfl m20 rfl (fun hc => ⟨(.opt _ _ hc), trivial⟩) (fun hc => does_bin .neq 73 73 (.tmp 30) (.const (.int .i64 0)) .i64 v4 0 (.bool (v4 != 0)) trivial (fun _ => rfl) (bin_neq _ _ _ _)) rfl <| r_p (does_or 27 31 (v2 != 0) (v4 != 0)) m20 rfl <| r_mv rfl rfl <| r_gfa (.ptr 0 (0 + 109) [14]) fl50_14 rfl rfl rfl rfl rfl (fun _ => .same _) rfl rfl rfl <| r_gld (e_a3_a2_api_Entry p0.Relay) rfl rfl rfl rfl rfl (fun hc => .opt _ _ hc) rfl (fun hc => ⟨rfl, nl rfl, trivial⟩) rfl rfl ty41 rfl <| r_g [(35, _)] [(35, _)] [] rfl rfl m20 rfl (fun hc => ⟨(.opt _ _ hc), trivial⟩) (fun hc => does_call 27 0 (fun _ => .any) (.func 27) [(.tmp 35)] [(e_a3_a2_api_Entry p0.Relay)] [] true [(e_a3_a2_api_Entry p0.Relay)] (.int .i64 v6) _ _ rfl fo27 rfl ⟨trivial, trivial⟩ ⟨.data _ (d_a3_a2_api_Entry p0.Relay), trivial⟩ (congressref04_Check_spec p0.Relay _ (h7 hc)) trivial) rfl <| r_g [(36, _)] [(36, _)] [] rfl rfl m20 rfl (fun hc => ⟨(.opt _ _ hc), trivial⟩) (fun hc => does_bin .neq 73 73 (.tmp 36) (.const (.int .i64 0)) .i64 v6 0 (.bool (v6 != 0)) trivial (fun _ => rfl) (bin_neq _ _ _ _)) rfl <| r_p (does_or 33 37 ((v2 != 0) || (v4 != 0)) (v6 != 0)) m20 rfl <| r_e) ?_
    refine aw_cov (cov_prune (s1 := ⟨[(38, _)], [], 1, []⟩) a1 trivial (Nat.le_refl _)) ?_
    refine aw_cond rfl (fun hc => ?_) (fun hc => ?_)
    · replace H := ite_t hc H
      refine aw_region (r_0 (does_assign (.const (.int .i64 52)) (.int .i64 52) (fun _ => rfl)) rfl rfl <| r_e) ?_
      refine aw_cov (cov_prune (s1 := ⟨[(2, _)], [], 1, []⟩) a1 trivial (Nat.le_refl _)) ?_
      refine aw_ret ?_
      refine rt_then ?_
      exact fun a w hr => ⟨_, [(.int .i64 52)], hr, ⟨⟨_, rfl, .data (.int .i64 52) trivial⟩, trivial⟩, by decide, by cases H; rfl⟩
    · replace H := ite_f hc H
      refine aw_skip ?_
      refine nx_seq ?_
      refine aw_region (r_0 (does_assign (.const (.int .i64 0)) (.int .i64 0) (fun _ => rfl)) rfl rfl <| r_e) ?_
      refine aw_cov (cov_prune (s1 := ⟨[(2, _)], [], 1, []⟩) a1 trivial (Nat.le_refl _)) ?_
      refine aw_ret ?_
      exact fun a w hr => ⟨_, [(.int .i64 0)], hr, ⟨⟨_, rfl, .data (.int .i64 0) trivial⟩, trivial⟩, by decide, by cases H; rfl⟩
end Go.Proofs.Ytcocahffigbmbaa
end

section
set_option linter.unusedVariables false
set_option maxRecDepth 100000
namespace Go.Proofs.Ytcocahffigbmbaa
open Go.Eng
set_option maxHeartbeats 1600000
theorem congresslaw13_CorePackets_spec (p0 : Int) (p1 : (_root_.List congresslaw13_Event)) (r : Bool) (H : congresslaw13_CorePackets p0 p1 = some r) : FSpec Try.prog 8 [(.int .i64 p0), (e_s_congresslaw13_Event p1)] (.bool r) := by
  refine spec_of (fn := Try.f8) (args := [(.int .i64 p0), (e_s_congresslaw13_Event p1)]) Try.func8 rfl (nl rfl) ?_
  rintro ⟨G, w0, W, S, Sp, gx⟩ hG
  cases hG
  unfold congresslaw13_CorePackets at H
  refine aw_region (r_0 (does_assign (.const (.bool false)) (.bool false) (fun _ => rfl)) rfl rfl <| r_e) ?_
  refine aw_cov (cov_prune (s1 := ⟨[(0, _), (1, _)], [], 0, []⟩) a2 trivial (Nat.le_refl _)) ?_
  obtain ⟨v1, h2, H⟩ := bnd H
  refine aw_region (r_mv rfl rfl <| r_p (does_call 20 0 (fun _ => .any) (.func 20) [(.tmp 12), (.const (.int .u32 1)), (.const (.int .i64 3))] [(.int .i64 p0), (.int .u32 1), (.int .i64 3)] [] false [(.int .i64 p0), (.int .u32 1), (.int .i64 3)] (resV [(e_api_Core v1.1), (.bool v1.2)]) _ _ rfl fo20 rfl ⟨trivial, (fun _ => rfl), (fun _ => rfl), trivial⟩ ⟨.data _ trivial, .data _ trivial, .data _ trivial, trivial⟩ (core_Start_spec p0 1 3 _ h2) (res_data2 (d_api_Core v1.1) trivial)) m10 rfl <| r_mv rfl rfl <| r_ex (e_api_Core v1.1) rfl (nl rfl) rfl rfl <| r_ex (.bool v1.2) rfl (nl rfl) rfl rfl <| r_0 (does_alloc 35 0 (e_api_Core z_api_Core) zr35) rfl rfl <| r_sv rfl rfl rfl rfl rfl rfl ty35 rfl <| r_as rfl rfl <| r_e) ?_
  refine aw_cov (cov_prune (s1 := ⟨[(0, _), (1, _), (5, _), (6, _)], [(0, some _)], 1, []⟩) a4 a1 (Nat.le_refl _)) ?_
  refine aw_seq ?_
  obtain ⟨v3, h4, H⟩ := bnd H
  refine aw_region (r_ca [] [] (nob := []) (flat := true) (congresslaw13_fixed_spec _ h4) rfl rfl ⟨trivial, trivial, rfl⟩ fo9 trivial trivial trivial rfl <| r_p (does_not 4 (.tmp 16) v3 trivial) m10 rfl <| r_mv rfl rfl <| r_gmv rfl rfl rfl rfl rfl rfl <| r_g [(19, _)] [(19, _)] [] rfl rfl m20 rfl (fun hc => ⟨(.opt _ _ hc), trivial⟩) (fun hc => does_not 4 (.tmp 19) v1.2 trivial) rfl <| r_p (does_or 18 20 (!v3) (!v1.2)) m20 rfl <| r_e) ?_
  refine aw_cov (cov_prune (s1 := ⟨[(0, _), (1, _), (5, _), (21, _)], [(0, some _)], 1, []⟩) a4 a1 (Nat.le_refl _)) ?_
  refine aw_cond rfl (fun hc => ?_) (fun hc => ?_)
  · replace H := ite_t hc H
    obtain ⟨v5, h6, H⟩ := bnd H
    refine aw_region (r_ca [] [] (nob := []) (flat := true) (congresslaw13_fixed_spec _ h6) rfl rfl ⟨trivial, trivial, rfl⟩ fo9 trivial trivial trivial rfl <| r_as rfl rfl <| r_e) ?_
    refine aw_cov (cov_prune (s1 := ⟨[(4, _)], [], 1, []⟩) a1 trivial (Nat.le_refl _)) ?_
    refine aw_ret ?_
    refine rt_then ?_
    exact fun a w hr => ⟨_, [(.bool v5)], hr, ⟨⟨_, rfl, .data (.bool v5) trivial⟩, trivial⟩, by decide, by cases H; rfl⟩
  · replace H := ite_f hc H
    refine aw_skip ?_
    refine nx_seq ?_
    refine aw_seq ?_
    refine aw_region (r_0 (does_assign (.const (.int .i64 0)) (.int .i64 0) (fun _ => rfl)) rfl rfl <| r_e) ?_
    refine aw_cov (cov_prune (s1 := ⟨[(0, _), (1, _), (5, _), (7, _)], [(0, some _)], 1, []⟩) a4 a1 (Nat.le_refl _)) ?_
    obtain ⟨wn8, hwn8, Hrn8⟩ := bnd H
    refine aw_meet (fun y30 : Unit => (⟨[], [], 1, []⟩ : St)) (fun y30 => Fl.nx y30 = wn8) (fun y30 hy => ?_) (aw_block (aw_runs (fun x7 : Int × (_root_.List congresslaw13_Event) × Int × api_Core => (⟨[(0, (.int .i64 x7.1)), (1, (e_s_congresslaw13_Event x7.2.1)), (5, (.ptr 0 0 [])), (7, (.int .i64 x7.2.2.1))], [(0, some (.var (e_api_Core x7.2.2.2)))], 1, []⟩ : St)) hwn8 (cov_prune a4 a1 (nl rfl)) (fun x7 st H hsn8 => ?_)))
    · have H := nx_of hy Hrn8
      refine nx_seq ?_
      refine aw_region (r_0 (does_assign (.const (.bool true)) (.bool true) (fun _ => rfl)) rfl rfl <| r_e) ?_
      refine aw_cov (cov_prune (s1 := ⟨[(4, _)], [], 1, []⟩) a1 trivial (Nat.le_refl _)) ?_
      refine aw_ret ?_
      exact fun a w hr => ⟨_, [(.bool true)], hr, ⟨⟨_, rfl, .data (.bool true) trivial⟩, trivial⟩, by decide, by cases H; rfl⟩
    · refine aw_seq ?_
      refine aw_region (r_mv rfl rfl <| r_mv rfl rfl <| r_p (does_lens 57 182 x7.2.1.length 24 (fun j => (e_congresslaw13_Event (x7.2.1.getD j z_congresslaw13_Event))) el57) m10 rfl <| r_p (does_bin .lss 3 3 (.tmp 23) (.tmp 25) .i64 x7.2.2.1 (x7.2.1.length : Int) (.bool (decide (x7.2.2.1 < (x7.2.1.length : Int)))) trivial trivial (bin_lss _ _ _ _)) m20 rfl <| r_mv rfl rfl <| r_gmv rfl rfl rfl rfl rfl rfl <| r_g [(28, _)] [(28, _)] [] rfl rfl m20 rfl (fun hc => ⟨(.opt _ _ hc), trivial⟩) (fun hc => does_bin .lss 3 3 (.tmp 28) (.const (.int .i64 60)) .i64 x7.2.2.1 60 (.bool (decide (x7.2.2.1 < 60))) trivial (fun _ => rfl) (bin_lss _ _ _ _)) rfl <| r_p (does_and 27 29 (decide (x7.2.2.1 < (x7.2.1.length : Int))) (decide (x7.2.2.1 < 60))) m20 rfl <| r_e) ?_
      obtain ⟨v9, hv9, H⟩ := lt_of H
      refine aw_cov (cov_prune (s1 := ⟨[(0, _), (1, _), (5, _), (7, _), (30, (.bool v9))], [(0, some _)], 1, []⟩) ⟨rfl, rfl, rfl, rfl, (by subst hv9; rfl), trivial⟩ a1 (Nat.le_refl _)) ?_
      refine aw_cond rfl (fun hc => ?_) (fun hc => ?_)
      · replace H := ite_t hc H
        refine aw_skip ?_
        refine nx_seq ?_
        refine aw_seq ?_
        refine aw_jn (fun x29 : Int × (_root_.List congresslaw13_Event) × Int × api_Core => (⟨[(0, (.int .i64 x29.1)), (1, (e_s_congresslaw13_Event x29.2.1)), (5, (.ptr 0 0 [])), (7, (.int .i64 x29.2.2.1))], [(0, some (.var (e_api_Core x29.2.2.2)))], 6, []⟩ : St)) H (fun x29 H => ?_) (fun j10 H => ?_)
        · refine nx_seq ?_
          refine aw_region1 (r_mv rfl rfl <| r_p (does_bin .add 3 3 (.tmp 31) (.const (.int .i64 1)) .i64 x29.2.2.1 1 (.int .i64 (IntKind.i64.wrap (x29.2.2.1 + 1))) trivial (fun _ => rfl) (bin_add _ _ _ _)) m10 rfl <| r_as rfl rfl <| r_e) ?_
          exact nx_loop (x29.1, x29.2.1, (IntKind.i64.wrap (x29.2.2.1 + 1)), x29.2.2.2) H (cov_of (fun i => match i with | 0 => 0 | k => k) ⟨⟨_, rfl, a1⟩, ⟨_, rfl, ⟨rfl, (d_s_congresslaw13_Event _).plain⟩⟩, ⟨_, rfl, ⟨rfl, nl rfl⟩⟩, ⟨_, rfl, a1⟩, trivial⟩ ⟨⟨nl rfl, _, _, rfl, rfl, .inl ⟨rfl, (d_api_Core _).plain⟩⟩, trivial⟩ rfl)
        · refine aw_block ?_
          refine aw_seq ?_
          obtain ⟨h11, H⟩ := ib_of H
          obtain ⟨v12, h13, H⟩ := bnd H
          obtain ⟨h14, H⟩ := ibg_of H
          obtain ⟨v15, h16, H⟩ := whn_of H
          refine aw_region (r_mv rfl rfl <| r_mv rfl rfl <| r_p (does_indexAddrs 57 182 x7.2.1.length 33 (fun j => (e_congresslaw13_Event (x7.2.1.getD j z_congresslaw13_Event))) (.tmp 34) .i64 x7.2.2.1 el57 trivial h11.1 h11.2) m20 rfl <| r_p (does_fieldAddrc 61 2 37 35 (e_congresslaw13_Event (x7.2.1.getD x7.2.2.1.toNat z_congresslaw13_Event)) fl61_2 rfl (nl rfl) rfl) m10 rfl <| r_p (does_loadc 50 36 (e_api_Packet ((x7.2.1.getD x7.2.2.1.toNat z_congresslaw13_Event).P)) ty50) m10 rfl <| r_ca [_] [_] (nob := []) (flat := true) (congressref05_Check_spec _ _ h13) rfl rfl m10 fo26 ⟨trivial, trivial⟩ ⟨.data _ (d_api_Packet _), trivial⟩ trivial rfl <| r_p (does_bin .neq 73 73 (.tmp 38) (.const (.int .i64 0)) .i64 v12 0 (.bool (v12 != 0)) trivial (fun _ => rfl) (bin_neq _ _ _ _)) m10 rfl <| r_mv rfl rfl <| r_gmv rfl rfl rfl rfl rfl rfl <| r_gmv rfl rfl rfl rfl rfl rfl <| r_g [(41, _), (42, _)] [(41, _), (42, _)] [] rfl rfl m30 rfl (fun hc => ⟨(.opt _ _ hc), (.opt _ _ hc), trivial⟩) (fun hc => does_indexAddrs 57 182 x7.2.1.length 41 (fun j => (e_congresslaw13_Event (x7.2.1.getD j z_congresslaw13_Event))) (.tmp 42) .i64 x7.2.2.1 el57 trivial (h14 hc).1 (h14 hc).2) rfl <| r_g [(43, _)] [(43, _)] [] rfl rfl m20 rfl (fun hc => ⟨(.opt _ _ hc), trivial⟩) (fun hc => does_fieldAddrc 61 1 1 43 (e_congresslaw13_Event (x7.2.1.getD x7.2.2.1.toNat z_congresslaw13_Event)) fl61_1 rfl (nl rfl) rfl) rfl <| r_g [(44, _)] [(44, _)] [] rfl rfl m20 rfl (fun hc => ⟨(.opt _ _ hc), trivial⟩) (fun hc => does_loadc 41 44 (e_a3_a2_api_Entry ((x7.2.1.getD x7.2.2.1.toNat z_congresslaw13_Event).F)) ty41) rfl <| r_g [(45, _)] [(45, _)] [] rfl rfl m20 rfl (fun hc => ⟨(.opt _ _ hc), trivial⟩) (fun hc => does_call 27 0 (fun _ => .any) (.func 27) [(.tmp 45)] [(e_a3_a2_api_Entry ((x7.2.1.getD x7.2.2.1.toNat z_congresslaw13_Event).F))] [] true [(e_a3_a2_api_Entry ((x7.2.1.getD x7.2.2.1.toNat z_congresslaw13_Event).F))] (.int .i64 v15) _ _ rfl fo27 rfl ⟨trivial, trivial⟩ ⟨.data _ (d_a3_a2_api_Entry ((x7.2.1.getD x7.2.2.1.toNat z_congresslaw13_Event).F)), trivial⟩ (congressref04_Check_spec ((x7.2.1.getD x7.2.2.1.toNat z_congresslaw13_Event).F) _ (h16 hc)) trivial) rfl <| r_g [(46, _)] [(46, _)] [] rfl rfl m20 rfl (fun hc => ⟨(.opt _ _ hc), trivial⟩) (fun hc => does_bin .neq 73 73 (.tmp 46) (.const (.int .i64 0)) .i64 v15 0 (.bool (v15 != 0)) trivial (fun _ => rfl) (bin_neq _ _ _ _)) rfl <| r_p (does_or 40 47 (v12 != 0) (v15 != 0)) m20 rfl <| r_e) ?_
          refine aw_cov (cov_prune (s1 := ⟨[(0, _), (1, _), (5, _), (7, _), (48, _)], [(0, some _)], 1, []⟩) a5 a1 (Nat.le_refl _)) ?_
          refine aw_cond rfl (fun hc => ?_) (fun hc => ?_)
          · replace H := ite_t hc H
            refine aw_exit ?_
            refine ex_then ?_
            refine ex_here ?_
            exact nx_join (x7.1, x7.2.1, x7.2.2.1, x7.2.2.2) H (cov_prune a4 a1 (nl rfl))
          · replace H := ite_f hc H
            refine aw_skip ?_
            refine nx_seq ?_
            obtain ⟨h17, H⟩ := ib_of H
            obtain ⟨v18, h19, H⟩ := bnd H
            refine aw_draw (mixed) (r_lv rfl rfl ty35 rfl <| r_mv rfl rfl <| r_mv rfl rfl <| r_p (does_indexAddrs 57 182 x7.2.1.length 51 (fun j => (e_congresslaw13_Event (x7.2.1.getD j z_congresslaw13_Event))) (.tmp 52) .i64 x7.2.2.1 el57 trivial h17.1 h17.2) m20 rfl <| r_p (does_loadc 61 53 (e_congresslaw13_Event (x7.2.1.getD x7.2.2.1.toNat z_congresslaw13_Event)) ty61) m10 rfl <| r_p (does_callO 22 0 (fun _ => .any) (.func 22) [(.tmp 50), (.tmp 54)] [(e_api_Core x7.2.2.2), (e_congresslaw13_Event (x7.2.1.getD x7.2.2.1.toNat z_congresslaw13_Event))] [] [] true [(e_api_Core x7.2.2.2), (e_congresslaw13_Event (x7.2.1.getD x7.2.2.1.toNat z_congresslaw13_Event))] _ (resV [(.agg (.st [1, 1, 1, 17, 3, 8, 8, 1, 3, 8, 8, 1, 128, 1]) (vupd (c_api_Core v18.1) 7 (.own 1))), (.own 2)]) _ 1 3 _ _ rfl fo22 rfl ⟨trivial, trivial, trivial⟩ ⟨.ro _ _ (.data _ (d_api_Core x7.2.2.2)), .ro _ _ (.data _ (d_congresslaw13_Event (x7.2.1.getD x7.2.2.1.toNat z_congresslaw13_Event))), trivial⟩ (congresslaw13_step_spec x7.2.2.2 (x7.2.1.getD x7.2.2.1.toNat z_congresslaw13_Event) _ h19) rfl (by simp) rfl trivial ⟨⟨nl rfl, _, rfl, fun _ => (f_api_Kept _)⟩, ⟨nl rfl, _, rfl, fun _ => (f_api_Happen _)⟩, trivial⟩ (.tup _ _ _ (fun j => match j with | 0 => .agg _ _ _ (fun j => match j with | 0 => .data _ (trivial) | 1 => .data _ (trivial) | 2 => .data _ (trivial) | 3 => .data _ ((f_api_Beat _)) | 4 => .data _ ((f_api_Id _)) | 5 => .data _ ((f_a8_u32 _)) | 6 => .data _ ((f_a8_u32 _)) | 7 => .own 0 (nl rfl) | 8 => .data _ ((f_api_Id _)) | 9 => .data _ ((f_a8_u32 _)) | 10 => .data _ ((f_a8_u32 _)) | 11 => .data _ (trivial) | 12 => .data _ ((f_a8_api_Peer _)) | 13 => .data _ (trivial) | _ + 14 => .data _ trivial) | 1 => .own 1 (nl rfl) | _ + 2 => .data _ trivial))) m20 rfl <| r_mv rfl rfl <| r_ex (.agg (.st [1, 1, 1, 17, 3, 8, 8, 1, 3, 8, 8, 1, 128, 1]) (vupd (c_api_Core v18.1) 7 (.own 1))) rfl (nl rfl) rfl rfl <| r_ex (.own 2) rfl (nl rfl) rfl rfl <| r_0 (does_alloc 35 4 (e_api_Core z_api_Core) zr35) rfl rfl <| r_sv rfl rfl rfl rfl rfl rfl ty35 rfl <| r_as rfl rfl <| r_e) rfl ?_
            refine aw_cov (cov_prune (s1 := ⟨[(0, _), (1, _), (5, _), (7, _), (8, _)], [(0, some _), (1, some _), (4, some _)], 5, []⟩) a5 a3 (Nat.le_refl _)) ?_
            obtain ⟨v20, h21, H⟩ := bnd H
            refine aw_region (r_lv rfl rfl ty35 rfl <| r_ca [_] [_] (nob := [(1, (.arr 38 v18.1.Kept.length fun j => (e_api_Kept (v18.1.Kept.getD j z_api_Kept))))]) (flat := true) (core_Packet_spec _ _ h21) rfl rfl m11 fo15 ⟨trivial, trivial⟩ ⟨.agg _ _ _ (fun j => match j with | 0 => .data (.int .i64 (({ v18.1 with Kept := v18.1.Kept } : api_Core).Self)) trivial | 1 => .data (.int .i64 (({ v18.1 with Kept := v18.1.Kept } : api_Core).Wait)) trivial | 2 => .data (.int .u32 (({ v18.1 with Kept := v18.1.Kept } : api_Core).Own)) trivial | 3 => .data (e_api_Beat (({ v18.1 with Kept := v18.1.Kept } : api_Core).Beat)) (d_api_Beat _) | 4 => .data (e_api_Id (({ v18.1 with Kept := v18.1.Kept } : api_Core).Conf)) (d_api_Id _) | 5 => .data (e_a8_u32 (({ v18.1 with Kept := v18.1.Kept } : api_Core).Members)) (d_a8_u32 _) | 6 => .data (e_a8_u32 (({ v18.1 with Kept := v18.1.Kept } : api_Core).Count)) (d_a8_u32 _) | 7 => .own 1 _ _ _ (.head _) rfl (fun _ => (d_api_Kept _)) | 8 => .data (e_api_Id (({ v18.1 with Kept := v18.1.Kept } : api_Core).Promise)) (d_api_Id _) | 9 => .data (e_a8_u32 (({ v18.1 with Kept := v18.1.Kept } : api_Core).Wanted)) (d_a8_u32 _) | 10 => .data (e_a8_u32 (({ v18.1 with Kept := v18.1.Kept } : api_Core).Cut)) (d_a8_u32 _) | 11 => .data (.bool (({ v18.1 with Kept := v18.1.Kept } : api_Core).Ready)) trivial | 12 => .data (e_a8_api_Peer (({ v18.1 with Kept := v18.1.Kept } : api_Core).Peers)) (d_a8_api_Peer _) | 13 => .data (.int .u32 (({ v18.1 with Kept := v18.1.Kept } : api_Core).Epoch)) trivial | _ + 14 => .data (.bool false) trivial), trivial⟩ (f_api_Packet v20) rfl <| r_0 (does_alloc 50 5 (e_api_Packet z_api_Packet) zr50) rfl rfl <| r_sv rfl rfl rfl rfl rfl rfl ty50 rfl <| r_e) ?_
            refine aw_cov (cov_prune (s1 := ⟨[(0, _), (1, _), (5, _), (7, _), (8, _), (10, _)], [(0, some _), (1, some _), (4, some _), (5, some _)], 6, []⟩) a6 a4 (Nat.le_refl _)) ?_
            refine aw_seq ?_
            obtain ⟨v22, h23, H⟩ := bnd H
            obtain ⟨v24, h25, H⟩ := whn_of H
            obtain ⟨h26, H⟩ := ibg_of H
            obtain ⟨h27, H⟩ := ibg_of H
            refine aw_region (r_lv rfl rfl ty50 rfl <| r_ca [_] [_] (nob := []) (flat := true) (congressref05_Check_spec v20 _ h23) rfl rfl m10 fo26 ⟨trivial, trivial⟩ ⟨.data _ (d_api_Packet _), trivial⟩ trivial rfl <| r_p (does_bin .neq 73 73 (.tmp 61) (.const (.int .i64 0)) .i64 v22 0 (.bool (v22 != 0)) trivial (fun _ => rfl) (bin_neq _ _ _ _)) m10 rfl <| r_mv rfl rfl <| r_gfa (.ptr 5 (0 + 0) [0]) fl50_0 rfl rfl rfl rfl rfl (fun _ => .same _) rfl rfl rfl <| r_gld (.int .u32 v20.From) rfl rfl rfl rfl rfl (fun hc => .opt _ _ hc) rfl (fun hc => ⟨rfl, nl rfl, trivial⟩) rfl rfl ty22 rfl <| r_gmv rfl rfl rfl rfl rfl rfl <| r_g [(66, _)] [(66, _)] [] rfl rfl m20 rfl (fun hc => ⟨(.opt _ _ hc), trivial⟩) (fun hc => does_convInt 3 22 (.tmp 66) .i64 .u32 x7.1 trivial rfl rfl) rfl <| r_g [(65, _), (67, _)] [(65, _), (67, _)] [] rfl rfl m30 rfl (fun hc => ⟨(.opt _ _ hc), (.opt _ _ hc), trivial⟩) (fun hc => does_bin .neq 22 22 (.tmp 65) (.tmp 67) .u32 v20.From (IntKind.u32.wrap (x7.1)) (.bool (v20.From != (IntKind.u32.wrap (x7.1)))) trivial trivial (bin_neq _ _ _ _)) rfl <| r_p (does_or 63 68 (v22 != 0) (v20.From != (IntKind.u32.wrap (x7.1)))) m20 rfl <| r_mv rfl rfl <| r_gfa (.ptr 5 (0 + 1) [1]) fl50_1 rfl rfl rfl rfl rfl (fun _ => .same _) rfl rfl rfl <| r_gld (.int .u32 v20.Inc) rfl rfl rfl rfl rfl (fun hc => .opt _ _ hc) rfl (fun hc => ⟨rfl, nl rfl, trivial⟩) rfl rfl ty22 rfl <| r_g [(72, _)] [(72, _)] [] rfl rfl m20 rfl (fun hc => ⟨(.opt _ _ hc), trivial⟩) (fun hc => does_bin .neq 22 22 (.tmp 72) (.const (.int .u32 1)) .u32 v20.Inc 1 (.bool (v20.Inc != 1)) trivial (fun _ => rfl) (bin_neq _ _ _ _)) rfl <| r_p (does_or 70 73 ((v22 != 0) || (v20.From != (IntKind.u32.wrap (x7.1)))) (v20.Inc != 1)) m20 rfl <| r_mv rfl rfl <| r_gfa (.ptr 5 (0 + 21) [5]) fl50_5 rfl rfl rfl rfl rfl (fun _ => .same _) rfl rfl rfl <| r_gld (e_api_Id v20.Promise) rfl rfl rfl rfl rfl (fun hc => .opt _ _ hc) rfl (fun hc => ⟨rfl, nl rfl, trivial⟩) rfl rfl ty27 rfl <| r_gfa (.ptr 5 (0 + 2) [2]) fl50_2 rfl rfl rfl rfl rfl (fun _ => .same _) rfl rfl rfl <| r_gld (e_api_Id v20.Conf) rfl rfl rfl rfl rfl (fun hc => .opt _ _ hc) rfl (fun hc => ⟨rfl, nl rfl, trivial⟩) rfl rfl ty27 rfl <| r_g [(77, _), (79, _)] [(77, _), (79, _)] [] rfl rfl m30 rfl (fun hc => ⟨(.opt _ _ hc), (.opt _ _ hc), trivial⟩) (fun hc => does_call 23 0 (fun _ => .any) (.func 23) [(.tmp 77), (.tmp 79)] [(e_api_Id v20.Promise), (e_api_Id v20.Conf)] [] true [(e_api_Id v20.Promise), (e_api_Id v20.Conf)] (.int .i64 v24) _ _ rfl fo23 rfl ⟨trivial, trivial, trivial⟩ ⟨.data _ (d_api_Id v20.Promise), .data _ (d_api_Id v20.Conf), trivial⟩ (congressref07_Compare_spec v20.Promise v20.Conf _ (h25 hc)) trivial) rfl <| r_g [(80, _)] [(80, _)] [] rfl rfl m20 rfl (fun hc => ⟨(.opt _ _ hc), trivial⟩) (fun hc => does_bin .lss 3 3 (.tmp 80) (.const (.int .i64 0)) .i64 v24 0 (.bool (decide (v24 < 0))) trivial (fun _ => rfl) (bin_lss _ _ _ _)) rfl <| r_p (does_or 75 81 (((v22 != 0) || (v20.From != (IntKind.u32.wrap (x7.1)))) || (v20.Inc != 1)) (decide (v24 < 0))) m20 rfl <| r_mv rfl rfl <| r_gmv rfl rfl rfl rfl rfl rfl <| r_gfa (.ptr 5 (0 + 5) [3]) fl50_3 rfl rfl rfl rfl rfl (fun _ => .same _) rfl rfl rfl <| r_g [(85, _), (84, _)] [(85, _), (84, _)] [(5, _)] rfl rfl m31 rfl (fun hc => ⟨(.opt _ _ hc), (.opt _ _ hc), trivial⟩) (fun hc => does_indexAddr 28 8 1 85 5 (0 + 5) [3] (.var (e_api_Packet v20)) (.tmp 84) .i64 x7.1 el28 trivial (h26 hc).1 (h26 hc).2) rfl <| r_gld (.int .u32 (v20.Members x7.1.toNat)) rfl rfl rfl rfl rfl (fun hc => .opt _ _ hc) rfl (fun hc => ⟨rfl, nl rfl, ⟨rfl, (ixl (h26 hc)), trivial⟩⟩) rfl rfl ty22 rfl <| r_g [(87, _)] [(87, _)] [] rfl rfl m20 rfl (fun hc => ⟨(.opt _ _ hc), trivial⟩) (fun hc => does_bin .neq 22 22 (.tmp 87) (.const (.int .u32 1)) .u32 (v20.Members x7.1.toNat) 1 (.bool ((v20.Members x7.1.toNat) != 1)) trivial (fun _ => rfl) (bin_neq _ _ _ _)) rfl <| r_p (does_or 83 88 ((((v22 != 0) || (v20.From != (IntKind.u32.wrap (x7.1)))) || (v20.Inc != 1)) || (decide (v24 < 0))) ((v20.Members x7.1.toNat) != 1)) m20 rfl <| r_mv rfl rfl <| r_gmv rfl rfl rfl rfl rfl rfl <| r_gfa (.ptr 5 (0 + 24) [6]) fl50_6 rfl rfl rfl rfl rfl (fun _ => .same _) rfl rfl rfl <| r_g [(92, _), (91, _)] [(92, _), (91, _)] [(5, _)] rfl rfl m31 rfl (fun hc => ⟨(.opt _ _ hc), (.opt _ _ hc), trivial⟩) (fun hc => does_indexAddr 28 8 1 92 5 (0 + 24) [6] (.var (e_api_Packet v20)) (.tmp 91) .i64 x7.1 el28 trivial (h27 hc).1 (h27 hc).2) rfl <| r_gld (.int .u32 (v20.Wanted x7.1.toNat)) rfl rfl rfl rfl rfl (fun hc => .opt _ _ hc) rfl (fun hc => ⟨rfl, nl rfl, ⟨rfl, (ixl (h27 hc)), trivial⟩⟩) rfl rfl ty22 rfl <| r_g [(94, _)] [(94, _)] [] rfl rfl m20 rfl (fun hc => ⟨(.opt _ _ hc), trivial⟩) (fun hc => does_bin .neq 22 22 (.tmp 94) (.const (.int .u32 1)) .u32 (v20.Wanted x7.1.toNat) 1 (.bool ((v20.Wanted x7.1.toNat) != 1)) trivial (fun _ => rfl) (bin_neq _ _ _ _)) rfl <| r_p (does_or 90 95 (((((v22 != 0) || (v20.From != (IntKind.u32.wrap (x7.1)))) || (v20.Inc != 1)) || (decide (v24 < 0))) || ((v20.Members x7.1.toNat) != 1)) ((v20.Wanted x7.1.toNat) != 1)) m20 rfl <| r_e) ?_
            obtain ⟨v28, hv28, H⟩ := lt_of H
            refine aw_cov (cov_prune (s1 := ⟨[(0, _), (1, _), (5, _), (7, _), (8, _), (96, (.bool v28))], [(0, some _), (1, some _), (4, some _)], 6, []⟩) ⟨rfl, rfl, rfl, rfl, rfl, (by subst hv28; rfl), trivial⟩ a3 (Nat.le_refl _)) ?_
            refine aw_cond rfl (fun hc => ?_) (fun hc => ?_)
            · replace H := ite_t hc H
              refine aw_region (r_0 (does_assign (.const (.bool false)) (.bool false) (fun _ => rfl)) rfl rfl <| r_e) ?_
              refine aw_cov (cov_prune (s1 := ⟨[(4, _)], [], 6, []⟩) a1 trivial (Nat.le_refl _)) ?_
              refine aw_ret ?_
              replace H := rt_of H hsn8 Hrn8
              refine rt_then ?_
              refine rt_blk ?_
              refine rt_then ?_
              refine rt_then ?_
              refine rt_then ?_
              refine rt_blk ?_
              refine rt_then ?_
              refine rt_then ?_
              exact fun a w hr => ⟨_, [(.bool false)], hr, ⟨⟨_, rfl, .data (.bool false) trivial⟩, trivial⟩, by decide, by cases H; rfl⟩
            · replace H := ite_f hc H
              refine aw_skip ?_
              refine nx_seq ?_
              refine aw_region1 (r_lv rfl rfl ty35 rfl <| r_sv rfl rfl rfl rfl rfl rfl ty35 rfl <| r_e) ?_
              refine nx_blk ?_
              exact nx_join (x7.1, x7.2.1, x7.2.2.1, ({ v18.1 with Kept := v18.1.Kept } : api_Core)) H (cov_to (fun i => match i with | 0 => 0 | k => k) [1] ⟨⟨_, rfl, .plain _ (trivial)⟩, ⟨_, rfl, .plain _ ((d_s_congresslaw13_Event _).plain)⟩, ⟨_, rfl, .ptr 0 _ _ _ _ (nl rfl) rfl rfl⟩, ⟨_, rfl, .plain _ (trivial)⟩, trivial⟩ ⟨⟨nl rfl, _, _, rfl, rfl, (boxTo_st (.agg _ _ _ (fun j => match j with | 0 => .plain _ (trivial) | 1 => .plain _ (trivial) | 2 => .plain _ (trivial) | 3 => .plain _ ((d_api_Beat _).plain) | 4 => .plain _ ((d_api_Id _).plain) | 5 => .plain _ ((d_a8_u32 _).plain) | 6 => .plain _ ((d_a8_u32 _).plain) | 7 => .frz 1 _ _ _ rfl (fun _ => (d_api_Kept _)) (by decide) | 8 => .plain _ ((d_api_Id _).plain) | 9 => .plain _ ((d_a8_u32 _).plain) | 10 => .plain _ ((d_a8_u32 _).plain) | 11 => .plain _ (trivial) | 12 => .plain _ ((d_a8_api_Peer _).plain) | 13 => .plain _ (trivial) | _ + 14 => .plain _ trivial)))⟩, trivial⟩ rfl rfl)
      · replace H := ite_f hc H
        refine aw_exit ?_
        refine ex_then ?_
        refine ex_then ?_
        refine ex_here ?_
        exact nx_ljoin () H hsn8 (cov_prune trivial trivial (nl rfl))
end Go.Proofs.Ytcocahffigbmbaa
end

section
namespace Go.Eng
def Holds (e : Env) (v : V) (cs : List Value) : Prop := cs.length = v.size ∧ AllOne cs.toArray ∧ R e v (piece v cs.toArray 0 v.size)
abbrev Env.outer (w : World) : Env := Env.bare w (fun _ => False) (fun _ => False)
structure InOk {α : Type} (P : Program) (T : TypeId) (E : α → V) (wf : α → Prop) (sz : Nat) : Prop where
  cells : P.cellsOf T = sz
  size : ∀ x, (E x).size = sz
  inn : ∀ {H : Type} (enc : TypeId × Value → H) (w : World) (spare : Nat → Bool) (held : Bool) (fuel : Nat) (cs : List Value) (y : DataW H × List MemPlace), DataW.trod enc P w 0 spare held fuel T cs = some y → (∀ n ∈ y.1.weights P T, n ≤ reachBytes) → ∃ x, wf x ∧ Holds (Env.outer w) (E x) cs
theorem InOk.int {P : Program} {T : TypeId} (k : IntKind) (ht : P.underlying T = some (.int k)) (hc : P.cellsOf T = 1) : InOk P T (fun n => V.int k n) (fun n => (Lit.int k n).wf = true) 1 := by
  refine ⟨hc, fun _ => rfl, fun enc w spare held fuel cs y h _ => ?_⟩
  obtain ⟨n, rfl, _, hw⟩ := DataW.trod_int ht h
  refine ⟨n, hw, rfl, ?_, rfl⟩
  intro c hc; simp at hc; subst hc; rfl
theorem InOk.bool {P : Program} {T : TypeId} (ht : P.underlying T = some .bool) (hc : P.cellsOf T = 1) : InOk P T (fun n => V.bool n) (fun _ => True) 1 := by
  refine ⟨hc, fun _ => rfl, fun enc w spare held fuel cs y h _ => ?_⟩
  obtain ⟨n, rfl, _⟩ := DataW.trod_bool ht h
  refine ⟨n, trivial, rfl, ?_, rfl⟩
  intro c hc; simp at hc; subst hc; rfl
theorem InOk.str {P : Program} {T : TypeId} (ht : P.underlying T = some .string) (hc : P.cellsOf T = 1) : InOk P T (fun n => V.str n) (fun s => s.size ≤ 140737488351232) 1 := by
  refine ⟨hc, fun _ => rfl, fun enc w spare held fuel cs y h hwt => ?_⟩
  obtain ⟨n, rfl, hy, hm⟩ := DataW.trod_string ht h
  have hz : n.size ≤ 140737488351232 := by
    have := hwt n.data.toList.length (by rw [hy]; simp [DataW.weights])
    have h2 : n.data.toList.length = n.size := by simp
    rw [h2] at this; exact this
  refine ⟨n, hz, rfl, ?_, rfl⟩
  intro c hc; simp at hc; subst hc; rfl
theorem Holds.part {e : Env} {v : V} {cs : List Value} {o s : Nat} (h : Holds e v ((cs.drop o).take s)) (hs : v.size = s) (hb : o + s ≤ cs.length) : R e v (piece v cs.toArray o s) := by
  obtain ⟨h1, _, h3⟩ := h
  rw [hs] at h3
  have : piece v ((cs.drop o).take s).toArray 0 s = piece v cs.toArray o s := by
    unfold piece
    split
    · congr 1
      apply Array.ext
      · simp
      · intro i hi1 hi2
        simp
    · rename_i ha
      have : s = 1 := by rw [← hs]; exact size_pos (by simpa using ha)
      subst this
      have hlt : o < cs.length := by omega
      simp only [Array.getD_eq_getD_getElem?, List.getElem?_toArray, List.getElem?_take, List.getElem?_drop, Nat.add_zero]
      simp
  rw [← this]; exact h3
theorem Holds.agg {e : Env} {L : Lay} {f : Nat → V} {cs : List Value} (hc : cs.length = L.tot) (h1 : AllOne cs.toArray) (h : ∀ j, j < L.cnt → (f j).size = L.sz j ∧ Holds e (f j) ((cs.drop (L.off j)).take (L.sz j))) : Holds e (.agg L f) cs := by
  refine ⟨hc, h1, cs.toArray, ?_, by simpa using hc, h1, fun j hj => ?_⟩
  · simp [piece, V.isAgg, V.size, ← hc]
  · exact ⟨(h j hj).1, (h j hj).2.part (h j hj).1 (by rw [hc]; exact L.fits hj)⟩
theorem choose_list {α : Type} (d : α) {p : Nat → α → Prop} : ∀ (n : Nat), (∀ i, i < n → ∃ x, p i x) → ∃ l : List α, l.length = n ∧ ∀ i, i < n → p i (l.getD i d)
  | 0, _ => ⟨[], rfl, fun i hi => absurd hi (by omega)⟩
  | n + 1, h => by
    obtain ⟨l, h1, h2⟩ := choose_list d n (fun i hi => h i (by omega))
    obtain ⟨x, hx⟩ := h n (by omega)
    refine ⟨l ++ [x], by simp [h1], fun i hi => ?_⟩
    by_cases hi2 : i < n
    · have := h2 i hi2
      simpa [List.getD_eq_getElem?_getD, List.getElem?_append_left (show i < l.length by omega)] using this
    · obtain rfl : i = n := by omega
      simpa [List.getD_eq_getElem?_getD, List.getElem?_append_right (show l.length ≤ i by omega), h1] using hx
theorem all_of_parts {cs : List Value} {n es : Nat} (hl : cs.length = n * es) (h : ∀ i, i < n → AllOne ((cs.drop (i * es)).take es).toArray) : AllOne cs.toArray := by
  intro c hc
  simp only [List.mem_toArray] at hc
  obtain ⟨k, hk, rfl⟩ := List.getElem_of_mem hc
  have hes : 0 < es := by
    rcases Nat.eq_zero_or_pos es with h0 | h0
    · subst h0; omega
    · exact h0
  have hq : k / es < n := Nat.div_lt_of_lt_mul (by rw [Nat.mul_comm]; omega)
  have hm := Nat.mod_lt k hes
  have he : k / es * es + k % es = k := by rw [Nat.mul_comm]; exact Nat.div_add_mod k es
  refine h (k / es) hq _ ?_
  simp only [List.mem_toArray]
  refine List.mem_iff_getElem?.2 ⟨k % es, ?_⟩
  rw [List.getElem?_take, if_pos hm, List.getElem?_drop, he]
  exact List.getElem?_eq_getElem hk
theorem weights_all {H : Type} {P : Program} {e : TypeId} : ∀ {ds : List (DataW H)} {d : DataW H}, d ∈ ds → ∀ n ∈ d.weights P e, n ∈ DataW.weightsAll P e ds
  | d0 :: ds, d, hd, n, hn => by
    simp only [DataW.weightsAll, List.mem_append]
    cases hd with
    | head => exact .inl hn
    | tail _ hd => exact .inr (weights_all hd n hn)
  | [], _, hd, _, _ => by cases hd
theorem InOk.arr {α : Type} {P : Program} {T e : TypeId} {n es : Nat} {E : α → V} {wf : α → Prop} (d : α) (ht : P.underlying T = some (.array n e)) (hc : P.cellsOf T = n * es) (hE : InOk P e E wf es) :
    InOk P T (fun f : Nat → α => .agg (.ar n es) fun j => E (f j)) (fun f => ∀ j, j < n → wf (f j)) (n * es) := by
  refine ⟨hc, fun _ => rfl, fun enc w spare held fuel cs y h hwt => ?_⟩
  obtain ⟨xs, m, _, hy, hl, hxs, hel⟩ := DataW.trod_array ht h
  subst hy
  rw [hc] at hl
  rw [hE.cells] at hel
  obtain ⟨l, h1, h2⟩ := choose_list d (p := fun i x => wf x ∧ Holds (Env.outer w) (E x) ((cs.drop (i * es)).take es)) n (fun i hi => by
    have := hel i hi
    rw [List.getElem?_eq_getElem (by omega)] at this
    refine hE.inn enc w spare held m _ _ this (fun n hn => hwt n ?_)
    simp only [DataW.weights, ht]
    exact weights_all (List.mem_map.2 ⟨_, List.getElem_mem _, rfl⟩) n hn)
  refine ⟨fun j => l.getD j d, fun j hj => (h2 j hj).1, Holds.agg hl (all_of_parts hl fun i hi => (h2 i hi).2.2.1) fun j hj => ⟨hE.size _, (h2 j hj).2⟩⟩
def StOk (P : Program) (T : TypeId) (l : List (Nat × Nat)) (sz : Nat) : Prop := (∃ fs, P.underlying T = some (.struct fs) ∧ fs.toList.map (fun f => (f.type, f.offset)) = l) ∧ P.cellsOf T = sz
def stB (P : Program) (T : TypeId) (l : List (Nat × Nat)) (sz : Nat) : Bool :=
  (match P.underlying T with
  | some (.struct fs) => fs.toList.map (fun f => (f.type, f.offset)) == l
  | _ => false) && P.cellsOf T == sz
theorem StOk.of {P : Program} {T : TypeId} {l : List (Nat × Nat)} {sz : Nat} (h : stB P T l sz = true) : StOk P T l sz := by
  unfold stB at h
  rw [Bool.and_eq_true] at h
  obtain ⟨h1, h2⟩ := h
  refine ⟨?_, by simpa using h2⟩
  split at h1
  · rename_i fs hf; exact ⟨fs, hf, by simpa using h1⟩
  · cases h1
theorem InOk.st {α : Type} {P : Program} {T : TypeId} {szs : List Nat} {c : α → Nat → V} {wf : α → Prop} {l : List (Nat × Nat)} (hS : StOk P T l szs.sum)
    (h : ∀ {H : Type} (enc : TypeId × Value → H) (w : World) (spare : Nat → Bool) (held : Bool) (m : Nat) (cs : List Value),
      (∀ (j t off : Nat), l[j]? = some (t, off) → ∃ y, DataW.trod enc P w 0 spare held m t ((cs.drop off).take (P.cellsOf t)) = some y ∧ ∀ n ∈ y.1.weights P t, n ≤ reachBytes) →
      ∃ x, wf x ∧ ∀ j, j < szs.length → (c x j).size = (Lay.st szs).sz j ∧ Holds (Env.outer w) (c x j) ((cs.drop ((Lay.st szs).off j)).take ((Lay.st szs).sz j))) :
    InOk P T (fun x => .agg (.st szs) (c x)) wf szs.sum := by
  obtain ⟨⟨fs, hu, hl⟩, hc⟩ := hS
  refine ⟨hc, fun _ => rfl, fun enc w spare held fuel cs y ht hwt => ?_⟩
  obtain ⟨xs, m, _, hy, hlen, hxs, hel⟩ := DataW.trod_struct hu ht
  subst hy
  rw [hc] at hlen
  obtain ⟨x, hw, hx⟩ := h enc w spare held m cs (fun j t off hj => by
    rw [← hl, List.getElem?_map] at hj
    cases hf : fs.toList[j]? with
    | none => rw [hf] at hj; cases hj
    | some f =>
      rw [hf] at hj
      simp only [Option.map_some, Option.some.injEq, Prod.mk.injEq] at hj
      obtain ⟨rfl, rfl⟩ := hj
      have hf' : fs[j]? = some f := by simpa using hf
      have hlt : j < xs.length := by rw [hxs]; exact (Array.getElem?_eq_some_iff.1 hf').1
      refine ⟨_, (hel j f hf').trans (List.getElem?_eq_getElem hlt), fun n hn => hwt n ?_⟩
      simp only [DataW.weights, hu]
      refine DataW.weights_mem_each (j := j) (t := f.type) (d := xs[j].1) ?_ ?_ n hn
      · simp [hf']
      · simp [hlt])
  refine ⟨x, hw, Holds.agg hlen ?_ hx⟩
  intro v hv
  simp only [List.mem_toArray] at hv
  obtain ⟨k, hk, rfl⟩ := List.getElem_of_mem hv
  -- the part in which a cell lies
  have key : ∀ (l : List Nat) (k : Nat), k < l.sum → ∃ j, j < l.length ∧ (l.take j).sum ≤ k ∧ k < (l.take j).sum + l.getD j 0 := by
    intro l
    induction l with
    | nil => intro k hk; simp at hk
    | cons a l ih =>
      intro k hk
      by_cases h : k < a
      · exact ⟨0, by simp, by simp, by simpa using h⟩
      · simp only [List.sum_cons] at hk
        obtain ⟨j, h1, h2, h3⟩ := ih (k - a) (by omega)
        refine ⟨j + 1, by simpa using h1, ?_, ?_⟩
        · simp only [List.take_succ_cons, List.sum_cons]; omega
        · simp only [List.take_succ_cons, List.sum_cons, List.getD_cons_succ]; omega
  obtain ⟨j, h1, h2, h3⟩ := key szs k (by omega)
  refine (hx j h1).2.2.1 _ ?_
  simp only [List.mem_toArray]
  refine List.mem_iff_getElem?.2 ⟨k - (szs.take j).sum, ?_⟩
  simp only [Lay.off, Lay.sz]
  rw [List.getElem?_take, if_pos (by omega), List.getElem?_drop, show (szs.take j).sum + (k - (szs.take j).sum) = k by omega]
  exact List.getElem?_eq_getElem hk
theorem InOk.fld {α : Type} {H : Type} {enc : TypeId × Value → H} {P : Program} {w : World} {spare : Nat → Bool} {held : Bool} {m : Nat} {cs : List Value} {l : List (Nat × Nat)}
    (h : ∀ (j t off : Nat), l[j]? = some (t, off) → ∃ y, DataW.trod enc P w 0 spare held m t ((cs.drop off).take (P.cellsOf t)) = some y ∧ ∀ n ∈ y.1.weights P t, n ≤ reachBytes) {E : α → V} {wf : α → Prop} {sz : Nat} (j : Nat) {t off : Nat} (hE : InOk P t E wf sz) (hl : l[j]? = some (t, off)) :
    ∃ x, wf x ∧ ((E x).size = sz ∧ Holds (Env.outer w) (E x) ((cs.drop off).take sz)) := by
  obtain ⟨y, hy, hwt⟩ := h j t off hl
  rw [hE.cells] at hy
  obtain ⟨x, h1, h2⟩ := hE.inn enc w spare held m _ _ hy hwt
  exact ⟨x, h1, hE.size x, h2⟩
theorem cells?_some {w : World} {a : Addr} {n : Nat} {cs : List Value} (h : w.cells? 0 a n = some cs) : cs.length = n ∧ ∀ i, i < n → w.cell? (a.add i) = cs[i]? := by
  simp only [World.cells?, Nat.zero_le, if_true] at h
  exact ⟨by simpa using mapM_some_length h, fun i hi => mapM_some_get h i i (by simp [hi])⟩
theorem cell?_some {w : World} {a : Addr} {v : Value} (h : w.cell? a = some v) : a.spot = none ∧ a.block < w.heap.size := by
  simp only [World.cell?] at h
  split at h
  · rename_i c _ _ hb
    refine ⟨?_, (Array.getElem?_eq_some_iff.1 hb).1⟩
    cases hs : a.spot with
    | none => rfl
    | some q => rw [hs] at h; simp at h
  · cases h
theorem InOk.sl {α : Type} {P : Program} {T e : TypeId} {es by_ : Nat} {E : α → V} {wf : α → Prop} (d : α) (ht : P.underlying T = some (.slice e)) (hc : P.cellsOf T = 1) (hby : P.bytesOf e = by_) (hE : InOk P e E wf es) (hes : 0 < es) :
    InOk P T (fun l : List α => .sl es l.length fun j => E (l.getD j d)) (fun l => (l.length ≤ maxLen ∧ l.length * by_ ≤ 140737488351232) ∧ ∀ j, j < l.length → wf (l.getD j d)) 1 := by
  refine ⟨hc, fun _ => rfl, fun enc w spare held fuel cs y h hwt => ?_⟩
  have one : ∀ v : Value, v.oneCell' = true → AllOne [v].toArray := by intro v hv c hc; simp at hc; subst hc; exact hv
  rcases DataW.trod_slice ht h with ⟨rfl, _⟩ | ⟨a, len, cap, elems, rest, m, _, rfl, hy, _, hl, hm, hlen, hel, _⟩
  · exact ⟨[], ⟨⟨Nat.zero_le _, by simp⟩, fun j hj => absurd hj (by simp)⟩, rfl, one _ rfl, none, 0, rfl, Nat.le_refl _, .inl rfl⟩
  · subst hy
    simp only [DataW.weights, ht] at hwt
    have hrow : (elems.length + rest.length) * by_ ≤ reachBytes := by have := hwt _ (List.mem_cons_self ..); simpa [hby] using this
    rw [hE.cells] at hel
    obtain ⟨l, h1, h2⟩ := choose_list d (p := fun i x => wf x ∧ ∃ cs, w.cells? 0 (a.add (i * es)) es = some cs ∧ Holds (Env.outer w) (E x) cs) len (fun i hi => by
      have := hel i hi
      rw [List.getElem?_eq_getElem (by omega)] at this
      cases hcs : w.cells? 0 (a.add (i * es)) es with
      | none => rw [hcs] at this; cases this
      | some cs =>
        rw [hcs] at this
        obtain ⟨x, q1, q2⟩ := hE.inn enc w spare held m _ _ this (fun n hn => hwt n (List.mem_cons_of_mem _ (List.mem_append_left _ (weights_all (List.mem_map.2 ⟨_, List.getElem_mem _, rfl⟩) n hn))))
        exact ⟨x, q1, cs, rfl, q2⟩)
    subst h1
    refine ⟨l, ⟨⟨by omega, Nat.le_trans (Nat.mul_le_mul_right _ (by omega)) (Nat.le_trans hrow (by decide))⟩, fun j hj => (h2 j hj).1⟩, rfl, one _ rfl, some a, cap, rfl, hl, ?_⟩
    by_cases h0 : l.length = 0
    · exact .inl h0
    right
    -- all the cells, in one row
    have cell : ∀ k, k < l.length * es → ∃ v, w.cell? ⟨a.block, a.off + k, none⟩ = some v := by
      intro k hk
      have hq : k / es < l.length := Nat.div_lt_of_lt_mul (by rw [Nat.mul_comm]; exact hk)
      have hmod := Nat.mod_lt k hes
      obtain ⟨_, cs, hcs, hh⟩ := h2 _ hq
      obtain ⟨q1, q2⟩ := cells?_some hcs
      have := q2 (k % es) hmod
      rw [List.getElem?_eq_getElem (by omega)] at this
      have he : k / es * es + k % es = k := by rw [Nat.mul_comm]; exact Nat.div_add_mod k es
      refine ⟨cs[k % es]'(by omega), ?_⟩
      rw [← this]
      have hsp : a.spot = none := by
        obtain ⟨_, cs0, hcs0, _⟩ := h2 0 (by omega)
        obtain ⟨p1, p2⟩ := cells?_some hcs0
        have := p2 0 hes
        rw [List.getElem?_eq_getElem (by omega)] at this
        have := (cell?_some this).1
        simpa [Addr.add] using this
      obtain ⟨b, o, sp⟩ := a
      simp only at hsp; subst hsp
      rw [Addr.add_lit, Addr.add_lit, Nat.add_assoc, he]
    have hsp : a.spot = none := by
      obtain ⟨_, cs0, hcs0, _⟩ := h2 0 (by omega)
      obtain ⟨p1, p2⟩ := cells?_some hcs0
      have := p2 0 hes
      rw [List.getElem?_eq_getElem (by omega)] at this
      have := (cell?_some this).1
      simpa [Addr.add] using this
    have hblk : a.block < w.heap.size := by
      obtain ⟨v, hv⟩ := cell 0 (Nat.mul_pos (by omega) hes)
      exact (cell?_some hv).2
    obtain ⟨cl, c1, c2⟩ := choose_list undef (p := fun k v => w.cell? ⟨a.block, a.off + k, none⟩ = some v) (l.length * es) cell
    have hpart : ∀ j, j < l.length → ∀ cs, w.cells? 0 (a.add (j * es)) es = some cs → (cl.drop (j * es)).take es = cs := by
      intro j hj cs hcs
      obtain ⟨q1, q2⟩ := cells?_some hcs
      have hb : (j + 1) * es ≤ l.length * es := Nat.mul_le_mul_right _ hj
      rw [Nat.succ_mul] at hb
      apply List.ext_getElem?
      intro i
      by_cases hi : i < es
      · rw [List.getElem?_take, if_pos hi, List.getElem?_drop, ← q2 i hi]
        have := c2 (j * es + i) (by omega)
        rw [List.getD_eq_getElem?_getD, List.getElem?_eq_getElem (by omega)] at this
        rw [List.getElem?_eq_getElem (by omega)]
        obtain ⟨b, o, sp⟩ := a
        simp only at hsp; subst hsp
        rw [Addr.add_lit, Addr.add_lit, Nat.add_assoc, this]; rfl
      · rw [List.getElem?_take, if_neg hi, List.getElem?_eq_none (by omega)]
    refine ⟨a, cl.toArray, rfl, fun h => h, fun h => h, ?_, by simpa using c1, ⟨hsp, hblk, fun i hi => ?_⟩, ?_, fun j hj => ?_⟩
    · rintro ⟨_, _, h, _⟩; cases h
    · have hi' : i < cl.length := by simpa using hi
      have q := c2 i (by omega)
      rw [List.getD_eq_getElem?_getD, List.getElem?_eq_getElem hi'] at q
      exact q.trans (by simp [hi'])
    · refine all_of_parts (n := l.length) (es := es) c1 fun i hi => ?_
      obtain ⟨_, cs, hcs, hh⟩ := h2 i hi
      rw [hpart i hi cs hcs]; exact hh.2.1
    · obtain ⟨_, cs, hcs, hh⟩ := h2 j hj
      refine ⟨hE.size _, ?_⟩
      rw [← hpart j hj cs hcs] at hh
      have hb : (j + 1) * es ≤ l.length * es := Nat.mul_le_mul_right _ hj
      rw [Nat.succ_mul] at hb
      exact hh.part (hE.size _) (by omega)
def VOk (ag : Bool) (v : Value) : Prop := match ag with
  | true => ∃ cs, v = .agg cs
  | false => v.cells = #[v]
theorem VOk.int {P : Program} {w : World} {r : Go.Reach} {b0 : Nat} {t : TypeId} {k : IntKind} {v : Value} (ht : P.underlying t = some (.int k)) (hval : Value.okWide P w r b0 t v) : VOk false v := by
  obtain ⟨n, rfl⟩ := WideShapes.okWide_int ht hval; rfl
theorem VOk.sl {P : Program} {w : World} {r : Go.Reach} {b0 : Nat} {t e : TypeId} {v : Value} (ht : P.underlying t = some (.slice e)) (hval : Value.okWide P w r b0 t v) : VOk false v := by
  obtain ⟨n, a, c, rfl⟩ := WideShapes.okWide_slice ht hval; rfl
theorem VOk.arr {P : Program} {w : World} {r : Go.Reach} {b0 : Nat} {t e : TypeId} {n : Nat} {v : Value} (ht : P.underlying t = some (.array n e)) (hval : Value.okWide P w r b0 t v) : VOk true v := by
  unfold Value.okWide at hval; rw [ht] at hval; obtain ⟨cs, rfl, _⟩ := hval; exact ⟨cs, rfl⟩
theorem VOk.st {P : Program} {w : World} {r : Go.Reach} {b0 : Nat} {t : TypeId} {l : List (Nat × Nat)} {sz : Nat} {v : Value} (ht : StOk P t l sz) (hval : Value.okWide P w r b0 t v) : VOk true v := by
  obtain ⟨⟨fs, hu, _⟩, _⟩ := ht
  unfold Value.okWide at hval; rw [hu] at hval; obtain ⟨cs, rfl, _⟩ := hval; exact ⟨cs, rfl⟩
theorem InOk.arg {α : Type} {H : Type} {enc : TypeId × Value → H} {P : Program} {T : TypeId} {E : α → V} {wf : α → Prop} {sz : Nat} (hE : InOk P T E wf sz) {ag : Bool} (ha : ∀ x, (E x).isAgg = ag) {w : World} {spare : Nat → Bool} {held : Bool} {v : Value} {d : DataW H} {ps : List MemPlace}
    (hv : VOk ag v) (h : DataW.Trod enc P w 0 spare held T v d ps) (hwt : ∀ n ∈ d.weights P T, n ≤ reachBytes) : ∃ x, wf x ∧ R (Env.outer w) (E x) v := by
  obtain ⟨fuel, h⟩ := h
  obtain ⟨x, hw, h1, _, h3⟩ := hE.inn enc w spare held fuel _ _ h hwt
  refine ⟨x, hw, ?_⟩
  have e1 : v.cells.toList.toArray = v.cells := by simp
  rw [e1] at h3
  cases ag with
  | true =>
    obtain ⟨cs, rfl⟩ := hv
    have : piece (E x) (Value.agg cs).cells 0 (E x).size = .agg cs := by
      have hs : cs.size = (E x).size := by simpa [Value.cells] using h1
      simp [piece, ha, Value.cells, ← hs]
    rw [this] at h3; exact h3
  | false =>
    have : piece (E x) v.cells 0 (E x).size = v := by
      simp only [VOk] at hv
      rw [hv]; simp [piece, ha]
    rw [this] at h3; exact h3
def AllR (e : Env) : List V → List Value → Prop
  | [], [] => True
  | v :: vs, x :: xs => R e v x ∧ AllR e vs xs
  | _, _ => False
theorem AllR.get {e : Env} : ∀ {vs : List V} {xs : List Value}, AllR e vs xs → xs.length = vs.length ∧ ∀ (i : Nat) (v : V), vs[i]? = some v → R e v (xs.getD i undef)
  | [], [], _ => ⟨rfl, fun i v h => by simp at h⟩
  | [], _ :: _, h => h.elim
  | _ :: _, [], h => h.elim
  | v :: vs, x :: xs, ⟨h1, h2⟩ => by
    obtain ⟨q1, q2⟩ := h2.get
    refine ⟨by simp [q1], fun i u hu => ?_⟩
    cases i with
    | zero => simp at hu; subst hu; simpa using h1
    | succ i => simp at hu; simpa using q2 i u hu
theorem ArgsAre.of {e : Env} {vs : List V} {xs : List Value} (h : AllR e vs xs) : ArgsAre e vs xs.toArray := by
  obtain ⟨h1, h2⟩ := h.get
  refine ⟨by simpa using h1, fun i v hv => ?_⟩
  have := h2 i v hv
  simpa [Array.getD_eq_getD_getElem?, List.getD_eq_getElem?_getD] using this
theorem FSpec.law {P : Program} {K : FuncId} {args : List V} (h : FSpec P K args (.bool true)) (w : World) (xs : Array Value) (ha : ArgsAre (Env.outer w) args xs) :
    Calls P K xs w fun e w' => e = .returned (.bool true) ∧ Go.RowKit.Below w.heap.size w w' := by
  refine (h w (fun _ => False) (fun _ => False) xs (fun b hb => by rcases hb with h | h <;> exact h.elim) ha).mono ?_
  rintro e w' ⟨x, rfl, hx, hf⟩
  have : x = .bool true := hx
  subst this
  exact ⟨rfl, hf.os, hf.tape, hf.output, hf.size, fun k hk => hf.block k hk (fun h => h)⟩
end Go.Eng
end

section
set_option linter.unusedVariables false
set_option maxRecDepth 100000
namespace Go.Proofs.Ytcocahffigbmbaa
open Go.Eng
def w_api_Beat (x : api_Beat) : Prop := ((Lit.int .u32 x.Now).wf = true) ∧ (∀ j, j < 8 → (Lit.int .u32 (x.Heard j)).wf = true) ∧ (∀ j, j < 8 → (Lit.int .u32 (x.Inc j)).wf = true)
def w_api_Id (x : api_Id) : Prop := ((Lit.int .u32 x.Epoch).wf = true) ∧ ((Lit.int .u32 x.Coord).wf = true) ∧ ((Lit.int .u32 x.Inc).wf = true)
def w_api_Entry (x : api_Entry) : Prop := ((Lit.int .i64 x.Kind).wf = true) ∧ ((Lit.int .i64 x.Service).wf = true) ∧ ((Lit.int .i64 x.Group).wf = true) ∧ ((Lit.int .u64 x.Session).wf = true) ∧ ((Lit.int .u64 x.Number).wf = true) ∧ (x.Text.size ≤ 140737488351232)
theorem in3 : InOk Try.prog 3 (fun z => V.int .i64 z) (fun x => (Lit.int .i64 x).wf = true) 1 := InOk.int _ (by kernel_rfl) (by kernel_rfl)
theorem in22 : InOk Try.prog 22 (fun z => V.int .u32 z) (fun x => (Lit.int .u32 x).wf = true) 1 := InOk.int _ (by kernel_rfl) (by kernel_rfl)
theorem sk27 : StOk Try.prog 27 [(22, 0), (22, 1), (22, 2)] 3 := StOk.of (by kernel_rfl)
theorem in27 : InOk Try.prog 27 e_api_Id w_api_Id 3 := InOk.st (szs := [1, 1, 1]) (c := c_api_Id) (l := [(22, 0), (22, 1), (22, 2)]) sk27 fun enc w spare held m cs h => by
  obtain ⟨x0, w0, r0⟩ := InOk.fld h 0 in22 rfl
  obtain ⟨x1, w1, r1⟩ := InOk.fld h 1 in22 rfl
  obtain ⟨x2, w2, r2⟩ := InOk.fld h 2 in22 rfl
  exact ⟨⟨x0, x1, x2⟩, ⟨w0, w1, w2⟩, fun j hj => match j, hj with | 0, _ => r0 | 1, _ => r1 | 2, _ => r2 | k + 3, hj => absurd (show k + 3 < 3 from hj) (by omega)⟩
theorem in28 : InOk Try.prog 28 e_a8_u32 (fun x => ∀ j, j < 8 → (Lit.int .u32 (x j)).wf = true) 8 := InOk.arr 0 (by kernel_rfl) (by kernel_rfl) in22
theorem in29 : InOk Try.prog 29 e_a8_u32 (fun x => ∀ j, j < 8 → (Lit.int .u32 (x j)).wf = true) 8 := InOk.arr 0 (by kernel_rfl) (by kernel_rfl) in22
theorem in36 : InOk Try.prog 36 (fun z => V.int .u64 z) (fun x => (Lit.int .u64 x).wf = true) 1 := InOk.int _ (by kernel_rfl) (by kernel_rfl)
theorem in9 : InOk Try.prog 9 (fun z => V.str z) (fun x => x.size ≤ 140737488351232) 1 := InOk.str (by kernel_rfl) (by kernel_rfl)
theorem sk38 : StOk Try.prog 38 [(3, 0), (3, 1), (3, 2), (36, 3), (36, 4), (9, 5)] 6 := StOk.of (by kernel_rfl)
theorem in38 : InOk Try.prog 38 e_api_Entry w_api_Entry 6 := InOk.st (szs := [1, 1, 1, 1, 1, 1]) (c := c_api_Entry) (l := [(3, 0), (3, 1), (3, 2), (36, 3), (36, 4), (9, 5)]) sk38 fun enc w spare held m cs h => by
  obtain ⟨x0, w0, r0⟩ := InOk.fld h 0 in3 rfl
  obtain ⟨x1, w1, r1⟩ := InOk.fld h 1 in3 rfl
  obtain ⟨x2, w2, r2⟩ := InOk.fld h 2 in3 rfl
  obtain ⟨x3, w3, r3⟩ := InOk.fld h 3 in36 rfl
  obtain ⟨x4, w4, r4⟩ := InOk.fld h 4 in36 rfl
  obtain ⟨x5, w5, r5⟩ := InOk.fld h 5 in9 rfl
  exact ⟨⟨x0, x1, x2, x3, x4, x5⟩, ⟨w0, w1, w2, w3, w4, w5⟩, fun j hj => match j, hj with | 0, _ => r0 | 1, _ => r1 | 2, _ => r2 | 3, _ => r3 | 4, _ => r4 | 5, _ => r5 | k + 6, hj => absurd (show k + 6 < 6 from hj) (by omega)⟩
theorem in39 : InOk Try.prog 39 e_a2_api_Entry (fun x => ∀ j, j < 2 → w_api_Entry (x j)) 12 := InOk.arr z_api_Entry (by kernel_rfl) (by kernel_rfl) in38
theorem in41 : InOk Try.prog 41 e_a3_a2_api_Entry (fun x => ∀ j, j < 3 → ∀ j1, j1 < 2 → w_api_Entry ((x j) j1)) 36 := InOk.arr (fun _ => z_api_Entry) (by kernel_rfl) (by kernel_rfl) in39
theorem in4 : InOk Try.prog 4 (fun z => V.bool z) (fun x => True) 1 := InOk.bool (by kernel_rfl) (by kernel_rfl)
def w_api_Packet (x : api_Packet) : Prop := ((Lit.int .u32 x.From).wf = true) ∧ ((Lit.int .u32 x.Inc).wf = true) ∧ (w_api_Id x.Conf) ∧ (∀ j, j < 8 → (Lit.int .u32 (x.Members j)).wf = true) ∧ (∀ j, j < 8 → (Lit.int .u32 (x.Count j)).wf = true) ∧ (w_api_Id x.Promise) ∧ (∀ j, j < 8 → (Lit.int .u32 (x.Wanted j)).wf = true) ∧ (True) ∧ ((Lit.int .u32 x.Epoch).wf = true) ∧ ((Lit.int .u32 x.Round).wf = true) ∧ (∀ j, j < 3 → ∀ j1, j1 < 2 → w_api_Entry ((x.Newest j) j1)) ∧ (∀ j, j < 3 → ∀ j1, j1 < 2 → w_api_Entry ((x.Older j) j1)) ∧ ((Lit.int .u32 x.RelayOf).wf = true) ∧ ((Lit.int .u32 x.RelayRound).wf = true) ∧ (∀ j, j < 3 → ∀ j1, j1 < 2 → w_api_Entry ((x.Relay j) j1))
theorem sk50 : StOk Try.prog 50 [(22, 0), (22, 1), (27, 2), (28, 5), (29, 13), (27, 21), (28, 24), (4, 32), (22, 33), (22, 34), (41, 35), (41, 71), (22, 107), (22, 108), (41, 109)] 145 := StOk.of (by kernel_rfl)
theorem in50 : InOk Try.prog 50 e_api_Packet w_api_Packet 145 := InOk.st (szs := [1, 1, 3, 8, 8, 3, 8, 1, 1, 1, 36, 36, 1, 1, 36]) (c := c_api_Packet) (l := [(22, 0), (22, 1), (27, 2), (28, 5), (29, 13), (27, 21), (28, 24), (4, 32), (22, 33), (22, 34), (41, 35), (41, 71), (22, 107), (22, 108), (41, 109)]) sk50 fun enc w spare held m cs h => by
  obtain ⟨x0, w0, r0⟩ := InOk.fld h 0 in22 rfl
  obtain ⟨x1, w1, r1⟩ := InOk.fld h 1 in22 rfl
  obtain ⟨x2, w2, r2⟩ := InOk.fld h 2 in27 rfl
  obtain ⟨x3, w3, r3⟩ := InOk.fld h 3 in28 rfl
  obtain ⟨x4, w4, r4⟩ := InOk.fld h 4 in29 rfl
  obtain ⟨x5, w5, r5⟩ := InOk.fld h 5 in27 rfl
  obtain ⟨x6, w6, r6⟩ := InOk.fld h 6 in28 rfl
  obtain ⟨x7, w7, r7⟩ := InOk.fld h 7 in4 rfl
  obtain ⟨x8, w8, r8⟩ := InOk.fld h 8 in22 rfl
  obtain ⟨x9, w9, r9⟩ := InOk.fld h 9 in22 rfl
  obtain ⟨x10, w10, r10⟩ := InOk.fld h 10 in41 rfl
  obtain ⟨x11, w11, r11⟩ := InOk.fld h 11 in41 rfl
  obtain ⟨x12, w12, r12⟩ := InOk.fld h 12 in22 rfl
  obtain ⟨x13, w13, r13⟩ := InOk.fld h 13 in22 rfl
  obtain ⟨x14, w14, r14⟩ := InOk.fld h 14 in41 rfl
  exact ⟨⟨x0, x1, x2, x3, x4, x5, x6, x7, x8, x9, x10, x11, x12, x13, x14⟩, ⟨w0, w1, w2, w3, w4, w5, w6, w7, w8, w9, w10, w11, w12, w13, w14⟩, fun j hj => match j, hj with | 0, _ => r0 | 1, _ => r1 | 2, _ => r2 | 3, _ => r3 | 4, _ => r4 | 5, _ => r5 | 6, _ => r6 | 7, _ => r7 | 8, _ => r8 | 9, _ => r9 | 10, _ => r10 | 11, _ => r11 | 12, _ => r12 | 13, _ => r13 | 14, _ => r14 | k + 15, hj => absurd (show k + 15 < 15 from hj) (by omega)⟩
def w_congresslaw13_Event (x : congresslaw13_Event) : Prop := (True) ∧ (∀ j, j < 3 → ∀ j1, j1 < 2 → w_api_Entry ((x.F j) j1)) ∧ (w_api_Packet x.P)
theorem sk61 : StOk Try.prog 61 [(4, 0), (41, 1), (50, 37)] 182 := StOk.of (by kernel_rfl)
theorem in61 : InOk Try.prog 61 e_congresslaw13_Event w_congresslaw13_Event 182 := InOk.st (szs := [1, 36, 145]) (c := c_congresslaw13_Event) (l := [(4, 0), (41, 1), (50, 37)]) sk61 fun enc w spare held m cs h => by
  obtain ⟨x0, w0, r0⟩ := InOk.fld h 0 in4 rfl
  obtain ⟨x1, w1, r1⟩ := InOk.fld h 1 in41 rfl
  obtain ⟨x2, w2, r2⟩ := InOk.fld h 2 in50 rfl
  exact ⟨⟨x0, x1, x2⟩, ⟨w0, w1, w2⟩, fun j hj => match j, hj with | 0, _ => r0 | 1, _ => r1 | 2, _ => r2 | k + 3, hj => absurd (show k + 3 < 3 from hj) (by omega)⟩
theorem in57 : InOk Try.prog 57 e_s_congresslaw13_Event (fun x => (x.length ≤ maxLen ∧ x.length * 1504 ≤ 140737488351232) ∧ ∀ j, j < x.length → w_congresslaw13_Event (x.getD j z_congresslaw13_Event)) 1 := InOk.sl z_congresslaw13_Event (by kernel_rfl) (by kernel_rfl) (by kernel_rfl) in61 (by decide)
end Go.Proofs.Ytcocahffigbmbaa
end

section
namespace Go.Eng
theorem loop_seq {σ ω : Type} {body : σ → Option (Stp σ ω)} (F : Nat → σ) (N : Nat) {w : ω} {s0 : σ} (h0 : s0 = F 0) (h : ∀ n, n < N → body (F n) = some (.next (F (n + 1)))) (hN : body (F N) = some (.done w)) : loop body s0 = some w := by
  subst h0
  have key : ∀ m n, n + m = N → Runs body m (F n) w := by
    intro m
    induction m with
    | zero => intro n hn; obtain rfl : n = N := by omega
              exact .done _ _ hN
    | succ m ih => intro n hn; exact .next _ _ _ _ (h n (by omega)) (ih (n + 1) (by omega))
  exact loop_iff.2 ⟨N, key N 0 (by omega)⟩
theorem loop_inv {σ ω : Type} {body : σ → Option (Stp σ ω)} (I : σ → Prop) (μ : σ → Nat) (Post : ω → Prop) {s0 : σ} (h0 : I s0)
    (step : ∀ s, I s → (∃ s', body s = some (.next s') ∧ I s' ∧ μ s' < μ s) ∨ (∃ w, body s = some (.done w) ∧ Post w)) : ∃ w, loop body s0 = some w ∧ Post w := by
  have key : ∀ n s, μ s = n → I s → ∃ w, (∃ m, Runs body m s w) ∧ Post w := by
    intro n
    induction n using Nat.strongRecOn with
    | _ n ih =>
      intro s hn hs
      rcases step s hs with ⟨s', h1, h2, h3⟩ | ⟨w, h1, h2⟩
      · obtain ⟨w, ⟨m, hm⟩, hp⟩ := ih (μ s') (hn ▸ h3) s' rfl h2
        exact ⟨w, ⟨m + 1, .next _ _ _ _ h1 hm⟩, hp⟩
      · exact ⟨w, ⟨0, .done _ _ h1⟩, h2⟩
  obtain ⟨w, hr, hp⟩ := key _ s0 rfl h0
  exact ⟨w, loop_iff.2 hr, hp⟩
theorem loop_count {σ ω : Type} {body : σ → Option (Stp σ ω)} (I : Nat → σ → Prop) (Post : ω → Prop) (N : Nat) {s0 : σ} (h0 : I 0 s0)
    (step : ∀ n s, n < N → I n s → (∃ s', body s = some (.next s') ∧ I (n + 1) s') ∨ (∃ w, body s = some (.done w) ∧ Post w)) (last : ∀ s, I N s → ∃ w, body s = some (.done w) ∧ Post w) : ∃ w, loop body s0 = some w ∧ Post w := by
  have key : ∀ m n s, n + m = N → I n s → ∃ w, (∃ m, Runs body m s w) ∧ Post w := by
    intro m
    induction m with
    | zero =>
      intro n s hn hs
      obtain rfl : n = N := by omega
      obtain ⟨w, h1, h2⟩ := last s hs
      exact ⟨w, ⟨0, .done _ _ h1⟩, h2⟩
    | succ m ih =>
      intro n s hn hs
      rcases step n s (by omega) hs with ⟨s', h1, h2⟩ | ⟨w, h1, h2⟩
      · obtain ⟨w, ⟨k, hk⟩, hp⟩ := ih (n + 1) s' (by omega) h2
        exact ⟨w, ⟨k + 1, .next _ _ _ _ h1 hk⟩, hp⟩
      · exact ⟨w, ⟨0, .done _ _ h1⟩, h2⟩
  obtain ⟨w, hr, hp⟩ := key N 0 s0 (by omega) h0
  exact ⟨w, loop_iff.2 hr, hp⟩
theorem loop_nx {σ ω : Type} {body : σ → Option (Stp σ ω)} {s s' : σ} (h : body s = some (.next s')) : loop body s = loop body s' := by rw [loop_eq, h]
theorem loop_dn {σ ω : Type} {body : σ → Option (Stp σ ω)} {s : σ} {w : ω} (h : body s = some (.done w)) : loop body s = some w := by rw [loop_eq, h]
theorem w64 {n : Int} (h1 : -9223372036854775808 ≤ n) (h2 : n ≤ 9223372036854775807) : IntKind.i64.wrap n = n := by
  simp [IntKind.wrap, IntKind.bits, IntKind.signed]
  split <;> omega
theorem w32 (n : Int) : IntKind.u32.wrap n = n % 4294967296 := by
  simp [IntKind.wrap, IntKind.bits, IntKind.signed]
theorem wu64 (n : Int) : IntKind.u64.wrap n = n % 18446744073709551616 := by
  simp [IntKind.wrap, IntKind.bits, IntKind.signed]
theorem wf_u32 {n : Int} : (Lit.int .u32 n).wf = true ↔ 0 ≤ n ∧ n ≤ 4294967295 := by
  simp [Lit.wf, IntKind.min, IntKind.max, IntKind.signed, IntKind.bits]
theorem ib_t {i : Int} {n : Nat} (h0 : 0 ≤ i) (h1 : i < n) : ib i n = some () := by simp [ib, h0, h1]
theorem ib_n {i n : Nat} (h1 : i < n) : ib (i : Int) n = some () := by simp [ib, h1]
theorem ibg_t {g : Bool} {i : Int} {n : Nat} (h : g = true → 0 ≤ i ∧ i < n) : ibg g i n = some () := by simp only [ibg, if_pos h]
theorem nz_t {i : Int} (h : i ≠ 0) : nz i = some () := by simp [nz, h]
theorem seek {ρ : Type} {body : Int → Option (Stp Int (Fl ρ Unit))} (l : _root_.List Int) (P : Int → Bool) (g : Int → ρ)
    (h : ∀ n, n < l.length → body (n : Int) = if P (l.getD n 0) = true then some (.done (.rt (g (l.getD n 0)))) else some (.next ((n + 1 : Nat) : Int))) (hl : body ((l.length : Nat) : Int) = some (.done (.nx ()))) :
    loop body 0 = some (match l.find? P with | some x => .rt (g x) | none => .nx ()) := by
  obtain ⟨w, hw, hp⟩ := loop_count (body := body) (fun n s => s = (n : Int) ∧ l.find? P = (l.drop n).find? P) (fun w => w = (match l.find? P with | some x => .rt (g x) | none => .nx ())) l.length (s0 := 0) ⟨rfl, rfl⟩
    (fun n s hn hs => by
      obtain ⟨rfl, hs⟩ := hs
      have hd : l.drop n = l.getD n 0 :: l.drop (n + 1) := by
        rw [List.getD_eq_getElem?_getD, List.getElem?_eq_getElem hn]; exact List.drop_eq_getElem_cons hn
      by_cases hP : P (l.getD n 0) = true
      · right
        refine ⟨.rt (g (l.getD n 0)), by rw [h n hn, if_pos hP], ?_⟩
        rw [hs, hd, List.find?_cons_of_pos hP]
      · left
        refine ⟨_, by rw [h n hn, if_neg hP], rfl, ?_⟩
        rw [hs, hd, List.find?_cons_of_neg hP])
    (fun s hs => by
      obtain ⟨rfl, hs⟩ := hs
      refine ⟨.nx (), hl, ?_⟩
      rw [hs, List.drop_length]; rfl)
  rw [hw, hp]
theorem getD_in {α : Type} {l : _root_.List α} {d : α} {k : Nat} (h : k < l.length) : l.getD k d ∈ l := by
  rw [List.getD_eq_getElem?_getD, List.getElem?_eq_getElem h]; exact List.getElem_mem h
theorem take_s {α : Type} {l : _root_.List α} {d : α} {n : Nat} (hn : n < l.length) : l.take (n + 1) = l.take n ++ [l.getD n d] := by
  rw [List.take_add_one, List.getD_eq_getElem?_getD, List.getElem?_eq_getElem hn]; rfl
theorem elim_all (l : _root_.List Int) (P : Int → Bool) : (match l.find? P with | some _ => (Fl.rt false : Fl Bool Unit) | none => .nx ()).elim (fun _ => some true) (fun r => some r) = some (l.all fun x => !P x) := by
  induction l with
  | nil => rfl
  | cons a l ih =>
    by_cases hP : P a = true
    · rw [List.find?_cons_of_pos hP]; simp [hP, Fl.elim]
    · rw [List.find?_cons_of_neg hP, ih]; simp only [Bool.not_eq_true] at hP; simp [hP]
end Go.Eng
end
