/- Printed by gen.py. Conditions: none. -/
import Derived.Test.YtbkofjefhnnmlaaSp1
import Derived.KernelRfl
set_option linter.unusedVariables false
set_option maxRecDepth 100000
namespace Go.Proofs.Ytbkofjefhnnmlaa
open Go.Eng
set_option maxHeartbeats 1600000
theorem congressref10_Get_spec (p0 : (_root_.List api_Kept)) (p1 : Int) (p2 : Int) (r : (Nat → (Nat → api_Entry)) × Bool) (H : congressref10_Get p0 p1 p2 = some r) : FSpec Try.prog 10 [(e_s_api_Kept p0), (.int .i64 p1), (.int .u32 p2)] (resV [(e_a3_a2_api_Entry r.1), (.bool r.2)]) := by
  refine spec_of (fn := Try.f10) (args := [(e_s_api_Kept p0), (.int .i64 p1), (.int .u32 p2)]) Try.func10 rfl (Nat.le_of_ble_eq_true rfl) ?_
  rintro ⟨G, w0, W, S, Sp⟩ hG
  cases hG
  unfold congressref10_Get at H
  refine aw_region (es := [_, _]) ⟨Step.plain rfl (does_alloc 34 0 (e_a3_a2_api_Entry (fun _ => (fun _ => z_api_Entry))) zr34), ⟨trivial, trivial, rfl⟩, rfl,
    Step.plain rfl (does_assign (.const (.bool false)) (.bool false) (fun _ => rfl)), ⟨trivial, trivial, rfl⟩, rfl, rfl⟩ ?_
  refine aw_cov (cov_prune (s1 := ⟨[(0, (e_s_api_Kept p0)), (1, (.int .i64 p1)), (2, (.int .u32 p2)), (6, (.ptr 0 0 []))], [(0, some (.var (e_a3_a2_api_Entry (fun _ => (fun _ => z_api_Entry)))))], 1⟩) ⟨rfl, rfl, rfl, rfl, trivial⟩ ⟨rfl, trivial⟩ (Nat.le_refl _)) ?_
  refine aw_seq ?_
  refine aw_region (es := [_]) ⟨Step.plain rfl (does_assign (.const (.int .i64 0)) (.int .i64 0) (fun _ => rfl)), ⟨trivial, trivial, rfl⟩, rfl, rfl⟩ ?_
  refine aw_cov (cov_prune (s1 := ⟨[(0, (e_s_api_Kept p0)), (1, (.int .i64 p1)), (2, (.int .u32 p2)), (6, (.ptr 0 0 [])), (8, (.int .i64 0))], [(0, some (.var (e_a3_a2_api_Entry (fun _ => (fun _ => z_api_Entry)))))], 1⟩) ⟨rfl, rfl, rfl, rfl, rfl, trivial⟩ ⟨rfl, trivial⟩ (Nat.le_refl _)) ?_
  obtain ⟨wn2, hwn2, Hrn2⟩ := bnd H
  refine aw_meet (fun y7 : Unit => (⟨[(6, (.ptr 0 0 []))], [(0, some (.var (e_a3_a2_api_Entry (fun _ => (fun _ => z_api_Entry)))))], 1⟩ : St)) (fun y7 => Fl.nx y7 = wn2) (fun y7 hy => ?_) (aw_block (aw_runs (fun x1 : Int => (⟨[(0, (e_s_api_Kept p0)), (1, (.int .i64 p1)), (2, (.int .u32 p2)), (6, (.ptr 0 0 [])), (8, (.int .i64 x1))], [(0, some (.var (e_a3_a2_api_Entry (fun _ => (fun _ => z_api_Entry)))))], 1⟩ : St)) hwn2 (cov_prune ⟨rfl, rfl, rfl, rfl, rfl, trivial⟩ ⟨rfl, trivial⟩ (Nat.le_of_ble_eq_true rfl)) (fun x1 st H hsn2 => ?_)))
  · have H := nx_of hy Hrn2
    refine nx_seq ?_
    refine aw_region (es := [_, _, _]) ⟨Step.plain rfl (does_buildT 34 #[] [] [] (.ar 3 12) (fun j => (e_a2_api_Entry ((fun _ => (fun _ => z_api_Entry)) j))) (fun j => (e_a2_api_Entry ((aset (fun _ => (fun _ => z_api_Entry)) []) j))) rfl bo34 trivial trivial (setAll_map e_a2_api_Entry [] _)), ⟨trivial, trivial, rfl⟩, rfl,
      Step.plain rfl (does_store 34 6 (.tmp 36) 0 0 [] (.var (e_a3_a2_api_Entry (fun _ => (fun _ => z_api_Entry)))) (.var (e_a3_a2_api_Entry (aset (fun _ => (fun _ => z_api_Entry)) []))) (e_a3_a2_api_Entry (aset (fun _ => (fun _ => z_api_Entry)) [])) true trivial rfl trivial rfl rfl rfl ty34), ⟨⟨rfl, rfl, trivial⟩, ⟨rfl, trivial⟩, rfl⟩, rfl,
      Step.plain rfl (does_assign (.const (.bool false)) (.bool false) (fun _ => rfl)), ⟨trivial, trivial, rfl⟩, rfl, rfl⟩ ?_
    refine aw_cov (cov_prune (s1 := ⟨[(6, (.ptr 0 0 [])), (7, (.bool false))], [(0, some (.var (e_a3_a2_api_Entry (aset (fun _ => (fun _ => z_api_Entry)) []))))], 1⟩) ⟨rfl, rfl, trivial⟩ ⟨rfl, trivial⟩ (Nat.le_refl _)) ?_
    refine aw_ret ?_
    exact fun a w hr => ⟨_, [(e_a3_a2_api_Entry (aset (fun _ => (fun _ => z_api_Entry)) [])), (.bool false)], hr, ⟨⟨0, _, rfl, rfl, .data _ (d_a3_a2_api_Entry (aset (fun _ => (fun _ => z_api_Entry)) [])), ty34⟩, ⟨_, rfl, .data (.bool false) trivial⟩, trivial⟩, by decide, by cases H; rfl⟩
  · refine aw_seq ?_
    refine aw_region (es := [_, _, _, _]) ⟨Step.plain rfl (does_move (.tmp 8) (.int .i64 x1) trivial), ⟨⟨rfl, trivial⟩, trivial, rfl⟩, rfl,
      Step.plain rfl (does_move (.tmp 0) (e_s_api_Kept p0) trivial), ⟨⟨rfl, trivial⟩, trivial, rfl⟩, rfl,
      Step.plain rfl (does_lens 22 38 p0.length 10 (fun j => (e_api_Kept (p0.getD j z_api_Kept))) el22), ⟨⟨rfl, trivial⟩, trivial, rfl⟩, rfl,
      Step.plain rfl (does_bin .lss 3 3 (.tmp 9) (.tmp 11) .i64 x1 (p0.length : Int) (.bool (decide (x1 < (p0.length : Int)))) trivial trivial (bin_lss _ _ _ _)), ⟨⟨rfl, rfl, trivial⟩, trivial, rfl⟩, rfl, rfl⟩ ?_
    refine aw_cov (cov_prune (s1 := ⟨[(0, (e_s_api_Kept p0)), (1, (.int .i64 p1)), (2, (.int .u32 p2)), (6, (.ptr 0 0 [])), (8, (.int .i64 x1)), (12, (.bool (decide (x1 < (p0.length : Int)))))], [(0, some (.var (e_a3_a2_api_Entry (fun _ => (fun _ => z_api_Entry)))))], 1⟩) ⟨rfl, rfl, rfl, rfl, rfl, rfl, trivial⟩ ⟨rfl, trivial⟩ (Nat.le_refl _)) ?_
    refine aw_cond rfl (fun hc => ?_) (fun hc => ?_)
    · replace H := ite_t hc H
      refine aw_skip ?_
      refine nx_seq ?_
      refine aw_seq ?_
      refine aw_block ?_
      obtain ⟨h3, H⟩ := ib_of H
      obtain ⟨h4, H⟩ := ibg_of H
      refine aw_region (es := [_, _, _, _, _, _, _, _, _, _, _, _, _, _, _, _]) ⟨Step.plain rfl (does_move (.tmp 0) (e_s_api_Kept p0) trivial), ⟨⟨rfl, trivial⟩, trivial, rfl⟩, rfl,
        Step.plain rfl (does_move (.tmp 8) (.int .i64 x1) trivial), ⟨⟨rfl, trivial⟩, trivial, rfl⟩, rfl,
        Step.plain rfl (does_indexAddrs 22 38 p0.length 15 (fun j => (e_api_Kept (p0.getD j z_api_Kept))) (.tmp 16) .i64 x1 el22 trivial h3.1 h3.2), ⟨⟨rfl, rfl, trivial⟩, trivial, rfl⟩, rfl,
        Step.plain rfl (does_fieldAddrc 36 0 0 17 (e_api_Kept (p0.getD x1.toNat z_api_Kept)) fl36_0 rfl (Nat.le_of_ble_eq_true rfl) rfl), ⟨⟨rfl, trivial⟩, trivial, rfl⟩, rfl,
        Step.plain rfl (does_loadc 3 18 (.int .i64 ((p0.getD x1.toNat z_api_Kept).From)) ty3), ⟨⟨rfl, trivial⟩, trivial, rfl⟩, rfl,
        Step.plain rfl (does_move (.tmp 1) (.int .i64 p1) trivial), ⟨⟨rfl, trivial⟩, trivial, rfl⟩, rfl,
        Step.plain rfl (does_bin .eql 3 3 (.tmp 19) (.tmp 20) .i64 ((p0.getD x1.toNat z_api_Kept).From) p1 (.bool (((p0.getD x1.toNat z_api_Kept).From) == p1)) trivial trivial (bin_eql _ _ _ _)), ⟨⟨rfl, rfl, trivial⟩, trivial, rfl⟩, rfl,
        Step.plain rfl (does_move (.tmp 21) (.bool (((p0.getD x1.toNat z_api_Kept).From) == p1)) trivial), ⟨⟨rfl, trivial⟩, trivial, rfl⟩, rfl,
        Step.guarded rfl rfl rfl rfl (fun hc => does_move (.tmp 0) (e_s_api_Kept p0) trivial), ⟨⟨rfl, rfl, trivial⟩, trivial, rfl⟩, rfl,
        Step.guarded rfl rfl rfl rfl (fun hc => does_move (.tmp 8) (.int .i64 x1) trivial), ⟨⟨rfl, rfl, trivial⟩, trivial, rfl⟩, rfl,
        Step.guarded rfl rfl rfl rfl (fun hc => Does.strip (n' := [(23, (.opt (((p0.getD x1.toNat z_api_Kept).From) == p1) (e_s_api_Kept p0))), (24, (.opt (((p0.getD x1.toNat z_api_Kept).From) == p1) (.int .i64 x1)))]) (n := [(23, (e_s_api_Kept p0)), (24, (.int .i64 x1))]) ⟨(.opt _ _ hc), (.opt _ _ hc), trivial⟩ (does_indexAddrs 22 38 p0.length 23 (fun j => (e_api_Kept (p0.getD j z_api_Kept))) (.tmp 24) .i64 x1 el22 trivial (h4 hc).1 (h4 hc).2)), ⟨⟨rfl, rfl, rfl, trivial⟩, trivial, rfl⟩, rfl,
        Step.guarded rfl rfl rfl rfl (fun hc => Does.strip (n' := [(25, (.opt (((p0.getD x1.toNat z_api_Kept).From) == p1) (.cptr (e_api_Kept (p0.getD x1.toNat z_api_Kept)))))]) (n := [(25, (.cptr (e_api_Kept (p0.getD x1.toNat z_api_Kept))))]) ⟨(.opt _ _ hc), trivial⟩ (does_fieldAddrc 36 1 1 25 (e_api_Kept (p0.getD x1.toNat z_api_Kept)) fl36_1 rfl (Nat.le_of_ble_eq_true rfl) rfl)), ⟨⟨rfl, rfl, trivial⟩, trivial, rfl⟩, rfl,
        Step.guarded rfl rfl rfl rfl (fun hc => Does.strip (n' := [(26, (.opt (((p0.getD x1.toNat z_api_Kept).From) == p1) (.cptr (.int .u32 ((p0.getD x1.toNat z_api_Kept).Round)))))]) (n := [(26, (.cptr (.int .u32 ((p0.getD x1.toNat z_api_Kept).Round))))]) ⟨(.opt _ _ hc), trivial⟩ (does_loadc 23 26 (.int .u32 ((p0.getD x1.toNat z_api_Kept).Round)) ty23)), ⟨⟨rfl, rfl, trivial⟩, trivial, rfl⟩, rfl,
        Step.guarded rfl rfl rfl rfl (fun hc => does_move (.tmp 2) (.int .u32 p2) trivial), ⟨⟨rfl, rfl, trivial⟩, trivial, rfl⟩, rfl,
        Step.guarded rfl rfl rfl rfl (fun hc => Does.strip (n' := [(27, (.opt (((p0.getD x1.toNat z_api_Kept).From) == p1) (.int .u32 ((p0.getD x1.toNat z_api_Kept).Round)))), (28, (.opt (((p0.getD x1.toNat z_api_Kept).From) == p1) (.int .u32 p2)))]) (n := [(27, (.int .u32 ((p0.getD x1.toNat z_api_Kept).Round))), (28, (.int .u32 p2))]) ⟨(.opt _ _ hc), (.opt _ _ hc), trivial⟩ (does_bin .eql 23 23 (.tmp 27) (.tmp 28) .u32 ((p0.getD x1.toNat z_api_Kept).Round) p2 (.bool (((p0.getD x1.toNat z_api_Kept).Round) == p2)) trivial trivial (bin_eql _ _ _ _))), ⟨⟨rfl, rfl, rfl, trivial⟩, trivial, rfl⟩, rfl,
        Step.plain rfl (does_and 22 29 (((p0.getD x1.toNat z_api_Kept).From) == p1) (((p0.getD x1.toNat z_api_Kept).Round) == p2)), ⟨⟨rfl, rfl, trivial⟩, trivial, rfl⟩, rfl, rfl⟩ ?_
      obtain ⟨v5, hv5, H⟩ := lt_of H
      refine aw_cov (cov_prune (s1 := ⟨[(0, (e_s_api_Kept p0)), (1, (.int .i64 p1)), (2, (.int .u32 p2)), (6, (.ptr 0 0 [])), (8, (.int .i64 x1)), (30, (.bool v5))], [(0, some (.var (e_a3_a2_api_Entry (fun _ => (fun _ => z_api_Entry)))))], 1⟩) ⟨rfl, rfl, rfl, rfl, rfl, (by subst hv5; rfl), trivial⟩ ⟨rfl, trivial⟩ (Nat.le_refl _)) ?_
      refine aw_cond rfl (fun hc => ?_) (fun hc => ?_)
      · replace H := ite_t hc H
        obtain ⟨h6, H⟩ := ib_of H
        refine aw_region (es := [_, _, _, _, _, _, _]) ⟨Step.plain rfl (does_move (.tmp 0) (e_s_api_Kept p0) trivial), ⟨⟨rfl, trivial⟩, trivial, rfl⟩, rfl,
          Step.plain rfl (does_move (.tmp 8) (.int .i64 x1) trivial), ⟨⟨rfl, trivial⟩, trivial, rfl⟩, rfl,
          Step.plain rfl (does_indexAddrs 22 38 p0.length 31 (fun j => (e_api_Kept (p0.getD j z_api_Kept))) (.tmp 32) .i64 x1 el22 trivial h6.1 h6.2), ⟨⟨rfl, rfl, trivial⟩, trivial, rfl⟩, rfl,
          Step.plain rfl (does_fieldAddrc 36 2 2 33 (e_api_Kept (p0.getD x1.toNat z_api_Kept)) fl36_2 rfl (Nat.le_of_ble_eq_true rfl) rfl), ⟨⟨rfl, trivial⟩, trivial, rfl⟩, rfl,
          Step.plain rfl (does_loadc 34 34 (e_a3_a2_api_Entry ((p0.getD x1.toNat z_api_Kept).Frame)) ty34), ⟨⟨rfl, trivial⟩, trivial, rfl⟩, rfl,
          Step.plain rfl (does_store 34 6 (.tmp 35) 0 0 [] (.var (e_a3_a2_api_Entry (fun _ => (fun _ => z_api_Entry)))) (.var (e_a3_a2_api_Entry ((p0.getD x1.toNat z_api_Kept).Frame))) (e_a3_a2_api_Entry ((p0.getD x1.toNat z_api_Kept).Frame)) true trivial rfl trivial rfl rfl rfl ty34), ⟨⟨rfl, rfl, trivial⟩, ⟨rfl, trivial⟩, rfl⟩, rfl,
          Step.plain rfl (does_assign (.const (.bool true)) (.bool true) (fun _ => rfl)), ⟨trivial, trivial, rfl⟩, rfl, rfl⟩ ?_
        refine aw_cov (cov_prune (s1 := ⟨[(6, (.ptr 0 0 [])), (7, (.bool true))], [(0, some (.var (e_a3_a2_api_Entry ((p0.getD x1.toNat z_api_Kept).Frame))))], 1⟩) ⟨rfl, rfl, trivial⟩ ⟨rfl, trivial⟩ (Nat.le_refl _)) ?_
        refine aw_ret ?_
        replace H := rt_of H hsn2 Hrn2
        refine rt_blk ?_
        refine rt_then ?_
        refine rt_then ?_
        refine rt_blk ?_
        refine rt_then ?_
        refine rt_then ?_
        exact fun a w hr => ⟨_, [(e_a3_a2_api_Entry ((p0.getD x1.toNat z_api_Kept).Frame)), (.bool true)], hr, ⟨⟨0, _, rfl, rfl, .data _ (d_a3_a2_api_Entry ((p0.getD x1.toNat z_api_Kept).Frame)), ty34⟩, ⟨_, rfl, .data (.bool true) trivial⟩, trivial⟩, by decide, by cases H; rfl⟩
      · replace H := ite_f hc H
        refine aw_skip ?_
        refine nx_blk ?_
        refine nx_seq ?_
        refine aw_region1 (es := [_, _, _]) ⟨Step.plain rfl (does_move (.tmp 8) (.int .i64 x1) trivial), ⟨⟨rfl, trivial⟩, trivial, rfl⟩, rfl,
          Step.plain rfl (does_bin .add 3 3 (.tmp 13) (.const (.int .i64 1)) .i64 x1 1 (.int .i64 (IntKind.i64.wrap (x1 + 1))) trivial (fun _ => rfl) (bin_add _ _ _ _)), ⟨⟨rfl, trivial⟩, trivial, rfl⟩, rfl,
          Step.plain rfl (does_assign (.tmp 14) (.int .i64 (IntKind.i64.wrap (x1 + 1))) trivial), ⟨⟨rfl, trivial⟩, trivial, rfl⟩, rfl, rfl⟩ ?_
        exact nx_loop ((IntKind.i64.wrap (x1 + 1))) H (cov_prune ⟨rfl, rfl, rfl, rfl, rfl, trivial⟩ ⟨rfl, trivial⟩ (Nat.le_of_ble_eq_true rfl))
    · replace H := ite_f hc H
      refine aw_exit ?_
      refine ex_then ?_
      refine ex_then ?_
      refine ex_here ?_
      exact nx_ljoin () H hsn2 (cov_prune ⟨rfl, trivial⟩ ⟨rfl, trivial⟩ (Nat.le_of_ble_eq_true rfl))

theorem kept_Pick_spec (p0 : (_root_.List api_Kept)) (p1 : Int) (r : api_Kept × Bool) (H : kept_Pick p0 p1 = some r) : FSpec Try.prog 11 [(e_s_api_Kept p0), (.int .u32 p1)] (resV [(e_api_Kept r.1), (.bool r.2)]) := by
  refine spec_of (fn := Try.f11) (args := [(e_s_api_Kept p0), (.int .u32 p1)]) Try.func11 rfl (Nat.le_of_ble_eq_true rfl) ?_
  rintro ⟨G, w0, W, S, Sp⟩ hG
  cases hG
  unfold kept_Pick at H
  refine aw_region (es := [_, _]) ⟨Step.plain rfl (does_alloc 36 0 (e_api_Kept z_api_Kept) zr36), ⟨trivial, trivial, rfl⟩, rfl,
    Step.plain rfl (does_assign (.const (.bool false)) (.bool false) (fun _ => rfl)), ⟨trivial, trivial, rfl⟩, rfl, rfl⟩ ?_
  refine aw_cov (cov_prune (s1 := ⟨[(0, (e_s_api_Kept p0)), (1, (.int .u32 p1)), (4, (.ptr 0 0 []))], [(0, some (.var (e_api_Kept z_api_Kept)))], 1⟩) ⟨rfl, rfl, rfl, trivial⟩ ⟨rfl, trivial⟩ (Nat.le_refl _)) ?_
  refine aw_seq ?_
  refine aw_region (es := [_, _, _]) ⟨Step.plain rfl (does_move (.tmp 0) (e_s_api_Kept p0) trivial), ⟨⟨rfl, trivial⟩, trivial, rfl⟩, rfl,
    Step.plain rfl (does_lens 22 38 p0.length 6 (fun j => (e_api_Kept (p0.getD j z_api_Kept))) el22), ⟨⟨rfl, trivial⟩, trivial, rfl⟩, rfl,
    Step.plain rfl (does_bin .eql 3 3 (.tmp 7) (.const (.int .i64 0)) .i64 (p0.length : Int) 0 (.bool ((p0.length : Int) == 0)) trivial (fun _ => rfl) (bin_eql _ _ _ _)), ⟨⟨rfl, trivial⟩, trivial, rfl⟩, rfl, rfl⟩ ?_
  refine aw_cov (cov_prune (s1 := ⟨[(0, (e_s_api_Kept p0)), (1, (.int .u32 p1)), (4, (.ptr 0 0 [])), (8, (.bool ((p0.length : Int) == 0)))], [(0, some (.var (e_api_Kept z_api_Kept)))], 1⟩) ⟨rfl, rfl, rfl, rfl, trivial⟩ ⟨rfl, trivial⟩ (Nat.le_refl _)) ?_
  refine aw_cond rfl (fun hc => ?_) (fun hc => ?_)
  · replace H := ite_t hc H
    refine aw_region (es := [_, _, _]) ⟨Step.plain rfl (does_buildT 36 #[] [] [] (.st [1, 1, 36]) (c_api_Kept z_api_Kept) (c_api_Kept ({ From := 0, Round := 0, Frame := (fun _ => (fun _ => z_api_Entry)) } : api_Kept)) rfl bo36 trivial trivial (by funext j; match j with | 0 => rfl | 1 => rfl | 2 => rfl | _ + 3 => rfl)), ⟨trivial, trivial, rfl⟩, rfl,
      Step.plain rfl (does_store 36 4 (.tmp 9) 0 0 [] (.var (e_api_Kept z_api_Kept)) (.var (e_api_Kept ({ From := 0, Round := 0, Frame := (fun _ => (fun _ => z_api_Entry)) } : api_Kept))) (e_api_Kept ({ From := 0, Round := 0, Frame := (fun _ => (fun _ => z_api_Entry)) } : api_Kept)) true trivial rfl trivial rfl rfl rfl ty36), ⟨⟨rfl, rfl, trivial⟩, ⟨rfl, trivial⟩, rfl⟩, rfl,
      Step.plain rfl (does_assign (.const (.bool false)) (.bool false) (fun _ => rfl)), ⟨trivial, trivial, rfl⟩, rfl, rfl⟩ ?_
    obtain ⟨v1, hv1, H⟩ := lt_of H
    refine aw_cov (cov_prune (s1 := ⟨[(4, (.ptr 0 0 [])), (5, (.bool false))], [(0, some (.var (e_api_Kept v1)))], 1⟩) ⟨rfl, rfl, trivial⟩ ⟨(by subst hv1; rfl), trivial⟩ (Nat.le_refl _)) ?_
    refine aw_ret ?_
    refine rt_then ?_
    exact fun a w hr => ⟨_, [(e_api_Kept v1), (.bool false)], hr, ⟨⟨0, _, rfl, rfl, .data _ (d_api_Kept v1), ty36⟩, ⟨_, rfl, .data (.bool false) trivial⟩, trivial⟩, by decide, by cases H; rfl⟩
  · replace H := ite_f hc H
    refine aw_skip ?_
    refine nx_seq ?_
    obtain ⟨h2, H⟩ := nz_of H
    obtain ⟨h3, H⟩ := ib_of H
    refine aw_region (es := [_, _, _, _, _, _, _, _, _, _, _]) ⟨Step.plain rfl (does_move (.tmp 0) (e_s_api_Kept p0) trivial), ⟨⟨rfl, trivial⟩, trivial, rfl⟩, rfl,
      Step.plain rfl (does_move (.tmp 1) (.int .u32 p1) trivial), ⟨⟨rfl, trivial⟩, trivial, rfl⟩, rfl,
      Step.plain rfl (does_convInt 23 29 (.tmp 11) .u32 .u64 p1 trivial rfl rfl), ⟨⟨rfl, trivial⟩, trivial, rfl⟩, rfl,
      Step.plain rfl (does_move (.tmp 0) (e_s_api_Kept p0) trivial), ⟨⟨rfl, trivial⟩, trivial, rfl⟩, rfl,
      Step.plain rfl (does_lens 22 38 p0.length 13 (fun j => (e_api_Kept (p0.getD j z_api_Kept))) el22), ⟨⟨rfl, trivial⟩, trivial, rfl⟩, rfl,
      Step.plain rfl (does_convInt 3 29 (.tmp 14) .i64 .u64 (p0.length : Int) trivial rfl rfl), ⟨⟨rfl, trivial⟩, trivial, rfl⟩, rfl,
      Step.plain rfl (does_bin .rem 29 29 (.tmp 12) (.tmp 15) .u64 (IntKind.u64.wrap (p1)) (IntKind.u64.wrap ((p0.length : Int))) (.int .u64 ((IntKind.u64.wrap (p1)).tmod (IntKind.u64.wrap ((p0.length : Int))))) trivial trivial (bin_rem _ _ _ _ h2)), ⟨⟨rfl, rfl, trivial⟩, trivial, rfl⟩, rfl,
      Step.plain rfl (does_indexAddrs 22 38 p0.length 10 (fun j => (e_api_Kept (p0.getD j z_api_Kept))) (.tmp 16) .u64 ((IntKind.u64.wrap (p1)).tmod (IntKind.u64.wrap ((p0.length : Int)))) el22 trivial h3.1 h3.2), ⟨⟨rfl, rfl, trivial⟩, trivial, rfl⟩, rfl,
      Step.plain rfl (does_loadc 36 17 (e_api_Kept (p0.getD (((IntKind.u64.wrap (p1)).tmod (IntKind.u64.wrap ((p0.length : Int)))).toNat) z_api_Kept)) ty36), ⟨⟨rfl, trivial⟩, trivial, rfl⟩, rfl,
      Step.plain rfl (does_store 36 4 (.tmp 18) 0 0 [] (.var (e_api_Kept z_api_Kept)) (.var (e_api_Kept (p0.getD (((IntKind.u64.wrap (p1)).tmod (IntKind.u64.wrap ((p0.length : Int)))).toNat) z_api_Kept))) (e_api_Kept (p0.getD (((IntKind.u64.wrap (p1)).tmod (IntKind.u64.wrap ((p0.length : Int)))).toNat) z_api_Kept)) true trivial rfl trivial rfl rfl rfl ty36), ⟨⟨rfl, rfl, trivial⟩, ⟨rfl, trivial⟩, rfl⟩, rfl,
      Step.plain rfl (does_assign (.const (.bool true)) (.bool true) (fun _ => rfl)), ⟨trivial, trivial, rfl⟩, rfl, rfl⟩ ?_
    obtain ⟨v4, hv4, H⟩ := lt_of H
    refine aw_cov (cov_prune (s1 := ⟨[(4, (.ptr 0 0 [])), (5, (.bool true))], [(0, some (.var (e_api_Kept v4)))], 1⟩) ⟨rfl, rfl, trivial⟩ ⟨(by subst hv4; rfl), trivial⟩ (Nat.le_refl _)) ?_
    refine aw_ret ?_
    exact fun a w hr => ⟨_, [(e_api_Kept v4), (.bool true)], hr, ⟨⟨0, _, rfl, rfl, .data _ (d_api_Kept v4), ty36⟩, ⟨_, rfl, .data (.bool true) trivial⟩, trivial⟩, by decide, by cases H; rfl⟩

theorem congressref10_Pick_spec (p0 : (_root_.List api_Kept)) (p1 : Int) (r : api_Kept × Bool) (H : congressref10_Pick p0 p1 = some r) : FSpec Try.prog 12 [(e_s_api_Kept p0), (.int .u32 p1)] (resV [(e_api_Kept r.1), (.bool r.2)]) := by
  refine spec_of (fn := Try.f12) (args := [(e_s_api_Kept p0), (.int .u32 p1)]) Try.func12 rfl (Nat.le_of_ble_eq_true rfl) ?_
  rintro ⟨G, w0, W, S, Sp⟩ hG
  cases hG
  unfold congressref10_Pick at H
  refine aw_region (es := [_, _]) ⟨Step.plain rfl (does_alloc 36 0 (e_api_Kept z_api_Kept) zr36), ⟨trivial, trivial, rfl⟩, rfl,
    Step.plain rfl (does_assign (.const (.bool false)) (.bool false) (fun _ => rfl)), ⟨trivial, trivial, rfl⟩, rfl, rfl⟩ ?_
  refine aw_cov (cov_prune (s1 := ⟨[(0, (e_s_api_Kept p0)), (1, (.int .u32 p1)), (4, (.ptr 0 0 []))], [(0, some (.var (e_api_Kept z_api_Kept)))], 1⟩) ⟨rfl, rfl, rfl, trivial⟩ ⟨rfl, trivial⟩ (Nat.le_refl _)) ?_
  refine aw_seq ?_
  refine aw_region (es := [_, _, _]) ⟨Step.plain rfl (does_move (.tmp 0) (e_s_api_Kept p0) trivial), ⟨⟨rfl, trivial⟩, trivial, rfl⟩, rfl,
    Step.plain rfl (does_lens 22 38 p0.length 6 (fun j => (e_api_Kept (p0.getD j z_api_Kept))) el22), ⟨⟨rfl, trivial⟩, trivial, rfl⟩, rfl,
    Step.plain rfl (does_bin .eql 3 3 (.tmp 7) (.const (.int .i64 0)) .i64 (p0.length : Int) 0 (.bool ((p0.length : Int) == 0)) trivial (fun _ => rfl) (bin_eql _ _ _ _)), ⟨⟨rfl, trivial⟩, trivial, rfl⟩, rfl, rfl⟩ ?_
  refine aw_cov (cov_prune (s1 := ⟨[(0, (e_s_api_Kept p0)), (1, (.int .u32 p1)), (4, (.ptr 0 0 [])), (8, (.bool ((p0.length : Int) == 0)))], [(0, some (.var (e_api_Kept z_api_Kept)))], 1⟩) ⟨rfl, rfl, rfl, rfl, trivial⟩ ⟨rfl, trivial⟩ (Nat.le_refl _)) ?_
  refine aw_cond rfl (fun hc => ?_) (fun hc => ?_)
  · replace H := ite_t hc H
    refine aw_region (es := [_, _, _]) ⟨Step.plain rfl (does_buildT 36 #[] [] [] (.st [1, 1, 36]) (c_api_Kept z_api_Kept) (c_api_Kept ({ From := 0, Round := 0, Frame := (fun _ => (fun _ => z_api_Entry)) } : api_Kept)) rfl bo36 trivial trivial (by funext j; match j with | 0 => rfl | 1 => rfl | 2 => rfl | _ + 3 => rfl)), ⟨trivial, trivial, rfl⟩, rfl,
      Step.plain rfl (does_store 36 4 (.tmp 9) 0 0 [] (.var (e_api_Kept z_api_Kept)) (.var (e_api_Kept ({ From := 0, Round := 0, Frame := (fun _ => (fun _ => z_api_Entry)) } : api_Kept))) (e_api_Kept ({ From := 0, Round := 0, Frame := (fun _ => (fun _ => z_api_Entry)) } : api_Kept)) true trivial rfl trivial rfl rfl rfl ty36), ⟨⟨rfl, rfl, trivial⟩, ⟨rfl, trivial⟩, rfl⟩, rfl,
      Step.plain rfl (does_assign (.const (.bool false)) (.bool false) (fun _ => rfl)), ⟨trivial, trivial, rfl⟩, rfl, rfl⟩ ?_
    obtain ⟨v1, hv1, H⟩ := lt_of H
    refine aw_cov (cov_prune (s1 := ⟨[(4, (.ptr 0 0 [])), (5, (.bool false))], [(0, some (.var (e_api_Kept v1)))], 1⟩) ⟨rfl, rfl, trivial⟩ ⟨(by subst hv1; rfl), trivial⟩ (Nat.le_refl _)) ?_
    refine aw_ret ?_
    refine rt_then ?_
    exact fun a w hr => ⟨_, [(e_api_Kept v1), (.bool false)], hr, ⟨⟨0, _, rfl, rfl, .data _ (d_api_Kept v1), ty36⟩, ⟨_, rfl, .data (.bool false) trivial⟩, trivial⟩, by decide, by cases H; rfl⟩
  · replace H := ite_f hc H
    refine aw_skip ?_
    refine nx_seq ?_
    obtain ⟨h2, H⟩ := nz_of H
    obtain ⟨h3, H⟩ := ib_of H
    refine aw_region (es := [_, _, _, _, _, _, _, _, _, _, _, _]) ⟨Step.plain rfl (does_move (.tmp 0) (e_s_api_Kept p0) trivial), ⟨⟨rfl, trivial⟩, trivial, rfl⟩, rfl,
      Step.plain rfl (does_move (.tmp 1) (.int .u32 p1) trivial), ⟨⟨rfl, trivial⟩, trivial, rfl⟩, rfl,
      Step.plain rfl (does_convInt 23 29 (.tmp 11) .u32 .u64 p1 trivial rfl rfl), ⟨⟨rfl, trivial⟩, trivial, rfl⟩, rfl,
      Step.plain rfl (does_move (.tmp 0) (e_s_api_Kept p0) trivial), ⟨⟨rfl, trivial⟩, trivial, rfl⟩, rfl,
      Step.plain rfl (does_lens 22 38 p0.length 13 (fun j => (e_api_Kept (p0.getD j z_api_Kept))) el22), ⟨⟨rfl, trivial⟩, trivial, rfl⟩, rfl,
      Step.plain rfl (does_convInt 3 29 (.tmp 14) .i64 .u64 (p0.length : Int) trivial rfl rfl), ⟨⟨rfl, trivial⟩, trivial, rfl⟩, rfl,
      Step.plain rfl (does_bin .rem 29 29 (.tmp 12) (.tmp 15) .u64 (IntKind.u64.wrap (p1)) (IntKind.u64.wrap ((p0.length : Int))) (.int .u64 ((IntKind.u64.wrap (p1)).tmod (IntKind.u64.wrap ((p0.length : Int))))) trivial trivial (bin_rem _ _ _ _ h2)), ⟨⟨rfl, rfl, trivial⟩, trivial, rfl⟩, rfl,
      Step.plain rfl (does_convInt 29 3 (.tmp 16) .u64 .i64 ((IntKind.u64.wrap (p1)).tmod (IntKind.u64.wrap ((p0.length : Int)))) trivial rfl rfl), ⟨⟨rfl, trivial⟩, trivial, rfl⟩, rfl,
      Step.plain rfl (does_indexAddrs 22 38 p0.length 10 (fun j => (e_api_Kept (p0.getD j z_api_Kept))) (.tmp 17) .i64 (IntKind.i64.wrap (((IntKind.u64.wrap (p1)).tmod (IntKind.u64.wrap ((p0.length : Int)))))) el22 trivial h3.1 h3.2), ⟨⟨rfl, rfl, trivial⟩, trivial, rfl⟩, rfl,
      Step.plain rfl (does_loadc 36 18 (e_api_Kept (p0.getD ((IntKind.i64.wrap (((IntKind.u64.wrap (p1)).tmod (IntKind.u64.wrap ((p0.length : Int)))))).toNat) z_api_Kept)) ty36), ⟨⟨rfl, trivial⟩, trivial, rfl⟩, rfl,
      Step.plain rfl (does_store 36 4 (.tmp 19) 0 0 [] (.var (e_api_Kept z_api_Kept)) (.var (e_api_Kept (p0.getD ((IntKind.i64.wrap (((IntKind.u64.wrap (p1)).tmod (IntKind.u64.wrap ((p0.length : Int)))))).toNat) z_api_Kept))) (e_api_Kept (p0.getD ((IntKind.i64.wrap (((IntKind.u64.wrap (p1)).tmod (IntKind.u64.wrap ((p0.length : Int)))))).toNat) z_api_Kept)) true trivial rfl trivial rfl rfl rfl ty36), ⟨⟨rfl, rfl, trivial⟩, ⟨rfl, trivial⟩, rfl⟩, rfl,
      Step.plain rfl (does_assign (.const (.bool true)) (.bool true) (fun _ => rfl)), ⟨trivial, trivial, rfl⟩, rfl, rfl⟩ ?_
    obtain ⟨v4, hv4, H⟩ := lt_of H
    refine aw_cov (cov_prune (s1 := ⟨[(4, (.ptr 0 0 [])), (5, (.bool true))], [(0, some (.var (e_api_Kept v4)))], 1⟩) ⟨rfl, rfl, trivial⟩ ⟨(by subst hv4; rfl), trivial⟩ (Nat.le_refl _)) ?_
    refine aw_ret ?_
    exact fun a w hr => ⟨_, [(e_api_Kept v4), (.bool true)], hr, ⟨⟨0, _, rfl, rfl, .data _ (d_api_Kept v4), ty36⟩, ⟨_, rfl, .data (.bool true) trivial⟩, trivial⟩, by decide, by cases H; rfl⟩

theorem congresslaw10_fixed_spec (r : Bool) (H : congresslaw10_fixed = some r) : FSpec Try.prog 13 [] (.bool r) := by
  refine spec_of (fn := Try.f13) (args := []) Try.func13 rfl (Nat.le_of_ble_eq_true rfl) ?_
  rintro ⟨G, w0, W, S, Sp⟩ hG
  cases hG
  unfold congresslaw10_fixed at H
  refine aw_region (es := [_]) ⟨Step.plain rfl (does_assign (.const (.bool false)) (.bool false) (fun _ => rfl)), ⟨trivial, trivial, rfl⟩, rfl, rfl⟩ ?_
  refine aw_cov (cov_prune (s1 := ⟨[], [], 0⟩) trivial trivial (Nat.le_refl _)) ?_
  refine aw_region (es := [_, _, _]) ⟨Step.plain rfl (does_buildT 26 #[(0, (.const (.int .u32 1)))] [(0, (.const (.int .u32 1)))] [(0, (.int .u32 1))] (.ar 8 1) (fun j => (.int .u32 ((fun _ => 0) j))) (fun j => (.int .u32 ((aset (fun _ => 0) [(0, 1)]) j))) rfl bo26 ⟨⟨rfl, (fun _ => rfl)⟩, trivial⟩ ⟨⟨Nat.le_of_ble_eq_true rfl, rfl, rfl⟩, trivial⟩ (setAll_map (fun z => V.int .u32 z) [(0, 1)] _)), ⟨trivial, trivial, rfl⟩, rfl,
    Step.plain rfl (does_alloc 26 0 (e_a8_u32 (fun _ => 0)) zr26), ⟨trivial, trivial, rfl⟩, rfl,
    Step.plain rfl (does_store 26 1 (.tmp 18) 0 0 [] (.var (e_a8_u32 (fun _ => 0))) (.var (e_a8_u32 (aset (fun _ => 0) [(0, 1)]))) (e_a8_u32 (aset (fun _ => 0) [(0, 1)])) true trivial rfl trivial rfl rfl rfl ty26), ⟨⟨rfl, rfl, trivial⟩, ⟨rfl, trivial⟩, rfl⟩, rfl, rfl⟩ ?_
  refine aw_cov (cov_prune (s1 := ⟨[(1, (.ptr 0 0 []))], [(0, some (.var (e_a8_u32 (aset (fun _ => 0) [(0, 1)]))))], 1⟩) ⟨rfl, trivial⟩ ⟨rfl, trivial⟩ (Nat.le_refl _)) ?_
  obtain ⟨v1, h2, H⟩ := bnd H
  refine aw_region (es := [_, _, _, _, _, _, _, _, _, _, _, _]) ⟨Step.plain rfl (does_buildT 25 #[] [] [] (.ar 8 1) (fun j => (.int .u32 ((fun _ => 0) j))) (fun j => (.int .u32 ((aset (fun _ => 0) []) j))) rfl bo25 trivial trivial (setAll_map (fun z => V.int .u32 z) [] _)), ⟨trivial, trivial, rfl⟩, rfl,
    Step.plain rfl (does_load 26 1 0 0 [] (.var (e_a8_u32 (aset (fun _ => 0) [(0, 1)]))) (e_a8_u32 (aset (fun _ => 0) [(0, 1)])) trivial rfl rfl ty26), ⟨⟨rfl, trivial⟩, ⟨rfl, trivial⟩, rfl⟩, rfl,
    Step.plain rfl (does_buildT 36 #[(1, (.const (.int .u32 1)))] [(1, (.const (.int .u32 1)))] [(1, (.int .u32 1))] (.st [1, 1, 36]) (c_api_Kept z_api_Kept) (c_api_Kept ({ From := 0, Round := 1, Frame := (fun _ => (fun _ => z_api_Entry)) } : api_Kept)) rfl bo36 ⟨⟨rfl, (fun _ => rfl)⟩, trivial⟩ ⟨⟨Nat.le_of_ble_eq_true rfl, rfl, rfl⟩, trivial⟩ (by funext j; match j with | 0 => rfl | 1 => rfl | 2 => rfl | _ + 3 => rfl)), ⟨trivial, trivial, rfl⟩, rfl,
    Step.plain rfl (does_callO 7 0 (fun _ => .any) (.func 7) [(.const (.slice none 0 0)), (.tmp 20), (.tmp 21), (.tmp 22)] [(e_s_api_Kept []), (e_a8_u32 (aset (fun _ => 0) [])), (e_a8_u32 (aset (fun _ => 0) [(0, 1)])), (e_api_Kept ({ From := 0, Round := 1, Frame := (fun _ => (fun _ => z_api_Entry)) } : api_Kept))] [] [] true [(e_s_api_Kept []), (e_a8_u32 (aset (fun _ => 0) [])), (e_a8_u32 (aset (fun _ => 0) [(0, 1)])), (e_api_Kept ({ From := 0, Round := 1, Frame := (fun _ => (fun _ => z_api_Entry)) } : api_Kept))] _ (resV [(.own 1), (e_a8_u32 v1.2.1), (.bool v1.2.2)]) _ 1 2 _ _ rfl fo7 rfl ⟨(fun _ => ⟨none, 0, rfl, Nat.le_refl _, .inl rfl⟩), trivial, trivial, trivial, trivial⟩ ⟨.ro _ _ (.data _ (d_s_api_Kept [])), .ro _ _ (.data _ (d_a8_u32 (aset (fun _ => 0) []))), .ro _ _ (.data _ (d_a8_u32 (aset (fun _ => 0) [(0, 1)]))), .ro _ _ (.data _ (d_api_Kept ({ From := 0, Round := 1, Frame := (fun _ => (fun _ => z_api_Entry)) } : api_Kept))), trivial⟩ (kept_Take_spec [] (aset (fun _ => 0) []) (aset (fun _ => 0) [(0, 1)]) ({ From := 0, Round := 1, Frame := (fun _ => (fun _ => z_api_Entry)) } : api_Kept) _ h2) rfl (by simp) rfl trivial ⟨⟨Nat.le_of_ble_eq_true rfl, _, rfl, fun _ => (f_api_Kept _)⟩, trivial⟩ (.tup _ _ _ (fun j => match j with | 0 => .own 0 (Nat.le_of_ble_eq_true rfl) | 1 => .data _ ((f_a8_u32 v1.2.1)) | 2 => .data _ (trivial) | _ + 3 => .data _ trivial))), ⟨⟨rfl, rfl, rfl, trivial⟩, trivial, rfl⟩, rfl,
    Step.plain rfl (does_move (.tmp 23) (resV [(.own 1), (e_a8_u32 v1.2.1), (.bool v1.2.2)]) trivial), ⟨⟨rfl, trivial⟩, trivial, rfl⟩, rfl,
    Step.plain rfl (does_extract 19 0 3 (fun j => [(.own 1), (e_a8_u32 v1.2.1), (.bool v1.2.2)].getD j (.bool false)) (Nat.le_of_ble_eq_true rfl)), ⟨⟨rfl, trivial⟩, trivial, rfl⟩, rfl,
    Step.plain rfl (does_extract 19 1 3 (fun j => [(.own 1), (e_a8_u32 v1.2.1), (.bool v1.2.2)].getD j (.bool false)) (Nat.le_of_ble_eq_true rfl)), ⟨⟨rfl, trivial⟩, trivial, rfl⟩, rfl,
    Step.plain rfl (does_extract 19 2 3 (fun j => [(.own 1), (e_a8_u32 v1.2.1), (.bool v1.2.2)].getD j (.bool false)) (Nat.le_of_ble_eq_true rfl)), ⟨⟨rfl, trivial⟩, trivial, rfl⟩, rfl,
    Step.plain rfl (does_alloc 25 3 (e_a8_u32 (fun _ => 0)) zr25), ⟨trivial, trivial, rfl⟩, rfl,
    Step.plain rfl (does_assign (.tmp 24) (.own 1) trivial), ⟨⟨rfl, trivial⟩, trivial, rfl⟩, rfl,
    Step.plain rfl (does_store 25 3 (.tmp 25) 3 0 [] (.var (e_a8_u32 (fun _ => 0))) (.var (e_a8_u32 v1.2.1)) (e_a8_u32 v1.2.1) true trivial rfl trivial rfl rfl rfl ty25), ⟨⟨rfl, rfl, trivial⟩, ⟨rfl, trivial⟩, rfl⟩, rfl,
    Step.plain rfl (does_assign (.tmp 26) (.bool v1.2.2) trivial), ⟨⟨rfl, trivial⟩, trivial, rfl⟩, rfl, rfl⟩ ?_
  refine aw_cov (cov_prune (s1 := ⟨[(1, (.ptr 0 0 [])), (3, (.ptr 3 0 [])), (2, (.own 1)), (4, (.bool v1.2.2))], [(0, some (.var (e_a8_u32 (aset (fun _ => 0) [(0, 1)])))), (1, some (.arr 38 v1.1.length fun j => (e_api_Kept (v1.1.getD j z_api_Kept)))), (3, some (.var (e_a8_u32 v1.2.1)))], 4⟩) ⟨rfl, rfl, rfl, rfl, trivial⟩ ⟨rfl, rfl, rfl, trivial⟩ (Nat.le_refl _)) ?_
  obtain ⟨v3, h4, H⟩ := bnd H
  refine aw_region (es := [_, _, _, _, _, _, _, _, _, _, _, _, _]) ⟨Step.plain rfl (does_move (.tmp 2) (.own 1) trivial), ⟨⟨rfl, trivial⟩, trivial, rfl⟩, rfl,
    Step.plain rfl (does_load 25 3 3 0 [] (.var (e_a8_u32 v1.2.1)) (e_a8_u32 v1.2.1) trivial rfl rfl ty25), ⟨⟨rfl, trivial⟩, ⟨rfl, trivial⟩, rfl⟩, rfl,
    Step.plain rfl (does_load 26 1 0 0 [] (.var (e_a8_u32 (aset (fun _ => 0) [(0, 1)]))) (e_a8_u32 (aset (fun _ => 0) [(0, 1)])) trivial rfl rfl ty26), ⟨⟨rfl, trivial⟩, ⟨rfl, trivial⟩, rfl⟩, rfl,
    Step.plain rfl (does_buildT 36 #[(1, (.const (.int .u32 3)))] [(1, (.const (.int .u32 3)))] [(1, (.int .u32 3))] (.st [1, 1, 36]) (c_api_Kept z_api_Kept) (c_api_Kept ({ From := 0, Round := 3, Frame := (fun _ => (fun _ => z_api_Entry)) } : api_Kept)) rfl bo36 ⟨⟨rfl, (fun _ => rfl)⟩, trivial⟩ ⟨⟨Nat.le_of_ble_eq_true rfl, rfl, rfl⟩, trivial⟩ (by funext j; match j with | 0 => rfl | 1 => rfl | 2 => rfl | _ + 3 => rfl)), ⟨trivial, trivial, rfl⟩, rfl,
    Step.plain rfl (does_callO 7 0 (fun _ => .any) (.func 7) [(.tmp 28), (.tmp 29), (.tmp 30), (.tmp 31)] [(.own 1), (e_a8_u32 v1.2.1), (e_a8_u32 (aset (fun _ => 0) [(0, 1)])), (e_api_Kept ({ From := 0, Round := 3, Frame := (fun _ => (fun _ => z_api_Entry)) } : api_Kept))] [(1, (.arr 38 v1.1.length fun j => (e_api_Kept (v1.1.getD j z_api_Kept))))] [] true [(e_s_api_Kept v1.1), (e_a8_u32 v1.2.1), (e_a8_u32 (aset (fun _ => 0) [(0, 1)])), (e_api_Kept ({ From := 0, Round := 3, Frame := (fun _ => (fun _ => z_api_Entry)) } : api_Kept))] _ (resV [(.own 4), (e_a8_u32 v3.2.1), (.bool v3.2.2)]) _ 4 2 _ _ rfl fo7 rfl ⟨trivial, trivial, trivial, trivial, trivial⟩ ⟨.ro _ _ (.own 1 _ _ _ (.head _) rfl (fun _ => (d_api_Kept _))), .ro _ _ (.data _ (d_a8_u32 v1.2.1)), .ro _ _ (.data _ (d_a8_u32 (aset (fun _ => 0) [(0, 1)]))), .ro _ _ (.data _ (d_api_Kept ({ From := 0, Round := 3, Frame := (fun _ => (fun _ => z_api_Entry)) } : api_Kept))), trivial⟩ (kept_Take_spec v1.1 v1.2.1 (aset (fun _ => 0) [(0, 1)]) ({ From := 0, Round := 3, Frame := (fun _ => (fun _ => z_api_Entry)) } : api_Kept) _ h4) rfl (by simp) rfl trivial ⟨⟨Nat.le_of_ble_eq_true rfl, _, rfl, fun _ => (f_api_Kept _)⟩, trivial⟩ (.tup _ _ _ (fun j => match j with | 0 => .own 0 (Nat.le_of_ble_eq_true rfl) | 1 => .data _ ((f_a8_u32 v3.2.1)) | 2 => .data _ (trivial) | _ + 3 => .data _ trivial))), ⟨⟨rfl, rfl, rfl, rfl, trivial⟩, ⟨rfl, trivial⟩, rfl⟩, rfl,
    Step.plain rfl (does_move (.tmp 32) (resV [(.own 4), (e_a8_u32 v3.2.1), (.bool v3.2.2)]) trivial), ⟨⟨rfl, trivial⟩, trivial, rfl⟩, rfl,
    Step.plain rfl (does_extract 27 0 3 (fun j => [(.own 4), (e_a8_u32 v3.2.1), (.bool v3.2.2)].getD j (.bool false)) (Nat.le_of_ble_eq_true rfl)), ⟨⟨rfl, trivial⟩, trivial, rfl⟩, rfl,
    Step.plain rfl (does_extract 27 1 3 (fun j => [(.own 4), (e_a8_u32 v3.2.1), (.bool v3.2.2)].getD j (.bool false)) (Nat.le_of_ble_eq_true rfl)), ⟨⟨rfl, trivial⟩, trivial, rfl⟩, rfl,
    Step.plain rfl (does_extract 27 2 3 (fun j => [(.own 4), (e_a8_u32 v3.2.1), (.bool v3.2.2)].getD j (.bool false)) (Nat.le_of_ble_eq_true rfl)), ⟨⟨rfl, trivial⟩, trivial, rfl⟩, rfl,
    Step.plain rfl (does_alloc 25 6 (e_a8_u32 (fun _ => 0)) zr25), ⟨trivial, trivial, rfl⟩, rfl,
    Step.plain rfl (does_assign (.tmp 33) (.own 4) trivial), ⟨⟨rfl, trivial⟩, trivial, rfl⟩, rfl,
    Step.plain rfl (does_store 25 6 (.tmp 34) 6 0 [] (.var (e_a8_u32 (fun _ => 0))) (.var (e_a8_u32 v3.2.1)) (e_a8_u32 v3.2.1) true trivial rfl trivial rfl rfl rfl ty25), ⟨⟨rfl, rfl, trivial⟩, ⟨rfl, trivial⟩, rfl⟩, rfl,
    Step.plain rfl (does_assign (.tmp 35) (.bool v3.2.2) trivial), ⟨⟨rfl, trivial⟩, trivial, rfl⟩, rfl, rfl⟩ ?_
  refine aw_cov (cov_prune (s1 := ⟨[(1, (.ptr 0 0 [])), (3, (.ptr 3 0 [])), (2, (.own 1)), (4, (.bool v1.2.2)), (7, (.bool v3.2.2))], [(0, some (.var (e_a8_u32 (aset (fun _ => 0) [(0, 1)])))), (1, some (.arr 38 v1.1.length fun j => (e_api_Kept (v1.1.getD j z_api_Kept)))), (3, some (.var (e_a8_u32 v1.2.1)))], 7⟩) ⟨rfl, rfl, rfl, rfl, rfl, trivial⟩ ⟨rfl, rfl, rfl, trivial⟩ (Nat.le_refl _)) ?_
  obtain ⟨v5, h6, H⟩ := bnd H
  refine aw_region (es := [_, _, _, _, _, _, _, _, _, _, _, _]) ⟨Step.plain rfl (does_move (.tmp 2) (.own 1) trivial), ⟨⟨rfl, trivial⟩, trivial, rfl⟩, rfl,
    Step.plain rfl (does_load 25 3 3 0 [] (.var (e_a8_u32 v1.2.1)) (e_a8_u32 v1.2.1) trivial rfl rfl ty25), ⟨⟨rfl, trivial⟩, ⟨rfl, trivial⟩, rfl⟩, rfl,
    Step.plain rfl (does_load 26 1 0 0 [] (.var (e_a8_u32 (aset (fun _ => 0) [(0, 1)]))) (e_a8_u32 (aset (fun _ => 0) [(0, 1)])) trivial rfl rfl ty26), ⟨⟨rfl, trivial⟩, ⟨rfl, trivial⟩, rfl⟩, rfl,
    Step.plain rfl (does_buildT 36 #[(1, (.const (.int .u32 2)))] [(1, (.const (.int .u32 2)))] [(1, (.int .u32 2))] (.st [1, 1, 36]) (c_api_Kept z_api_Kept) (c_api_Kept ({ From := 0, Round := 2, Frame := (fun _ => (fun _ => z_api_Entry)) } : api_Kept)) rfl bo36 ⟨⟨rfl, (fun _ => rfl)⟩, trivial⟩ ⟨⟨Nat.le_of_ble_eq_true rfl, rfl, rfl⟩, trivial⟩ (by funext j; match j with | 0 => rfl | 1 => rfl | 2 => rfl | _ + 3 => rfl)), ⟨trivial, trivial, rfl⟩, rfl,
    Step.plain rfl (does_callO 7 0 (fun _ => .any) (.func 7) [(.tmp 37), (.tmp 38), (.tmp 39), (.tmp 40)] [(.own 1), (e_a8_u32 v1.2.1), (e_a8_u32 (aset (fun _ => 0) [(0, 1)])), (e_api_Kept ({ From := 0, Round := 2, Frame := (fun _ => (fun _ => z_api_Entry)) } : api_Kept))] [(1, (.arr 38 v1.1.length fun j => (e_api_Kept (v1.1.getD j z_api_Kept))))] [] true [(e_s_api_Kept v1.1), (e_a8_u32 v1.2.1), (e_a8_u32 (aset (fun _ => 0) [(0, 1)])), (e_api_Kept ({ From := 0, Round := 2, Frame := (fun _ => (fun _ => z_api_Entry)) } : api_Kept))] _ (resV [(.own 7), (e_a8_u32 v5.2.1), (.bool v5.2.2)]) _ 7 2 _ _ rfl fo7 rfl ⟨trivial, trivial, trivial, trivial, trivial⟩ ⟨.ro _ _ (.own 1 _ _ _ (.head _) rfl (fun _ => (d_api_Kept _))), .ro _ _ (.data _ (d_a8_u32 v1.2.1)), .ro _ _ (.data _ (d_a8_u32 (aset (fun _ => 0) [(0, 1)]))), .ro _ _ (.data _ (d_api_Kept ({ From := 0, Round := 2, Frame := (fun _ => (fun _ => z_api_Entry)) } : api_Kept))), trivial⟩ (kept_Take_spec v1.1 v1.2.1 (aset (fun _ => 0) [(0, 1)]) ({ From := 0, Round := 2, Frame := (fun _ => (fun _ => z_api_Entry)) } : api_Kept) _ h6) rfl (by simp) rfl trivial ⟨⟨Nat.le_of_ble_eq_true rfl, _, rfl, fun _ => (f_api_Kept _)⟩, trivial⟩ (.tup _ _ _ (fun j => match j with | 0 => .own 0 (Nat.le_of_ble_eq_true rfl) | 1 => .data _ ((f_a8_u32 v5.2.1)) | 2 => .data _ (trivial) | _ + 3 => .data _ trivial))), ⟨⟨rfl, rfl, rfl, rfl, trivial⟩, ⟨rfl, trivial⟩, rfl⟩, rfl,
    Step.plain rfl (does_move (.tmp 41) (resV [(.own 7), (e_a8_u32 v5.2.1), (.bool v5.2.2)]) trivial), ⟨⟨rfl, trivial⟩, trivial, rfl⟩, rfl,
    Step.plain rfl (does_extract 36 0 3 (fun j => [(.own 7), (e_a8_u32 v5.2.1), (.bool v5.2.2)].getD j (.bool false)) (Nat.le_of_ble_eq_true rfl)), ⟨⟨rfl, trivial⟩, trivial, rfl⟩, rfl,
    Step.plain rfl (does_extract 36 1 3 (fun j => [(.own 7), (e_a8_u32 v5.2.1), (.bool v5.2.2)].getD j (.bool false)) (Nat.le_of_ble_eq_true rfl)), ⟨⟨rfl, trivial⟩, trivial, rfl⟩, rfl,
    Step.plain rfl (does_extract 36 2 3 (fun j => [(.own 7), (e_a8_u32 v5.2.1), (.bool v5.2.2)].getD j (.bool false)) (Nat.le_of_ble_eq_true rfl)), ⟨⟨rfl, trivial⟩, trivial, rfl⟩, rfl,
    Step.plain rfl (does_assign (.tmp 42) (.own 7) trivial), ⟨⟨rfl, trivial⟩, trivial, rfl⟩, rfl,
    Step.plain rfl (does_store 25 3 (.tmp 43) 3 0 [] (.var (e_a8_u32 v1.2.1)) (.var (e_a8_u32 v5.2.1)) (e_a8_u32 v5.2.1) true trivial rfl trivial rfl rfl rfl ty25), ⟨⟨rfl, rfl, trivial⟩, ⟨rfl, trivial⟩, rfl⟩, rfl,
    Step.plain rfl (does_assign (.tmp 44) (.bool v5.2.2) trivial), ⟨⟨rfl, trivial⟩, trivial, rfl⟩, rfl, rfl⟩ ?_
  refine aw_cov (cov_prune (s1 := ⟨[(1, (.ptr 0 0 [])), (3, (.ptr 3 0 [])), (4, (.bool v1.2.2)), (7, (.bool v3.2.2)), (2, (.own 7)), (8, (.bool v5.2.2))], [(0, some (.var (e_a8_u32 (aset (fun _ => 0) [(0, 1)])))), (3, some (.var (e_a8_u32 v5.2.1))), (7, some (.arr 38 v5.1.length fun j => (e_api_Kept (v5.1.getD j z_api_Kept))))], 9⟩) ⟨rfl, rfl, rfl, rfl, rfl, rfl, trivial⟩ ⟨rfl, rfl, rfl, trivial⟩ (Nat.le_refl _)) ?_
  obtain ⟨v7, h8, H⟩ := bnd H
  refine aw_region (es := [_, _, _, _, _, _, _, _, _, _, _, _, _]) ⟨Step.plain rfl (does_move (.tmp 2) (.own 7) trivial), ⟨⟨rfl, trivial⟩, trivial, rfl⟩, rfl,
    Step.plain rfl (does_load 25 3 3 0 [] (.var (e_a8_u32 v5.2.1)) (e_a8_u32 v5.2.1) trivial rfl rfl ty25), ⟨⟨rfl, trivial⟩, ⟨rfl, trivial⟩, rfl⟩, rfl,
    Step.plain rfl (does_load 26 1 0 0 [] (.var (e_a8_u32 (aset (fun _ => 0) [(0, 1)]))) (e_a8_u32 (aset (fun _ => 0) [(0, 1)])) trivial rfl rfl ty26), ⟨⟨rfl, trivial⟩, ⟨rfl, trivial⟩, rfl⟩, rfl,
    Step.plain rfl (does_buildT 36 #[(1, (.const (.int .u32 2)))] [(1, (.const (.int .u32 2)))] [(1, (.int .u32 2))] (.st [1, 1, 36]) (c_api_Kept z_api_Kept) (c_api_Kept ({ From := 0, Round := 2, Frame := (fun _ => (fun _ => z_api_Entry)) } : api_Kept)) rfl bo36 ⟨⟨rfl, (fun _ => rfl)⟩, trivial⟩ ⟨⟨Nat.le_of_ble_eq_true rfl, rfl, rfl⟩, trivial⟩ (by funext j; match j with | 0 => rfl | 1 => rfl | 2 => rfl | _ + 3 => rfl)), ⟨trivial, trivial, rfl⟩, rfl,
    Step.plain rfl (does_callO 7 0 (fun _ => .any) (.func 7) [(.tmp 46), (.tmp 47), (.tmp 48), (.tmp 49)] [(.own 7), (e_a8_u32 v5.2.1), (e_a8_u32 (aset (fun _ => 0) [(0, 1)])), (e_api_Kept ({ From := 0, Round := 2, Frame := (fun _ => (fun _ => z_api_Entry)) } : api_Kept))] [(7, (.arr 38 v5.1.length fun j => (e_api_Kept (v5.1.getD j z_api_Kept))))] [] true [(e_s_api_Kept v5.1), (e_a8_u32 v5.2.1), (e_a8_u32 (aset (fun _ => 0) [(0, 1)])), (e_api_Kept ({ From := 0, Round := 2, Frame := (fun _ => (fun _ => z_api_Entry)) } : api_Kept))] _ (resV [(.own 9), (e_a8_u32 v7.2.1), (.bool v7.2.2)]) _ 9 2 _ _ rfl fo7 rfl ⟨trivial, trivial, trivial, trivial, trivial⟩ ⟨.ro _ _ (.own 7 _ _ _ (.head _) rfl (fun _ => (d_api_Kept _))), .ro _ _ (.data _ (d_a8_u32 v5.2.1)), .ro _ _ (.data _ (d_a8_u32 (aset (fun _ => 0) [(0, 1)]))), .ro _ _ (.data _ (d_api_Kept ({ From := 0, Round := 2, Frame := (fun _ => (fun _ => z_api_Entry)) } : api_Kept))), trivial⟩ (kept_Take_spec v5.1 v5.2.1 (aset (fun _ => 0) [(0, 1)]) ({ From := 0, Round := 2, Frame := (fun _ => (fun _ => z_api_Entry)) } : api_Kept) _ h8) rfl (by simp) rfl trivial ⟨⟨Nat.le_of_ble_eq_true rfl, _, rfl, fun _ => (f_api_Kept _)⟩, trivial⟩ (.tup _ _ _ (fun j => match j with | 0 => .own 0 (Nat.le_of_ble_eq_true rfl) | 1 => .data _ ((f_a8_u32 v7.2.1)) | 2 => .data _ (trivial) | _ + 3 => .data _ trivial))), ⟨⟨rfl, rfl, rfl, rfl, trivial⟩, ⟨rfl, trivial⟩, rfl⟩, rfl,
    Step.plain rfl (does_move (.tmp 50) (resV [(.own 9), (e_a8_u32 v7.2.1), (.bool v7.2.2)]) trivial), ⟨⟨rfl, trivial⟩, trivial, rfl⟩, rfl,
    Step.plain rfl (does_extract 45 0 3 (fun j => [(.own 9), (e_a8_u32 v7.2.1), (.bool v7.2.2)].getD j (.bool false)) (Nat.le_of_ble_eq_true rfl)), ⟨⟨rfl, trivial⟩, trivial, rfl⟩, rfl,
    Step.plain rfl (does_extract 45 1 3 (fun j => [(.own 9), (e_a8_u32 v7.2.1), (.bool v7.2.2)].getD j (.bool false)) (Nat.le_of_ble_eq_true rfl)), ⟨⟨rfl, trivial⟩, trivial, rfl⟩, rfl,
    Step.plain rfl (does_extract 45 2 3 (fun j => [(.own 9), (e_a8_u32 v7.2.1), (.bool v7.2.2)].getD j (.bool false)) (Nat.le_of_ble_eq_true rfl)), ⟨⟨rfl, trivial⟩, trivial, rfl⟩, rfl,
    Step.plain rfl (does_alloc 25 11 (e_a8_u32 (fun _ => 0)) zr25), ⟨trivial, trivial, rfl⟩, rfl,
    Step.plain rfl (does_assign (.tmp 51) (.own 9) trivial), ⟨⟨rfl, trivial⟩, trivial, rfl⟩, rfl,
    Step.plain rfl (does_store 25 10 (.tmp 52) 11 0 [] (.var (e_a8_u32 (fun _ => 0))) (.var (e_a8_u32 v7.2.1)) (e_a8_u32 v7.2.1) true trivial rfl trivial rfl rfl rfl ty25), ⟨⟨rfl, rfl, trivial⟩, ⟨rfl, trivial⟩, rfl⟩, rfl,
    Step.plain rfl (does_assign (.tmp 53) (.bool v7.2.2) trivial), ⟨⟨rfl, trivial⟩, trivial, rfl⟩, rfl, rfl⟩ ?_
  refine aw_cov (cov_prune (s1 := ⟨[(3, (.ptr 3 0 [])), (4, (.bool v1.2.2)), (7, (.bool v3.2.2)), (2, (.own 7)), (8, (.bool v5.2.2)), (11, (.bool v7.2.2))], [(3, some (.var (e_a8_u32 v5.2.1))), (7, some (.arr 38 v5.1.length fun j => (e_api_Kept (v5.1.getD j z_api_Kept))))], 12⟩) ⟨rfl, rfl, rfl, rfl, rfl, rfl, trivial⟩ ⟨rfl, rfl, trivial⟩ (Nat.le_refl _)) ?_
  obtain ⟨v9, h10, H⟩ := bnd H
  refine aw_region (es := [_, _, _, _, _, _, _, _]) ⟨Step.plain rfl (does_move (.tmp 2) (.own 7) trivial), ⟨⟨rfl, trivial⟩, trivial, rfl⟩, rfl,
    Step.plain rfl (does_call 9 0 (fun _ => .any) (.func 9) [(.tmp 55), (.const (.int .i64 0)), (.const (.int .u32 3))] [(.own 7), (.int .i64 0), (.int .u32 3)] [(7, (.arr 38 v5.1.length fun j => (e_api_Kept (v5.1.getD j z_api_Kept))))] true [(e_s_api_Kept v5.1), (.int .i64 0), (.int .u32 3)] (resV [(e_a3_a2_api_Entry v9.1), (.bool v9.2)]) _ _ rfl fo9 rfl ⟨trivial, (fun _ => rfl), (fun _ => rfl), trivial⟩ ⟨.own 7 _ _ _ (.head _) rfl (fun _ => (d_api_Kept _)), .data _ trivial, .data _ trivial, trivial⟩ (kept_Get_spec v5.1 0 3 _ h10) (res_flat2 (f_a3_a2_api_Entry v9.1) trivial)), ⟨⟨rfl, trivial⟩, ⟨rfl, trivial⟩, rfl⟩, rfl,
    Step.plain rfl (does_move (.tmp 56) (resV [(e_a3_a2_api_Entry v9.1), (.bool v9.2)]) trivial), ⟨⟨rfl, trivial⟩, trivial, rfl⟩, rfl,
    Step.plain rfl (does_extract 54 0 2 (fun j => [(e_a3_a2_api_Entry v9.1), (.bool v9.2)].getD j (.bool false)) (Nat.le_of_ble_eq_true rfl)), ⟨⟨rfl, trivial⟩, trivial, rfl⟩, rfl,
    Step.plain rfl (does_extract 54 1 2 (fun j => [(e_a3_a2_api_Entry v9.1), (.bool v9.2)].getD j (.bool false)) (Nat.le_of_ble_eq_true rfl)), ⟨⟨rfl, trivial⟩, trivial, rfl⟩, rfl,
    Step.plain rfl (does_alloc 34 12 (e_a3_a2_api_Entry (fun _ => (fun _ => z_api_Entry))) zr34), ⟨trivial, trivial, rfl⟩, rfl,
    Step.plain rfl (does_store 34 12 (.tmp 57) 12 0 [] (.var (e_a3_a2_api_Entry (fun _ => (fun _ => z_api_Entry)))) (.var (e_a3_a2_api_Entry v9.1)) (e_a3_a2_api_Entry v9.1) true trivial rfl trivial rfl rfl rfl ty34), ⟨⟨rfl, rfl, trivial⟩, ⟨rfl, trivial⟩, rfl⟩, rfl,
    Step.plain rfl (does_assign (.tmp 58) (.bool v9.2) trivial), ⟨⟨rfl, trivial⟩, trivial, rfl⟩, rfl, rfl⟩ ?_
  refine aw_cov (cov_prune (s1 := ⟨[(3, (.ptr 3 0 [])), (4, (.bool v1.2.2)), (7, (.bool v3.2.2)), (2, (.own 7)), (8, (.bool v5.2.2)), (11, (.bool v7.2.2)), (13, (.bool v9.2))], [(3, some (.var (e_a8_u32 v5.2.1))), (7, some (.arr 38 v5.1.length fun j => (e_api_Kept (v5.1.getD j z_api_Kept))))], 13⟩) ⟨rfl, rfl, rfl, rfl, rfl, rfl, rfl, trivial⟩ ⟨rfl, rfl, trivial⟩ (Nat.le_refl _)) ?_
  obtain ⟨v11, h12, H⟩ := bnd H
  refine aw_region (es := [_, _, _, _, _, _, _, _]) ⟨Step.plain rfl (does_move (.tmp 2) (.own 7) trivial), ⟨⟨rfl, trivial⟩, trivial, rfl⟩, rfl,
    Step.plain rfl (does_call 9 0 (fun _ => .any) (.func 9) [(.tmp 60), (.const (.int .i64 0)), (.const (.int .u32 1))] [(.own 7), (.int .i64 0), (.int .u32 1)] [(7, (.arr 38 v5.1.length fun j => (e_api_Kept (v5.1.getD j z_api_Kept))))] true [(e_s_api_Kept v5.1), (.int .i64 0), (.int .u32 1)] (resV [(e_a3_a2_api_Entry v11.1), (.bool v11.2)]) _ _ rfl fo9 rfl ⟨trivial, (fun _ => rfl), (fun _ => rfl), trivial⟩ ⟨.own 7 _ _ _ (.head _) rfl (fun _ => (d_api_Kept _)), .data _ trivial, .data _ trivial, trivial⟩ (kept_Get_spec v5.1 0 1 _ h12) (res_flat2 (f_a3_a2_api_Entry v11.1) trivial)), ⟨⟨rfl, trivial⟩, ⟨rfl, trivial⟩, rfl⟩, rfl,
    Step.plain rfl (does_move (.tmp 61) (resV [(e_a3_a2_api_Entry v11.1), (.bool v11.2)]) trivial), ⟨⟨rfl, trivial⟩, trivial, rfl⟩, rfl,
    Step.plain rfl (does_extract 59 0 2 (fun j => [(e_a3_a2_api_Entry v11.1), (.bool v11.2)].getD j (.bool false)) (Nat.le_of_ble_eq_true rfl)), ⟨⟨rfl, trivial⟩, trivial, rfl⟩, rfl,
    Step.plain rfl (does_extract 59 1 2 (fun j => [(e_a3_a2_api_Entry v11.1), (.bool v11.2)].getD j (.bool false)) (Nat.le_of_ble_eq_true rfl)), ⟨⟨rfl, trivial⟩, trivial, rfl⟩, rfl,
    Step.plain rfl (does_alloc 34 13 (e_a3_a2_api_Entry (fun _ => (fun _ => z_api_Entry))) zr34), ⟨trivial, trivial, rfl⟩, rfl,
    Step.plain rfl (does_store 34 14 (.tmp 62) 13 0 [] (.var (e_a3_a2_api_Entry (fun _ => (fun _ => z_api_Entry)))) (.var (e_a3_a2_api_Entry v11.1)) (e_a3_a2_api_Entry v11.1) true trivial rfl trivial rfl rfl rfl ty34), ⟨⟨rfl, rfl, trivial⟩, ⟨rfl, trivial⟩, rfl⟩, rfl,
    Step.plain rfl (does_assign (.tmp 63) (.bool v11.2) trivial), ⟨⟨rfl, trivial⟩, trivial, rfl⟩, rfl, rfl⟩ ?_
  refine aw_cov (cov_prune (s1 := ⟨[(3, (.ptr 3 0 [])), (4, (.bool v1.2.2)), (7, (.bool v3.2.2)), (2, (.own 7)), (8, (.bool v5.2.2)), (11, (.bool v7.2.2)), (13, (.bool v9.2)), (15, (.bool v11.2))], [(3, some (.var (e_a8_u32 v5.2.1))), (7, some (.arr 38 v5.1.length fun j => (e_api_Kept (v5.1.getD j z_api_Kept))))], 14⟩) ⟨rfl, rfl, rfl, rfl, rfl, rfl, rfl, rfl, trivial⟩ ⟨rfl, rfl, trivial⟩ (Nat.le_refl _)) ?_
  obtain ⟨v13, h14, H⟩ := bnd H
  refine aw_region (es := [_, _, _, _, _, _, _, _]) ⟨Step.plain rfl (does_move (.tmp 2) (.own 7) trivial), ⟨⟨rfl, trivial⟩, trivial, rfl⟩, rfl,
    Step.plain rfl (does_call 11 0 (fun _ => .any) (.func 11) [(.tmp 65), (.const (.int .u32 3))] [(.own 7), (.int .u32 3)] [(7, (.arr 38 v5.1.length fun j => (e_api_Kept (v5.1.getD j z_api_Kept))))] true [(e_s_api_Kept v5.1), (.int .u32 3)] (resV [(e_api_Kept v13.1), (.bool v13.2)]) _ _ rfl fo11 rfl ⟨trivial, (fun _ => rfl), trivial⟩ ⟨.own 7 _ _ _ (.head _) rfl (fun _ => (d_api_Kept _)), .data _ trivial, trivial⟩ (kept_Pick_spec v5.1 3 _ h14) (res_flat2 (f_api_Kept v13.1) trivial)), ⟨⟨rfl, trivial⟩, ⟨rfl, trivial⟩, rfl⟩, rfl,
    Step.plain rfl (does_move (.tmp 66) (resV [(e_api_Kept v13.1), (.bool v13.2)]) trivial), ⟨⟨rfl, trivial⟩, trivial, rfl⟩, rfl,
    Step.plain rfl (does_extract 64 0 2 (fun j => [(e_api_Kept v13.1), (.bool v13.2)].getD j (.bool false)) (Nat.le_of_ble_eq_true rfl)), ⟨⟨rfl, trivial⟩, trivial, rfl⟩, rfl,
    Step.plain rfl (does_extract 64 1 2 (fun j => [(e_api_Kept v13.1), (.bool v13.2)].getD j (.bool false)) (Nat.le_of_ble_eq_true rfl)), ⟨⟨rfl, trivial⟩, trivial, rfl⟩, rfl,
    Step.plain rfl (does_alloc 36 14 (e_api_Kept z_api_Kept) zr36), ⟨trivial, trivial, rfl⟩, rfl,
    Step.plain rfl (does_store 36 16 (.tmp 67) 14 0 [] (.var (e_api_Kept z_api_Kept)) (.var (e_api_Kept v13.1)) (e_api_Kept v13.1) true trivial rfl trivial rfl rfl rfl ty36), ⟨⟨rfl, rfl, trivial⟩, ⟨rfl, trivial⟩, rfl⟩, rfl,
    Step.plain rfl (does_assign (.tmp 68) (.bool v13.2) trivial), ⟨⟨rfl, trivial⟩, trivial, rfl⟩, rfl, rfl⟩ ?_
  refine aw_cov (cov_prune (s1 := ⟨[(3, (.ptr 3 0 [])), (4, (.bool v1.2.2)), (7, (.bool v3.2.2)), (2, (.own 7)), (8, (.bool v5.2.2)), (11, (.bool v7.2.2)), (13, (.bool v9.2)), (15, (.bool v11.2)), (16, (.ptr 14 0 [])), (17, (.bool v13.2))], [(3, some (.var (e_a8_u32 v5.2.1))), (7, some (.arr 38 v5.1.length fun j => (e_api_Kept (v5.1.getD j z_api_Kept)))), (14, some (.var (e_api_Kept v13.1)))], 15⟩) ⟨rfl, rfl, rfl, rfl, rfl, rfl, rfl, rfl, rfl, rfl, trivial⟩ ⟨rfl, rfl, rfl, trivial⟩ (Nat.le_refl _)) ?_
  refine aw_region (es := [_, _, _, _, _, _, _, _, _, _, _, _, _, _, _, _, _, _, _, _, _, _, _, _, _, _, _, _, _, _, _, _, _, _, _, _, _, _]) ⟨Step.plain rfl (does_move (.tmp 4) (.bool v1.2.2) trivial), ⟨⟨rfl, trivial⟩, trivial, rfl⟩, rfl,
    Step.plain rfl (does_move (.tmp 69) (.bool v1.2.2) trivial), ⟨⟨rfl, trivial⟩, trivial, rfl⟩, rfl,
    Step.guarded rfl rfl rfl rfl (fun hc => does_move (.tmp 7) (.bool v3.2.2) trivial), ⟨⟨rfl, rfl, trivial⟩, trivial, rfl⟩, rfl,
    Step.guarded rfl rfl rfl rfl (fun hc => Does.strip (n' := [(71, (.opt v1.2.2 (.bool v3.2.2)))]) (n := [(71, (.bool v3.2.2))]) ⟨(.opt _ _ hc), trivial⟩ (does_not 4 (.tmp 71) v3.2.2 trivial)), ⟨⟨rfl, rfl, trivial⟩, trivial, rfl⟩, rfl,
    Step.plain rfl (does_and 70 72 v1.2.2 (!v3.2.2)), ⟨⟨rfl, rfl, trivial⟩, trivial, rfl⟩, rfl,
    Step.plain rfl (does_move (.tmp 73) (.bool (v1.2.2 && (!v3.2.2))) trivial), ⟨⟨rfl, trivial⟩, trivial, rfl⟩, rfl,
    Step.guarded rfl rfl rfl rfl (fun hc => does_move (.tmp 8) (.bool v5.2.2) trivial), ⟨⟨rfl, rfl, trivial⟩, trivial, rfl⟩, rfl,
    Step.plain rfl (does_and 74 75 (v1.2.2 && (!v3.2.2)) v5.2.2), ⟨⟨rfl, rfl, trivial⟩, trivial, rfl⟩, rfl,
    Step.plain rfl (does_move (.tmp 76) (.bool ((v1.2.2 && (!v3.2.2)) && v5.2.2)) trivial), ⟨⟨rfl, trivial⟩, trivial, rfl⟩, rfl,
    Step.guarded rfl rfl rfl rfl (fun hc => does_move (.tmp 11) (.bool v7.2.2) trivial), ⟨⟨rfl, rfl, trivial⟩, trivial, rfl⟩, rfl,
    Step.guarded rfl rfl rfl rfl (fun hc => Does.strip (n' := [(78, (.opt ((v1.2.2 && (!v3.2.2)) && v5.2.2) (.bool v7.2.2)))]) (n := [(78, (.bool v7.2.2))]) ⟨(.opt _ _ hc), trivial⟩ (does_not 4 (.tmp 78) v7.2.2 trivial)), ⟨⟨rfl, rfl, trivial⟩, trivial, rfl⟩, rfl,
    Step.plain rfl (does_and 77 79 ((v1.2.2 && (!v3.2.2)) && v5.2.2) (!v7.2.2)), ⟨⟨rfl, rfl, trivial⟩, trivial, rfl⟩, rfl,
    Step.plain rfl (does_move (.tmp 80) (.bool (((v1.2.2 && (!v3.2.2)) && v5.2.2) && (!v7.2.2))) trivial), ⟨⟨rfl, trivial⟩, trivial, rfl⟩, rfl,
    Step.guarded rfl rfl rfl rfl (fun hc => does_move (.tmp 13) (.bool v9.2) trivial), ⟨⟨rfl, rfl, trivial⟩, trivial, rfl⟩, rfl,
    Step.guarded rfl rfl rfl rfl (fun hc => Does.strip (n' := [(82, (.opt (((v1.2.2 && (!v3.2.2)) && v5.2.2) && (!v7.2.2)) (.bool v9.2)))]) (n := [(82, (.bool v9.2))]) ⟨(.opt _ _ hc), trivial⟩ (does_not 4 (.tmp 82) v9.2 trivial)), ⟨⟨rfl, rfl, trivial⟩, trivial, rfl⟩, rfl,
    Step.plain rfl (does_and 81 83 (((v1.2.2 && (!v3.2.2)) && v5.2.2) && (!v7.2.2)) (!v9.2)), ⟨⟨rfl, rfl, trivial⟩, trivial, rfl⟩, rfl,
    Step.plain rfl (does_move (.tmp 84) (.bool ((((v1.2.2 && (!v3.2.2)) && v5.2.2) && (!v7.2.2)) && (!v9.2))) trivial), ⟨⟨rfl, trivial⟩, trivial, rfl⟩, rfl,
    Step.guarded rfl rfl rfl rfl (fun hc => does_move (.tmp 15) (.bool v11.2) trivial), ⟨⟨rfl, rfl, trivial⟩, trivial, rfl⟩, rfl,
    Step.plain rfl (does_and 85 86 ((((v1.2.2 && (!v3.2.2)) && v5.2.2) && (!v7.2.2)) && (!v9.2)) v11.2), ⟨⟨rfl, rfl, trivial⟩, trivial, rfl⟩, rfl,
    Step.plain rfl (does_move (.tmp 87) (.bool (((((v1.2.2 && (!v3.2.2)) && v5.2.2) && (!v7.2.2)) && (!v9.2)) && v11.2)) trivial), ⟨⟨rfl, trivial⟩, trivial, rfl⟩, rfl,
    Step.guarded rfl rfl rfl rfl (fun hc => does_move (.tmp 17) (.bool v13.2) trivial), ⟨⟨rfl, rfl, trivial⟩, trivial, rfl⟩, rfl,
    Step.plain rfl (does_and 88 89 (((((v1.2.2 && (!v3.2.2)) && v5.2.2) && (!v7.2.2)) && (!v9.2)) && v11.2) v13.2), ⟨⟨rfl, rfl, trivial⟩, trivial, rfl⟩, rfl,
    Step.plain rfl (does_move (.tmp 90) (.bool ((((((v1.2.2 && (!v3.2.2)) && v5.2.2) && (!v7.2.2)) && (!v9.2)) && v11.2) && v13.2)) trivial), ⟨⟨rfl, trivial⟩, trivial, rfl⟩, rfl,
    Step.guarded rfl rfl rfl rfl (fun hc => does_fieldAddr 36 1 1 16 14 0 [] (.var (e_api_Kept v13.1)) fl36_1), ⟨⟨rfl, rfl, trivial⟩, ⟨rfl, trivial⟩, rfl⟩, rfl,
    Step.guarded rfl rfl rfl rfl (fun hc => Does.strip (n' := [(92, (.opt ((((((v1.2.2 && (!v3.2.2)) && v5.2.2) && (!v7.2.2)) && (!v9.2)) && v11.2) && v13.2) (.ptr 14 (0 + 1) [1])))]) (n := [(92, (.ptr 14 (0 + 1) [1]))]) ⟨(.opt _ _ hc), trivial⟩ (does_load 23 92 14 (0 + 1) [1] (.var (e_api_Kept v13.1)) (.int .u32 v13.1.Round) ⟨rfl, Nat.le_of_ble_eq_true rfl, trivial⟩ rfl rfl ty23)), ⟨⟨rfl, rfl, trivial⟩, ⟨rfl, trivial⟩, rfl⟩, rfl,
    Step.guarded rfl rfl rfl rfl (fun hc => Does.strip (n' := [(93, (.opt ((((((v1.2.2 && (!v3.2.2)) && v5.2.2) && (!v7.2.2)) && (!v9.2)) && v11.2) && v13.2) (.int .u32 v13.1.Round)))]) (n := [(93, (.int .u32 v13.1.Round))]) ⟨(.opt _ _ hc), trivial⟩ (does_bin .eql 23 23 (.tmp 93) (.const (.int .u32 2)) .u32 v13.1.Round 2 (.bool (v13.1.Round == 2)) trivial (fun _ => rfl) (bin_eql _ _ _ _))), ⟨⟨rfl, rfl, trivial⟩, trivial, rfl⟩, rfl,
    Step.plain rfl (does_and 91 94 ((((((v1.2.2 && (!v3.2.2)) && v5.2.2) && (!v7.2.2)) && (!v9.2)) && v11.2) && v13.2) (v13.1.Round == 2)), ⟨⟨rfl, rfl, trivial⟩, trivial, rfl⟩, rfl,
    Step.plain rfl (does_move (.tmp 95) (.bool (((((((v1.2.2 && (!v3.2.2)) && v5.2.2) && (!v7.2.2)) && (!v9.2)) && v11.2) && v13.2) && (v13.1.Round == 2))) trivial), ⟨⟨rfl, trivial⟩, trivial, rfl⟩, rfl,
    Step.guarded rfl rfl rfl rfl (fun hc => does_move (.tmp 2) (.own 7) trivial), ⟨⟨rfl, rfl, trivial⟩, trivial, rfl⟩, rfl,
    Step.guarded rfl rfl rfl rfl (fun hc => Does.strip (n' := [(97, (.opt (((((((v1.2.2 && (!v3.2.2)) && v5.2.2) && (!v7.2.2)) && (!v9.2)) && v11.2) && v13.2) && (v13.1.Round == 2)) (.own 7)))]) (n := [(97, (.own 7))]) ⟨(.opt _ _ hc), trivial⟩ (does_leno 22 38 v5.1.length 97 7 (fun j => (e_api_Kept (v5.1.getD j z_api_Kept))) el22)), ⟨⟨rfl, rfl, trivial⟩, ⟨rfl, trivial⟩, rfl⟩, rfl,
    Step.guarded rfl rfl rfl rfl (fun hc => Does.strip (n' := [(98, (.opt (((((((v1.2.2 && (!v3.2.2)) && v5.2.2) && (!v7.2.2)) && (!v9.2)) && v11.2) && v13.2) && (v13.1.Round == 2)) (.int .i64 (v5.1.length : Int))))]) (n := [(98, (.int .i64 (v5.1.length : Int)))]) ⟨(.opt _ _ hc), trivial⟩ (does_bin .eql 3 3 (.tmp 98) (.const (.int .i64 2)) .i64 (v5.1.length : Int) 2 (.bool ((v5.1.length : Int) == 2)) trivial (fun _ => rfl) (bin_eql _ _ _ _))), ⟨⟨rfl, rfl, trivial⟩, trivial, rfl⟩, rfl,
    Step.plain rfl (does_and 96 99 (((((((v1.2.2 && (!v3.2.2)) && v5.2.2) && (!v7.2.2)) && (!v9.2)) && v11.2) && v13.2) && (v13.1.Round == 2)) ((v5.1.length : Int) == 2)), ⟨⟨rfl, rfl, trivial⟩, trivial, rfl⟩, rfl,
    Step.plain rfl (does_move (.tmp 100) (.bool ((((((((v1.2.2 && (!v3.2.2)) && v5.2.2) && (!v7.2.2)) && (!v9.2)) && v11.2) && v13.2) && (v13.1.Round == 2)) && ((v5.1.length : Int) == 2))) trivial), ⟨⟨rfl, trivial⟩, trivial, rfl⟩, rfl,
    Step.guarded rfl rfl rfl rfl (fun hc => does_indexAddr 25 8 1 3 3 0 [] (.var (e_a8_u32 v5.2.1)) (.const (.int .i64 0)) .i64 0 el25 (fun _ => rfl) (by decide) (by decide)), ⟨⟨rfl, rfl, trivial⟩, ⟨rfl, trivial⟩, rfl⟩, rfl,
    Step.guarded rfl rfl rfl rfl (fun hc => Does.strip (n' := [(102, (.opt ((((((((v1.2.2 && (!v3.2.2)) && v5.2.2) && (!v7.2.2)) && (!v9.2)) && v11.2) && v13.2) && (v13.1.Round == 2)) && ((v5.1.length : Int) == 2)) (.ptr 3 (0 + 0 * 1) [0])))]) (n := [(102, (.ptr 3 (0 + 0 * 1) [0]))]) ⟨(.opt _ _ hc), trivial⟩ (does_load 23 102 3 (0 + 0 * 1) [0] (.var (e_a8_u32 v5.2.1)) (.int .u32 (v5.2.1 0)) ⟨rfl, (Nat.le_of_ble_eq_true rfl), trivial⟩ rfl rfl ty23)), ⟨⟨rfl, rfl, trivial⟩, ⟨rfl, trivial⟩, rfl⟩, rfl,
    Step.guarded rfl rfl rfl rfl (fun hc => Does.strip (n' := [(103, (.opt ((((((((v1.2.2 && (!v3.2.2)) && v5.2.2) && (!v7.2.2)) && (!v9.2)) && v11.2) && v13.2) && (v13.1.Round == 2)) && ((v5.1.length : Int) == 2)) (.int .u32 (v5.2.1 0))))]) (n := [(103, (.int .u32 (v5.2.1 0)))]) ⟨(.opt _ _ hc), trivial⟩ (does_bin .eql 23 23 (.tmp 103) (.const (.int .u32 2)) .u32 (v5.2.1 0) 2 (.bool ((v5.2.1 0) == 2)) trivial (fun _ => rfl) (bin_eql _ _ _ _))), ⟨⟨rfl, rfl, trivial⟩, trivial, rfl⟩, rfl,
    Step.plain rfl (does_and 101 104 ((((((((v1.2.2 && (!v3.2.2)) && v5.2.2) && (!v7.2.2)) && (!v9.2)) && v11.2) && v13.2) && (v13.1.Round == 2)) && ((v5.1.length : Int) == 2)) ((v5.2.1 0) == 2)), ⟨⟨rfl, rfl, trivial⟩, trivial, rfl⟩, rfl,
    Step.plain rfl (does_assign (.tmp 105) (.bool (((((((((v1.2.2 && (!v3.2.2)) && v5.2.2) && (!v7.2.2)) && (!v9.2)) && v11.2) && v13.2) && (v13.1.Round == 2)) && ((v5.1.length : Int) == 2)) && ((v5.2.1 0) == 2))) trivial), ⟨⟨rfl, trivial⟩, trivial, rfl⟩, rfl, rfl⟩ ?_
  obtain ⟨v15, hv15, H⟩ := lt_of H
  refine aw_cov (cov_prune (s1 := ⟨[(0, (.bool v15))], [], 15⟩) ⟨(by subst hv15; rfl), trivial⟩ trivial (Nat.le_refl _)) ?_
  refine aw_ret ?_
  exact fun a w hr => ⟨_, [(.bool v15)], hr, ⟨⟨_, rfl, .data (.bool v15) trivial⟩, trivial⟩, by decide, by cases H; rfl⟩

theorem congressref10_Same_spec (p0 : (_root_.List api_Kept)) (p1 : (_root_.List api_Kept)) (r : Bool) (H : congressref10_Same p0 p1 = some r) : FSpec Try.prog 14 [(e_s_api_Kept p0), (e_s_api_Kept p1)] (.bool r) := by
  refine spec_of (fn := Try.f14) (args := [(e_s_api_Kept p0), (e_s_api_Kept p1)]) Try.func14 rfl (Nat.le_of_ble_eq_true rfl) ?_
  rintro ⟨G, w0, W, S, Sp⟩ hG
  cases hG
  unfold congressref10_Same at H
  refine aw_region (es := [_]) ⟨Step.plain rfl (does_assign (.const (.bool false)) (.bool false) (fun _ => rfl)), ⟨trivial, trivial, rfl⟩, rfl, rfl⟩ ?_
  refine aw_cov (cov_prune (s1 := ⟨[(0, (e_s_api_Kept p0)), (1, (e_s_api_Kept p1))], [], 0⟩) ⟨rfl, rfl, trivial⟩ trivial (Nat.le_refl _)) ?_
  refine aw_seq ?_
  refine aw_region (es := [_, _, _, _, _]) ⟨Step.plain rfl (does_move (.tmp 0) (e_s_api_Kept p0) trivial), ⟨⟨rfl, trivial⟩, trivial, rfl⟩, rfl,
    Step.plain rfl (does_lens 22 38 p0.length 6 (fun j => (e_api_Kept (p0.getD j z_api_Kept))) el22), ⟨⟨rfl, trivial⟩, trivial, rfl⟩, rfl,
    Step.plain rfl (does_move (.tmp 1) (e_s_api_Kept p1) trivial), ⟨⟨rfl, trivial⟩, trivial, rfl⟩, rfl,
    Step.plain rfl (does_lens 22 38 p1.length 8 (fun j => (e_api_Kept (p1.getD j z_api_Kept))) el22), ⟨⟨rfl, trivial⟩, trivial, rfl⟩, rfl,
    Step.plain rfl (does_bin .neq 3 3 (.tmp 7) (.tmp 9) .i64 (p0.length : Int) (p1.length : Int) (.bool ((p0.length : Int) != (p1.length : Int))) trivial trivial (bin_neq _ _ _ _)), ⟨⟨rfl, rfl, trivial⟩, trivial, rfl⟩, rfl, rfl⟩ ?_
  refine aw_cov (cov_prune (s1 := ⟨[(0, (e_s_api_Kept p0)), (1, (e_s_api_Kept p1)), (10, (.bool ((p0.length : Int) != (p1.length : Int))))], [], 0⟩) ⟨rfl, rfl, rfl, trivial⟩ trivial (Nat.le_refl _)) ?_
  refine aw_cond rfl (fun hc => ?_) (fun hc => ?_)
  · replace H := ite_t hc H
    refine aw_region (es := [_]) ⟨Step.plain rfl (does_assign (.const (.bool false)) (.bool false) (fun _ => rfl)), ⟨trivial, trivial, rfl⟩, rfl, rfl⟩ ?_
    refine aw_cov (cov_prune (s1 := ⟨[(4, (.bool false))], [], 0⟩) ⟨rfl, trivial⟩ trivial (Nat.le_refl _)) ?_
    refine aw_ret ?_
    refine rt_then ?_
    exact fun a w hr => ⟨_, [(.bool false)], hr, ⟨⟨_, rfl, .data (.bool false) trivial⟩, trivial⟩, by decide, by cases H; rfl⟩
  · replace H := ite_f hc H
    refine aw_skip ?_
    refine nx_seq ?_
    refine aw_seq ?_
    refine aw_region (es := [_]) ⟨Step.plain rfl (does_assign (.const (.int .i64 0)) (.int .i64 0) (fun _ => rfl)), ⟨trivial, trivial, rfl⟩, rfl, rfl⟩ ?_
    refine aw_cov (cov_prune (s1 := ⟨[(0, (e_s_api_Kept p0)), (1, (e_s_api_Kept p1)), (5, (.int .i64 0))], [], 0⟩) ⟨rfl, rfl, rfl, trivial⟩ trivial (Nat.le_refl _)) ?_
    obtain ⟨wn2, hwn2, Hrn2⟩ := bnd H
    refine aw_meet (fun y6 : Unit => (⟨[], [], 0⟩ : St)) (fun y6 => Fl.nx y6 = wn2) (fun y6 hy => ?_) (aw_block (aw_runs (fun x1 : Int => (⟨[(0, (e_s_api_Kept p0)), (1, (e_s_api_Kept p1)), (5, (.int .i64 x1))], [], 0⟩ : St)) hwn2 (cov_prune ⟨rfl, rfl, rfl, trivial⟩ trivial (Nat.le_of_ble_eq_true rfl)) (fun x1 st H hsn2 => ?_)))
    · have H := nx_of hy Hrn2
      refine nx_seq ?_
      refine aw_region (es := [_]) ⟨Step.plain rfl (does_assign (.const (.bool true)) (.bool true) (fun _ => rfl)), ⟨trivial, trivial, rfl⟩, rfl, rfl⟩ ?_
      refine aw_cov (cov_prune (s1 := ⟨[(4, (.bool true))], [], 0⟩) ⟨rfl, trivial⟩ trivial (Nat.le_refl _)) ?_
      refine aw_ret ?_
      exact fun a w hr => ⟨_, [(.bool true)], hr, ⟨⟨_, rfl, .data (.bool true) trivial⟩, trivial⟩, by decide, by cases H; rfl⟩
    · refine aw_seq ?_
      refine aw_region (es := [_, _, _, _]) ⟨Step.plain rfl (does_move (.tmp 5) (.int .i64 x1) trivial), ⟨⟨rfl, trivial⟩, trivial, rfl⟩, rfl,
        Step.plain rfl (does_move (.tmp 0) (e_s_api_Kept p0) trivial), ⟨⟨rfl, trivial⟩, trivial, rfl⟩, rfl,
        Step.plain rfl (does_lens 22 38 p0.length 12 (fun j => (e_api_Kept (p0.getD j z_api_Kept))) el22), ⟨⟨rfl, trivial⟩, trivial, rfl⟩, rfl,
        Step.plain rfl (does_bin .lss 3 3 (.tmp 11) (.tmp 13) .i64 x1 (p0.length : Int) (.bool (decide (x1 < (p0.length : Int)))) trivial trivial (bin_lss _ _ _ _)), ⟨⟨rfl, rfl, trivial⟩, trivial, rfl⟩, rfl, rfl⟩ ?_
      refine aw_cov (cov_prune (s1 := ⟨[(0, (e_s_api_Kept p0)), (1, (e_s_api_Kept p1)), (5, (.int .i64 x1)), (14, (.bool (decide (x1 < (p0.length : Int)))))], [], 0⟩) ⟨rfl, rfl, rfl, rfl, trivial⟩ trivial (Nat.le_refl _)) ?_
      refine aw_cond rfl (fun hc => ?_) (fun hc => ?_)
      · replace H := ite_t hc H
        refine aw_skip ?_
        refine nx_seq ?_
        refine aw_seq ?_
        refine aw_block ?_
        obtain ⟨h3, H⟩ := ib_of H
        obtain ⟨h4, H⟩ := ib_of H
        refine aw_draw (es := [_, _, _, _, _, _, _, _, _]) (mixed) ⟨Step.plain rfl (does_move (.tmp 0) (e_s_api_Kept p0) trivial), ⟨⟨rfl, trivial⟩, trivial, rfl⟩, rfl,
          Step.plain rfl (does_move (.tmp 5) (.int .i64 x1) trivial), ⟨⟨rfl, trivial⟩, trivial, rfl⟩, rfl,
          Step.plain rfl (does_indexAddrs 22 38 p0.length 17 (fun j => (e_api_Kept (p0.getD j z_api_Kept))) (.tmp 18) .i64 x1 el22 trivial h3.1 h3.2), ⟨⟨rfl, rfl, trivial⟩, trivial, rfl⟩, rfl,
          Step.plain rfl (does_loadc 36 19 (e_api_Kept (p0.getD x1.toNat z_api_Kept)) ty36), ⟨⟨rfl, trivial⟩, trivial, rfl⟩, rfl,
          Step.plain rfl (does_move (.tmp 1) (e_s_api_Kept p1) trivial), ⟨⟨rfl, trivial⟩, trivial, rfl⟩, rfl,
          Step.plain rfl (does_move (.tmp 5) (.int .i64 x1) trivial), ⟨⟨rfl, trivial⟩, trivial, rfl⟩, rfl,
          Step.plain rfl (does_indexAddrs 22 38 p1.length 21 (fun j => (e_api_Kept (p1.getD j z_api_Kept))) (.tmp 22) .i64 x1 el22 trivial h4.1 h4.2), ⟨⟨rfl, rfl, trivial⟩, trivial, rfl⟩, rfl,
          Step.plain rfl (does_loadc 36 23 (e_api_Kept (p1.getD x1.toNat z_api_Kept)) ty36), ⟨⟨rfl, trivial⟩, trivial, rfl⟩, rfl,
          Step.plain rfl (does_eqT true 36 36 (.tmp 20) (.tmp 24) (e_api_Kept (p0.getD x1.toNat z_api_Kept)) (e_api_Kept (p1.getD x1.toNat z_api_Kept)) (e_api_Kept z_api_Kept) (b_api_Kept (p0.getD x1.toNat z_api_Kept) (p1.getD x1.toNat z_api_Kept)) rfl rfl trivial trivial eg36 sh36 (al_api_Kept _ _) (al_api_Kept _ _) (q_api_Kept _ _)), ⟨⟨rfl, rfl, trivial⟩, trivial, rfl⟩, rfl, rfl⟩ rfl ?_
        obtain ⟨v5, hv5, H⟩ := lt_of H
        refine aw_cov (cov_prune (s1 := ⟨[(0, (e_s_api_Kept p0)), (1, (e_s_api_Kept p1)), (5, (.int .i64 x1)), (25, (.bool v5))], [], 0⟩) ⟨rfl, rfl, rfl, (by subst hv5; rfl), trivial⟩ trivial (Nat.le_refl _)) ?_
        refine aw_cond rfl (fun hc => ?_) (fun hc => ?_)
        · replace H := ite_t hc H
          refine aw_region (es := [_]) ⟨Step.plain rfl (does_assign (.const (.bool false)) (.bool false) (fun _ => rfl)), ⟨trivial, trivial, rfl⟩, rfl, rfl⟩ ?_
          refine aw_cov (cov_prune (s1 := ⟨[(4, (.bool false))], [], 0⟩) ⟨rfl, trivial⟩ trivial (Nat.le_refl _)) ?_
          refine aw_ret ?_
          replace H := rt_of H hsn2 Hrn2
          refine rt_blk ?_
          refine rt_then ?_
          refine rt_then ?_
          refine rt_blk ?_
          refine rt_then ?_
          refine rt_then ?_
          exact fun a w hr => ⟨_, [(.bool false)], hr, ⟨⟨_, rfl, .data (.bool false) trivial⟩, trivial⟩, by decide, by cases H; rfl⟩
        · replace H := ite_f hc H
          refine aw_skip ?_
          refine nx_blk ?_
          refine nx_seq ?_
          refine aw_region1 (es := [_, _, _]) ⟨Step.plain rfl (does_move (.tmp 5) (.int .i64 x1) trivial), ⟨⟨rfl, trivial⟩, trivial, rfl⟩, rfl,
            Step.plain rfl (does_bin .add 3 3 (.tmp 15) (.const (.int .i64 1)) .i64 x1 1 (.int .i64 (IntKind.i64.wrap (x1 + 1))) trivial (fun _ => rfl) (bin_add _ _ _ _)), ⟨⟨rfl, trivial⟩, trivial, rfl⟩, rfl,
            Step.plain rfl (does_assign (.tmp 16) (.int .i64 (IntKind.i64.wrap (x1 + 1))) trivial), ⟨⟨rfl, trivial⟩, trivial, rfl⟩, rfl, rfl⟩ ?_
          exact nx_loop ((IntKind.i64.wrap (x1 + 1))) H (cov_prune ⟨rfl, rfl, rfl, trivial⟩ trivial (Nat.le_of_ble_eq_true rfl))
      · replace H := ite_f hc H
        refine aw_exit ?_
        refine ex_then ?_
        refine ex_then ?_
        refine ex_here ?_
        exact nx_ljoin () H hsn2 (cov_prune trivial trivial (Nat.le_of_ble_eq_true rfl))

theorem congresslaw10_KeptTakes_spec (p0 : congresslaw10_Was) (p1 : api_Kept) (p2 : Int) (r : Bool) (H : congresslaw10_KeptTakes p0 p1 p2 = some r) : FSpec Try.prog 3 [(e_congresslaw10_Was p0), (e_api_Kept p1), (.int .u32 p2)] (.bool r) := by
  refine spec_of (fn := Try.f3) (args := [(e_congresslaw10_Was p0), (e_api_Kept p1), (.int .u32 p2)]) Try.func3 rfl (Nat.le_of_ble_eq_true rfl) ?_
  rintro ⟨G, w0, W, S, Sp⟩ hG
  cases hG
  unfold congresslaw10_KeptTakes at H
  refine aw_region (es := [_, _, _]) ⟨Step.plain rfl (does_box 28 (.tmp 0) 0 (e_congresslaw10_Was p0) trivial rfl), ⟨⟨rfl, trivial⟩, trivial, rfl⟩, rfl,
    Step.plain rfl (does_box 36 (.tmp 1) 1 (e_api_Kept p1) trivial rfl), ⟨⟨rfl, trivial⟩, trivial, rfl⟩, rfl,
    Step.plain rfl (does_assign (.const (.bool false)) (.bool false) (fun _ => rfl)), ⟨trivial, trivial, rfl⟩, rfl, rfl⟩ ?_
  refine aw_cov (cov_prune (s1 := ⟨[(2, (.int .u32 p2)), (3, (.ptr 0 0 [])), (4, (.ptr 1 0 []))], [(0, some (.var (e_congresslaw10_Was p0))), (1, some (.var (e_api_Kept p1)))], 2⟩) ⟨rfl, rfl, rfl, trivial⟩ ⟨rfl, rfl, trivial⟩ (Nat.le_refl _)) ?_
  obtain ⟨v1, h2, H⟩ := bnd H
  refine aw_region (es := [_, _, _, _, _, _, _, _, _, _, _, _, _, _, _, _]) ⟨Step.plain rfl (does_fieldAddr 28 0 0 3 0 0 [] (.var (e_congresslaw10_Was p0)) fl28_0), ⟨⟨rfl, trivial⟩, ⟨rfl, trivial⟩, rfl⟩, rfl,
    Step.plain rfl (does_load 22 22 0 (0 + 0) [0] (.var (e_congresslaw10_Was p0)) (e_s_api_Kept p0.L) ⟨rfl, Nat.le_of_ble_eq_true rfl, trivial⟩ rfl rfl ty22), ⟨⟨rfl, trivial⟩, ⟨rfl, trivial⟩, rfl⟩, rfl,
    Step.plain rfl (does_fieldAddr 28 1 1 3 0 0 [] (.var (e_congresslaw10_Was p0)) fl28_1), ⟨⟨rfl, trivial⟩, ⟨rfl, trivial⟩, rfl⟩, rfl,
    Step.plain rfl (does_load 25 24 0 (0 + 1) [1] (.var (e_congresslaw10_Was p0)) (e_a8_u32 p0.C) ⟨rfl, Nat.le_of_ble_eq_true rfl, trivial⟩ rfl rfl ty25), ⟨⟨rfl, trivial⟩, ⟨rfl, trivial⟩, rfl⟩, rfl,
    Step.plain rfl (does_fieldAddr 28 2 9 3 0 0 [] (.var (e_congresslaw10_Was p0)) fl28_2), ⟨⟨rfl, trivial⟩, ⟨rfl, trivial⟩, rfl⟩, rfl,
    Step.plain rfl (does_load 26 26 0 (0 + 9) [2] (.var (e_congresslaw10_Was p0)) (e_a8_u32 p0.M) ⟨rfl, Nat.le_of_ble_eq_true rfl, trivial⟩ rfl rfl ty26), ⟨⟨rfl, trivial⟩, ⟨rfl, trivial⟩, rfl⟩, rfl,
    Step.plain rfl (does_load 36 4 1 0 [] (.var (e_api_Kept p1)) (e_api_Kept p1) trivial rfl rfl ty36), ⟨⟨rfl, trivial⟩, ⟨rfl, trivial⟩, rfl⟩, rfl,
    Step.plain rfl (does_callO 7 0 (fun _ => .any) (.func 7) [(.tmp 23), (.tmp 25), (.tmp 27), (.tmp 28)] [(e_s_api_Kept p0.L), (e_a8_u32 p0.C), (e_a8_u32 p0.M), (e_api_Kept p1)] [] [] true [(e_s_api_Kept p0.L), (e_a8_u32 p0.C), (e_a8_u32 p0.M), (e_api_Kept p1)] _ (resV [(.own 2), (e_a8_u32 v1.2.1), (.bool v1.2.2)]) _ 2 2 _ _ rfl fo7 rfl ⟨trivial, trivial, trivial, trivial, trivial⟩ ⟨.ro _ _ (.data _ (d_s_api_Kept p0.L)), .ro _ _ (.data _ (d_a8_u32 p0.C)), .ro _ _ (.data _ (d_a8_u32 p0.M)), .ro _ _ (.data _ (d_api_Kept p1)), trivial⟩ (kept_Take_spec p0.L p0.C p0.M p1 _ h2) rfl (by simp) rfl trivial ⟨⟨Nat.le_of_ble_eq_true rfl, _, rfl, fun _ => (f_api_Kept _)⟩, trivial⟩ (.tup _ _ _ (fun j => match j with | 0 => .own 0 (Nat.le_of_ble_eq_true rfl) | 1 => .data _ ((f_a8_u32 v1.2.1)) | 2 => .data _ (trivial) | _ + 3 => .data _ trivial))), ⟨⟨rfl, rfl, rfl, rfl, trivial⟩, trivial, rfl⟩, rfl,
    Step.plain rfl (does_move (.tmp 29) (resV [(.own 2), (e_a8_u32 v1.2.1), (.bool v1.2.2)]) trivial), ⟨⟨rfl, trivial⟩, trivial, rfl⟩, rfl,
    Step.plain rfl (does_extract 21 0 3 (fun j => [(.own 2), (e_a8_u32 v1.2.1), (.bool v1.2.2)].getD j (.bool false)) (Nat.le_of_ble_eq_true rfl)), ⟨⟨rfl, trivial⟩, trivial, rfl⟩, rfl,
    Step.plain rfl (does_extract 21 1 3 (fun j => [(.own 2), (e_a8_u32 v1.2.1), (.bool v1.2.2)].getD j (.bool false)) (Nat.le_of_ble_eq_true rfl)), ⟨⟨rfl, trivial⟩, trivial, rfl⟩, rfl,
    Step.plain rfl (does_extract 21 2 3 (fun j => [(.own 2), (e_a8_u32 v1.2.1), (.bool v1.2.2)].getD j (.bool false)) (Nat.le_of_ble_eq_true rfl)), ⟨⟨rfl, trivial⟩, trivial, rfl⟩, rfl,
    Step.plain rfl (does_alloc 25 4 (e_a8_u32 (fun _ => 0)) zr25), ⟨trivial, trivial, rfl⟩, rfl,
    Step.plain rfl (does_assign (.tmp 30) (.own 2) trivial), ⟨⟨rfl, trivial⟩, trivial, rfl⟩, rfl,
    Step.plain rfl (does_store 25 8 (.tmp 31) 4 0 [] (.var (e_a8_u32 (fun _ => 0))) (.var (e_a8_u32 v1.2.1)) (e_a8_u32 v1.2.1) true trivial rfl trivial rfl rfl rfl ty25), ⟨⟨rfl, rfl, trivial⟩, ⟨rfl, trivial⟩, rfl⟩, rfl,
    Step.plain rfl (does_assign (.tmp 32) (.bool v1.2.2) trivial), ⟨⟨rfl, trivial⟩, trivial, rfl⟩, rfl, rfl⟩ ?_
  refine aw_cov (cov_prune (s1 := ⟨[(2, (.int .u32 p2)), (3, (.ptr 0 0 [])), (4, (.ptr 1 0 [])), (8, (.ptr 4 0 [])), (7, (.own 2)), (9, (.bool v1.2.2))], [(0, some (.var (e_congresslaw10_Was p0))), (1, some (.var (e_api_Kept p1))), (2, some (.arr 38 v1.1.length fun j => (e_api_Kept (v1.1.getD j z_api_Kept)))), (4, some (.var (e_a8_u32 v1.2.1)))], 5⟩) ⟨rfl, rfl, rfl, rfl, rfl, rfl, trivial⟩ ⟨rfl, rfl, rfl, rfl, trivial⟩ (Nat.le_refl _)) ?_
  obtain ⟨v3, h4, H⟩ := bnd H
  refine aw_region (es := [_, _, _, _, _, _, _, _, _, _, _, _, _, _, _, _]) ⟨Step.plain rfl (does_fieldAddr 28 0 0 3 0 0 [] (.var (e_congresslaw10_Was p0)) fl28_0), ⟨⟨rfl, trivial⟩, ⟨rfl, trivial⟩, rfl⟩, rfl,
    Step.plain rfl (does_load 22 34 0 (0 + 0) [0] (.var (e_congresslaw10_Was p0)) (e_s_api_Kept p0.L) ⟨rfl, Nat.le_of_ble_eq_true rfl, trivial⟩ rfl rfl ty22), ⟨⟨rfl, trivial⟩, ⟨rfl, trivial⟩, rfl⟩, rfl,
    Step.plain rfl (does_fieldAddr 28 1 1 3 0 0 [] (.var (e_congresslaw10_Was p0)) fl28_1), ⟨⟨rfl, trivial⟩, ⟨rfl, trivial⟩, rfl⟩, rfl,
    Step.plain rfl (does_load 25 36 0 (0 + 1) [1] (.var (e_congresslaw10_Was p0)) (e_a8_u32 p0.C) ⟨rfl, Nat.le_of_ble_eq_true rfl, trivial⟩ rfl rfl ty25), ⟨⟨rfl, trivial⟩, ⟨rfl, trivial⟩, rfl⟩, rfl,
    Step.plain rfl (does_fieldAddr 28 2 9 3 0 0 [] (.var (e_congresslaw10_Was p0)) fl28_2), ⟨⟨rfl, trivial⟩, ⟨rfl, trivial⟩, rfl⟩, rfl,
    Step.plain rfl (does_load 26 38 0 (0 + 9) [2] (.var (e_congresslaw10_Was p0)) (e_a8_u32 p0.M) ⟨rfl, Nat.le_of_ble_eq_true rfl, trivial⟩ rfl rfl ty26), ⟨⟨rfl, trivial⟩, ⟨rfl, trivial⟩, rfl⟩, rfl,
    Step.plain rfl (does_load 36 4 1 0 [] (.var (e_api_Kept p1)) (e_api_Kept p1) trivial rfl rfl ty36), ⟨⟨rfl, trivial⟩, ⟨rfl, trivial⟩, rfl⟩, rfl,
    Step.plain rfl (does_call 8 0 (fun _ => .any) (.func 8) [(.tmp 35), (.tmp 37), (.tmp 39), (.tmp 40)] [(e_s_api_Kept p0.L), (e_a8_u32 p0.C), (e_a8_u32 p0.M), (e_api_Kept p1)] [] false [(e_s_api_Kept p0.L), (e_a8_u32 p0.C), (e_a8_u32 p0.M), (e_api_Kept p1)] (resV [(e_s_api_Kept v3.1), (e_a8_u32 v3.2.1), (.bool v3.2.2)]) _ _ rfl fo8 rfl ⟨trivial, trivial, trivial, trivial, trivial⟩ ⟨.data _ (d_s_api_Kept p0.L), .data _ (d_a8_u32 p0.C), .data _ (d_a8_u32 p0.M), .data _ (d_api_Kept p1), trivial⟩ (congressref10_Take_spec p0.L p0.C p0.M p1 _ h4) (res_data3 (d_s_api_Kept v3.1) (d_a8_u32 v3.2.1) trivial)), ⟨⟨rfl, rfl, rfl, rfl, trivial⟩, trivial, rfl⟩, rfl,
    Step.plain rfl (does_move (.tmp 41) (resV [(e_s_api_Kept v3.1), (e_a8_u32 v3.2.1), (.bool v3.2.2)]) trivial), ⟨⟨rfl, trivial⟩, trivial, rfl⟩, rfl,
    Step.plain rfl (does_extract 33 0 3 (fun j => [(e_s_api_Kept v3.1), (e_a8_u32 v3.2.1), (.bool v3.2.2)].getD j (.bool false)) (Nat.le_of_ble_eq_true rfl)), ⟨⟨rfl, trivial⟩, trivial, rfl⟩, rfl,
    Step.plain rfl (does_extract 33 1 3 (fun j => [(e_s_api_Kept v3.1), (e_a8_u32 v3.2.1), (.bool v3.2.2)].getD j (.bool false)) (Nat.le_of_ble_eq_true rfl)), ⟨⟨rfl, trivial⟩, trivial, rfl⟩, rfl,
    Step.plain rfl (does_extract 33 2 3 (fun j => [(e_s_api_Kept v3.1), (e_a8_u32 v3.2.1), (.bool v3.2.2)].getD j (.bool false)) (Nat.le_of_ble_eq_true rfl)), ⟨⟨rfl, trivial⟩, trivial, rfl⟩, rfl,
    Step.plain rfl (does_alloc 25 5 (e_a8_u32 (fun _ => 0)) zr25), ⟨trivial, trivial, rfl⟩, rfl,
    Step.plain rfl (does_assign (.tmp 42) (e_s_api_Kept v3.1) trivial), ⟨⟨rfl, trivial⟩, trivial, rfl⟩, rfl,
    Step.plain rfl (does_store 25 11 (.tmp 43) 5 0 [] (.var (e_a8_u32 (fun _ => 0))) (.var (e_a8_u32 v3.2.1)) (e_a8_u32 v3.2.1) true trivial rfl trivial rfl rfl rfl ty25), ⟨⟨rfl, rfl, trivial⟩, ⟨rfl, trivial⟩, rfl⟩, rfl,
    Step.plain rfl (does_assign (.tmp 44) (.bool v3.2.2) trivial), ⟨⟨rfl, trivial⟩, trivial, rfl⟩, rfl, rfl⟩ ?_
  refine aw_cov (cov_prune (s1 := ⟨[(2, (.int .u32 p2)), (3, (.ptr 0 0 [])), (4, (.ptr 1 0 [])), (8, (.ptr 4 0 [])), (7, (.own 2)), (9, (.bool v1.2.2)), (11, (.ptr 5 0 [])), (10, (e_s_api_Kept v3.1)), (12, (.bool v3.2.2))], [(0, some (.var (e_congresslaw10_Was p0))), (1, some (.var (e_api_Kept p1))), (2, some (.arr 38 v1.1.length fun j => (e_api_Kept (v1.1.getD j z_api_Kept)))), (4, some (.var (e_a8_u32 v1.2.1))), (5, some (.var (e_a8_u32 v3.2.1)))], 6⟩) ⟨rfl, rfl, rfl, rfl, rfl, rfl, rfl, rfl, rfl, trivial⟩ ⟨rfl, rfl, rfl, rfl, rfl, trivial⟩ (Nat.le_refl _)) ?_
  obtain ⟨v5, h6, H⟩ := bnd H
  refine aw_region (es := [_, _, _, _, _, _, _, _, _, _, _, _, _]) ⟨Step.plain rfl (does_fieldAddr 28 0 0 3 0 0 [] (.var (e_congresslaw10_Was p0)) fl28_0), ⟨⟨rfl, trivial⟩, ⟨rfl, trivial⟩, rfl⟩, rfl,
    Step.plain rfl (does_load 22 46 0 (0 + 0) [0] (.var (e_congresslaw10_Was p0)) (e_s_api_Kept p0.L) ⟨rfl, Nat.le_of_ble_eq_true rfl, trivial⟩ rfl rfl ty22), ⟨⟨rfl, trivial⟩, ⟨rfl, trivial⟩, rfl⟩, rfl,
    Step.plain rfl (does_fieldAddr 36 0 0 4 1 0 [] (.var (e_api_Kept p1)) fl36_0), ⟨⟨rfl, trivial⟩, ⟨rfl, trivial⟩, rfl⟩, rfl,
    Step.plain rfl (does_load 3 48 1 (0 + 0) [0] (.var (e_api_Kept p1)) (.int .i64 p1.From) ⟨rfl, Nat.le_of_ble_eq_true rfl, trivial⟩ rfl rfl ty3), ⟨⟨rfl, trivial⟩, ⟨rfl, trivial⟩, rfl⟩, rfl,
    Step.plain rfl (does_fieldAddr 36 1 1 4 1 0 [] (.var (e_api_Kept p1)) fl36_1), ⟨⟨rfl, trivial⟩, ⟨rfl, trivial⟩, rfl⟩, rfl,
    Step.plain rfl (does_load 23 50 1 (0 + 1) [1] (.var (e_api_Kept p1)) (.int .u32 p1.Round) ⟨rfl, Nat.le_of_ble_eq_true rfl, trivial⟩ rfl rfl ty23), ⟨⟨rfl, trivial⟩, ⟨rfl, trivial⟩, rfl⟩, rfl,
    Step.plain rfl (does_call 9 0 (fun _ => .any) (.func 9) [(.tmp 47), (.tmp 49), (.tmp 51)] [(e_s_api_Kept p0.L), (.int .i64 p1.From), (.int .u32 p1.Round)] [] true [(e_s_api_Kept p0.L), (.int .i64 p1.From), (.int .u32 p1.Round)] (resV [(e_a3_a2_api_Entry v5.1), (.bool v5.2)]) _ _ rfl fo9 rfl ⟨trivial, trivial, trivial, trivial⟩ ⟨.data _ (d_s_api_Kept p0.L), .data _ trivial, .data _ trivial, trivial⟩ (kept_Get_spec p0.L p1.From p1.Round _ h6) (res_flat2 (f_a3_a2_api_Entry v5.1) trivial)), ⟨⟨rfl, rfl, rfl, trivial⟩, trivial, rfl⟩, rfl,
    Step.plain rfl (does_move (.tmp 52) (resV [(e_a3_a2_api_Entry v5.1), (.bool v5.2)]) trivial), ⟨⟨rfl, trivial⟩, trivial, rfl⟩, rfl,
    Step.plain rfl (does_extract 45 0 2 (fun j => [(e_a3_a2_api_Entry v5.1), (.bool v5.2)].getD j (.bool false)) (Nat.le_of_ble_eq_true rfl)), ⟨⟨rfl, trivial⟩, trivial, rfl⟩, rfl,
    Step.plain rfl (does_extract 45 1 2 (fun j => [(e_a3_a2_api_Entry v5.1), (.bool v5.2)].getD j (.bool false)) (Nat.le_of_ble_eq_true rfl)), ⟨⟨rfl, trivial⟩, trivial, rfl⟩, rfl,
    Step.plain rfl (does_alloc 34 6 (e_a3_a2_api_Entry (fun _ => (fun _ => z_api_Entry))) zr34), ⟨trivial, trivial, rfl⟩, rfl,
    Step.plain rfl (does_store 34 13 (.tmp 53) 6 0 [] (.var (e_a3_a2_api_Entry (fun _ => (fun _ => z_api_Entry)))) (.var (e_a3_a2_api_Entry v5.1)) (e_a3_a2_api_Entry v5.1) true trivial rfl trivial rfl rfl rfl ty34), ⟨⟨rfl, rfl, trivial⟩, ⟨rfl, trivial⟩, rfl⟩, rfl,
    Step.plain rfl (does_assign (.tmp 54) (.bool v5.2) trivial), ⟨⟨rfl, trivial⟩, trivial, rfl⟩, rfl, rfl⟩ ?_
  refine aw_cov (cov_prune (s1 := ⟨[(2, (.int .u32 p2)), (3, (.ptr 0 0 [])), (4, (.ptr 1 0 [])), (8, (.ptr 4 0 [])), (7, (.own 2)), (9, (.bool v1.2.2)), (11, (.ptr 5 0 [])), (10, (e_s_api_Kept v3.1)), (12, (.bool v3.2.2)), (13, (.ptr 6 0 [])), (14, (.bool v5.2))], [(0, some (.var (e_congresslaw10_Was p0))), (1, some (.var (e_api_Kept p1))), (2, some (.arr 38 v1.1.length fun j => (e_api_Kept (v1.1.getD j z_api_Kept)))), (4, some (.var (e_a8_u32 v1.2.1))), (5, some (.var (e_a8_u32 v3.2.1))), (6, some (.var (e_a3_a2_api_Entry v5.1)))], 7⟩) ⟨rfl, rfl, rfl, rfl, rfl, rfl, rfl, rfl, rfl, rfl, rfl, trivial⟩ ⟨rfl, rfl, rfl, rfl, rfl, rfl, trivial⟩ (Nat.le_refl _)) ?_
  obtain ⟨v7, h8, H⟩ := bnd H
  refine aw_region (es := [_, _, _, _, _, _, _, _, _, _, _, _, _]) ⟨Step.plain rfl (does_fieldAddr 28 0 0 3 0 0 [] (.var (e_congresslaw10_Was p0)) fl28_0), ⟨⟨rfl, trivial⟩, ⟨rfl, trivial⟩, rfl⟩, rfl,
    Step.plain rfl (does_load 22 56 0 (0 + 0) [0] (.var (e_congresslaw10_Was p0)) (e_s_api_Kept p0.L) ⟨rfl, Nat.le_of_ble_eq_true rfl, trivial⟩ rfl rfl ty22), ⟨⟨rfl, trivial⟩, ⟨rfl, trivial⟩, rfl⟩, rfl,
    Step.plain rfl (does_fieldAddr 36 0 0 4 1 0 [] (.var (e_api_Kept p1)) fl36_0), ⟨⟨rfl, trivial⟩, ⟨rfl, trivial⟩, rfl⟩, rfl,
    Step.plain rfl (does_load 3 58 1 (0 + 0) [0] (.var (e_api_Kept p1)) (.int .i64 p1.From) ⟨rfl, Nat.le_of_ble_eq_true rfl, trivial⟩ rfl rfl ty3), ⟨⟨rfl, trivial⟩, ⟨rfl, trivial⟩, rfl⟩, rfl,
    Step.plain rfl (does_fieldAddr 36 1 1 4 1 0 [] (.var (e_api_Kept p1)) fl36_1), ⟨⟨rfl, trivial⟩, ⟨rfl, trivial⟩, rfl⟩, rfl,
    Step.plain rfl (does_load 23 60 1 (0 + 1) [1] (.var (e_api_Kept p1)) (.int .u32 p1.Round) ⟨rfl, Nat.le_of_ble_eq_true rfl, trivial⟩ rfl rfl ty23), ⟨⟨rfl, trivial⟩, ⟨rfl, trivial⟩, rfl⟩, rfl,
    Step.plain rfl (does_call 10 0 (fun _ => .any) (.func 10) [(.tmp 57), (.tmp 59), (.tmp 61)] [(e_s_api_Kept p0.L), (.int .i64 p1.From), (.int .u32 p1.Round)] [] true [(e_s_api_Kept p0.L), (.int .i64 p1.From), (.int .u32 p1.Round)] (resV [(e_a3_a2_api_Entry v7.1), (.bool v7.2)]) _ _ rfl fo10 rfl ⟨trivial, trivial, trivial, trivial⟩ ⟨.data _ (d_s_api_Kept p0.L), .data _ trivial, .data _ trivial, trivial⟩ (congressref10_Get_spec p0.L p1.From p1.Round _ h8) (res_flat2 (f_a3_a2_api_Entry v7.1) trivial)), ⟨⟨rfl, rfl, rfl, trivial⟩, trivial, rfl⟩, rfl,
    Step.plain rfl (does_move (.tmp 62) (resV [(e_a3_a2_api_Entry v7.1), (.bool v7.2)]) trivial), ⟨⟨rfl, trivial⟩, trivial, rfl⟩, rfl,
    Step.plain rfl (does_extract 55 0 2 (fun j => [(e_a3_a2_api_Entry v7.1), (.bool v7.2)].getD j (.bool false)) (Nat.le_of_ble_eq_true rfl)), ⟨⟨rfl, trivial⟩, trivial, rfl⟩, rfl,
    Step.plain rfl (does_extract 55 1 2 (fun j => [(e_a3_a2_api_Entry v7.1), (.bool v7.2)].getD j (.bool false)) (Nat.le_of_ble_eq_true rfl)), ⟨⟨rfl, trivial⟩, trivial, rfl⟩, rfl,
    Step.plain rfl (does_alloc 34 7 (e_a3_a2_api_Entry (fun _ => (fun _ => z_api_Entry))) zr34), ⟨trivial, trivial, rfl⟩, rfl,
    Step.plain rfl (does_store 34 15 (.tmp 63) 7 0 [] (.var (e_a3_a2_api_Entry (fun _ => (fun _ => z_api_Entry)))) (.var (e_a3_a2_api_Entry v7.1)) (e_a3_a2_api_Entry v7.1) true trivial rfl trivial rfl rfl rfl ty34), ⟨⟨rfl, rfl, trivial⟩, ⟨rfl, trivial⟩, rfl⟩, rfl,
    Step.plain rfl (does_assign (.tmp 64) (.bool v7.2) trivial), ⟨⟨rfl, trivial⟩, trivial, rfl⟩, rfl, rfl⟩ ?_
  refine aw_cov (cov_prune (s1 := ⟨[(2, (.int .u32 p2)), (3, (.ptr 0 0 [])), (8, (.ptr 4 0 [])), (7, (.own 2)), (9, (.bool v1.2.2)), (11, (.ptr 5 0 [])), (10, (e_s_api_Kept v3.1)), (12, (.bool v3.2.2)), (13, (.ptr 6 0 [])), (14, (.bool v5.2)), (15, (.ptr 7 0 [])), (16, (.bool v7.2))], [(0, some (.var (e_congresslaw10_Was p0))), (2, some (.arr 38 v1.1.length fun j => (e_api_Kept (v1.1.getD j z_api_Kept)))), (4, some (.var (e_a8_u32 v1.2.1))), (5, some (.var (e_a8_u32 v3.2.1))), (6, some (.var (e_a3_a2_api_Entry v5.1))), (7, some (.var (e_a3_a2_api_Entry v7.1)))], 8⟩) ⟨rfl, rfl, rfl, rfl, rfl, rfl, rfl, rfl, rfl, rfl, rfl, rfl, trivial⟩ ⟨rfl, rfl, rfl, rfl, rfl, rfl, trivial⟩ (Nat.le_refl _)) ?_
  obtain ⟨v9, h10, H⟩ := bnd H
  refine aw_region (es := [_, _, _, _, _, _, _, _, _, _]) ⟨Step.plain rfl (does_fieldAddr 28 0 0 3 0 0 [] (.var (e_congresslaw10_Was p0)) fl28_0), ⟨⟨rfl, trivial⟩, ⟨rfl, trivial⟩, rfl⟩, rfl,
    Step.plain rfl (does_load 22 66 0 (0 + 0) [0] (.var (e_congresslaw10_Was p0)) (e_s_api_Kept p0.L) ⟨rfl, Nat.le_of_ble_eq_true rfl, trivial⟩ rfl rfl ty22), ⟨⟨rfl, trivial⟩, ⟨rfl, trivial⟩, rfl⟩, rfl,
    Step.plain rfl (does_move (.tmp 2) (.int .u32 p2) trivial), ⟨⟨rfl, trivial⟩, trivial, rfl⟩, rfl,
    Step.plain rfl (does_call 11 0 (fun _ => .any) (.func 11) [(.tmp 67), (.tmp 68)] [(e_s_api_Kept p0.L), (.int .u32 p2)] [] true [(e_s_api_Kept p0.L), (.int .u32 p2)] (resV [(e_api_Kept v9.1), (.bool v9.2)]) _ _ rfl fo11 rfl ⟨trivial, trivial, trivial⟩ ⟨.data _ (d_s_api_Kept p0.L), .data _ trivial, trivial⟩ (kept_Pick_spec p0.L p2 _ h10) (res_flat2 (f_api_Kept v9.1) trivial)), ⟨⟨rfl, rfl, trivial⟩, trivial, rfl⟩, rfl,
    Step.plain rfl (does_move (.tmp 69) (resV [(e_api_Kept v9.1), (.bool v9.2)]) trivial), ⟨⟨rfl, trivial⟩, trivial, rfl⟩, rfl,
    Step.plain rfl (does_extract 65 0 2 (fun j => [(e_api_Kept v9.1), (.bool v9.2)].getD j (.bool false)) (Nat.le_of_ble_eq_true rfl)), ⟨⟨rfl, trivial⟩, trivial, rfl⟩, rfl,
    Step.plain rfl (does_extract 65 1 2 (fun j => [(e_api_Kept v9.1), (.bool v9.2)].getD j (.bool false)) (Nat.le_of_ble_eq_true rfl)), ⟨⟨rfl, trivial⟩, trivial, rfl⟩, rfl,
    Step.plain rfl (does_alloc 36 8 (e_api_Kept z_api_Kept) zr36), ⟨trivial, trivial, rfl⟩, rfl,
    Step.plain rfl (does_store 36 17 (.tmp 70) 8 0 [] (.var (e_api_Kept z_api_Kept)) (.var (e_api_Kept v9.1)) (e_api_Kept v9.1) true trivial rfl trivial rfl rfl rfl ty36), ⟨⟨rfl, rfl, trivial⟩, ⟨rfl, trivial⟩, rfl⟩, rfl,
    Step.plain rfl (does_assign (.tmp 71) (.bool v9.2) trivial), ⟨⟨rfl, trivial⟩, trivial, rfl⟩, rfl, rfl⟩ ?_
  refine aw_cov (cov_prune (s1 := ⟨[(2, (.int .u32 p2)), (3, (.ptr 0 0 [])), (8, (.ptr 4 0 [])), (7, (.own 2)), (9, (.bool v1.2.2)), (11, (.ptr 5 0 [])), (10, (e_s_api_Kept v3.1)), (12, (.bool v3.2.2)), (13, (.ptr 6 0 [])), (14, (.bool v5.2)), (15, (.ptr 7 0 [])), (16, (.bool v7.2)), (17, (.ptr 8 0 [])), (18, (.bool v9.2))], [(0, some (.var (e_congresslaw10_Was p0))), (2, some (.arr 38 v1.1.length fun j => (e_api_Kept (v1.1.getD j z_api_Kept)))), (4, some (.var (e_a8_u32 v1.2.1))), (5, some (.var (e_a8_u32 v3.2.1))), (6, some (.var (e_a3_a2_api_Entry v5.1))), (7, some (.var (e_a3_a2_api_Entry v7.1))), (8, some (.var (e_api_Kept v9.1)))], 9⟩) ⟨rfl, rfl, rfl, rfl, rfl, rfl, rfl, rfl, rfl, rfl, rfl, rfl, rfl, rfl, trivial⟩ ⟨rfl, rfl, rfl, rfl, rfl, rfl, rfl, trivial⟩ (Nat.le_refl _)) ?_
  obtain ⟨v11, h12, H⟩ := bnd H
  refine aw_region (es := [_, _, _, _, _, _, _, _, _, _]) ⟨Step.plain rfl (does_fieldAddr 28 0 0 3 0 0 [] (.var (e_congresslaw10_Was p0)) fl28_0), ⟨⟨rfl, trivial⟩, ⟨rfl, trivial⟩, rfl⟩, rfl,
    Step.plain rfl (does_load 22 73 0 (0 + 0) [0] (.var (e_congresslaw10_Was p0)) (e_s_api_Kept p0.L) ⟨rfl, Nat.le_of_ble_eq_true rfl, trivial⟩ rfl rfl ty22), ⟨⟨rfl, trivial⟩, ⟨rfl, trivial⟩, rfl⟩, rfl,
    Step.plain rfl (does_move (.tmp 2) (.int .u32 p2) trivial), ⟨⟨rfl, trivial⟩, trivial, rfl⟩, rfl,
    Step.plain rfl (does_call 12 0 (fun _ => .any) (.func 12) [(.tmp 74), (.tmp 75)] [(e_s_api_Kept p0.L), (.int .u32 p2)] [] true [(e_s_api_Kept p0.L), (.int .u32 p2)] (resV [(e_api_Kept v11.1), (.bool v11.2)]) _ _ rfl fo12 rfl ⟨trivial, trivial, trivial⟩ ⟨.data _ (d_s_api_Kept p0.L), .data _ trivial, trivial⟩ (congressref10_Pick_spec p0.L p2 _ h12) (res_flat2 (f_api_Kept v11.1) trivial)), ⟨⟨rfl, rfl, trivial⟩, trivial, rfl⟩, rfl,
    Step.plain rfl (does_move (.tmp 76) (resV [(e_api_Kept v11.1), (.bool v11.2)]) trivial), ⟨⟨rfl, trivial⟩, trivial, rfl⟩, rfl,
    Step.plain rfl (does_extract 72 0 2 (fun j => [(e_api_Kept v11.1), (.bool v11.2)].getD j (.bool false)) (Nat.le_of_ble_eq_true rfl)), ⟨⟨rfl, trivial⟩, trivial, rfl⟩, rfl,
    Step.plain rfl (does_extract 72 1 2 (fun j => [(e_api_Kept v11.1), (.bool v11.2)].getD j (.bool false)) (Nat.le_of_ble_eq_true rfl)), ⟨⟨rfl, trivial⟩, trivial, rfl⟩, rfl,
    Step.plain rfl (does_alloc 36 9 (e_api_Kept z_api_Kept) zr36), ⟨trivial, trivial, rfl⟩, rfl,
    Step.plain rfl (does_store 36 19 (.tmp 77) 9 0 [] (.var (e_api_Kept z_api_Kept)) (.var (e_api_Kept v11.1)) (e_api_Kept v11.1) true trivial rfl trivial rfl rfl rfl ty36), ⟨⟨rfl, rfl, trivial⟩, ⟨rfl, trivial⟩, rfl⟩, rfl,
    Step.plain rfl (does_assign (.tmp 78) (.bool v11.2) trivial), ⟨⟨rfl, trivial⟩, trivial, rfl⟩, rfl, rfl⟩ ?_
  refine aw_cov (cov_prune (s1 := ⟨[(8, (.ptr 4 0 [])), (7, (.own 2)), (9, (.bool v1.2.2)), (11, (.ptr 5 0 [])), (10, (e_s_api_Kept v3.1)), (12, (.bool v3.2.2)), (13, (.ptr 6 0 [])), (14, (.bool v5.2)), (15, (.ptr 7 0 [])), (16, (.bool v7.2)), (17, (.ptr 8 0 [])), (18, (.bool v9.2)), (19, (.ptr 9 0 [])), (20, (.bool v11.2))], [(2, some (.arr 38 v1.1.length fun j => (e_api_Kept (v1.1.getD j z_api_Kept)))), (4, some (.var (e_a8_u32 v1.2.1))), (5, some (.var (e_a8_u32 v3.2.1))), (6, some (.var (e_a3_a2_api_Entry v5.1))), (7, some (.var (e_a3_a2_api_Entry v7.1))), (8, some (.var (e_api_Kept v9.1))), (9, some (.var (e_api_Kept v11.1)))], 10⟩) ⟨rfl, rfl, rfl, rfl, rfl, rfl, rfl, rfl, rfl, rfl, rfl, rfl, rfl, rfl, trivial⟩ ⟨rfl, rfl, rfl, rfl, rfl, rfl, rfl, trivial⟩ (Nat.le_refl _)) ?_
  obtain ⟨v13, h14, H⟩ := bnd H
  obtain ⟨v15, h16, H⟩ := whn_of H
  refine aw_region (es := [_, _, _, _, _, _, _, _, _, _, _, _, _, _, _, _, _, _, _, _, _, _, _, _, _, _, _, _, _, _, _, _, _, _, _, _, _]) ⟨Step.plain rfl (does_call 13 0 (fun _ => .any) (.func 13) [] [] [] true [] (.bool v13) _ _ rfl fo13 rfl trivial trivial (congresslaw10_fixed_spec _ h14) trivial), ⟨trivial, trivial, rfl⟩, rfl,
    Step.plain rfl (does_move (.tmp 79) (.bool v13) trivial), ⟨⟨rfl, trivial⟩, trivial, rfl⟩, rfl,
    Step.guarded rfl rfl rfl rfl (fun hc => does_move (.tmp 7) (.own 2) trivial), ⟨⟨rfl, rfl, trivial⟩, trivial, rfl⟩, rfl,
    Step.guarded rfl rfl rfl rfl (fun hc => does_move (.tmp 10) (e_s_api_Kept v3.1) trivial), ⟨⟨rfl, rfl, trivial⟩, trivial, rfl⟩, rfl,
    Step.guarded rfl rfl rfl rfl (fun hc => Does.strip (n' := [(81, (.opt v13 (.own 2))), (82, (.opt v13 (e_s_api_Kept v3.1)))]) (n := [(81, (.own 2)), (82, (e_s_api_Kept v3.1))]) ⟨(.opt _ _ hc), (.opt _ _ hc), trivial⟩ (does_call 14 0 (fun _ => .any) (.func 14) [(.tmp 81), (.tmp 82)] [(.own 2), (e_s_api_Kept v3.1)] [(2, (.arr 38 v1.1.length fun j => (e_api_Kept (v1.1.getD j z_api_Kept))))] true [(e_s_api_Kept v1.1), (e_s_api_Kept v3.1)] (.bool v15) _ _ rfl fo14 rfl ⟨trivial, trivial, trivial⟩ ⟨.own 2 _ _ _ (.head _) rfl (fun _ => (d_api_Kept _)), .data _ (d_s_api_Kept v3.1), trivial⟩ (congressref10_Same_spec v1.1 v3.1 _ (h16 hc)) trivial)), ⟨⟨rfl, rfl, rfl, trivial⟩, ⟨rfl, trivial⟩, rfl⟩, rfl,
    Step.plain rfl (does_and 80 83 v13 v15), ⟨⟨rfl, rfl, trivial⟩, trivial, rfl⟩, rfl,
    Step.plain rfl (does_move (.tmp 84) (.bool (v13 && v15)) trivial), ⟨⟨rfl, trivial⟩, trivial, rfl⟩, rfl,
    Step.guarded rfl rfl rfl rfl (fun hc => does_load 25 8 4 0 [] (.var (e_a8_u32 v1.2.1)) (e_a8_u32 v1.2.1) trivial rfl rfl ty25), ⟨⟨rfl, rfl, trivial⟩, ⟨rfl, trivial⟩, rfl⟩, rfl,
    Step.guarded rfl rfl rfl rfl (fun hc => does_load 25 11 5 0 [] (.var (e_a8_u32 v3.2.1)) (e_a8_u32 v3.2.1) trivial rfl rfl ty25), ⟨⟨rfl, rfl, trivial⟩, ⟨rfl, trivial⟩, rfl⟩, rfl,
    Step.guarded rfl rfl rfl rfl (fun hc => Does.strip (n' := [(86, (.opt (v13 && v15) (e_a8_u32 v1.2.1))), (87, (.opt (v13 && v15) (e_a8_u32 v3.2.1)))]) (n := [(86, (e_a8_u32 v1.2.1)), (87, (e_a8_u32 v3.2.1))]) ⟨(.opt _ _ hc), (.opt _ _ hc), trivial⟩ (does_eqT false 25 25 (.tmp 86) (.tmp 87) (e_a8_u32 v1.2.1) (e_a8_u32 v3.2.1) (e_a8_u32 (fun _ => 0)) (b_a8_u32 v1.2.1 v3.2.1) rfl rfl trivial trivial eg25 sh25 (al_a8_u32 _ _) (al_a8_u32 _ _) (q_a8_u32 _ _))), ⟨⟨rfl, rfl, rfl, trivial⟩, trivial, rfl⟩, rfl,
    Step.plain rfl (does_and 85 88 (v13 && v15) (b_a8_u32 v1.2.1 v3.2.1)), ⟨⟨rfl, rfl, trivial⟩, trivial, rfl⟩, rfl,
    Step.plain rfl (does_move (.tmp 89) (.bool ((v13 && v15) && (b_a8_u32 v1.2.1 v3.2.1))) trivial), ⟨⟨rfl, trivial⟩, trivial, rfl⟩, rfl,
    Step.guarded rfl rfl rfl rfl (fun hc => does_move (.tmp 9) (.bool v1.2.2) trivial), ⟨⟨rfl, rfl, trivial⟩, trivial, rfl⟩, rfl,
    Step.guarded rfl rfl rfl rfl (fun hc => does_move (.tmp 12) (.bool v3.2.2) trivial), ⟨⟨rfl, rfl, trivial⟩, trivial, rfl⟩, rfl,
    Step.guarded rfl rfl rfl rfl (fun hc => Does.strip (n' := [(91, (.opt ((v13 && v15) && (b_a8_u32 v1.2.1 v3.2.1)) (.bool v1.2.2))), (92, (.opt ((v13 && v15) && (b_a8_u32 v1.2.1 v3.2.1)) (.bool v3.2.2)))]) (n := [(91, (.bool v1.2.2)), (92, (.bool v3.2.2))]) ⟨(.opt _ _ hc), (.opt _ _ hc), trivial⟩ (does_eqBool false 4 4 (.tmp 91) (.tmp 92) v1.2.2 v3.2.2 trivial trivial rfl)), ⟨⟨rfl, rfl, rfl, trivial⟩, trivial, rfl⟩, rfl,
    Step.plain rfl (does_and 90 93 ((v13 && v15) && (b_a8_u32 v1.2.1 v3.2.1)) (v1.2.2 == v3.2.2)), ⟨⟨rfl, rfl, trivial⟩, trivial, rfl⟩, rfl,
    Step.plain rfl (does_move (.tmp 94) (.bool (((v13 && v15) && (b_a8_u32 v1.2.1 v3.2.1)) && (v1.2.2 == v3.2.2))) trivial), ⟨⟨rfl, trivial⟩, trivial, rfl⟩, rfl,
    Step.guarded rfl rfl rfl rfl (fun hc => does_load 34 13 6 0 [] (.var (e_a3_a2_api_Entry v5.1)) (e_a3_a2_api_Entry v5.1) trivial rfl rfl ty34), ⟨⟨rfl, rfl, trivial⟩, ⟨rfl, trivial⟩, rfl⟩, rfl,
    Step.guarded rfl rfl rfl rfl (fun hc => does_load 34 15 7 0 [] (.var (e_a3_a2_api_Entry v7.1)) (e_a3_a2_api_Entry v7.1) trivial rfl rfl ty34), ⟨⟨rfl, rfl, trivial⟩, ⟨rfl, trivial⟩, rfl⟩, rfl,
    Step.guarded rfl rfl rfl rfl (fun hc => Does.strip (n' := [(96, (.opt (((v13 && v15) && (b_a8_u32 v1.2.1 v3.2.1)) && (v1.2.2 == v3.2.2)) (e_a3_a2_api_Entry v5.1))), (97, (.opt (((v13 && v15) && (b_a8_u32 v1.2.1 v3.2.1)) && (v1.2.2 == v3.2.2)) (e_a3_a2_api_Entry v7.1)))]) (n := [(96, (e_a3_a2_api_Entry v5.1)), (97, (e_a3_a2_api_Entry v7.1))]) ⟨(.opt _ _ hc), (.opt _ _ hc), trivial⟩ (does_eqT false 34 34 (.tmp 96) (.tmp 97) (e_a3_a2_api_Entry v5.1) (e_a3_a2_api_Entry v7.1) (e_a3_a2_api_Entry (fun _ => (fun _ => z_api_Entry))) (b_a3_a2_api_Entry v5.1 v7.1) rfl rfl trivial trivial eg34 sh34 (al_a3_a2_api_Entry _ _) (al_a3_a2_api_Entry _ _) (q_a3_a2_api_Entry _ _))), ⟨⟨rfl, rfl, rfl, trivial⟩, trivial, rfl⟩, rfl,
    Step.plain rfl (does_and 95 98 (((v13 && v15) && (b_a8_u32 v1.2.1 v3.2.1)) && (v1.2.2 == v3.2.2)) (b_a3_a2_api_Entry v5.1 v7.1)), ⟨⟨rfl, rfl, trivial⟩, trivial, rfl⟩, rfl,
    Step.plain rfl (does_move (.tmp 99) (.bool ((((v13 && v15) && (b_a8_u32 v1.2.1 v3.2.1)) && (v1.2.2 == v3.2.2)) && (b_a3_a2_api_Entry v5.1 v7.1))) trivial), ⟨⟨rfl, trivial⟩, trivial, rfl⟩, rfl,
    Step.guarded rfl rfl rfl rfl (fun hc => does_move (.tmp 14) (.bool v5.2) trivial), ⟨⟨rfl, rfl, trivial⟩, trivial, rfl⟩, rfl,
    Step.guarded rfl rfl rfl rfl (fun hc => does_move (.tmp 16) (.bool v7.2) trivial), ⟨⟨rfl, rfl, trivial⟩, trivial, rfl⟩, rfl,
    Step.guarded rfl rfl rfl rfl (fun hc => Does.strip (n' := [(101, (.opt ((((v13 && v15) && (b_a8_u32 v1.2.1 v3.2.1)) && (v1.2.2 == v3.2.2)) && (b_a3_a2_api_Entry v5.1 v7.1)) (.bool v5.2))), (102, (.opt ((((v13 && v15) && (b_a8_u32 v1.2.1 v3.2.1)) && (v1.2.2 == v3.2.2)) && (b_a3_a2_api_Entry v5.1 v7.1)) (.bool v7.2)))]) (n := [(101, (.bool v5.2)), (102, (.bool v7.2))]) ⟨(.opt _ _ hc), (.opt _ _ hc), trivial⟩ (does_eqBool false 4 4 (.tmp 101) (.tmp 102) v5.2 v7.2 trivial trivial rfl)), ⟨⟨rfl, rfl, rfl, trivial⟩, trivial, rfl⟩, rfl,
    Step.plain rfl (does_and 100 103 ((((v13 && v15) && (b_a8_u32 v1.2.1 v3.2.1)) && (v1.2.2 == v3.2.2)) && (b_a3_a2_api_Entry v5.1 v7.1)) (v5.2 == v7.2)), ⟨⟨rfl, rfl, trivial⟩, trivial, rfl⟩, rfl,
    Step.plain rfl (does_move (.tmp 104) (.bool (((((v13 && v15) && (b_a8_u32 v1.2.1 v3.2.1)) && (v1.2.2 == v3.2.2)) && (b_a3_a2_api_Entry v5.1 v7.1)) && (v5.2 == v7.2))) trivial), ⟨⟨rfl, trivial⟩, trivial, rfl⟩, rfl,
    Step.guarded rfl rfl rfl rfl (fun hc => does_load 36 17 8 0 [] (.var (e_api_Kept v9.1)) (e_api_Kept v9.1) trivial rfl rfl ty36), ⟨⟨rfl, rfl, trivial⟩, ⟨rfl, trivial⟩, rfl⟩, rfl,
    Step.guarded rfl rfl rfl rfl (fun hc => does_load 36 19 9 0 [] (.var (e_api_Kept v11.1)) (e_api_Kept v11.1) trivial rfl rfl ty36), ⟨⟨rfl, rfl, trivial⟩, ⟨rfl, trivial⟩, rfl⟩, rfl,
    Step.guarded rfl rfl rfl rfl (fun hc => Does.strip (n' := [(106, (.opt (((((v13 && v15) && (b_a8_u32 v1.2.1 v3.2.1)) && (v1.2.2 == v3.2.2)) && (b_a3_a2_api_Entry v5.1 v7.1)) && (v5.2 == v7.2)) (e_api_Kept v9.1))), (107, (.opt (((((v13 && v15) && (b_a8_u32 v1.2.1 v3.2.1)) && (v1.2.2 == v3.2.2)) && (b_a3_a2_api_Entry v5.1 v7.1)) && (v5.2 == v7.2)) (e_api_Kept v11.1)))]) (n := [(106, (e_api_Kept v9.1)), (107, (e_api_Kept v11.1))]) ⟨(.opt _ _ hc), (.opt _ _ hc), trivial⟩ (does_eqT false 36 36 (.tmp 106) (.tmp 107) (e_api_Kept v9.1) (e_api_Kept v11.1) (e_api_Kept z_api_Kept) (b_api_Kept v9.1 v11.1) rfl rfl trivial trivial eg36 sh36 (al_api_Kept _ _) (al_api_Kept _ _) (q_api_Kept _ _))), ⟨⟨rfl, rfl, rfl, trivial⟩, trivial, rfl⟩, rfl,
    Step.plain rfl (does_and 105 108 (((((v13 && v15) && (b_a8_u32 v1.2.1 v3.2.1)) && (v1.2.2 == v3.2.2)) && (b_a3_a2_api_Entry v5.1 v7.1)) && (v5.2 == v7.2)) (b_api_Kept v9.1 v11.1)), ⟨⟨rfl, rfl, trivial⟩, trivial, rfl⟩, rfl,
    Step.plain rfl (does_move (.tmp 109) (.bool ((((((v13 && v15) && (b_a8_u32 v1.2.1 v3.2.1)) && (v1.2.2 == v3.2.2)) && (b_a3_a2_api_Entry v5.1 v7.1)) && (v5.2 == v7.2)) && (b_api_Kept v9.1 v11.1))) trivial), ⟨⟨rfl, trivial⟩, trivial, rfl⟩, rfl,
    Step.guarded rfl rfl rfl rfl (fun hc => does_move (.tmp 18) (.bool v9.2) trivial), ⟨⟨rfl, rfl, trivial⟩, trivial, rfl⟩, rfl,
    Step.guarded rfl rfl rfl rfl (fun hc => does_move (.tmp 20) (.bool v11.2) trivial), ⟨⟨rfl, rfl, trivial⟩, trivial, rfl⟩, rfl,
    Step.guarded rfl rfl rfl rfl (fun hc => Does.strip (n' := [(111, (.opt ((((((v13 && v15) && (b_a8_u32 v1.2.1 v3.2.1)) && (v1.2.2 == v3.2.2)) && (b_a3_a2_api_Entry v5.1 v7.1)) && (v5.2 == v7.2)) && (b_api_Kept v9.1 v11.1)) (.bool v9.2))), (112, (.opt ((((((v13 && v15) && (b_a8_u32 v1.2.1 v3.2.1)) && (v1.2.2 == v3.2.2)) && (b_a3_a2_api_Entry v5.1 v7.1)) && (v5.2 == v7.2)) && (b_api_Kept v9.1 v11.1)) (.bool v11.2)))]) (n := [(111, (.bool v9.2)), (112, (.bool v11.2))]) ⟨(.opt _ _ hc), (.opt _ _ hc), trivial⟩ (does_eqBool false 4 4 (.tmp 111) (.tmp 112) v9.2 v11.2 trivial trivial rfl)), ⟨⟨rfl, rfl, rfl, trivial⟩, trivial, rfl⟩, rfl,
    Step.plain rfl (does_and 110 113 ((((((v13 && v15) && (b_a8_u32 v1.2.1 v3.2.1)) && (v1.2.2 == v3.2.2)) && (b_a3_a2_api_Entry v5.1 v7.1)) && (v5.2 == v7.2)) && (b_api_Kept v9.1 v11.1)) (v9.2 == v11.2)), ⟨⟨rfl, rfl, trivial⟩, trivial, rfl⟩, rfl,
    Step.plain rfl (does_assign (.tmp 114) (.bool (((((((v13 && v15) && (b_a8_u32 v1.2.1 v3.2.1)) && (v1.2.2 == v3.2.2)) && (b_a3_a2_api_Entry v5.1 v7.1)) && (v5.2 == v7.2)) && (b_api_Kept v9.1 v11.1)) && (v9.2 == v11.2))) trivial), ⟨⟨rfl, trivial⟩, trivial, rfl⟩, rfl, rfl⟩ ?_
  obtain ⟨v17, hv17, H⟩ := lt_of H
  refine aw_cov (cov_prune (s1 := ⟨[(6, (.bool v17))], [], 10⟩) ⟨(by subst hv17; rfl), trivial⟩ trivial (Nat.le_refl _)) ?_
  refine aw_ret ?_
  exact fun a w hr => ⟨_, [(.bool v17)], hr, ⟨⟨_, rfl, .data (.bool v17) trivial⟩, trivial⟩, by decide, by cases H; rfl⟩
end Go.Proofs.Ytbkofjefhnnmlaa
