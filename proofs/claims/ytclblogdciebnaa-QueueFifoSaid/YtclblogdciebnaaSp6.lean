/- Printed by gen.py. Conditions: none. -/
import Derived.Test.YtclblogdciebnaaSp5
import Derived.KernelRfl
set_option linter.unusedVariables false
set_option maxRecDepth 100000
namespace Go.Proofs.Ytclblogdciebnaa
open Go.Eng
set_option maxHeartbeats 1600000
theorem congresslaw22_all_spec (p0 : congresslaw22_Play) (r : (_root_.List api_Wait)) (H : congresslaw22_all p0 = some r) : FSpec Try.prog 19 [(e_congresslaw22_Play p0)] (e_s_api_Wait r) := by
  refine spec_of (fn := Try.f19) (args := [(e_congresslaw22_Play p0)]) Try.func19 rfl (Nat.le_of_ble_eq_true rfl) ?_
  rintro ⟨G, w0, W, S, Sp⟩ hG
  cases hG
  unfold congresslaw22_all at H
  refine aw_region (es := [_, _]) ⟨Step.plain rfl (does_box 50 (.tmp 0) 0 (e_congresslaw22_Play p0) trivial rfl), ⟨⟨rfl, trivial⟩, trivial, rfl⟩, rfl,
    Step.plain rfl (does_nil false 1 9 (fun j => (e_api_Wait (([] : _root_.List api_Wait).getD j z_api_Wait)))), ⟨trivial, trivial, rfl⟩, rfl, rfl⟩ ?_
  refine aw_cov (cov_prune (s1 := ⟨[(1, (.ptr 0 0 []))], [(0, some (.var (e_congresslaw22_Play p0)))], 2⟩) ⟨rfl, trivial⟩ ⟨rfl, trivial⟩ (Nat.le_refl _)) ?_
  refine aw_region (es := [_, _]) ⟨Step.plain rfl (does_buildOwn 22 0 9 2 (e_api_Wait z_api_Wait) (fun j => (e_api_Wait (([] : _root_.List api_Wait).getD j z_api_Wait))) #[] [] [] rfl so22 (by decide) trivial trivial (fun j h => match j, h with  | k + 0, h => absurd h (by omega))), ⟨trivial, trivial, rfl⟩, rfl,
    Step.plain rfl (does_assign (.tmp 7) (.own 2) trivial), ⟨⟨rfl, trivial⟩, trivial, rfl⟩, rfl, rfl⟩ ?_
  refine aw_cov (cov_prune (s1 := ⟨[(1, (.ptr 0 0 [])), (3, (.own 2))], [(0, some (.var (e_congresslaw22_Play p0))), (2, some (.arr 9 ([] : _root_.List api_Wait).length fun j => (e_api_Wait (([] : _root_.List api_Wait).getD j z_api_Wait))))], 3⟩) ⟨rfl, rfl, trivial⟩ ⟨rfl, rfl, trivial⟩ (Nat.le_refl _)) ?_
  refine aw_region (es := [_, _, _]) ⟨Step.plain rfl (does_buildT 28 #[] [] [] (.ar 8 1) (fun j => (.int .u32 ((fun _ => 0) j))) (fun j => (.int .u32 ((aset (fun _ => 0) []) j))) rfl bo28 trivial trivial (setAll_map (fun z => V.int .u32 z) [] _)), ⟨trivial, trivial, rfl⟩, rfl,
    Step.plain rfl (does_alloc 28 3 (e_a8_u32 (fun _ => 0)) zr28), ⟨trivial, trivial, rfl⟩, rfl,
    Step.plain rfl (does_store 28 4 (.tmp 8) 3 0 [] (.var (e_a8_u32 (fun _ => 0))) (.var (e_a8_u32 (aset (fun _ => 0) []))) (e_a8_u32 (aset (fun _ => 0) [])) true trivial rfl trivial rfl rfl rfl ty28), ⟨⟨rfl, rfl, trivial⟩, ⟨rfl, trivial⟩, rfl⟩, rfl, rfl⟩ ?_
  refine aw_cov (cov_prune (s1 := ⟨[(1, (.ptr 0 0 [])), (3, (.own 2)), (4, (.ptr 3 0 []))], [(0, some (.var (e_congresslaw22_Play p0))), (2, some (.arr 9 ([] : _root_.List api_Wait).length fun j => (e_api_Wait (([] : _root_.List api_Wait).getD j z_api_Wait)))), (3, some (.var (e_a8_u32 (aset (fun _ => 0) []))))], 4⟩) ⟨rfl, rfl, rfl, trivial⟩ ⟨rfl, rfl, rfl, trivial⟩ (Nat.le_refl _)) ?_
  refine aw_seq ?_
  refine aw_region (es := [_]) ⟨Step.plain rfl (does_assign (.const (.int .i64 0)) (.int .i64 0) (fun _ => rfl)), ⟨trivial, trivial, rfl⟩, rfl, rfl⟩ ?_
  refine aw_cov (cov_prune (s1 := ⟨[(1, (.ptr 0 0 [])), (3, (.own 2)), (4, (.ptr 3 0 [])), (5, (.int .i64 0))], [(0, some (.var (e_congresslaw22_Play p0))), (2, some (.arr 9 ([] : _root_.List api_Wait).length fun j => (e_api_Wait (([] : _root_.List api_Wait).getD j z_api_Wait)))), (3, some (.var (e_a8_u32 (aset (fun _ => 0) []))))], 4⟩) ⟨rfl, rfl, rfl, rfl, trivial⟩ ⟨rfl, rfl, rfl, trivial⟩ (Nat.le_refl _)) ?_
  refine aw_cov (cov_to (s1 := ⟨[(1, (.ptr 0 0 [])), (3, (e_s_api_Wait ([] : _root_.List api_Wait))), (4, (.ptr 3 0 [])), (5, (.int .i64 0))], [(0, some (.var (e_congresslaw22_Play p0))), (3, some (.var (e_a8_u32 (aset (fun _ => 0) []))))], 4⟩) (fun i => i) [2] ⟨⟨_, rfl, .ptr 0 _ _ _ _ (Nat.le_of_ble_eq_true rfl) rfl rfl⟩, ⟨_, rfl, .frz 2 _ _ _ rfl (fun _ => (d_api_Wait _)) (by decide)⟩, ⟨_, rfl, .ptr 3 _ _ _ _ (Nat.le_of_ble_eq_true rfl) rfl rfl⟩, ⟨_, rfl, .plain _ (trivial)⟩, trivial⟩ ⟨⟨Nat.le_of_ble_eq_true rfl, _, _, rfl, rfl, boxTo_var ((d_congresslaw22_Play _).plain)⟩, ⟨Nat.le_of_ble_eq_true rfl, _, _, rfl, rfl, boxTo_var ((d_a8_u32 _).plain)⟩, trivial⟩ rfl rfl) ?_
  obtain ⟨wn2, hwn2, Hrn2⟩ := bnd H
  refine aw_meet (fun y15 : (_root_.List api_Wait) => (⟨[(3, (e_s_api_Wait y15))], [], 4⟩ : St)) (fun y15 => Fl.nx y15 = wn2) (fun y15 hy => ?_) (aw_block (aw_runs (fun x1 : (_root_.List api_Wait) × Int × (Nat → Int) => (⟨[(1, (.ptr 0 0 [])), (3, (e_s_api_Wait x1.1)), (4, (.ptr 3 0 [])), (5, (.int .i64 x1.2.1))], [(0, some (.var (e_congresslaw22_Play p0))), (3, some (.var (e_a8_u32 x1.2.2)))], 4⟩ : St)) hwn2 (cov_prune ⟨rfl, rfl, rfl, rfl, trivial⟩ ⟨rfl, rfl, trivial⟩ (Nat.le_of_ble_eq_true rfl)) (fun x1 st H hsn2 => ?_)))
  · have H := nx_of hy Hrn2
    refine nx_seq ?_
    refine aw_region (es := [_, _]) ⟨Step.plain rfl (does_move (.tmp 3) (e_s_api_Wait y15) trivial), ⟨⟨rfl, trivial⟩, trivial, rfl⟩, rfl,
      Step.plain rfl (does_assign (.tmp 73) (e_s_api_Wait y15) trivial), ⟨⟨rfl, trivial⟩, trivial, rfl⟩, rfl, rfl⟩ ?_
    refine aw_cov (cov_prune (s1 := ⟨[(2, (e_s_api_Wait y15))], [], 4⟩) ⟨rfl, trivial⟩ trivial (Nat.le_refl _)) ?_
    refine aw_ret ?_
    exact fun a w hr => ⟨_, [(e_s_api_Wait y15)], hr, ⟨⟨_, rfl, .data (e_s_api_Wait y15) (d_s_api_Wait y15)⟩, trivial⟩, by decide, by cases H; rfl⟩
  · refine aw_seq ?_
    refine aw_region (es := [_, _, _, _, _, _, _, _, _]) ⟨Step.plain rfl (does_move (.tmp 5) (.int .i64 x1.2.1) trivial), ⟨⟨rfl, trivial⟩, trivial, rfl⟩, rfl,
      Step.plain rfl (does_fieldAddr 50 1 8 1 0 0 [] (.var (e_congresslaw22_Play p0)) fl50_1), ⟨⟨rfl, trivial⟩, ⟨rfl, trivial⟩, rfl⟩, rfl,
      Step.plain rfl (does_load 48 10 0 (0 + 8) [1] (.var (e_congresslaw22_Play p0)) (e_s_congresslaw22_Frame p0.L) ⟨rfl, Nat.le_of_ble_eq_true rfl, trivial⟩ rfl rfl ty48), ⟨⟨rfl, trivial⟩, ⟨rfl, trivial⟩, rfl⟩, rfl,
      Step.plain rfl (does_lens 48 3 p0.L.length 11 (fun j => (e_congresslaw22_Frame (p0.L.getD j z_congresslaw22_Frame))) el48), ⟨⟨rfl, trivial⟩, trivial, rfl⟩, rfl,
      Step.plain rfl (does_bin .lss 3 3 (.tmp 9) (.tmp 12) .i64 x1.2.1 (p0.L.length : Int) (.bool (decide (x1.2.1 < (p0.L.length : Int)))) trivial trivial (bin_lss _ _ _ _)), ⟨⟨rfl, rfl, trivial⟩, trivial, rfl⟩, rfl,
      Step.plain rfl (does_move (.tmp 13) (.bool (decide (x1.2.1 < (p0.L.length : Int)))) trivial), ⟨⟨rfl, trivial⟩, trivial, rfl⟩, rfl,
      Step.guarded rfl rfl rfl rfl (fun hc => does_move (.tmp 5) (.int .i64 x1.2.1) trivial), ⟨⟨rfl, rfl, trivial⟩, trivial, rfl⟩, rfl,
      Step.guarded rfl rfl rfl rfl (fun hc => Does.strip (n' := [(15, (.opt (decide (x1.2.1 < (p0.L.length : Int))) (.int .i64 x1.2.1)))]) (n := [(15, (.int .i64 x1.2.1))]) ⟨(.opt _ _ hc), trivial⟩ (does_bin .lss 3 3 (.tmp 15) (.const (.int .i64 60)) .i64 x1.2.1 60 (.bool (decide (x1.2.1 < 60))) trivial (fun _ => rfl) (bin_lss _ _ _ _))), ⟨⟨rfl, rfl, trivial⟩, trivial, rfl⟩, rfl,
      Step.plain rfl (does_and 14 16 (decide (x1.2.1 < (p0.L.length : Int))) (decide (x1.2.1 < 60))), ⟨⟨rfl, rfl, trivial⟩, trivial, rfl⟩, rfl, rfl⟩ ?_
    refine aw_cov (cov_prune (s1 := ⟨[(1, (.ptr 0 0 [])), (3, (e_s_api_Wait x1.1)), (4, (.ptr 3 0 [])), (5, (.int .i64 x1.2.1)), (17, (.bool ((decide (x1.2.1 < (p0.L.length : Int))) && (decide (x1.2.1 < 60)))))], [(0, some (.var (e_congresslaw22_Play p0))), (3, some (.var (e_a8_u32 x1.2.2)))], 4⟩) ⟨rfl, rfl, rfl, rfl, rfl, trivial⟩ ⟨rfl, rfl, trivial⟩ (Nat.le_refl _)) ?_
    refine aw_cond rfl (fun hc => ?_) (fun hc => ?_)
    · replace H := ite_t hc H
      refine aw_skip ?_
      refine nx_seq ?_
      refine aw_seq ?_
      refine aw_jn (fun x14 : (_root_.List api_Wait) × (Nat → Int) => (⟨[(1, (.ptr 0 0 [])), (3, (e_s_api_Wait x14.1)), (4, (.ptr 3 0 [])), (5, (.int .i64 x1.2.1))], [(0, some (.var (e_congresslaw22_Play p0))), (3, some (.var (e_a8_u32 x14.2)))], 5⟩ : St)) H (fun x14 H => ?_) (fun j3 H => ?_)
      · refine nx_seq ?_
        refine aw_region1 (es := [_, _, _]) ⟨Step.plain rfl (does_move (.tmp 5) (.int .i64 x1.2.1) trivial), ⟨⟨rfl, trivial⟩, trivial, rfl⟩, rfl,
          Step.plain rfl (does_bin .add 3 3 (.tmp 18) (.const (.int .i64 1)) .i64 x1.2.1 1 (.int .i64 (IntKind.i64.wrap (x1.2.1 + 1))) trivial (fun _ => rfl) (bin_add _ _ _ _)), ⟨⟨rfl, trivial⟩, trivial, rfl⟩, rfl,
          Step.plain rfl (does_assign (.tmp 19) (.int .i64 (IntKind.i64.wrap (x1.2.1 + 1))) trivial), ⟨⟨rfl, trivial⟩, trivial, rfl⟩, rfl, rfl⟩ ?_
        exact nx_loop (x14.1, (IntKind.i64.wrap (x1.2.1 + 1)), x14.2) H (cov_of (fun i => match i with | 0 => 0 | 3 => 3 | k => k) ⟨⟨_, rfl, ⟨rfl, Nat.le_of_ble_eq_true rfl⟩⟩, ⟨_, rfl, ⟨rfl, (d_s_api_Wait _).plain⟩⟩, ⟨_, rfl, ⟨rfl, Nat.le_of_ble_eq_true rfl⟩⟩, ⟨_, rfl, ⟨rfl, trivial⟩⟩, trivial⟩ ⟨⟨Nat.le_of_ble_eq_true rfl, _, _, rfl, rfl, .inl ⟨rfl, (d_congresslaw22_Play _).plain⟩⟩, ⟨Nat.le_of_ble_eq_true rfl, _, _, rfl, rfl, .inl ⟨rfl, (d_a8_u32 _).plain⟩⟩, trivial⟩ rfl)
      · refine aw_block ?_
        obtain ⟨h4, H⟩ := ib_of H
        refine aw_region (es := [_, _, _, _, _, _, _]) ⟨Step.plain rfl (does_fieldAddr 50 1 8 1 0 0 [] (.var (e_congresslaw22_Play p0)) fl50_1), ⟨⟨rfl, trivial⟩, ⟨rfl, trivial⟩, rfl⟩, rfl,
          Step.plain rfl (does_load 48 20 0 (0 + 8) [1] (.var (e_congresslaw22_Play p0)) (e_s_congresslaw22_Frame p0.L) ⟨rfl, Nat.le_of_ble_eq_true rfl, trivial⟩ rfl rfl ty48), ⟨⟨rfl, trivial⟩, ⟨rfl, trivial⟩, rfl⟩, rfl,
          Step.plain rfl (does_move (.tmp 5) (.int .i64 x1.2.1) trivial), ⟨⟨rfl, trivial⟩, trivial, rfl⟩, rfl,
          Step.plain rfl (does_indexAddrs 48 3 p0.L.length 21 (fun j => (e_congresslaw22_Frame (p0.L.getD j z_congresslaw22_Frame))) (.tmp 22) .i64 x1.2.1 el48 trivial h4.1 h4.2), ⟨⟨rfl, rfl, trivial⟩, trivial, rfl⟩, rfl,
          Step.plain rfl (does_loadc 26 23 (e_congresslaw22_Frame (p0.L.getD x1.2.1.toNat z_congresslaw22_Frame)) ty26), ⟨⟨rfl, trivial⟩, trivial, rfl⟩, rfl,
          Step.plain rfl (does_alloc 26 4 (e_congresslaw22_Frame z_congresslaw22_Frame) zr26), ⟨trivial, trivial, rfl⟩, rfl,
          Step.plain rfl (does_store 26 6 (.tmp 24) 4 0 [] (.var (e_congresslaw22_Frame z_congresslaw22_Frame)) (.var (e_congresslaw22_Frame (p0.L.getD x1.2.1.toNat z_congresslaw22_Frame))) (e_congresslaw22_Frame (p0.L.getD x1.2.1.toNat z_congresslaw22_Frame)) true trivial rfl trivial rfl rfl rfl ty26), ⟨⟨rfl, rfl, trivial⟩, ⟨rfl, trivial⟩, rfl⟩, rfl, rfl⟩ ?_
        refine aw_cov (cov_prune (s1 := ⟨[(1, (.ptr 0 0 [])), (3, (e_s_api_Wait x1.1)), (4, (.ptr 3 0 [])), (5, (.int .i64 x1.2.1)), (6, (.ptr 4 0 []))], [(0, some (.var (e_congresslaw22_Play p0))), (3, some (.var (e_a8_u32 x1.2.2))), (4, some (.var (e_congresslaw22_Frame (p0.L.getD x1.2.1.toNat z_congresslaw22_Frame))))], 5⟩) ⟨rfl, rfl, rfl, rfl, rfl, trivial⟩ ⟨rfl, rfl, rfl, trivial⟩ (Nat.le_refl _)) ?_
        refine aw_seq ?_
        obtain ⟨h5, H⟩ := ibg_of H
        obtain ⟨h6, H⟩ := ibg_of H
        refine aw_draw (es := [_, _, _, _, _, _, _, _, _, _, _, _, _, _, _, _, _, _, _, _, _, _, _, _, _, _, _, _]) (mixed) ⟨Step.plain rfl (does_fieldAddr 26 0 0 6 4 0 [] (.var (e_congresslaw22_Frame (p0.L.getD x1.2.1.toNat z_congresslaw22_Frame))) fl26_0), ⟨⟨rfl, trivial⟩, ⟨rfl, trivial⟩, rfl⟩, rfl,
          Step.plain rfl (does_load 3 25 4 (0 + 0) [0] (.var (e_congresslaw22_Frame (p0.L.getD x1.2.1.toNat z_congresslaw22_Frame))) (.int .i64 ((p0.L.getD x1.2.1.toNat z_congresslaw22_Frame).From)) ⟨rfl, Nat.le_of_ble_eq_true rfl, trivial⟩ rfl rfl ty3), ⟨⟨rfl, trivial⟩, ⟨rfl, trivial⟩, rfl⟩, rfl,
          Step.plain rfl (does_bin .lss 3 3 (.tmp 26) (.const (.int .i64 0)) .i64 ((p0.L.getD x1.2.1.toNat z_congresslaw22_Frame).From) 0 (.bool (decide (((p0.L.getD x1.2.1.toNat z_congresslaw22_Frame).From) < 0))) trivial (fun _ => rfl) (bin_lss _ _ _ _)), ⟨⟨rfl, trivial⟩, trivial, rfl⟩, rfl,
          Step.plain rfl (does_move (.tmp 27) (.bool (decide (((p0.L.getD x1.2.1.toNat z_congresslaw22_Frame).From) < 0))) trivial), ⟨⟨rfl, trivial⟩, trivial, rfl⟩, rfl,
          Step.guarded rfl rfl rfl rfl (fun hc => does_fieldAddr 26 0 0 6 4 0 [] (.var (e_congresslaw22_Frame (p0.L.getD x1.2.1.toNat z_congresslaw22_Frame))) fl26_0), ⟨⟨rfl, rfl, trivial⟩, ⟨rfl, trivial⟩, rfl⟩, rfl,
          Step.guarded rfl rfl rfl rfl (fun hc => Does.strip (n' := [(29, (.opt (!(decide (((p0.L.getD x1.2.1.toNat z_congresslaw22_Frame).From) < 0))) (.ptr 4 (0 + 0) [0])))]) (n := [(29, (.ptr 4 (0 + 0) [0]))]) ⟨(.opt _ _ hc), trivial⟩ (does_load 3 29 4 (0 + 0) [0] (.var (e_congresslaw22_Frame (p0.L.getD x1.2.1.toNat z_congresslaw22_Frame))) (.int .i64 ((p0.L.getD x1.2.1.toNat z_congresslaw22_Frame).From)) ⟨rfl, Nat.le_of_ble_eq_true rfl, trivial⟩ rfl rfl ty3)), ⟨⟨rfl, rfl, trivial⟩, ⟨rfl, trivial⟩, rfl⟩, rfl,
          Step.guarded rfl rfl rfl rfl (fun hc => Does.strip (n' := [(30, (.opt (!(decide (((p0.L.getD x1.2.1.toNat z_congresslaw22_Frame).From) < 0))) (.int .i64 ((p0.L.getD x1.2.1.toNat z_congresslaw22_Frame).From))))]) (n := [(30, (.int .i64 ((p0.L.getD x1.2.1.toNat z_congresslaw22_Frame).From)))]) ⟨(.opt _ _ hc), trivial⟩ (does_bin .gtr 3 3 (.tmp 30) (.const (.int .i64 7)) .i64 ((p0.L.getD x1.2.1.toNat z_congresslaw22_Frame).From) 7 (.bool (decide (((p0.L.getD x1.2.1.toNat z_congresslaw22_Frame).From) > 7))) trivial (fun _ => rfl) (bin_gtr _ _ _ _))), ⟨⟨rfl, rfl, trivial⟩, trivial, rfl⟩, rfl,
          Step.plain rfl (does_or 28 31 (decide (((p0.L.getD x1.2.1.toNat z_congresslaw22_Frame).From) < 0)) (decide (((p0.L.getD x1.2.1.toNat z_congresslaw22_Frame).From) > 7))), ⟨⟨rfl, rfl, trivial⟩, trivial, rfl⟩, rfl,
          Step.plain rfl (does_move (.tmp 32) (.bool ((decide (((p0.L.getD x1.2.1.toNat z_congresslaw22_Frame).From) < 0)) || (decide (((p0.L.getD x1.2.1.toNat z_congresslaw22_Frame).From) > 7)))) trivial), ⟨⟨rfl, trivial⟩, trivial, rfl⟩, rfl,
          Step.guarded rfl rfl rfl rfl (fun hc => does_fieldAddr 26 0 0 6 4 0 [] (.var (e_congresslaw22_Frame (p0.L.getD x1.2.1.toNat z_congresslaw22_Frame))) fl26_0), ⟨⟨rfl, rfl, trivial⟩, ⟨rfl, trivial⟩, rfl⟩, rfl,
          Step.guarded rfl rfl rfl rfl (fun hc => Does.strip (n' := [(34, (.opt (!((decide (((p0.L.getD x1.2.1.toNat z_congresslaw22_Frame).From) < 0)) || (decide (((p0.L.getD x1.2.1.toNat z_congresslaw22_Frame).From) > 7)))) (.ptr 4 (0 + 0) [0])))]) (n := [(34, (.ptr 4 (0 + 0) [0]))]) ⟨(.opt _ _ hc), trivial⟩ (does_load 3 34 4 (0 + 0) [0] (.var (e_congresslaw22_Frame (p0.L.getD x1.2.1.toNat z_congresslaw22_Frame))) (.int .i64 ((p0.L.getD x1.2.1.toNat z_congresslaw22_Frame).From)) ⟨rfl, Nat.le_of_ble_eq_true rfl, trivial⟩ rfl rfl ty3)), ⟨⟨rfl, rfl, trivial⟩, ⟨rfl, trivial⟩, rfl⟩, rfl,
          Step.guarded rfl rfl rfl rfl (fun hc => Does.strip (n' := [(35, (.opt (!((decide (((p0.L.getD x1.2.1.toNat z_congresslaw22_Frame).From) < 0)) || (decide (((p0.L.getD x1.2.1.toNat z_congresslaw22_Frame).From) > 7)))) (.int .i64 ((p0.L.getD x1.2.1.toNat z_congresslaw22_Frame).From))))]) (n := [(35, (.int .i64 ((p0.L.getD x1.2.1.toNat z_congresslaw22_Frame).From)))]) ⟨(.opt _ _ hc), trivial⟩ (does_bin .and 3 3 (.tmp 35) (.const (.int .i64 7)) .i64 ((p0.L.getD x1.2.1.toNat z_congresslaw22_Frame).From) 7 (.int .i64 (iand .i64 ((p0.L.getD x1.2.1.toNat z_congresslaw22_Frame).From) 7)) trivial (fun _ => rfl) (bin_and _ _ _ _))), ⟨⟨rfl, rfl, trivial⟩, trivial, rfl⟩, rfl,
          Step.guarded rfl rfl rfl rfl (fun hc => does_fieldAddr 50 0 0 1 0 0 [] (.var (e_congresslaw22_Play p0)) fl50_0), ⟨⟨rfl, rfl, trivial⟩, ⟨rfl, trivial⟩, rfl⟩, rfl,
          Step.guarded rfl rfl rfl rfl (fun hc => Does.strip (n' := [(37, (.opt (!((decide (((p0.L.getD x1.2.1.toNat z_congresslaw22_Frame).From) < 0)) || (decide (((p0.L.getD x1.2.1.toNat z_congresslaw22_Frame).From) > 7)))) (.ptr 0 (0 + 0) [0]))), (36, (.opt (!((decide (((p0.L.getD x1.2.1.toNat z_congresslaw22_Frame).From) < 0)) || (decide (((p0.L.getD x1.2.1.toNat z_congresslaw22_Frame).From) > 7)))) (.int .i64 (iand .i64 ((p0.L.getD x1.2.1.toNat z_congresslaw22_Frame).From) 7))))]) (n := [(37, (.ptr 0 (0 + 0) [0])), (36, (.int .i64 (iand .i64 ((p0.L.getD x1.2.1.toNat z_congresslaw22_Frame).From) 7)))]) ⟨(.opt _ _ hc), (.opt _ _ hc), trivial⟩ (does_indexAddr 29 8 1 37 0 (0 + 0) [0] (.var (e_congresslaw22_Play p0)) (.tmp 36) .i64 (iand .i64 ((p0.L.getD x1.2.1.toNat z_congresslaw22_Frame).From) 7) el29 trivial (h5 hc).1 (h5 hc).2)), ⟨⟨rfl, rfl, rfl, trivial⟩, ⟨rfl, trivial⟩, rfl⟩, rfl,
          Step.guarded rfl rfl rfl rfl (fun hc => Does.strip (n' := [(38, (.opt (!((decide (((p0.L.getD x1.2.1.toNat z_congresslaw22_Frame).From) < 0)) || (decide (((p0.L.getD x1.2.1.toNat z_congresslaw22_Frame).From) > 7)))) (.ptr 0 ((0 + 0) + (iand .i64 ((p0.L.getD x1.2.1.toNat z_congresslaw22_Frame).From) 7).toNat * 1) [0, (iand .i64 ((p0.L.getD x1.2.1.toNat z_congresslaw22_Frame).From) 7).toNat])))]) (n := [(38, (.ptr 0 ((0 + 0) + (iand .i64 ((p0.L.getD x1.2.1.toNat z_congresslaw22_Frame).From) 7).toNat * 1) [0, (iand .i64 ((p0.L.getD x1.2.1.toNat z_congresslaw22_Frame).From) 7).toNat]))]) ⟨(.opt _ _ hc), trivial⟩ (does_load 23 38 0 ((0 + 0) + (iand .i64 ((p0.L.getD x1.2.1.toNat z_congresslaw22_Frame).From) 7).toNat * 1) [0, (iand .i64 ((p0.L.getD x1.2.1.toNat z_congresslaw22_Frame).From) 7).toNat] (.var (e_congresslaw22_Play p0)) (.int .u32 (p0.M ((iand .i64 ((p0.L.getD x1.2.1.toNat z_congresslaw22_Frame).From) 7).toNat))) ⟨rfl, Nat.le_of_ble_eq_true rfl, ⟨rfl, (ixl (h5 hc)), trivial⟩⟩ rfl rfl ty23)), ⟨⟨rfl, rfl, trivial⟩, ⟨rfl, trivial⟩, rfl⟩, rfl,
          Step.guarded rfl rfl rfl rfl (fun hc => Does.strip (n' := [(39, (.opt (!((decide (((p0.L.getD x1.2.1.toNat z_congresslaw22_Frame).From) < 0)) || (decide (((p0.L.getD x1.2.1.toNat z_congresslaw22_Frame).From) > 7)))) (.int .u32 (p0.M ((iand .i64 ((p0.L.getD x1.2.1.toNat z_congresslaw22_Frame).From) 7).toNat)))))]) (n := [(39, (.int .u32 (p0.M ((iand .i64 ((p0.L.getD x1.2.1.toNat z_congresslaw22_Frame).From) 7).toNat))))]) ⟨(.opt _ _ hc), trivial⟩ (does_bin .eql 23 23 (.tmp 39) (.const (.int .u32 0)) .u32 (p0.M ((iand .i64 ((p0.L.getD x1.2.1.toNat z_congresslaw22_Frame).From) 7).toNat)) 0 (.bool ((p0.M ((iand .i64 ((p0.L.getD x1.2.1.toNat z_congresslaw22_Frame).From) 7).toNat)) == 0)) trivial (fun _ => rfl) (bin_eql _ _ _ _))), ⟨⟨rfl, rfl, trivial⟩, trivial, rfl⟩, rfl,
          Step.plain rfl (does_or 33 40 ((decide (((p0.L.getD x1.2.1.toNat z_congresslaw22_Frame).From) < 0)) || (decide (((p0.L.getD x1.2.1.toNat z_congresslaw22_Frame).From) > 7))) ((p0.M ((iand .i64 ((p0.L.getD x1.2.1.toNat z_congresslaw22_Frame).From) 7).toNat)) == 0)), ⟨⟨rfl, rfl, trivial⟩, trivial, rfl⟩, rfl,
          Step.plain rfl (does_move (.tmp 41) (.bool (((decide (((p0.L.getD x1.2.1.toNat z_congresslaw22_Frame).From) < 0)) || (decide (((p0.L.getD x1.2.1.toNat z_congresslaw22_Frame).From) > 7))) || ((p0.M ((iand .i64 ((p0.L.getD x1.2.1.toNat z_congresslaw22_Frame).From) 7).toNat)) == 0))) trivial), ⟨⟨rfl, trivial⟩, trivial, rfl⟩, rfl,
          Step.guarded rfl rfl rfl rfl (fun hc => does_fieldAddr 26 1 1 6 4 0 [] (.var (e_congresslaw22_Frame (p0.L.getD x1.2.1.toNat z_congresslaw22_Frame))) fl26_1), ⟨⟨rfl, rfl, trivial⟩, ⟨rfl, trivial⟩, rfl⟩, rfl,
          Step.guarded rfl rfl rfl rfl (fun hc => Does.strip (n' := [(43, (.opt (!(((decide (((p0.L.getD x1.2.1.toNat z_congresslaw22_Frame).From) < 0)) || (decide (((p0.L.getD x1.2.1.toNat z_congresslaw22_Frame).From) > 7))) || ((p0.M ((iand .i64 ((p0.L.getD x1.2.1.toNat z_congresslaw22_Frame).From) 7).toNat)) == 0))) (.ptr 4 (0 + 1) [1])))]) (n := [(43, (.ptr 4 (0 + 1) [1]))]) ⟨(.opt _ _ hc), trivial⟩ (does_load 23 43 4 (0 + 1) [1] (.var (e_congresslaw22_Frame (p0.L.getD x1.2.1.toNat z_congresslaw22_Frame))) (.int .u32 ((p0.L.getD x1.2.1.toNat z_congresslaw22_Frame).Round)) ⟨rfl, Nat.le_of_ble_eq_true rfl, trivial⟩ rfl rfl ty23)), ⟨⟨rfl, rfl, trivial⟩, ⟨rfl, trivial⟩, rfl⟩, rfl,
          Step.guarded rfl rfl rfl rfl (fun hc => does_fieldAddr 26 0 0 6 4 0 [] (.var (e_congresslaw22_Frame (p0.L.getD x1.2.1.toNat z_congresslaw22_Frame))) fl26_0), ⟨⟨rfl, rfl, trivial⟩, ⟨rfl, trivial⟩, rfl⟩, rfl,
          Step.guarded rfl rfl rfl rfl (fun hc => Does.strip (n' := [(45, (.opt (!(((decide (((p0.L.getD x1.2.1.toNat z_congresslaw22_Frame).From) < 0)) || (decide (((p0.L.getD x1.2.1.toNat z_congresslaw22_Frame).From) > 7))) || ((p0.M ((iand .i64 ((p0.L.getD x1.2.1.toNat z_congresslaw22_Frame).From) 7).toNat)) == 0))) (.ptr 4 (0 + 0) [0])))]) (n := [(45, (.ptr 4 (0 + 0) [0]))]) ⟨(.opt _ _ hc), trivial⟩ (does_load 3 45 4 (0 + 0) [0] (.var (e_congresslaw22_Frame (p0.L.getD x1.2.1.toNat z_congresslaw22_Frame))) (.int .i64 ((p0.L.getD x1.2.1.toNat z_congresslaw22_Frame).From)) ⟨rfl, Nat.le_of_ble_eq_true rfl, trivial⟩ rfl rfl ty3)), ⟨⟨rfl, rfl, trivial⟩, ⟨rfl, trivial⟩, rfl⟩, rfl,
          Step.guarded rfl rfl rfl rfl (fun hc => Does.strip (n' := [(46, (.opt (!(((decide (((p0.L.getD x1.2.1.toNat z_congresslaw22_Frame).From) < 0)) || (decide (((p0.L.getD x1.2.1.toNat z_congresslaw22_Frame).From) > 7))) || ((p0.M ((iand .i64 ((p0.L.getD x1.2.1.toNat z_congresslaw22_Frame).From) 7).toNat)) == 0))) (.int .i64 ((p0.L.getD x1.2.1.toNat z_congresslaw22_Frame).From))))]) (n := [(46, (.int .i64 ((p0.L.getD x1.2.1.toNat z_congresslaw22_Frame).From)))]) ⟨(.opt _ _ hc), trivial⟩ (does_bin .and 3 3 (.tmp 46) (.const (.int .i64 7)) .i64 ((p0.L.getD x1.2.1.toNat z_congresslaw22_Frame).From) 7 (.int .i64 (iand .i64 ((p0.L.getD x1.2.1.toNat z_congresslaw22_Frame).From) 7)) trivial (fun _ => rfl) (bin_and _ _ _ _))), ⟨⟨rfl, rfl, trivial⟩, trivial, rfl⟩, rfl,
          Step.guarded rfl rfl rfl rfl (fun hc => Does.strip (n' := [(4, (.ptr 3 0 [])), (47, (.opt (!(((decide (((p0.L.getD x1.2.1.toNat z_congresslaw22_Frame).From) < 0)) || (decide (((p0.L.getD x1.2.1.toNat z_congresslaw22_Frame).From) > 7))) || ((p0.M ((iand .i64 ((p0.L.getD x1.2.1.toNat z_congresslaw22_Frame).From) 7).toNat)) == 0))) (.int .i64 (iand .i64 ((p0.L.getD x1.2.1.toNat z_congresslaw22_Frame).From) 7))))]) (n := [(4, (.ptr 3 0 [])), (47, (.int .i64 (iand .i64 ((p0.L.getD x1.2.1.toNat z_congresslaw22_Frame).From) 7)))]) ⟨(.same _), (.opt _ _ hc), trivial⟩ (does_indexAddr 28 8 1 4 3 0 [] (.var (e_a8_u32 x1.2.2)) (.tmp 47) .i64 (iand .i64 ((p0.L.getD x1.2.1.toNat z_congresslaw22_Frame).From) 7) el28 trivial (h6 hc).1 (h6 hc).2)), ⟨⟨rfl, rfl, rfl, trivial⟩, ⟨rfl, trivial⟩, rfl⟩, rfl,
          Step.guarded rfl rfl rfl rfl (fun hc => Does.strip (n' := [(48, (.opt (!(((decide (((p0.L.getD x1.2.1.toNat z_congresslaw22_Frame).From) < 0)) || (decide (((p0.L.getD x1.2.1.toNat z_congresslaw22_Frame).From) > 7))) || ((p0.M ((iand .i64 ((p0.L.getD x1.2.1.toNat z_congresslaw22_Frame).From) 7).toNat)) == 0))) (.ptr 3 (0 + (iand .i64 ((p0.L.getD x1.2.1.toNat z_congresslaw22_Frame).From) 7).toNat * 1) [(iand .i64 ((p0.L.getD x1.2.1.toNat z_congresslaw22_Frame).From) 7).toNat])))]) (n := [(48, (.ptr 3 (0 + (iand .i64 ((p0.L.getD x1.2.1.toNat z_congresslaw22_Frame).From) 7).toNat * 1) [(iand .i64 ((p0.L.getD x1.2.1.toNat z_congresslaw22_Frame).From) 7).toNat]))]) ⟨(.opt _ _ hc), trivial⟩ (does_load 23 48 3 (0 + (iand .i64 ((p0.L.getD x1.2.1.toNat z_congresslaw22_Frame).From) 7).toNat * 1) [(iand .i64 ((p0.L.getD x1.2.1.toNat z_congresslaw22_Frame).From) 7).toNat] (.var (e_a8_u32 x1.2.2)) (.int .u32 (x1.2.2 ((iand .i64 ((p0.L.getD x1.2.1.toNat z_congresslaw22_Frame).From) 7).toNat))) ⟨rfl, (ixl (h6 hc)), trivial⟩ rfl rfl ty23)), ⟨⟨rfl, rfl, trivial⟩, ⟨rfl, trivial⟩, rfl⟩, rfl,
          Step.guarded rfl rfl rfl rfl (fun hc => Does.strip (n' := [(49, (.opt (!(((decide (((p0.L.getD x1.2.1.toNat z_congresslaw22_Frame).From) < 0)) || (decide (((p0.L.getD x1.2.1.toNat z_congresslaw22_Frame).From) > 7))) || ((p0.M ((iand .i64 ((p0.L.getD x1.2.1.toNat z_congresslaw22_Frame).From) 7).toNat)) == 0))) (.int .u32 (x1.2.2 ((iand .i64 ((p0.L.getD x1.2.1.toNat z_congresslaw22_Frame).From) 7).toNat)))))]) (n := [(49, (.int .u32 (x1.2.2 ((iand .i64 ((p0.L.getD x1.2.1.toNat z_congresslaw22_Frame).From) 7).toNat))))]) ⟨(.opt _ _ hc), trivial⟩ (does_bin .add 23 23 (.tmp 49) (.const (.int .u32 1)) .u32 (x1.2.2 ((iand .i64 ((p0.L.getD x1.2.1.toNat z_congresslaw22_Frame).From) 7).toNat)) 1 (.int .u32 (IntKind.u32.wrap ((x1.2.2 ((iand .i64 ((p0.L.getD x1.2.1.toNat z_congresslaw22_Frame).From) 7).toNat)) + 1))) trivial (fun _ => rfl) (bin_add _ _ _ _))), ⟨⟨rfl, rfl, trivial⟩, trivial, rfl⟩, rfl,
          Step.guarded rfl rfl rfl rfl (fun hc => Does.strip (n' := [(44, (.opt (!(((decide (((p0.L.getD x1.2.1.toNat z_congresslaw22_Frame).From) < 0)) || (decide (((p0.L.getD x1.2.1.toNat z_congresslaw22_Frame).From) > 7))) || ((p0.M ((iand .i64 ((p0.L.getD x1.2.1.toNat z_congresslaw22_Frame).From) 7).toNat)) == 0))) (.int .u32 ((p0.L.getD x1.2.1.toNat z_congresslaw22_Frame).Round)))), (50, (.opt (!(((decide (((p0.L.getD x1.2.1.toNat z_congresslaw22_Frame).From) < 0)) || (decide (((p0.L.getD x1.2.1.toNat z_congresslaw22_Frame).From) > 7))) || ((p0.M ((iand .i64 ((p0.L.getD x1.2.1.toNat z_congresslaw22_Frame).From) 7).toNat)) == 0))) (.int .u32 (IntKind.u32.wrap ((x1.2.2 ((iand .i64 ((p0.L.getD x1.2.1.toNat z_congresslaw22_Frame).From) 7).toNat)) + 1)))))]) (n := [(44, (.int .u32 ((p0.L.getD x1.2.1.toNat z_congresslaw22_Frame).Round))), (50, (.int .u32 (IntKind.u32.wrap ((x1.2.2 ((iand .i64 ((p0.L.getD x1.2.1.toNat z_congresslaw22_Frame).From) 7).toNat)) + 1))))]) ⟨(.opt _ _ hc), (.opt _ _ hc), trivial⟩ (does_bin .neq 23 23 (.tmp 44) (.tmp 50) .u32 ((p0.L.getD x1.2.1.toNat z_congresslaw22_Frame).Round) (IntKind.u32.wrap ((x1.2.2 ((iand .i64 ((p0.L.getD x1.2.1.toNat z_congresslaw22_Frame).From) 7).toNat)) + 1)) (.bool (((p0.L.getD x1.2.1.toNat z_congresslaw22_Frame).Round) != (IntKind.u32.wrap ((x1.2.2 ((iand .i64 ((p0.L.getD x1.2.1.toNat z_congresslaw22_Frame).From) 7).toNat)) + 1)))) trivial trivial (bin_neq _ _ _ _))), ⟨⟨rfl, rfl, rfl, trivial⟩, trivial, rfl⟩, rfl,
          Step.plain rfl (does_or 42 51 (((decide (((p0.L.getD x1.2.1.toNat z_congresslaw22_Frame).From) < 0)) || (decide (((p0.L.getD x1.2.1.toNat z_congresslaw22_Frame).From) > 7))) || ((p0.M ((iand .i64 ((p0.L.getD x1.2.1.toNat z_congresslaw22_Frame).From) 7).toNat)) == 0)) (((p0.L.getD x1.2.1.toNat z_congresslaw22_Frame).Round) != (IntKind.u32.wrap ((x1.2.2 ((iand .i64 ((p0.L.getD x1.2.1.toNat z_congresslaw22_Frame).From) 7).toNat)) + 1)))), ⟨⟨rfl, rfl, trivial⟩, trivial, rfl⟩, rfl, rfl⟩ rfl ?_
        obtain ⟨v7, hv7, H⟩ := lt_of H
        refine aw_cov (cov_prune (s1 := ⟨[(1, (.ptr 0 0 [])), (3, (e_s_api_Wait x1.1)), (4, (.ptr 3 0 [])), (5, (.int .i64 x1.2.1)), (6, (.ptr 4 0 [])), (52, (.bool v7))], [(0, some (.var (e_congresslaw22_Play p0))), (3, some (.var (e_a8_u32 x1.2.2))), (4, some (.var (e_congresslaw22_Frame (p0.L.getD x1.2.1.toNat z_congresslaw22_Frame))))], 5⟩) ⟨rfl, rfl, rfl, rfl, rfl, (by subst hv7; rfl), trivial⟩ ⟨rfl, rfl, rfl, trivial⟩ (Nat.le_refl _)) ?_
        refine aw_cond rfl (fun hc => ?_) (fun hc => ?_)
        · replace H := ite_t hc H
          refine aw_exit ?_
          refine ex_then ?_
          refine ex_here ?_
          exact nx_join (x1.1, x1.2.2) H (cov_prune ⟨rfl, rfl, rfl, rfl, trivial⟩ ⟨rfl, rfl, trivial⟩ (Nat.le_of_ble_eq_true rfl))
        · replace H := ite_f hc H
          refine aw_skip ?_
          refine nx_seq ?_
          obtain ⟨h8, H⟩ := ib_of H
          obtain ⟨h9, H⟩ := ib_of H
          refine aw_region (es := [_, _, _, _, _, _, _, _]) ⟨Step.plain rfl (does_fieldAddr 26 0 0 6 4 0 [] (.var (e_congresslaw22_Frame (p0.L.getD x1.2.1.toNat z_congresslaw22_Frame))) fl26_0), ⟨⟨rfl, trivial⟩, ⟨rfl, trivial⟩, rfl⟩, rfl,
            Step.plain rfl (does_load 3 53 4 (0 + 0) [0] (.var (e_congresslaw22_Frame (p0.L.getD x1.2.1.toNat z_congresslaw22_Frame))) (.int .i64 ((p0.L.getD x1.2.1.toNat z_congresslaw22_Frame).From)) ⟨rfl, Nat.le_of_ble_eq_true rfl, trivial⟩ rfl rfl ty3), ⟨⟨rfl, trivial⟩, ⟨rfl, trivial⟩, rfl⟩, rfl,
            Step.plain rfl (does_bin .and 3 3 (.tmp 54) (.const (.int .i64 7)) .i64 ((p0.L.getD x1.2.1.toNat z_congresslaw22_Frame).From) 7 (.int .i64 (iand .i64 ((p0.L.getD x1.2.1.toNat z_congresslaw22_Frame).From) 7)) trivial (fun _ => rfl) (bin_and _ _ _ _)), ⟨⟨rfl, trivial⟩, trivial, rfl⟩, rfl,
            Step.plain rfl (does_indexAddr 28 8 1 4 3 0 [] (.var (e_a8_u32 x1.2.2)) (.tmp 55) .i64 (iand .i64 ((p0.L.getD x1.2.1.toNat z_congresslaw22_Frame).From) 7) el28 trivial h8.1 h8.2), ⟨⟨rfl, rfl, trivial⟩, ⟨rfl, trivial⟩, rfl⟩, rfl,
            Step.plain rfl (does_load 23 56 3 (0 + (iand .i64 ((p0.L.getD x1.2.1.toNat z_congresslaw22_Frame).From) 7).toNat * 1) [(iand .i64 ((p0.L.getD x1.2.1.toNat z_congresslaw22_Frame).From) 7).toNat] (.var (e_a8_u32 x1.2.2)) (.int .u32 (x1.2.2 ((iand .i64 ((p0.L.getD x1.2.1.toNat z_congresslaw22_Frame).From) 7).toNat))) ⟨rfl, (ixl h8), trivial⟩ rfl rfl ty23), ⟨⟨rfl, trivial⟩, ⟨rfl, trivial⟩, rfl⟩, rfl,
            Step.plain rfl (does_bin .add 23 23 (.tmp 57) (.const (.int .u32 1)) .u32 (x1.2.2 ((iand .i64 ((p0.L.getD x1.2.1.toNat z_congresslaw22_Frame).From) 7).toNat)) 1 (.int .u32 (IntKind.u32.wrap ((x1.2.2 ((iand .i64 ((p0.L.getD x1.2.1.toNat z_congresslaw22_Frame).From) 7).toNat)) + 1))) trivial (fun _ => rfl) (bin_add _ _ _ _)), ⟨⟨rfl, trivial⟩, trivial, rfl⟩, rfl,
            Step.plain rfl (does_indexAddr 28 8 1 4 3 0 [] (.var (e_a8_u32 x1.2.2)) (.tmp 55) .i64 (iand .i64 ((p0.L.getD x1.2.1.toNat z_congresslaw22_Frame).From) 7) el28 trivial h9.1 h9.2), ⟨⟨rfl, rfl, trivial⟩, ⟨rfl, trivial⟩, rfl⟩, rfl,
            Step.plain rfl (does_store 23 59 (.tmp 58) 3 (0 + (iand .i64 ((p0.L.getD x1.2.1.toNat z_congresslaw22_Frame).From) 7).toNat * 1) [(iand .i64 ((p0.L.getD x1.2.1.toNat z_congresslaw22_Frame).From) 7).toNat] (.var (e_a8_u32 x1.2.2)) (.var (e_a8_u32 (aupd x1.2.2 ((iand .i64 ((p0.L.getD x1.2.1.toNat z_congresslaw22_Frame).From) 7).toNat) (IntKind.u32.wrap ((x1.2.2 ((iand .i64 ((p0.L.getD x1.2.1.toNat z_congresslaw22_Frame).From) 7).toNat)) + 1))))) (.int .u32 (IntKind.u32.wrap ((x1.2.2 ((iand .i64 ((p0.L.getD x1.2.1.toNat z_congresslaw22_Frame).From) 7).toNat)) + 1))) false trivial rfl ⟨rfl, (ixl h9), trivial⟩ rfl rfl (congrArg Box.var (set_cons rfl (vupd_map (fun z => V.int .u32 z) _ _ _))) ty23), ⟨⟨rfl, rfl, trivial⟩, ⟨rfl, trivial⟩, rfl⟩, rfl, rfl⟩ ?_
          obtain ⟨v10, hv10, H⟩ := lt_of H
          refine aw_cov (cov_prune (s1 := ⟨[(1, (.ptr 0 0 [])), (3, (e_s_api_Wait x1.1)), (4, (.ptr 3 0 [])), (5, (.int .i64 x1.2.1)), (6, (.ptr 4 0 []))], [(0, some (.var (e_congresslaw22_Play p0))), (3, some (.var (e_a8_u32 v10))), (4, some (.var (e_congresslaw22_Frame (p0.L.getD x1.2.1.toNat z_congresslaw22_Frame))))], 5⟩) ⟨rfl, rfl, rfl, rfl, rfl, trivial⟩ ⟨rfl, (by subst hv10; rfl), rfl, trivial⟩ (Nat.le_refl _)) ?_
          obtain ⟨h11, H⟩ := sb_of H
          obtain ⟨v12, h13, H⟩ := bnd H
          refine aw_draw1 (es := [_, _, _, _, _, _, _, _, _, _, _, _, _, _]) (mixed) ⟨Step.plain rfl (does_move (.tmp 3) (e_s_api_Wait x1.1) trivial), ⟨⟨rfl, trivial⟩, trivial, rfl⟩, rfl,
            Step.plain rfl (does_fieldAddr 26 0 0 6 4 0 [] (.var (e_congresslaw22_Frame (p0.L.getD x1.2.1.toNat z_congresslaw22_Frame))) fl26_0), ⟨⟨rfl, trivial⟩, ⟨rfl, trivial⟩, rfl⟩, rfl,
            Step.plain rfl (does_load 3 61 4 (0 + 0) [0] (.var (e_congresslaw22_Frame (p0.L.getD x1.2.1.toNat z_congresslaw22_Frame))) (.int .i64 ((p0.L.getD x1.2.1.toNat z_congresslaw22_Frame).From)) ⟨rfl, Nat.le_of_ble_eq_true rfl, trivial⟩ rfl rfl ty3), ⟨⟨rfl, trivial⟩, ⟨rfl, trivial⟩, rfl⟩, rfl,
            Step.plain rfl (does_fieldAddr 26 1 1 6 4 0 [] (.var (e_congresslaw22_Frame (p0.L.getD x1.2.1.toNat z_congresslaw22_Frame))) fl26_1), ⟨⟨rfl, trivial⟩, ⟨rfl, trivial⟩, rfl⟩, rfl,
            Step.plain rfl (does_load 23 63 4 (0 + 1) [1] (.var (e_congresslaw22_Frame (p0.L.getD x1.2.1.toNat z_congresslaw22_Frame))) (.int .u32 ((p0.L.getD x1.2.1.toNat z_congresslaw22_Frame).Round)) ⟨rfl, Nat.le_of_ble_eq_true rfl, trivial⟩ rfl rfl ty23), ⟨⟨rfl, trivial⟩, ⟨rfl, trivial⟩, rfl⟩, rfl,
            Step.plain rfl (does_fieldAddr 26 2 2 6 4 0 [] (.var (e_congresslaw22_Frame (p0.L.getD x1.2.1.toNat z_congresslaw22_Frame))) fl26_2), ⟨⟨rfl, trivial⟩, ⟨rfl, trivial⟩, rfl⟩, rfl,
            Step.plain rfl (does_load 24 65 4 (0 + 2) [2] (.var (e_congresslaw22_Frame (p0.L.getD x1.2.1.toNat z_congresslaw22_Frame))) (e_s_api_Entry ((p0.L.getD x1.2.1.toNat z_congresslaw22_Frame).L)) ⟨rfl, Nat.le_of_ble_eq_true rfl, trivial⟩ rfl rfl ty24), ⟨⟨rfl, trivial⟩, ⟨rfl, trivial⟩, rfl⟩, rfl,
            Step.plain rfl (does_fieldAddr 26 2 2 6 4 0 [] (.var (e_congresslaw22_Frame (p0.L.getD x1.2.1.toNat z_congresslaw22_Frame))) fl26_2), ⟨⟨rfl, trivial⟩, ⟨rfl, trivial⟩, rfl⟩, rfl,
            Step.plain rfl (does_load 24 67 4 (0 + 2) [2] (.var (e_congresslaw22_Frame (p0.L.getD x1.2.1.toNat z_congresslaw22_Frame))) (e_s_api_Entry ((p0.L.getD x1.2.1.toNat z_congresslaw22_Frame).L)) ⟨rfl, Nat.le_of_ble_eq_true rfl, trivial⟩ rfl rfl ty24), ⟨⟨rfl, trivial⟩, ⟨rfl, trivial⟩, rfl⟩, rfl,
            Step.plain rfl (does_lens 24 6 ((p0.L.getD x1.2.1.toNat z_congresslaw22_Frame).L).length 68 (fun j => (e_api_Entry (((p0.L.getD x1.2.1.toNat z_congresslaw22_Frame).L).getD j z_api_Entry))) el24), ⟨⟨rfl, trivial⟩, trivial, rfl⟩, rfl,
            Step.plain rfl (does_min _ _ (.tmp 69) (.const (.int .i64 4)) rfl .i64 (((p0.L.getD x1.2.1.toNat z_congresslaw22_Frame).L).length : Int) 4 trivial (fun _ => rfl)), ⟨⟨rfl, trivial⟩, trivial, rfl⟩, rfl,
            Step.plain rfl (does_slicesL e_api_Entry z_api_Entry ((p0.L.getD x1.2.1.toNat z_congresslaw22_Frame).L) 24 6 66 0 ((if 4 < (((p0.L.getD x1.2.1.toNat z_congresslaw22_Frame).L).length : Int) then 4 else (((p0.L.getD x1.2.1.toNat z_congresslaw22_Frame).L).length : Int)).toNat) none (some ((.tmp 70), .i64, (if 4 < (((p0.L.getD x1.2.1.toNat z_congresslaw22_Frame).L).length : Int) then 4 else (((p0.L.getD x1.2.1.toNat z_congresslaw22_Frame).L).length : Int)))) _ _ el24 (by decide) rfl rfl trivial trivial rfl (Int.toNat_of_nonneg (Int.le_trans h11.1 h11.2.1)).symm (by omega) (by omega)), ⟨⟨rfl, rfl, trivial⟩, trivial, rfl⟩, rfl,
            Step.plain rfl (does_call 13 0 (fun _ => .any) (.func 13) [(.tmp 60), (.tmp 62), (.tmp 64), (.tmp 71)] [(e_s_api_Wait x1.1), (.int .i64 ((p0.L.getD x1.2.1.toNat z_congresslaw22_Frame).From)), (.int .u32 ((p0.L.getD x1.2.1.toNat z_congresslaw22_Frame).Round)), (e_s_api_Entry ((((p0.L.getD x1.2.1.toNat z_congresslaw22_Frame).L).take ((if 4 < (((p0.L.getD x1.2.1.toNat z_congresslaw22_Frame).L).length : Int) then 4 else (((p0.L.getD x1.2.1.toNat z_congresslaw22_Frame).L).length : Int)).toNat)).drop 0))] [] false [(e_s_api_Wait x1.1), (.int .i64 ((p0.L.getD x1.2.1.toNat z_congresslaw22_Frame).From)), (.int .u32 ((p0.L.getD x1.2.1.toNat z_congresslaw22_Frame).Round)), (e_s_api_Entry ((((p0.L.getD x1.2.1.toNat z_congresslaw22_Frame).L).take ((if 4 < (((p0.L.getD x1.2.1.toNat z_congresslaw22_Frame).L).length : Int) then 4 else (((p0.L.getD x1.2.1.toNat z_congresslaw22_Frame).L).length : Int)).toNat)).drop 0))] (e_s_api_Wait v12) _ _ rfl fo13 rfl ⟨trivial, trivial, trivial, trivial, trivial⟩ ⟨.data _ (d_s_api_Wait x1.1), .data _ trivial, .data _ trivial, .data _ (d_s_api_Entry ((((p0.L.getD x1.2.1.toNat z_congresslaw22_Frame).L).take ((if 4 < (((p0.L.getD x1.2.1.toNat z_congresslaw22_Frame).L).length : Int) then 4 else (((p0.L.getD x1.2.1.toNat z_congresslaw22_Frame).L).length : Int)).toNat)).drop 0)), trivial⟩ (congressref22_Add_spec x1.1 ((p0.L.getD x1.2.1.toNat z_congresslaw22_Frame).From) ((p0.L.getD x1.2.1.toNat z_congresslaw22_Frame).Round) ((((p0.L.getD x1.2.1.toNat z_congresslaw22_Frame).L).take ((if 4 < (((p0.L.getD x1.2.1.toNat z_congresslaw22_Frame).L).length : Int) then 4 else (((p0.L.getD x1.2.1.toNat z_congresslaw22_Frame).L).length : Int)).toNat)).drop 0) _ h13) (d_s_api_Wait v12)), ⟨⟨rfl, rfl, rfl, rfl, trivial⟩, trivial, rfl⟩, rfl,
            Step.plain rfl (does_assign (.tmp 72) (e_s_api_Wait v12) trivial), ⟨⟨rfl, trivial⟩, trivial, rfl⟩, rfl, rfl⟩ rfl ?_
          refine nx_blk ?_
          exact nx_join (v12, v10) H (cov_prune ⟨rfl, rfl, rfl, rfl, trivial⟩ ⟨rfl, rfl, trivial⟩ (Nat.le_of_ble_eq_true rfl))
    · replace H := ite_f hc H
      refine aw_exit ?_
      refine ex_then ?_
      refine ex_then ?_
      refine ex_here ?_
      exact nx_ljoin (x1.1) H hsn2 (cov_prune ⟨rfl, trivial⟩ trivial (Nat.le_of_ble_eq_true rfl))

theorem congresslaw22_QueueOrder_spec (p0 : congresslaw22_Play) (r : Bool) (H : congresslaw22_QueueOrder p0 = some r) : FSpec Try.prog 5 [(e_congresslaw22_Play p0)] (.bool r) := by
  refine spec_of (fn := Try.f5) (args := [(e_congresslaw22_Play p0)]) Try.func5 rfl (Nat.le_of_ble_eq_true rfl) ?_
  rintro ⟨G, w0, W, S, Sp⟩ hG
  cases hG
  unfold congresslaw22_QueueOrder at H
  refine aw_region (es := [_, _]) ⟨Step.plain rfl (does_box 50 (.tmp 0) 0 (e_congresslaw22_Play p0) trivial rfl), ⟨⟨rfl, trivial⟩, trivial, rfl⟩, rfl,
    Step.plain rfl (does_assign (.const (.bool false)) (.bool false) (fun _ => rfl)), ⟨trivial, trivial, rfl⟩, rfl, rfl⟩ ?_
  refine aw_cov (cov_prune (s1 := ⟨[(1, (.ptr 0 0 []))], [(0, some (.var (e_congresslaw22_Play p0)))], 1⟩) ⟨rfl, trivial⟩ ⟨rfl, trivial⟩ (Nat.le_refl _)) ?_
  obtain ⟨v1, h2, H⟩ := bnd H
  obtain ⟨v3, h4, H⟩ := bnd H
  refine aw_draw (es := [_, _, _, _, _, _]) (mixed) ⟨Step.plain rfl (does_load 50 1 0 0 [] (.var (e_congresslaw22_Play p0)) (e_congresslaw22_Play p0) trivial rfl rfl ty50), ⟨⟨rfl, trivial⟩, ⟨rfl, trivial⟩, rfl⟩, rfl,
    Step.plain rfl (does_callO 18 0 (fun _ => .any) (.func 18) [(.tmp 8)] [(e_congresslaw22_Play p0)] [] [] true [(e_congresslaw22_Play p0)] _ (.own 1) _ 1 1 _ _ rfl fo18 rfl ⟨trivial, trivial⟩ ⟨.ro _ _ (.data _ (d_congresslaw22_Play p0)), trivial⟩ (congresslaw22_delivered_spec p0 _ h2) rfl (by simp) rfl trivial ⟨⟨Nat.le_of_ble_eq_true rfl, _, rfl, fun _ => (f_api_Wait _)⟩, trivial⟩ (.own 0 (Nat.le_of_ble_eq_true rfl))), ⟨⟨rfl, trivial⟩, trivial, rfl⟩, rfl,
    Step.plain rfl (does_load 50 1 0 0 [] (.var (e_congresslaw22_Play p0)) (e_congresslaw22_Play p0) trivial rfl rfl ty50), ⟨⟨rfl, trivial⟩, ⟨rfl, trivial⟩, rfl⟩, rfl,
    Step.plain rfl (does_call 19 0 (fun _ => .any) (.func 19) [(.tmp 10)] [(e_congresslaw22_Play p0)] [] false [(e_congresslaw22_Play p0)] (e_s_api_Wait v3) _ _ rfl fo19 rfl ⟨trivial, trivial⟩ ⟨.data _ (d_congresslaw22_Play p0), trivial⟩ (congresslaw22_all_spec p0 _ h4) (d_s_api_Wait v3)), ⟨⟨rfl, trivial⟩, trivial, rfl⟩, rfl,
    Step.plain rfl (does_assign (.tmp 9) (.own 1) trivial), ⟨⟨rfl, trivial⟩, trivial, rfl⟩, rfl,
    Step.plain rfl (does_assign (.tmp 11) (e_s_api_Wait v3) trivial), ⟨⟨rfl, trivial⟩, trivial, rfl⟩, rfl, rfl⟩ rfl ?_
  refine aw_cov (cov_prune (s1 := ⟨[(3, (.own 1)), (4, (e_s_api_Wait v3))], [(1, some (.arr 9 v1.length fun j => (e_api_Wait (v1.getD j z_api_Wait))))], 2⟩) ⟨rfl, rfl, trivial⟩ ⟨rfl, trivial⟩ (Nat.le_refl _)) ?_
  refine aw_seq ?_
  obtain ⟨v5, h6, H⟩ := bnd H
  refine aw_region (es := [_, _, _, _, _, _, _, _, _]) ⟨Step.plain rfl (does_call 8 0 (fun _ => .any) (.func 8) [] [] [] true [] (.bool v5) _ _ rfl fo8 rfl trivial trivial (congresslaw22_fixed_spec _ h6) trivial), ⟨trivial, trivial, rfl⟩, rfl,
    Step.plain rfl (does_not 4 (.tmp 12) v5 trivial), ⟨⟨rfl, trivial⟩, trivial, rfl⟩, rfl,
    Step.plain rfl (does_move (.tmp 13) (.bool (!v5)) trivial), ⟨⟨rfl, trivial⟩, trivial, rfl⟩, rfl,
    Step.guarded rfl rfl rfl rfl (fun hc => does_move (.tmp 3) (.own 1) trivial), ⟨⟨rfl, rfl, trivial⟩, trivial, rfl⟩, rfl,
    Step.guarded rfl rfl rfl rfl (fun hc => Does.strip (n' := [(15, (.opt (!(!v5)) (.own 1)))]) (n := [(15, (.own 1))]) ⟨(.opt _ _ hc), trivial⟩ (does_leno 22 9 v1.length 15 1 (fun j => (e_api_Wait (v1.getD j z_api_Wait))) el22)), ⟨⟨rfl, rfl, trivial⟩, ⟨rfl, trivial⟩, rfl⟩, rfl,
    Step.guarded rfl rfl rfl rfl (fun hc => does_move (.tmp 4) (e_s_api_Wait v3) trivial), ⟨⟨rfl, rfl, trivial⟩, trivial, rfl⟩, rfl,
    Step.guarded rfl rfl rfl rfl (fun hc => Does.strip (n' := [(17, (.opt (!(!v5)) (e_s_api_Wait v3)))]) (n := [(17, (e_s_api_Wait v3))]) ⟨(.opt _ _ hc), trivial⟩ (does_lens 22 9 v3.length 17 (fun j => (e_api_Wait (v3.getD j z_api_Wait))) el22)), ⟨⟨rfl, rfl, trivial⟩, trivial, rfl⟩, rfl,
    Step.guarded rfl rfl rfl rfl (fun hc => Does.strip (n' := [(16, (.opt (!(!v5)) (.int .i64 (v1.length : Int)))), (18, (.opt (!(!v5)) (.int .i64 (v3.length : Int))))]) (n := [(16, (.int .i64 (v1.length : Int))), (18, (.int .i64 (v3.length : Int)))]) ⟨(.opt _ _ hc), (.opt _ _ hc), trivial⟩ (does_bin .neq 3 3 (.tmp 16) (.tmp 18) .i64 (v1.length : Int) (v3.length : Int) (.bool ((v1.length : Int) != (v3.length : Int))) trivial trivial (bin_neq _ _ _ _))), ⟨⟨rfl, rfl, rfl, trivial⟩, trivial, rfl⟩, rfl,
    Step.plain rfl (does_or 14 19 (!v5) ((v1.length : Int) != (v3.length : Int))), ⟨⟨rfl, rfl, trivial⟩, trivial, rfl⟩, rfl, rfl⟩ ?_
  refine aw_cov (cov_prune (s1 := ⟨[(3, (.own 1)), (4, (e_s_api_Wait v3)), (20, (.bool ((!v5) || ((v1.length : Int) != (v3.length : Int)))))], [(1, some (.arr 9 v1.length fun j => (e_api_Wait (v1.getD j z_api_Wait))))], 2⟩) ⟨rfl, rfl, rfl, trivial⟩ ⟨rfl, trivial⟩ (Nat.le_refl _)) ?_
  refine aw_cond rfl (fun hc => ?_) (fun hc => ?_)
  · replace H := ite_t hc H
    refine aw_region (es := [_]) ⟨Step.plain rfl (does_assign (.const (.bool false)) (.bool false) (fun _ => rfl)), ⟨trivial, trivial, rfl⟩, rfl, rfl⟩ ?_
    refine aw_cov (cov_prune (s1 := ⟨[(2, (.bool false))], [], 2⟩) ⟨rfl, trivial⟩ trivial (Nat.le_refl _)) ?_
    refine aw_ret ?_
    refine rt_then ?_
    exact fun a w hr => ⟨_, [(.bool false)], hr, ⟨⟨_, rfl, .data (.bool false) trivial⟩, trivial⟩, by decide, by cases H; rfl⟩
  · replace H := ite_f hc H
    refine aw_skip ?_
    refine nx_seq ?_
    refine aw_region (es := [_, _, _]) ⟨Step.plain rfl (does_buildT 42 #[] [] [] (.st [1, 1, 1]) (c_api_Place z_api_Place) (c_api_Place ({ Round := 0, From := 0, Slot := 0 } : api_Place)) rfl bo42 trivial trivial (by funext j; match j with | 0 => rfl | 1 => rfl | 2 => rfl | _ + 3 => rfl)), ⟨trivial, trivial, rfl⟩, rfl,
      Step.plain rfl (does_alloc 42 2 (e_api_Place z_api_Place) zr42), ⟨trivial, trivial, rfl⟩, rfl,
      Step.plain rfl (does_store 42 5 (.tmp 21) 2 0 [] (.var (e_api_Place z_api_Place)) (.var (e_api_Place ({ Round := 0, From := 0, Slot := 0 } : api_Place))) (e_api_Place ({ Round := 0, From := 0, Slot := 0 } : api_Place)) true trivial rfl trivial rfl rfl rfl ty42), ⟨⟨rfl, rfl, trivial⟩, ⟨rfl, trivial⟩, rfl⟩, rfl, rfl⟩ ?_
    refine aw_cov (cov_prune (s1 := ⟨[(3, (.own 1)), (4, (e_s_api_Wait v3)), (5, (.ptr 2 0 []))], [(1, some (.arr 9 v1.length fun j => (e_api_Wait (v1.getD j z_api_Wait)))), (2, some (.var (e_api_Place ({ Round := 0, From := 0, Slot := 0 } : api_Place))))], 3⟩) ⟨rfl, rfl, rfl, trivial⟩ ⟨rfl, rfl, trivial⟩ (Nat.le_refl _)) ?_
    refine aw_region (es := [_]) ⟨Step.plain rfl (does_assign (.const (.bool true)) (.bool true) (fun _ => rfl)), ⟨trivial, trivial, rfl⟩, rfl, rfl⟩ ?_
    refine aw_cov (cov_prune (s1 := ⟨[(3, (.own 1)), (4, (e_s_api_Wait v3)), (5, (.ptr 2 0 [])), (6, (.bool true))], [(1, some (.arr 9 v1.length fun j => (e_api_Wait (v1.getD j z_api_Wait)))), (2, some (.var (e_api_Place ({ Round := 0, From := 0, Slot := 0 } : api_Place))))], 3⟩) ⟨rfl, rfl, rfl, rfl, trivial⟩ ⟨rfl, rfl, trivial⟩ (Nat.le_refl _)) ?_
    refine aw_seq ?_
    refine aw_region (es := [_]) ⟨Step.plain rfl (does_assign (.const (.int .i64 0)) (.int .i64 0) (fun _ => rfl)), ⟨trivial, trivial, rfl⟩, rfl, rfl⟩ ?_
    refine aw_cov (cov_prune (s1 := ⟨[(3, (.own 1)), (4, (e_s_api_Wait v3)), (5, (.ptr 2 0 [])), (6, (.bool true)), (7, (.int .i64 0))], [(1, some (.arr 9 v1.length fun j => (e_api_Wait (v1.getD j z_api_Wait)))), (2, some (.var (e_api_Place ({ Round := 0, From := 0, Slot := 0 } : api_Place))))], 3⟩) ⟨rfl, rfl, rfl, rfl, rfl, trivial⟩ ⟨rfl, rfl, trivial⟩ (Nat.le_refl _)) ?_
    refine aw_cov (cov_to (s1 := ⟨[(3, (e_s_api_Wait v1)), (4, (e_s_api_Wait v3)), (5, (.ptr 2 0 [])), (6, (.bool true)), (7, (.int .i64 0))], [(2, some (.var (e_api_Place ({ Round := 0, From := 0, Slot := 0 } : api_Place))))], 3⟩) (fun i => i) [1] ⟨⟨_, rfl, .frz 1 _ _ _ rfl (fun _ => (d_api_Wait _)) (by decide)⟩, ⟨_, rfl, .plain _ ((d_s_api_Wait _).plain)⟩, ⟨_, rfl, .ptr 2 _ _ _ _ (Nat.le_of_ble_eq_true rfl) rfl rfl⟩, ⟨_, rfl, .plain _ (trivial)⟩, ⟨_, rfl, .plain _ (trivial)⟩, trivial⟩ ⟨⟨Nat.le_of_ble_eq_true rfl, _, _, rfl, rfl, boxTo_var ((d_api_Place _).plain)⟩, trivial⟩ rfl rfl) ?_
    obtain ⟨wn8, hwn8, Hrn8⟩ := bnd H
    refine aw_meet (fun y25 : Unit => (⟨[], [], 3⟩ : St)) (fun y25 => Fl.nx y25 = wn8) (fun y25 hy => ?_) (aw_block (aw_runs (fun x7 : (_root_.List api_Wait) × Bool × Int × api_Place => (⟨[(3, (e_s_api_Wait v1)), (4, (e_s_api_Wait x7.1)), (5, (.ptr 2 0 [])), (6, (.bool x7.2.1)), (7, (.int .i64 x7.2.2.1))], [(2, some (.var (e_api_Place x7.2.2.2)))], 3⟩ : St)) hwn8 (cov_prune ⟨rfl, rfl, rfl, rfl, rfl, trivial⟩ ⟨rfl, trivial⟩ (Nat.le_of_ble_eq_true rfl)) (fun x7 st H hsn8 => ?_)))
    · have H := nx_of hy Hrn8
      refine nx_seq ?_
      refine aw_region (es := [_]) ⟨Step.plain rfl (does_assign (.const (.bool true)) (.bool true) (fun _ => rfl)), ⟨trivial, trivial, rfl⟩, rfl, rfl⟩ ?_
      refine aw_cov (cov_prune (s1 := ⟨[(2, (.bool true))], [], 3⟩) ⟨rfl, trivial⟩ trivial (Nat.le_refl _)) ?_
      refine aw_ret ?_
      exact fun a w hr => ⟨_, [(.bool true)], hr, ⟨⟨_, rfl, .data (.bool true) trivial⟩, trivial⟩, by decide, by cases H; rfl⟩
    · refine aw_seq ?_
      refine aw_region (es := [_, _, _, _]) ⟨Step.plain rfl (does_move (.tmp 7) (.int .i64 x7.2.2.1) trivial), ⟨⟨rfl, trivial⟩, trivial, rfl⟩, rfl,
        Step.plain rfl (does_move (.tmp 3) (e_s_api_Wait v1) trivial), ⟨⟨rfl, trivial⟩, trivial, rfl⟩, rfl,
        Step.plain rfl (does_lens 22 9 v1.length 23 (fun j => (e_api_Wait (v1.getD j z_api_Wait))) el22), ⟨⟨rfl, trivial⟩, trivial, rfl⟩, rfl,
        Step.plain rfl (does_bin .lss 3 3 (.tmp 22) (.tmp 24) .i64 x7.2.2.1 (v1.length : Int) (.bool (decide (x7.2.2.1 < (v1.length : Int)))) trivial trivial (bin_lss _ _ _ _)), ⟨⟨rfl, rfl, trivial⟩, trivial, rfl⟩, rfl, rfl⟩ ?_
      refine aw_cov (cov_prune (s1 := ⟨[(3, (e_s_api_Wait v1)), (4, (e_s_api_Wait x7.1)), (5, (.ptr 2 0 [])), (6, (.bool x7.2.1)), (7, (.int .i64 x7.2.2.1)), (25, (.bool (decide (x7.2.2.1 < (v1.length : Int)))))], [(2, some (.var (e_api_Place x7.2.2.2)))], 3⟩) ⟨rfl, rfl, rfl, rfl, rfl, rfl, trivial⟩ ⟨rfl, trivial⟩ (Nat.le_refl _)) ?_
      refine aw_cond rfl (fun hc => ?_) (fun hc => ?_)
      · replace H := ite_t hc H
        refine aw_skip ?_
        refine nx_seq ?_
        refine aw_seq ?_
        refine aw_jn (fun x24 : Bool × api_Place => (⟨[(3, (e_s_api_Wait v1)), (4, (e_s_api_Wait x7.1)), (5, (.ptr 2 0 [])), (6, (.bool x24.1)), (7, (.int .i64 x7.2.2.1))], [(2, some (.var (e_api_Place x24.2)))], 3⟩ : St)) H (fun x24 H => ?_) (fun j9 H => ?_)
        · refine nx_seq ?_
          refine aw_region1 (es := [_, _, _]) ⟨Step.plain rfl (does_move (.tmp 7) (.int .i64 x7.2.2.1) trivial), ⟨⟨rfl, trivial⟩, trivial, rfl⟩, rfl,
            Step.plain rfl (does_bin .add 3 3 (.tmp 26) (.const (.int .i64 1)) .i64 x7.2.2.1 1 (.int .i64 (IntKind.i64.wrap (x7.2.2.1 + 1))) trivial (fun _ => rfl) (bin_add _ _ _ _)), ⟨⟨rfl, trivial⟩, trivial, rfl⟩, rfl,
            Step.plain rfl (does_assign (.tmp 27) (.int .i64 (IntKind.i64.wrap (x7.2.2.1 + 1))) trivial), ⟨⟨rfl, trivial⟩, trivial, rfl⟩, rfl, rfl⟩ ?_
          exact nx_loop (x7.1, x24.1, (IntKind.i64.wrap (x7.2.2.1 + 1)), x24.2) H (cov_prune ⟨rfl, rfl, rfl, rfl, rfl, trivial⟩ ⟨rfl, trivial⟩ (Nat.le_of_ble_eq_true rfl))
        · refine aw_block ?_
          refine aw_seq ?_
          obtain ⟨h10, H⟩ := ib_of H
          obtain ⟨v11, h12, H⟩ := bnd H
          obtain ⟨h13, H⟩ := sbg_of H
          obtain ⟨h14, H⟩ := ibg_of H
          obtain ⟨v15, h16, H⟩ := whn_of H
          refine aw_draw (es := [_, _, _, _, _, _, _, _, _, _, _, _, _, _, _, _, _]) (mixed) ⟨Step.plain rfl (does_move (.tmp 4) (e_s_api_Wait x7.1) trivial), ⟨⟨rfl, trivial⟩, trivial, rfl⟩, rfl,
            Step.plain rfl (does_move (.tmp 3) (e_s_api_Wait v1) trivial), ⟨⟨rfl, trivial⟩, trivial, rfl⟩, rfl,
            Step.plain rfl (does_move (.tmp 7) (.int .i64 x7.2.2.1) trivial), ⟨⟨rfl, trivial⟩, trivial, rfl⟩, rfl,
            Step.plain rfl (does_indexAddrs 22 9 v1.length 29 (fun j => (e_api_Wait (v1.getD j z_api_Wait))) (.tmp 30) .i64 x7.2.2.1 el22 trivial h10.1 h10.2), ⟨⟨rfl, rfl, trivial⟩, trivial, rfl⟩, rfl,
            Step.plain rfl (does_loadc 47 31 (e_api_Wait (v1.getD x7.2.2.1.toNat z_api_Wait)) ty47), ⟨⟨rfl, trivial⟩, trivial, rfl⟩, rfl,
            Step.plain rfl (does_call 17 0 (fun _ => .any) (.func 17) [(.tmp 28), (.tmp 32)] [(e_s_api_Wait x7.1), (e_api_Wait (v1.getD x7.2.2.1.toNat z_api_Wait))] [] true [(e_s_api_Wait x7.1), (e_api_Wait (v1.getD x7.2.2.1.toNat z_api_Wait))] (.bool v11) _ _ rfl fo17 rfl ⟨trivial, trivial, trivial⟩ ⟨.data _ (d_s_api_Wait x7.1), .data _ (d_api_Wait (v1.getD x7.2.2.1.toNat z_api_Wait)), trivial⟩ (congressref22_Has_spec x7.1 (v1.getD x7.2.2.1.toNat z_api_Wait) _ h12) trivial), ⟨⟨rfl, rfl, trivial⟩, trivial, rfl⟩, rfl,
            Step.plain rfl (does_not 4 (.tmp 33) v11 trivial), ⟨⟨rfl, trivial⟩, trivial, rfl⟩, rfl,
            Step.plain rfl (does_move (.tmp 34) (.bool (!v11)) trivial), ⟨⟨rfl, trivial⟩, trivial, rfl⟩, rfl,
            Step.guarded rfl rfl rfl rfl (fun hc => does_move (.tmp 3) (e_s_api_Wait v1) trivial), ⟨⟨rfl, rfl, trivial⟩, trivial, rfl⟩, rfl,
            Step.guarded rfl rfl rfl rfl (fun hc => does_move (.tmp 7) (.int .i64 x7.2.2.1) trivial), ⟨⟨rfl, rfl, trivial⟩, trivial, rfl⟩, rfl,
            Step.guarded rfl rfl rfl rfl (fun hc => Does.strip (n' := [(36, (.opt (!(!v11)) (e_s_api_Wait v1))), (37, (.opt (!(!v11)) (.int .i64 x7.2.2.1)))]) (n := [(36, (e_s_api_Wait v1)), (37, (.int .i64 x7.2.2.1))]) ⟨(.opt _ _ hc), (.opt _ _ hc), trivial⟩ (does_slicesL e_api_Wait z_api_Wait v1 22 9 36 0 x7.2.2.1.toNat none (some ((.tmp 37), .i64, x7.2.2.1)) _ _ el22 (by decide) rfl rfl trivial trivial rfl (Int.toNat_of_nonneg (Int.le_trans (h13 hc).1 (h13 hc).2.1)).symm (by have q_ := (h13 hc); omega) (by have q_ := (h13 hc); omega))), ⟨⟨rfl, rfl, rfl, trivial⟩, trivial, rfl⟩, rfl,
            Step.guarded rfl rfl rfl rfl (fun hc => does_move (.tmp 3) (e_s_api_Wait v1) trivial), ⟨⟨rfl, rfl, trivial⟩, trivial, rfl⟩, rfl,
            Step.guarded rfl rfl rfl rfl (fun hc => does_move (.tmp 7) (.int .i64 x7.2.2.1) trivial), ⟨⟨rfl, rfl, trivial⟩, trivial, rfl⟩, rfl,
            Step.guarded rfl rfl rfl rfl (fun hc => Does.strip (n' := [(39, (.opt (!(!v11)) (e_s_api_Wait v1))), (40, (.opt (!(!v11)) (.int .i64 x7.2.2.1)))]) (n := [(39, (e_s_api_Wait v1)), (40, (.int .i64 x7.2.2.1))]) ⟨(.opt _ _ hc), (.opt _ _ hc), trivial⟩ (does_indexAddrs 22 9 v1.length 39 (fun j => (e_api_Wait (v1.getD j z_api_Wait))) (.tmp 40) .i64 x7.2.2.1 el22 trivial (h14 hc).1 (h14 hc).2)), ⟨⟨rfl, rfl, rfl, trivial⟩, trivial, rfl⟩, rfl,
            Step.guarded rfl rfl rfl rfl (fun hc => Does.strip (n' := [(41, (.opt (!(!v11)) (.cptr (e_api_Wait (v1.getD x7.2.2.1.toNat z_api_Wait)))))]) (n := [(41, (.cptr (e_api_Wait (v1.getD x7.2.2.1.toNat z_api_Wait))))]) ⟨(.opt _ _ hc), trivial⟩ (does_loadc 47 41 (e_api_Wait (v1.getD x7.2.2.1.toNat z_api_Wait)) ty47)), ⟨⟨rfl, rfl, trivial⟩, trivial, rfl⟩, rfl,
            Step.guarded rfl rfl rfl rfl (fun hc => Does.strip (n' := [(38, (.opt (!(!v11)) (e_s_api_Wait ((v1.take x7.2.2.1.toNat).drop 0)))), (42, (.opt (!(!v11)) (e_api_Wait (v1.getD x7.2.2.1.toNat z_api_Wait))))]) (n := [(38, (e_s_api_Wait ((v1.take x7.2.2.1.toNat).drop 0))), (42, (e_api_Wait (v1.getD x7.2.2.1.toNat z_api_Wait)))]) ⟨(.opt _ _ hc), (.opt _ _ hc), trivial⟩ (does_call 17 0 (fun _ => .any) (.func 17) [(.tmp 38), (.tmp 42)] [(e_s_api_Wait ((v1.take x7.2.2.1.toNat).drop 0)), (e_api_Wait (v1.getD x7.2.2.1.toNat z_api_Wait))] [] true [(e_s_api_Wait ((v1.take x7.2.2.1.toNat).drop 0)), (e_api_Wait (v1.getD x7.2.2.1.toNat z_api_Wait))] (.bool v15) _ _ rfl fo17 rfl ⟨trivial, trivial, trivial⟩ ⟨.data _ (d_s_api_Wait ((v1.take x7.2.2.1.toNat).drop 0)), .data _ (d_api_Wait (v1.getD x7.2.2.1.toNat z_api_Wait)), trivial⟩ (congressref22_Has_spec ((v1.take x7.2.2.1.toNat).drop 0) (v1.getD x7.2.2.1.toNat z_api_Wait) _ (h16 hc)) trivial)), ⟨⟨rfl, rfl, rfl, trivial⟩, trivial, rfl⟩, rfl,
            Step.plain rfl (does_or 35 43 (!v11) v15), ⟨⟨rfl, rfl, trivial⟩, trivial, rfl⟩, rfl, rfl⟩ rfl ?_
          refine aw_cov (cov_prune (s1 := ⟨[(3, (e_s_api_Wait v1)), (4, (e_s_api_Wait x7.1)), (5, (.ptr 2 0 [])), (6, (.bool x7.2.1)), (7, (.int .i64 x7.2.2.1)), (44, (.bool ((!v11) || v15)))], [(2, some (.var (e_api_Place x7.2.2.2)))], 3⟩) ⟨rfl, rfl, rfl, rfl, rfl, rfl, trivial⟩ ⟨rfl, trivial⟩ (Nat.le_refl _)) ?_
          refine aw_cond rfl (fun hc => ?_) (fun hc => ?_)
          · replace H := ite_t hc H
            refine aw_region (es := [_]) ⟨Step.plain rfl (does_assign (.const (.bool false)) (.bool false) (fun _ => rfl)), ⟨trivial, trivial, rfl⟩, rfl, rfl⟩ ?_
            refine aw_cov (cov_prune (s1 := ⟨[(2, (.bool false))], [], 3⟩) ⟨rfl, trivial⟩ trivial (Nat.le_refl _)) ?_
            refine aw_ret ?_
            replace H := rt_of H hsn8 Hrn8
            refine rt_then ?_
            refine rt_blk ?_
            refine rt_then ?_
            refine rt_then ?_
            refine rt_then ?_
            refine rt_blk ?_
            refine rt_then ?_
            refine rt_then ?_
            exact fun a w hr => ⟨_, [(.bool false)], hr, ⟨⟨_, rfl, .data (.bool false) trivial⟩, trivial⟩, by decide, by cases H; rfl⟩
          · replace H := ite_f hc H
            refine aw_skip ?_
            refine nx_seq ?_
            obtain ⟨h17, H⟩ := ib_of H
            obtain ⟨v18, h19, H⟩ := bnd H
            refine aw_region (es := [_, _, _, _, _, _]) ⟨Step.plain rfl (does_move (.tmp 3) (e_s_api_Wait v1) trivial), ⟨⟨rfl, trivial⟩, trivial, rfl⟩, rfl,
              Step.plain rfl (does_move (.tmp 7) (.int .i64 x7.2.2.1) trivial), ⟨⟨rfl, trivial⟩, trivial, rfl⟩, rfl,
              Step.plain rfl (does_indexAddrs 22 9 v1.length 45 (fun j => (e_api_Wait (v1.getD j z_api_Wait))) (.tmp 46) .i64 x7.2.2.1 el22 trivial h17.1 h17.2), ⟨⟨rfl, rfl, trivial⟩, trivial, rfl⟩, rfl,
              Step.plain rfl (does_fieldAddrc 47 1 3 47 (e_api_Wait (v1.getD x7.2.2.1.toNat z_api_Wait)) fl47_1 rfl (Nat.le_of_ble_eq_true rfl) rfl), ⟨⟨rfl, trivial⟩, trivial, rfl⟩, rfl,
              Step.plain rfl (does_loadc 45 48 (e_api_Entry ((v1.getD x7.2.2.1.toNat z_api_Wait).Entry)) ty45), ⟨⟨rfl, trivial⟩, trivial, rfl⟩, rfl,
              Step.plain rfl (does_call 20 0 (fun _ => .any) (.func 20) [(.tmp 49)] [(e_api_Entry ((v1.getD x7.2.2.1.toNat z_api_Wait).Entry))] [] true [(e_api_Entry ((v1.getD x7.2.2.1.toNat z_api_Wait).Entry))] (.bool v18) _ _ rfl fo20 rfl ⟨trivial, trivial⟩ ⟨.data _ (d_api_Entry ((v1.getD x7.2.2.1.toNat z_api_Wait).Entry)), trivial⟩ (congressref22_Ordered_spec ((v1.getD x7.2.2.1.toNat z_api_Wait).Entry) _ h19) trivial), ⟨⟨rfl, trivial⟩, trivial, rfl⟩, rfl, rfl⟩ ?_
            refine aw_cov (cov_prune (s1 := ⟨[(3, (e_s_api_Wait v1)), (4, (e_s_api_Wait x7.1)), (5, (.ptr 2 0 [])), (6, (.bool x7.2.1)), (7, (.int .i64 x7.2.2.1)), (50, (.bool v18))], [(2, some (.var (e_api_Place x7.2.2.2)))], 3⟩) ⟨rfl, rfl, rfl, rfl, rfl, rfl, trivial⟩ ⟨rfl, trivial⟩ (Nat.le_refl _)) ?_
            refine aw_cond rfl (fun hc => ?_) (fun hc => ?_)
            · replace H := ite_t hc H
              refine aw_seq ?_
              obtain ⟨h20, H⟩ := ibg_of H
              obtain ⟨v21, h22, H⟩ := whn_of H
              refine aw_draw (es := [_, _, _, _, _, _, _, _, _, _, _, _]) (mixed) ⟨Step.plain rfl (does_move (.tmp 6) (.bool x7.2.1) trivial), ⟨⟨rfl, trivial⟩, trivial, rfl⟩, rfl,
                Step.plain rfl (does_not 4 (.tmp 51) x7.2.1 trivial), ⟨⟨rfl, trivial⟩, trivial, rfl⟩, rfl,
                Step.plain rfl (does_move (.tmp 52) (.bool (!x7.2.1)) trivial), ⟨⟨rfl, trivial⟩, trivial, rfl⟩, rfl,
                Step.guarded rfl rfl rfl rfl (fun hc => does_load 42 5 2 0 [] (.var (e_api_Place x7.2.2.2)) (e_api_Place x7.2.2.2) trivial rfl rfl ty42), ⟨⟨rfl, rfl, trivial⟩, ⟨rfl, trivial⟩, rfl⟩, rfl,
                Step.guarded rfl rfl rfl rfl (fun hc => does_move (.tmp 3) (e_s_api_Wait v1) trivial), ⟨⟨rfl, rfl, trivial⟩, trivial, rfl⟩, rfl,
                Step.guarded rfl rfl rfl rfl (fun hc => does_move (.tmp 7) (.int .i64 x7.2.2.1) trivial), ⟨⟨rfl, rfl, trivial⟩, trivial, rfl⟩, rfl,
                Step.guarded rfl rfl rfl rfl (fun hc => Does.strip (n' := [(55, (.opt (!x7.2.1) (e_s_api_Wait v1))), (56, (.opt (!x7.2.1) (.int .i64 x7.2.2.1)))]) (n := [(55, (e_s_api_Wait v1)), (56, (.int .i64 x7.2.2.1))]) ⟨(.opt _ _ hc), (.opt _ _ hc), trivial⟩ (does_indexAddrs 22 9 v1.length 55 (fun j => (e_api_Wait (v1.getD j z_api_Wait))) (.tmp 56) .i64 x7.2.2.1 el22 trivial (h20 hc).1 (h20 hc).2)), ⟨⟨rfl, rfl, rfl, trivial⟩, trivial, rfl⟩, rfl,
                Step.guarded rfl rfl rfl rfl (fun hc => Does.strip (n' := [(57, (.opt (!x7.2.1) (.cptr (e_api_Wait (v1.getD x7.2.2.1.toNat z_api_Wait)))))]) (n := [(57, (.cptr (e_api_Wait (v1.getD x7.2.2.1.toNat z_api_Wait))))]) ⟨(.opt _ _ hc), trivial⟩ (does_fieldAddrc 47 0 0 57 (e_api_Wait (v1.getD x7.2.2.1.toNat z_api_Wait)) fl47_0 rfl (Nat.le_of_ble_eq_true rfl) rfl)), ⟨⟨rfl, rfl, trivial⟩, trivial, rfl⟩, rfl,
                Step.guarded rfl rfl rfl rfl (fun hc => Does.strip (n' := [(58, (.opt (!x7.2.1) (.cptr (e_api_Place ((v1.getD x7.2.2.1.toNat z_api_Wait).Place)))))]) (n := [(58, (.cptr (e_api_Place ((v1.getD x7.2.2.1.toNat z_api_Wait).Place))))]) ⟨(.opt _ _ hc), trivial⟩ (does_loadc 42 58 (e_api_Place ((v1.getD x7.2.2.1.toNat z_api_Wait).Place)) ty42)), ⟨⟨rfl, rfl, trivial⟩, trivial, rfl⟩, rfl,
                Step.guarded rfl rfl rfl rfl (fun hc => Does.strip (n' := [(54, (.opt (!x7.2.1) (e_api_Place x7.2.2.2))), (59, (.opt (!x7.2.1) (e_api_Place ((v1.getD x7.2.2.1.toNat z_api_Wait).Place))))]) (n := [(54, (e_api_Place x7.2.2.2)), (59, (e_api_Place ((v1.getD x7.2.2.1.toNat z_api_Wait).Place)))]) ⟨(.opt _ _ hc), (.opt _ _ hc), trivial⟩ (does_call 21 0 (fun _ => .any) (.func 21) [(.tmp 54), (.tmp 59)] [(e_api_Place x7.2.2.2), (e_api_Place ((v1.getD x7.2.2.1.toNat z_api_Wait).Place))] [] true [(e_api_Place x7.2.2.2), (e_api_Place ((v1.getD x7.2.2.1.toNat z_api_Wait).Place))] (.bool v21) _ _ rfl fo21 rfl ⟨trivial, trivial, trivial⟩ ⟨.data _ (d_api_Place x7.2.2.2), .data _ (d_api_Place ((v1.getD x7.2.2.1.toNat z_api_Wait).Place)), trivial⟩ (congressref09_Before_spec x7.2.2.2 ((v1.getD x7.2.2.1.toNat z_api_Wait).Place) _ (h22 hc)) trivial)), ⟨⟨rfl, rfl, rfl, trivial⟩, trivial, rfl⟩, rfl,
                Step.guarded rfl rfl rfl rfl (fun hc => Does.strip (n' := [(60, (.opt (!x7.2.1) (.bool v21)))]) (n := [(60, (.bool v21))]) ⟨(.opt _ _ hc), trivial⟩ (does_not 4 (.tmp 60) v21 trivial)), ⟨⟨rfl, rfl, trivial⟩, trivial, rfl⟩, rfl,
                Step.plain rfl (does_and 53 61 (!x7.2.1) (!v21)), ⟨⟨rfl, rfl, trivial⟩, trivial, rfl⟩, rfl, rfl⟩ rfl ?_
              refine aw_cov (cov_prune (s1 := ⟨[(3, (e_s_api_Wait v1)), (4, (e_s_api_Wait x7.1)), (5, (.ptr 2 0 [])), (7, (.int .i64 x7.2.2.1)), (62, (.bool ((!x7.2.1) && (!v21))))], [(2, some (.var (e_api_Place x7.2.2.2)))], 3⟩) ⟨rfl, rfl, rfl, rfl, rfl, trivial⟩ ⟨rfl, trivial⟩ (Nat.le_refl _)) ?_
              refine aw_cond rfl (fun hc => ?_) (fun hc => ?_)
              · replace H := ite_t hc H
                refine aw_region (es := [_]) ⟨Step.plain rfl (does_assign (.const (.bool false)) (.bool false) (fun _ => rfl)), ⟨trivial, trivial, rfl⟩, rfl, rfl⟩ ?_
                refine aw_cov (cov_prune (s1 := ⟨[(2, (.bool false))], [], 3⟩) ⟨rfl, trivial⟩ trivial (Nat.le_refl _)) ?_
                refine aw_ret ?_
                replace H := rt_of H hsn8 Hrn8
                refine rt_then ?_
                refine rt_blk ?_
                refine rt_then ?_
                refine rt_then ?_
                refine rt_then ?_
                refine rt_blk ?_
                refine rt_then ?_
                refine rt_then ?_
                exact fun a w hr => ⟨_, [(.bool false)], hr, ⟨⟨_, rfl, .data (.bool false) trivial⟩, trivial⟩, by decide, by cases H; rfl⟩
              · replace H := ite_f hc H
                refine aw_skip ?_
                refine nx_seq ?_
                obtain ⟨h23, H⟩ := ib_of H
                refine aw_region (es := [_, _, _, _, _, _]) ⟨Step.plain rfl (does_move (.tmp 3) (e_s_api_Wait v1) trivial), ⟨⟨rfl, trivial⟩, trivial, rfl⟩, rfl,
                  Step.plain rfl (does_move (.tmp 7) (.int .i64 x7.2.2.1) trivial), ⟨⟨rfl, trivial⟩, trivial, rfl⟩, rfl,
                  Step.plain rfl (does_indexAddrs 22 9 v1.length 63 (fun j => (e_api_Wait (v1.getD j z_api_Wait))) (.tmp 64) .i64 x7.2.2.1 el22 trivial h23.1 h23.2), ⟨⟨rfl, rfl, trivial⟩, trivial, rfl⟩, rfl,
                  Step.plain rfl (does_fieldAddrc 47 0 0 65 (e_api_Wait (v1.getD x7.2.2.1.toNat z_api_Wait)) fl47_0 rfl (Nat.le_of_ble_eq_true rfl) rfl), ⟨⟨rfl, trivial⟩, trivial, rfl⟩, rfl,
                  Step.plain rfl (does_loadc 42 66 (e_api_Place ((v1.getD x7.2.2.1.toNat z_api_Wait).Place)) ty42), ⟨⟨rfl, trivial⟩, trivial, rfl⟩, rfl,
                  Step.plain rfl (does_store 42 5 (.tmp 67) 2 0 [] (.var (e_api_Place x7.2.2.2)) (.var (e_api_Place ((v1.getD x7.2.2.1.toNat z_api_Wait).Place))) (e_api_Place ((v1.getD x7.2.2.1.toNat z_api_Wait).Place)) true trivial rfl trivial rfl rfl rfl ty42), ⟨⟨rfl, rfl, trivial⟩, ⟨rfl, trivial⟩, rfl⟩, rfl, rfl⟩ ?_
                refine aw_cov (cov_prune (s1 := ⟨[(3, (e_s_api_Wait v1)), (4, (e_s_api_Wait x7.1)), (5, (.ptr 2 0 [])), (7, (.int .i64 x7.2.2.1))], [(2, some (.var (e_api_Place ((v1.getD x7.2.2.1.toNat z_api_Wait).Place))))], 3⟩) ⟨rfl, rfl, rfl, rfl, trivial⟩ ⟨rfl, trivial⟩ (Nat.le_refl _)) ?_
                refine aw_region1 (es := [_]) ⟨Step.plain rfl (does_assign (.const (.bool false)) (.bool false) (fun _ => rfl)), ⟨trivial, trivial, rfl⟩, rfl, rfl⟩ ?_
                refine nx_blk ?_
                exact nx_join (false, (v1.getD x7.2.2.1.toNat z_api_Wait).Place) H (cov_prune ⟨rfl, rfl, rfl, rfl, rfl, trivial⟩ ⟨rfl, trivial⟩ (Nat.le_of_ble_eq_true rfl))
            · replace H := ite_f hc H
              refine aw_skip ?_
              refine nx_blk ?_
              exact nx_join (x7.2.1, x7.2.2.2) H (cov_prune ⟨rfl, rfl, rfl, rfl, rfl, trivial⟩ ⟨rfl, trivial⟩ (Nat.le_of_ble_eq_true rfl))
      · replace H := ite_f hc H
        refine aw_exit ?_
        refine ex_then ?_
        refine ex_then ?_
        refine ex_here ?_
        exact nx_ljoin () H hsn8 (cov_prune trivial trivial (Nat.le_of_ble_eq_true rfl))

theorem congresslaw22_QueueFifo_spec (p0 : congresslaw22_Play) (r : Bool) (H : congresslaw22_QueueFifo p0 = some r) : FSpec Try.prog 6 [(e_congresslaw22_Play p0)] (.bool r) := by
  refine spec_of (fn := Try.f6) (args := [(e_congresslaw22_Play p0)]) Try.func6 rfl (Nat.le_of_ble_eq_true rfl) ?_
  rintro ⟨G, w0, W, S, Sp⟩ hG
  cases hG
  unfold congresslaw22_QueueFifo at H
  refine aw_region (es := [_, _]) ⟨Step.plain rfl (does_box 50 (.tmp 0) 0 (e_congresslaw22_Play p0) trivial rfl), ⟨⟨rfl, trivial⟩, trivial, rfl⟩, rfl,
    Step.plain rfl (does_assign (.const (.bool false)) (.bool false) (fun _ => rfl)), ⟨trivial, trivial, rfl⟩, rfl, rfl⟩ ?_
  refine aw_cov (cov_prune (s1 := ⟨[(1, (.ptr 0 0 []))], [(0, some (.var (e_congresslaw22_Play p0)))], 1⟩) ⟨rfl, trivial⟩ ⟨rfl, trivial⟩ (Nat.le_refl _)) ?_
  obtain ⟨v1, h2, H⟩ := bnd H
  refine aw_region (es := [_, _, _]) ⟨Step.plain rfl (does_load 50 1 0 0 [] (.var (e_congresslaw22_Play p0)) (e_congresslaw22_Play p0) trivial rfl rfl ty50), ⟨⟨rfl, trivial⟩, ⟨rfl, trivial⟩, rfl⟩, rfl,
    Step.plain rfl (does_callO 18 0 (fun _ => .any) (.func 18) [(.tmp 8)] [(e_congresslaw22_Play p0)] [] [] true [(e_congresslaw22_Play p0)] _ (.own 1) _ 1 1 _ _ rfl fo18 rfl ⟨trivial, trivial⟩ ⟨.ro _ _ (.data _ (d_congresslaw22_Play p0)), trivial⟩ (congresslaw22_delivered_spec p0 _ h2) rfl (by simp) rfl trivial ⟨⟨Nat.le_of_ble_eq_true rfl, _, rfl, fun _ => (f_api_Wait _)⟩, trivial⟩ (.own 0 (Nat.le_of_ble_eq_true rfl))), ⟨⟨rfl, trivial⟩, trivial, rfl⟩, rfl,
    Step.plain rfl (does_assign (.tmp 9) (.own 1) trivial), ⟨⟨rfl, trivial⟩, trivial, rfl⟩, rfl, rfl⟩ ?_
  refine aw_cov (cov_prune (s1 := ⟨[(3, (.own 1))], [(1, some (.arr 9 v1.length fun j => (e_api_Wait (v1.getD j z_api_Wait))))], 2⟩) ⟨rfl, trivial⟩ ⟨rfl, trivial⟩ (Nat.le_refl _)) ?_
  refine aw_seq ?_
  refine aw_region (es := [_]) ⟨Step.plain rfl (does_assign (.const (.int .i64 0)) (.int .i64 0) (fun _ => rfl)), ⟨trivial, trivial, rfl⟩, rfl, rfl⟩ ?_
  refine aw_cov (cov_prune (s1 := ⟨[(3, (.own 1)), (4, (.int .i64 0))], [(1, some (.arr 9 v1.length fun j => (e_api_Wait (v1.getD j z_api_Wait))))], 2⟩) ⟨rfl, rfl, trivial⟩ ⟨rfl, trivial⟩ (Nat.le_refl _)) ?_
  obtain ⟨wn4, hwn4, Hrn4⟩ := bnd H
  refine aw_meet (fun y14 : Unit => (⟨[], [], 2⟩ : St)) (fun y14 => Fl.nx y14 = wn4) (fun y14 hy => ?_) (aw_block (aw_runs (fun x3 : Int => (⟨[(3, (.own 1)), (4, (.int .i64 x3))], [(1, some (.arr 9 v1.length fun j => (e_api_Wait (v1.getD j z_api_Wait))))], 2⟩ : St)) hwn4 (cov_prune ⟨rfl, rfl, trivial⟩ ⟨rfl, trivial⟩ (Nat.le_of_ble_eq_true rfl)) (fun x3 st H hsn4 => ?_)))
  · have H := nx_of hy Hrn4
    refine nx_seq ?_
    obtain ⟨v15, h16, H⟩ := bnd H
    refine aw_region (es := [_, _]) ⟨Step.plain rfl (does_call 8 0 (fun _ => .any) (.func 8) [] [] [] true [] (.bool v15) _ _ rfl fo8 rfl trivial trivial (congresslaw22_fixed_spec _ h16) trivial), ⟨trivial, trivial, rfl⟩, rfl,
      Step.plain rfl (does_assign (.tmp 99) (.bool v15) trivial), ⟨⟨rfl, trivial⟩, trivial, rfl⟩, rfl, rfl⟩ ?_
    refine aw_cov (cov_prune (s1 := ⟨[(2, (.bool v15))], [], 2⟩) ⟨rfl, trivial⟩ trivial (Nat.le_refl _)) ?_
    refine aw_ret ?_
    exact fun a w hr => ⟨_, [(.bool v15)], hr, ⟨⟨_, rfl, .data (.bool v15) trivial⟩, trivial⟩, by decide, by cases H; rfl⟩
  · refine aw_seq ?_
    refine aw_region (es := [_, _, _, _]) ⟨Step.plain rfl (does_move (.tmp 4) (.int .i64 x3) trivial), ⟨⟨rfl, trivial⟩, trivial, rfl⟩, rfl,
      Step.plain rfl (does_move (.tmp 3) (.own 1) trivial), ⟨⟨rfl, trivial⟩, trivial, rfl⟩, rfl,
      Step.plain rfl (does_leno 22 9 v1.length 11 1 (fun j => (e_api_Wait (v1.getD j z_api_Wait))) el22), ⟨⟨rfl, trivial⟩, ⟨rfl, trivial⟩, rfl⟩, rfl,
      Step.plain rfl (does_bin .lss 3 3 (.tmp 10) (.tmp 12) .i64 x3 (v1.length : Int) (.bool (decide (x3 < (v1.length : Int)))) trivial trivial (bin_lss _ _ _ _)), ⟨⟨rfl, rfl, trivial⟩, trivial, rfl⟩, rfl, rfl⟩ ?_
    refine aw_cov (cov_prune (s1 := ⟨[(3, (.own 1)), (4, (.int .i64 x3)), (13, (.bool (decide (x3 < (v1.length : Int)))))], [(1, some (.arr 9 v1.length fun j => (e_api_Wait (v1.getD j z_api_Wait))))], 2⟩) ⟨rfl, rfl, rfl, trivial⟩ ⟨rfl, trivial⟩ (Nat.le_refl _)) ?_
    refine aw_cond rfl (fun hc => ?_) (fun hc => ?_)
    · replace H := ite_t hc H
      refine aw_skip ?_
      refine nx_seq ?_
      refine aw_seq ?_
      refine aw_block ?_
      refine aw_region (es := [_]) ⟨Step.plain rfl (does_assign (.const (.int .i64 0)) (.int .i64 0) (fun _ => rfl)), ⟨trivial, trivial, rfl⟩, rfl, rfl⟩ ?_
      refine aw_cov (cov_prune (s1 := ⟨[(3, (.own 1)), (4, (.int .i64 x3)), (5, (.int .i64 0))], [(1, some (.arr 9 v1.length fun j => (e_api_Wait (v1.getD j z_api_Wait))))], 2⟩) ⟨rfl, rfl, rfl, trivial⟩ ⟨rfl, trivial⟩ (Nat.le_refl _)) ?_
      obtain ⟨wn6, hwn6, Hrn6⟩ := bnd H
      refine aw_meet (fun y13 : Unit => (⟨[(3, (.own 1)), (4, (.int .i64 x3))], [(1, some (.arr 9 v1.length fun j => (e_api_Wait (v1.getD j z_api_Wait))))], 2⟩ : St)) (fun y13 => Fl.nx y13 = wn6) (fun y13 hy => ?_) (aw_block (aw_runs (fun x5 : Int => (⟨[(3, (.own 1)), (4, (.int .i64 x3)), (5, (.int .i64 x5))], [(1, some (.arr 9 v1.length fun j => (e_api_Wait (v1.getD j z_api_Wait))))], 2⟩ : St)) hwn6 (cov_prune ⟨rfl, rfl, rfl, trivial⟩ ⟨rfl, trivial⟩ (Nat.le_of_ble_eq_true rfl)) (fun x5 st H hsn6 => ?_)))
      · have H := nx_of hy Hrn6
        refine nx_blk ?_
        refine nx_seq ?_
        refine aw_region1 (es := [_, _, _]) ⟨Step.plain rfl (does_move (.tmp 4) (.int .i64 x3) trivial), ⟨⟨rfl, trivial⟩, trivial, rfl⟩, rfl,
          Step.plain rfl (does_bin .add 3 3 (.tmp 14) (.const (.int .i64 1)) .i64 x3 1 (.int .i64 (IntKind.i64.wrap (x3 + 1))) trivial (fun _ => rfl) (bin_add _ _ _ _)), ⟨⟨rfl, trivial⟩, trivial, rfl⟩, rfl,
          Step.plain rfl (does_assign (.tmp 15) (.int .i64 (IntKind.i64.wrap (x3 + 1))) trivial), ⟨⟨rfl, trivial⟩, trivial, rfl⟩, rfl, rfl⟩ ?_
        exact nx_loop ((IntKind.i64.wrap (x3 + 1))) H (cov_prune ⟨rfl, rfl, trivial⟩ ⟨rfl, trivial⟩ (Nat.le_of_ble_eq_true rfl))
      · refine aw_seq ?_
        refine aw_region (es := [_, _, _]) ⟨Step.plain rfl (does_move (.tmp 5) (.int .i64 x5) trivial), ⟨⟨rfl, trivial⟩, trivial, rfl⟩, rfl,
          Step.plain rfl (does_move (.tmp 4) (.int .i64 x3) trivial), ⟨⟨rfl, trivial⟩, trivial, rfl⟩, rfl,
          Step.plain rfl (does_bin .lss 3 3 (.tmp 16) (.tmp 17) .i64 x5 x3 (.bool (decide (x5 < x3))) trivial trivial (bin_lss _ _ _ _)), ⟨⟨rfl, rfl, trivial⟩, trivial, rfl⟩, rfl, rfl⟩ ?_
        refine aw_cov (cov_prune (s1 := ⟨[(3, (.own 1)), (4, (.int .i64 x3)), (5, (.int .i64 x5)), (18, (.bool (decide (x5 < x3))))], [(1, some (.arr 9 v1.length fun j => (e_api_Wait (v1.getD j z_api_Wait))))], 2⟩) ⟨rfl, rfl, rfl, rfl, trivial⟩ ⟨rfl, trivial⟩ (Nat.le_refl _)) ?_
        refine aw_cond rfl (fun hc => ?_) (fun hc => ?_)
        · replace H := ite_t hc H
          refine aw_skip ?_
          refine nx_seq ?_
          refine aw_seq ?_
          refine aw_block ?_
          obtain ⟨h7, H⟩ := ib_of H
          obtain ⟨h8, H⟩ := ib_of H
          refine aw_draw (es := [_, _, _, _, _, _, _, _, _, _, _, _]) (mixed) ⟨Step.plain rfl (does_move (.tmp 3) (.own 1) trivial), ⟨⟨rfl, trivial⟩, trivial, rfl⟩, rfl,
            Step.plain rfl (does_move (.tmp 5) (.int .i64 x5) trivial), ⟨⟨rfl, trivial⟩, trivial, rfl⟩, rfl,
            Step.plain rfl (does_indexAddro 22 9 v1.length 21 1 (fun j => (e_api_Wait (v1.getD j z_api_Wait))) (.tmp 22) .i64 x5 el22 trivial h7.1 h7.2), ⟨⟨rfl, rfl, trivial⟩, ⟨rfl, trivial⟩, rfl⟩, rfl,
            Step.plain rfl (does_load 47 23 1 (x5.toNat * 9) [x5.toNat] (.arr 9 v1.length fun j => (e_api_Wait (v1.getD j z_api_Wait))) (e_api_Wait (v1.getD x5.toNat z_api_Wait)) ⟨(ixl h7), trivial⟩ rfl rfl ty47), ⟨⟨rfl, trivial⟩, ⟨rfl, trivial⟩, rfl⟩, rfl,
            Step.plain rfl (does_move (.tmp 3) (.own 1) trivial), ⟨⟨rfl, trivial⟩, trivial, rfl⟩, rfl,
            Step.plain rfl (does_move (.tmp 4) (.int .i64 x3) trivial), ⟨⟨rfl, trivial⟩, trivial, rfl⟩, rfl,
            Step.plain rfl (does_indexAddro 22 9 v1.length 25 1 (fun j => (e_api_Wait (v1.getD j z_api_Wait))) (.tmp 26) .i64 x3 el22 trivial h8.1 h8.2), ⟨⟨rfl, rfl, trivial⟩, ⟨rfl, trivial⟩, rfl⟩, rfl,
            Step.plain rfl (does_load 47 27 1 (x3.toNat * 9) [x3.toNat] (.arr 9 v1.length fun j => (e_api_Wait (v1.getD j z_api_Wait))) (e_api_Wait (v1.getD x3.toNat z_api_Wait)) ⟨(ixl h8), trivial⟩ rfl rfl ty47), ⟨⟨rfl, trivial⟩, ⟨rfl, trivial⟩, rfl⟩, rfl,
            Step.plain rfl (does_alloc 47 2 (e_api_Wait z_api_Wait) zr47), ⟨trivial, trivial, rfl⟩, rfl,
            Step.plain rfl (does_alloc 47 3 (e_api_Wait z_api_Wait) zr47), ⟨trivial, trivial, rfl⟩, rfl,
            Step.plain rfl (does_store 47 6 (.tmp 24) 2 0 [] (.var (e_api_Wait z_api_Wait)) (.var (e_api_Wait (v1.getD x5.toNat z_api_Wait))) (e_api_Wait (v1.getD x5.toNat z_api_Wait)) true trivial rfl trivial rfl rfl rfl ty47), ⟨⟨rfl, rfl, trivial⟩, ⟨rfl, trivial⟩, rfl⟩, rfl,
            Step.plain rfl (does_store 47 7 (.tmp 28) 3 0 [] (.var (e_api_Wait z_api_Wait)) (.var (e_api_Wait (v1.getD x3.toNat z_api_Wait))) (e_api_Wait (v1.getD x3.toNat z_api_Wait)) true trivial rfl trivial rfl rfl rfl ty47), ⟨⟨rfl, rfl, trivial⟩, ⟨rfl, trivial⟩, rfl⟩, rfl, rfl⟩ rfl ?_
          refine aw_cov (cov_prune (s1 := ⟨[(3, (.own 1)), (4, (.int .i64 x3)), (5, (.int .i64 x5)), (6, (.ptr 2 0 [])), (7, (.ptr 3 0 []))], [(1, some (.arr 9 v1.length fun j => (e_api_Wait (v1.getD j z_api_Wait)))), (2, some (.var (e_api_Wait (v1.getD x5.toNat z_api_Wait)))), (3, some (.var (e_api_Wait (v1.getD x3.toNat z_api_Wait))))], 4⟩) ⟨rfl, rfl, rfl, rfl, rfl, trivial⟩ ⟨rfl, rfl, rfl, trivial⟩ (Nat.le_refl _)) ?_
          refine aw_seq ?_
          obtain ⟨v9, h10, H⟩ := whn_of H
          refine aw_region (es := [_, _, _, _, _, _, _, _, _, _, _, _, _, _, _, _, _, _, _, _, _, _, _, _, _, _, _, _, _, _, _, _, _]) ⟨Step.plain rfl (does_fieldAddr 47 0 0 6 2 0 [] (.var (e_api_Wait (v1.getD x5.toNat z_api_Wait))) fl47_0), ⟨⟨rfl, trivial⟩, ⟨rfl, trivial⟩, rfl⟩, rfl,
            Step.plain rfl (does_fieldAddr 42 1 1 29 2 (0 + 0) [0] (.var (e_api_Wait (v1.getD x5.toNat z_api_Wait))) fl42_1), ⟨⟨rfl, trivial⟩, ⟨rfl, trivial⟩, rfl⟩, rfl,
            Step.plain rfl (does_load 3 30 2 ((0 + 0) + 1) [0, 1] (.var (e_api_Wait (v1.getD x5.toNat z_api_Wait))) (.int .i64 (((v1.getD x5.toNat z_api_Wait).Place).From)) ⟨rfl, Nat.le_of_ble_eq_true rfl, ⟨rfl, Nat.le_of_ble_eq_true rfl, trivial⟩⟩ rfl rfl ty3), ⟨⟨rfl, trivial⟩, ⟨rfl, trivial⟩, rfl⟩, rfl,
            Step.plain rfl (does_fieldAddr 47 0 0 7 3 0 [] (.var (e_api_Wait (v1.getD x3.toNat z_api_Wait))) fl47_0), ⟨⟨rfl, trivial⟩, ⟨rfl, trivial⟩, rfl⟩, rfl,
            Step.plain rfl (does_fieldAddr 42 1 1 32 3 (0 + 0) [0] (.var (e_api_Wait (v1.getD x3.toNat z_api_Wait))) fl42_1), ⟨⟨rfl, trivial⟩, ⟨rfl, trivial⟩, rfl⟩, rfl,
            Step.plain rfl (does_load 3 33 3 ((0 + 0) + 1) [0, 1] (.var (e_api_Wait (v1.getD x3.toNat z_api_Wait))) (.int .i64 (((v1.getD x3.toNat z_api_Wait).Place).From)) ⟨rfl, Nat.le_of_ble_eq_true rfl, ⟨rfl, Nat.le_of_ble_eq_true rfl, trivial⟩⟩ rfl rfl ty3), ⟨⟨rfl, trivial⟩, ⟨rfl, trivial⟩, rfl⟩, rfl,
            Step.plain rfl (does_bin .eql 3 3 (.tmp 31) (.tmp 34) .i64 (((v1.getD x5.toNat z_api_Wait).Place).From) (((v1.getD x3.toNat z_api_Wait).Place).From) (.bool ((((v1.getD x5.toNat z_api_Wait).Place).From) == (((v1.getD x3.toNat z_api_Wait).Place).From))) trivial trivial (bin_eql _ _ _ _)), ⟨⟨rfl, rfl, trivial⟩, trivial, rfl⟩, rfl,
            Step.plain rfl (does_move (.tmp 35) (.bool ((((v1.getD x5.toNat z_api_Wait).Place).From) == (((v1.getD x3.toNat z_api_Wait).Place).From))) trivial), ⟨⟨rfl, trivial⟩, trivial, rfl⟩, rfl,
            Step.guarded rfl rfl rfl rfl (fun hc => does_fieldAddr 47 1 3 6 2 0 [] (.var (e_api_Wait (v1.getD x5.toNat z_api_Wait))) fl47_1), ⟨⟨rfl, rfl, trivial⟩, ⟨rfl, trivial⟩, rfl⟩, rfl,
            Step.guarded rfl rfl rfl rfl (fun hc => Does.strip (n' := [(37, (.opt ((((v1.getD x5.toNat z_api_Wait).Place).From) == (((v1.getD x3.toNat z_api_Wait).Place).From)) (.ptr 2 (0 + 3) [1])))]) (n := [(37, (.ptr 2 (0 + 3) [1]))]) ⟨(.opt _ _ hc), trivial⟩ (does_fieldAddr 45 1 1 37 2 (0 + 3) [1] (.var (e_api_Wait (v1.getD x5.toNat z_api_Wait))) fl45_1)), ⟨⟨rfl, rfl, trivial⟩, ⟨rfl, trivial⟩, rfl⟩, rfl,
            Step.guarded rfl rfl rfl rfl (fun hc => Does.strip (n' := [(38, (.opt ((((v1.getD x5.toNat z_api_Wait).Place).From) == (((v1.getD x3.toNat z_api_Wait).Place).From)) (.ptr 2 ((0 + 3) + 1) [1, 1])))]) (n := [(38, (.ptr 2 ((0 + 3) + 1) [1, 1]))]) ⟨(.opt _ _ hc), trivial⟩ (does_load 3 38 2 ((0 + 3) + 1) [1, 1] (.var (e_api_Wait (v1.getD x5.toNat z_api_Wait))) (.int .i64 (((v1.getD x5.toNat z_api_Wait).Entry).Service)) ⟨rfl, Nat.le_of_ble_eq_true rfl, ⟨rfl, Nat.le_of_ble_eq_true rfl, trivial⟩⟩ rfl rfl ty3)), ⟨⟨rfl, rfl, trivial⟩, ⟨rfl, trivial⟩, rfl⟩, rfl,
            Step.guarded rfl rfl rfl rfl (fun hc => does_fieldAddr 47 1 3 7 3 0 [] (.var (e_api_Wait (v1.getD x3.toNat z_api_Wait))) fl47_1), ⟨⟨rfl, rfl, trivial⟩, ⟨rfl, trivial⟩, rfl⟩, rfl,
            Step.guarded rfl rfl rfl rfl (fun hc => Does.strip (n' := [(40, (.opt ((((v1.getD x5.toNat z_api_Wait).Place).From) == (((v1.getD x3.toNat z_api_Wait).Place).From)) (.ptr 3 (0 + 3) [1])))]) (n := [(40, (.ptr 3 (0 + 3) [1]))]) ⟨(.opt _ _ hc), trivial⟩ (does_fieldAddr 45 1 1 40 3 (0 + 3) [1] (.var (e_api_Wait (v1.getD x3.toNat z_api_Wait))) fl45_1)), ⟨⟨rfl, rfl, trivial⟩, ⟨rfl, trivial⟩, rfl⟩, rfl,
            Step.guarded rfl rfl rfl rfl (fun hc => Does.strip (n' := [(41, (.opt ((((v1.getD x5.toNat z_api_Wait).Place).From) == (((v1.getD x3.toNat z_api_Wait).Place).From)) (.ptr 3 ((0 + 3) + 1) [1, 1])))]) (n := [(41, (.ptr 3 ((0 + 3) + 1) [1, 1]))]) ⟨(.opt _ _ hc), trivial⟩ (does_load 3 41 3 ((0 + 3) + 1) [1, 1] (.var (e_api_Wait (v1.getD x3.toNat z_api_Wait))) (.int .i64 (((v1.getD x3.toNat z_api_Wait).Entry).Service)) ⟨rfl, Nat.le_of_ble_eq_true rfl, ⟨rfl, Nat.le_of_ble_eq_true rfl, trivial⟩⟩ rfl rfl ty3)), ⟨⟨rfl, rfl, trivial⟩, ⟨rfl, trivial⟩, rfl⟩, rfl,
            Step.guarded rfl rfl rfl rfl (fun hc => Does.strip (n' := [(39, (.opt ((((v1.getD x5.toNat z_api_Wait).Place).From) == (((v1.getD x3.toNat z_api_Wait).Place).From)) (.int .i64 (((v1.getD x5.toNat z_api_Wait).Entry).Service)))), (42, (.opt ((((v1.getD x5.toNat z_api_Wait).Place).From) == (((v1.getD x3.toNat z_api_Wait).Place).From)) (.int .i64 (((v1.getD x3.toNat z_api_Wait).Entry).Service))))]) (n := [(39, (.int .i64 (((v1.getD x5.toNat z_api_Wait).Entry).Service))), (42, (.int .i64 (((v1.getD x3.toNat z_api_Wait).Entry).Service)))]) ⟨(.opt _ _ hc), (.opt _ _ hc), trivial⟩ (does_bin .eql 3 3 (.tmp 39) (.tmp 42) .i64 (((v1.getD x5.toNat z_api_Wait).Entry).Service) (((v1.getD x3.toNat z_api_Wait).Entry).Service) (.bool ((((v1.getD x5.toNat z_api_Wait).Entry).Service) == (((v1.getD x3.toNat z_api_Wait).Entry).Service))) trivial trivial (bin_eql _ _ _ _))), ⟨⟨rfl, rfl, rfl, trivial⟩, trivial, rfl⟩, rfl,
            Step.plain rfl (does_and 36 43 ((((v1.getD x5.toNat z_api_Wait).Place).From) == (((v1.getD x3.toNat z_api_Wait).Place).From)) ((((v1.getD x5.toNat z_api_Wait).Entry).Service) == (((v1.getD x3.toNat z_api_Wait).Entry).Service))), ⟨⟨rfl, rfl, trivial⟩, trivial, rfl⟩, rfl,
            Step.plain rfl (does_move (.tmp 44) (.bool (((((v1.getD x5.toNat z_api_Wait).Place).From) == (((v1.getD x3.toNat z_api_Wait).Place).From)) && ((((v1.getD x5.toNat z_api_Wait).Entry).Service) == (((v1.getD x3.toNat z_api_Wait).Entry).Service)))) trivial), ⟨⟨rfl, trivial⟩, trivial, rfl⟩, rfl,
            Step.guarded rfl rfl rfl rfl (fun hc => does_fieldAddr 47 1 3 6 2 0 [] (.var (e_api_Wait (v1.getD x5.toNat z_api_Wait))) fl47_1), ⟨⟨rfl, rfl, trivial⟩, ⟨rfl, trivial⟩, rfl⟩, rfl,
            Step.guarded rfl rfl rfl rfl (fun hc => Does.strip (n' := [(46, (.opt (((((v1.getD x5.toNat z_api_Wait).Place).From) == (((v1.getD x3.toNat z_api_Wait).Place).From)) && ((((v1.getD x5.toNat z_api_Wait).Entry).Service) == (((v1.getD x3.toNat z_api_Wait).Entry).Service))) (.ptr 2 (0 + 3) [1])))]) (n := [(46, (.ptr 2 (0 + 3) [1]))]) ⟨(.opt _ _ hc), trivial⟩ (does_fieldAddr 45 0 0 46 2 (0 + 3) [1] (.var (e_api_Wait (v1.getD x5.toNat z_api_Wait))) fl45_0)), ⟨⟨rfl, rfl, trivial⟩, ⟨rfl, trivial⟩, rfl⟩, rfl,
            Step.guarded rfl rfl rfl rfl (fun hc => Does.strip (n' := [(47, (.opt (((((v1.getD x5.toNat z_api_Wait).Place).From) == (((v1.getD x3.toNat z_api_Wait).Place).From)) && ((((v1.getD x5.toNat z_api_Wait).Entry).Service) == (((v1.getD x3.toNat z_api_Wait).Entry).Service))) (.ptr 2 ((0 + 3) + 0) [1, 0])))]) (n := [(47, (.ptr 2 ((0 + 3) + 0) [1, 0]))]) ⟨(.opt _ _ hc), trivial⟩ (does_load 3 47 2 ((0 + 3) + 0) [1, 0] (.var (e_api_Wait (v1.getD x5.toNat z_api_Wait))) (.int .i64 (((v1.getD x5.toNat z_api_Wait).Entry).Kind)) ⟨rfl, Nat.le_of_ble_eq_true rfl, ⟨rfl, Nat.le_of_ble_eq_true rfl, trivial⟩⟩ rfl rfl ty3)), ⟨⟨rfl, rfl, trivial⟩, ⟨rfl, trivial⟩, rfl⟩, rfl,
            Step.guarded rfl rfl rfl rfl (fun hc => does_fieldAddr 47 1 3 7 3 0 [] (.var (e_api_Wait (v1.getD x3.toNat z_api_Wait))) fl47_1), ⟨⟨rfl, rfl, trivial⟩, ⟨rfl, trivial⟩, rfl⟩, rfl,
            Step.guarded rfl rfl rfl rfl (fun hc => Does.strip (n' := [(49, (.opt (((((v1.getD x5.toNat z_api_Wait).Place).From) == (((v1.getD x3.toNat z_api_Wait).Place).From)) && ((((v1.getD x5.toNat z_api_Wait).Entry).Service) == (((v1.getD x3.toNat z_api_Wait).Entry).Service))) (.ptr 3 (0 + 3) [1])))]) (n := [(49, (.ptr 3 (0 + 3) [1]))]) ⟨(.opt _ _ hc), trivial⟩ (does_fieldAddr 45 0 0 49 3 (0 + 3) [1] (.var (e_api_Wait (v1.getD x3.toNat z_api_Wait))) fl45_0)), ⟨⟨rfl, rfl, trivial⟩, ⟨rfl, trivial⟩, rfl⟩, rfl,
            Step.guarded rfl rfl rfl rfl (fun hc => Does.strip (n' := [(50, (.opt (((((v1.getD x5.toNat z_api_Wait).Place).From) == (((v1.getD x3.toNat z_api_Wait).Place).From)) && ((((v1.getD x5.toNat z_api_Wait).Entry).Service) == (((v1.getD x3.toNat z_api_Wait).Entry).Service))) (.ptr 3 ((0 + 3) + 0) [1, 0])))]) (n := [(50, (.ptr 3 ((0 + 3) + 0) [1, 0]))]) ⟨(.opt _ _ hc), trivial⟩ (does_load 3 50 3 ((0 + 3) + 0) [1, 0] (.var (e_api_Wait (v1.getD x3.toNat z_api_Wait))) (.int .i64 (((v1.getD x3.toNat z_api_Wait).Entry).Kind)) ⟨rfl, Nat.le_of_ble_eq_true rfl, ⟨rfl, Nat.le_of_ble_eq_true rfl, trivial⟩⟩ rfl rfl ty3)), ⟨⟨rfl, rfl, trivial⟩, ⟨rfl, trivial⟩, rfl⟩, rfl,
            Step.guarded rfl rfl rfl rfl (fun hc => Does.strip (n' := [(48, (.opt (((((v1.getD x5.toNat z_api_Wait).Place).From) == (((v1.getD x3.toNat z_api_Wait).Place).From)) && ((((v1.getD x5.toNat z_api_Wait).Entry).Service) == (((v1.getD x3.toNat z_api_Wait).Entry).Service))) (.int .i64 (((v1.getD x5.toNat z_api_Wait).Entry).Kind)))), (51, (.opt (((((v1.getD x5.toNat z_api_Wait).Place).From) == (((v1.getD x3.toNat z_api_Wait).Place).From)) && ((((v1.getD x5.toNat z_api_Wait).Entry).Service) == (((v1.getD x3.toNat z_api_Wait).Entry).Service))) (.int .i64 (((v1.getD x3.toNat z_api_Wait).Entry).Kind))))]) (n := [(48, (.int .i64 (((v1.getD x5.toNat z_api_Wait).Entry).Kind))), (51, (.int .i64 (((v1.getD x3.toNat z_api_Wait).Entry).Kind)))]) ⟨(.opt _ _ hc), (.opt _ _ hc), trivial⟩ (does_bin .eql 3 3 (.tmp 48) (.tmp 51) .i64 (((v1.getD x5.toNat z_api_Wait).Entry).Kind) (((v1.getD x3.toNat z_api_Wait).Entry).Kind) (.bool ((((v1.getD x5.toNat z_api_Wait).Entry).Kind) == (((v1.getD x3.toNat z_api_Wait).Entry).Kind))) trivial trivial (bin_eql _ _ _ _))), ⟨⟨rfl, rfl, rfl, trivial⟩, trivial, rfl⟩, rfl,
            Step.plain rfl (does_and 45 52 (((((v1.getD x5.toNat z_api_Wait).Place).From) == (((v1.getD x3.toNat z_api_Wait).Place).From)) && ((((v1.getD x5.toNat z_api_Wait).Entry).Service) == (((v1.getD x3.toNat z_api_Wait).Entry).Service))) ((((v1.getD x5.toNat z_api_Wait).Entry).Kind) == (((v1.getD x3.toNat z_api_Wait).Entry).Kind))), ⟨⟨rfl, rfl, trivial⟩, trivial, rfl⟩, rfl,
            Step.plain rfl (does_move (.tmp 53) (.bool ((((((v1.getD x5.toNat z_api_Wait).Place).From) == (((v1.getD x3.toNat z_api_Wait).Place).From)) && ((((v1.getD x5.toNat z_api_Wait).Entry).Service) == (((v1.getD x3.toNat z_api_Wait).Entry).Service))) && ((((v1.getD x5.toNat z_api_Wait).Entry).Kind) == (((v1.getD x3.toNat z_api_Wait).Entry).Kind)))) trivial), ⟨⟨rfl, trivial⟩, trivial, rfl⟩, rfl,
            Step.guarded rfl rfl rfl rfl (fun hc => does_fieldAddr 47 0 0 6 2 0 [] (.var (e_api_Wait (v1.getD x5.toNat z_api_Wait))) fl47_0), ⟨⟨rfl, rfl, trivial⟩, ⟨rfl, trivial⟩, rfl⟩, rfl,
            Step.guarded rfl rfl rfl rfl (fun hc => Does.strip (n' := [(55, (.opt ((((((v1.getD x5.toNat z_api_Wait).Place).From) == (((v1.getD x3.toNat z_api_Wait).Place).From)) && ((((v1.getD x5.toNat z_api_Wait).Entry).Service) == (((v1.getD x3.toNat z_api_Wait).Entry).Service))) && ((((v1.getD x5.toNat z_api_Wait).Entry).Kind) == (((v1.getD x3.toNat z_api_Wait).Entry).Kind))) (.ptr 2 (0 + 0) [0])))]) (n := [(55, (.ptr 2 (0 + 0) [0]))]) ⟨(.opt _ _ hc), trivial⟩ (does_load 42 55 2 (0 + 0) [0] (.var (e_api_Wait (v1.getD x5.toNat z_api_Wait))) (e_api_Place ((v1.getD x5.toNat z_api_Wait).Place)) ⟨rfl, Nat.le_of_ble_eq_true rfl, trivial⟩ rfl rfl ty42)), ⟨⟨rfl, rfl, trivial⟩, ⟨rfl, trivial⟩, rfl⟩, rfl,
            Step.guarded rfl rfl rfl rfl (fun hc => does_fieldAddr 47 0 0 7 3 0 [] (.var (e_api_Wait (v1.getD x3.toNat z_api_Wait))) fl47_0), ⟨⟨rfl, rfl, trivial⟩, ⟨rfl, trivial⟩, rfl⟩, rfl,
            Step.guarded rfl rfl rfl rfl (fun hc => Does.strip (n' := [(57, (.opt ((((((v1.getD x5.toNat z_api_Wait).Place).From) == (((v1.getD x3.toNat z_api_Wait).Place).From)) && ((((v1.getD x5.toNat z_api_Wait).Entry).Service) == (((v1.getD x3.toNat z_api_Wait).Entry).Service))) && ((((v1.getD x5.toNat z_api_Wait).Entry).Kind) == (((v1.getD x3.toNat z_api_Wait).Entry).Kind))) (.ptr 3 (0 + 0) [0])))]) (n := [(57, (.ptr 3 (0 + 0) [0]))]) ⟨(.opt _ _ hc), trivial⟩ (does_load 42 57 3 (0 + 0) [0] (.var (e_api_Wait (v1.getD x3.toNat z_api_Wait))) (e_api_Place ((v1.getD x3.toNat z_api_Wait).Place)) ⟨rfl, Nat.le_of_ble_eq_true rfl, trivial⟩ rfl rfl ty42)), ⟨⟨rfl, rfl, trivial⟩, ⟨rfl, trivial⟩, rfl⟩, rfl,
            Step.guarded rfl rfl rfl rfl (fun hc => Does.strip (n' := [(56, (.opt ((((((v1.getD x5.toNat z_api_Wait).Place).From) == (((v1.getD x3.toNat z_api_Wait).Place).From)) && ((((v1.getD x5.toNat z_api_Wait).Entry).Service) == (((v1.getD x3.toNat z_api_Wait).Entry).Service))) && ((((v1.getD x5.toNat z_api_Wait).Entry).Kind) == (((v1.getD x3.toNat z_api_Wait).Entry).Kind))) (e_api_Place ((v1.getD x5.toNat z_api_Wait).Place)))), (58, (.opt ((((((v1.getD x5.toNat z_api_Wait).Place).From) == (((v1.getD x3.toNat z_api_Wait).Place).From)) && ((((v1.getD x5.toNat z_api_Wait).Entry).Service) == (((v1.getD x3.toNat z_api_Wait).Entry).Service))) && ((((v1.getD x5.toNat z_api_Wait).Entry).Kind) == (((v1.getD x3.toNat z_api_Wait).Entry).Kind))) (e_api_Place ((v1.getD x3.toNat z_api_Wait).Place))))]) (n := [(56, (e_api_Place ((v1.getD x5.toNat z_api_Wait).Place))), (58, (e_api_Place ((v1.getD x3.toNat z_api_Wait).Place)))]) ⟨(.opt _ _ hc), (.opt _ _ hc), trivial⟩ (does_call 21 0 (fun _ => .any) (.func 21) [(.tmp 56), (.tmp 58)] [(e_api_Place ((v1.getD x5.toNat z_api_Wait).Place)), (e_api_Place ((v1.getD x3.toNat z_api_Wait).Place))] [] true [(e_api_Place ((v1.getD x5.toNat z_api_Wait).Place)), (e_api_Place ((v1.getD x3.toNat z_api_Wait).Place))] (.bool v9) _ _ rfl fo21 rfl ⟨trivial, trivial, trivial⟩ ⟨.data _ (d_api_Place ((v1.getD x5.toNat z_api_Wait).Place)), .data _ (d_api_Place ((v1.getD x3.toNat z_api_Wait).Place)), trivial⟩ (congressref09_Before_spec ((v1.getD x5.toNat z_api_Wait).Place) ((v1.getD x3.toNat z_api_Wait).Place) _ (h10 hc)) trivial)), ⟨⟨rfl, rfl, rfl, trivial⟩, trivial, rfl⟩, rfl,
            Step.guarded rfl rfl rfl rfl (fun hc => Does.strip (n' := [(59, (.opt ((((((v1.getD x5.toNat z_api_Wait).Place).From) == (((v1.getD x3.toNat z_api_Wait).Place).From)) && ((((v1.getD x5.toNat z_api_Wait).Entry).Service) == (((v1.getD x3.toNat z_api_Wait).Entry).Service))) && ((((v1.getD x5.toNat z_api_Wait).Entry).Kind) == (((v1.getD x3.toNat z_api_Wait).Entry).Kind))) (.bool v9)))]) (n := [(59, (.bool v9))]) ⟨(.opt _ _ hc), trivial⟩ (does_not 4 (.tmp 59) v9 trivial)), ⟨⟨rfl, rfl, trivial⟩, trivial, rfl⟩, rfl,
            Step.plain rfl (does_and 54 60 ((((((v1.getD x5.toNat z_api_Wait).Place).From) == (((v1.getD x3.toNat z_api_Wait).Place).From)) && ((((v1.getD x5.toNat z_api_Wait).Entry).Service) == (((v1.getD x3.toNat z_api_Wait).Entry).Service))) && ((((v1.getD x5.toNat z_api_Wait).Entry).Kind) == (((v1.getD x3.toNat z_api_Wait).Entry).Kind))) (!v9)), ⟨⟨rfl, rfl, trivial⟩, trivial, rfl⟩, rfl, rfl⟩ ?_
          obtain ⟨v11, hv11, H⟩ := lt_of H
          refine aw_cov (cov_prune (s1 := ⟨[(3, (.own 1)), (4, (.int .i64 x3)), (5, (.int .i64 x5)), (6, (.ptr 2 0 [])), (7, (.ptr 3 0 [])), (61, (.bool v11))], [(1, some (.arr 9 v1.length fun j => (e_api_Wait (v1.getD j z_api_Wait)))), (2, some (.var (e_api_Wait (v1.getD x5.toNat z_api_Wait)))), (3, some (.var (e_api_Wait (v1.getD x3.toNat z_api_Wait))))], 4⟩) ⟨rfl, rfl, rfl, rfl, rfl, (by subst hv11; rfl), trivial⟩ ⟨rfl, rfl, rfl, trivial⟩ (Nat.le_refl _)) ?_
          refine aw_cond rfl (fun hc => ?_) (fun hc => ?_)
          · replace H := ite_t hc H
            refine aw_region (es := [_]) ⟨Step.plain rfl (does_assign (.const (.bool false)) (.bool false) (fun _ => rfl)), ⟨trivial, trivial, rfl⟩, rfl, rfl⟩ ?_
            refine aw_cov (cov_prune (s1 := ⟨[(2, (.bool false))], [], 4⟩) ⟨rfl, trivial⟩ trivial (Nat.le_refl _)) ?_
            refine aw_ret ?_
            replace H := rt_of H hsn6 Hrn6
            replace H := rt_of H hsn4 Hrn4
            refine rt_then ?_
            refine rt_blk ?_
            refine rt_then ?_
            refine rt_then ?_
            refine rt_blk ?_
            refine rt_then ?_
            refine rt_blk ?_
            refine rt_then ?_
            refine rt_then ?_
            refine rt_blk ?_
            refine rt_then ?_
            refine rt_then ?_
            exact fun a w hr => ⟨_, [(.bool false)], hr, ⟨⟨_, rfl, .data (.bool false) trivial⟩, trivial⟩, by decide, by cases H; rfl⟩
          · replace H := ite_f hc H
            refine aw_skip ?_
            refine nx_seq ?_
            refine aw_region (es := [_, _, _, _, _, _, _, _, _, _, _, _, _, _, _, _, _, _, _, _, _, _, _, _, _, _, _, _, _, _, _, _, _, _, _, _, _]) ⟨Step.plain rfl (does_fieldAddr 47 1 3 6 2 0 [] (.var (e_api_Wait (v1.getD x5.toNat z_api_Wait))) fl47_1), ⟨⟨rfl, trivial⟩, ⟨rfl, trivial⟩, rfl⟩, rfl,
              Step.plain rfl (does_fieldAddr 45 0 0 62 2 (0 + 3) [1] (.var (e_api_Wait (v1.getD x5.toNat z_api_Wait))) fl45_0), ⟨⟨rfl, trivial⟩, ⟨rfl, trivial⟩, rfl⟩, rfl,
              Step.plain rfl (does_load 3 63 2 ((0 + 3) + 0) [1, 0] (.var (e_api_Wait (v1.getD x5.toNat z_api_Wait))) (.int .i64 (((v1.getD x5.toNat z_api_Wait).Entry).Kind)) ⟨rfl, Nat.le_of_ble_eq_true rfl, ⟨rfl, Nat.le_of_ble_eq_true rfl, trivial⟩⟩ rfl rfl ty3), ⟨⟨rfl, trivial⟩, ⟨rfl, trivial⟩, rfl⟩, rfl,
              Step.plain rfl (does_bin .eql 3 3 (.tmp 64) (.const (.int .i64 1)) .i64 (((v1.getD x5.toNat z_api_Wait).Entry).Kind) 1 (.bool ((((v1.getD x5.toNat z_api_Wait).Entry).Kind) == 1)) trivial (fun _ => rfl) (bin_eql _ _ _ _)), ⟨⟨rfl, trivial⟩, trivial, rfl⟩, rfl,
              Step.plain rfl (does_move (.tmp 65) (.bool ((((v1.getD x5.toNat z_api_Wait).Entry).Kind) == 1)) trivial), ⟨⟨rfl, trivial⟩, trivial, rfl⟩, rfl,
              Step.guarded rfl rfl rfl rfl (fun hc => does_fieldAddr 47 1 3 7 3 0 [] (.var (e_api_Wait (v1.getD x3.toNat z_api_Wait))) fl47_1), ⟨⟨rfl, rfl, trivial⟩, ⟨rfl, trivial⟩, rfl⟩, rfl,
              Step.guarded rfl rfl rfl rfl (fun hc => Does.strip (n' := [(67, (.opt ((((v1.getD x5.toNat z_api_Wait).Entry).Kind) == 1) (.ptr 3 (0 + 3) [1])))]) (n := [(67, (.ptr 3 (0 + 3) [1]))]) ⟨(.opt _ _ hc), trivial⟩ (does_fieldAddr 45 0 0 67 3 (0 + 3) [1] (.var (e_api_Wait (v1.getD x3.toNat z_api_Wait))) fl45_0)), ⟨⟨rfl, rfl, trivial⟩, ⟨rfl, trivial⟩, rfl⟩, rfl,
              Step.guarded rfl rfl rfl rfl (fun hc => Does.strip (n' := [(68, (.opt ((((v1.getD x5.toNat z_api_Wait).Entry).Kind) == 1) (.ptr 3 ((0 + 3) + 0) [1, 0])))]) (n := [(68, (.ptr 3 ((0 + 3) + 0) [1, 0]))]) ⟨(.opt _ _ hc), trivial⟩ (does_load 3 68 3 ((0 + 3) + 0) [1, 0] (.var (e_api_Wait (v1.getD x3.toNat z_api_Wait))) (.int .i64 (((v1.getD x3.toNat z_api_Wait).Entry).Kind)) ⟨rfl, Nat.le_of_ble_eq_true rfl, ⟨rfl, Nat.le_of_ble_eq_true rfl, trivial⟩⟩ rfl rfl ty3)), ⟨⟨rfl, rfl, trivial⟩, ⟨rfl, trivial⟩, rfl⟩, rfl,
              Step.guarded rfl rfl rfl rfl (fun hc => Does.strip (n' := [(69, (.opt ((((v1.getD x5.toNat z_api_Wait).Entry).Kind) == 1) (.int .i64 (((v1.getD x3.toNat z_api_Wait).Entry).Kind))))]) (n := [(69, (.int .i64 (((v1.getD x3.toNat z_api_Wait).Entry).Kind)))]) ⟨(.opt _ _ hc), trivial⟩ (does_bin .eql 3 3 (.tmp 69) (.const (.int .i64 1)) .i64 (((v1.getD x3.toNat z_api_Wait).Entry).Kind) 1 (.bool ((((v1.getD x3.toNat z_api_Wait).Entry).Kind) == 1)) trivial (fun _ => rfl) (bin_eql _ _ _ _))), ⟨⟨rfl, rfl, trivial⟩, trivial, rfl⟩, rfl,
              Step.plain rfl (does_and 66 70 ((((v1.getD x5.toNat z_api_Wait).Entry).Kind) == 1) ((((v1.getD x3.toNat z_api_Wait).Entry).Kind) == 1)), ⟨⟨rfl, rfl, trivial⟩, trivial, rfl⟩, rfl,
              Step.plain rfl (does_move (.tmp 71) (.bool (((((v1.getD x5.toNat z_api_Wait).Entry).Kind) == 1) && ((((v1.getD x3.toNat z_api_Wait).Entry).Kind) == 1))) trivial), ⟨⟨rfl, trivial⟩, trivial, rfl⟩, rfl,
              Step.guarded rfl rfl rfl rfl (fun hc => does_fieldAddr 47 1 3 6 2 0 [] (.var (e_api_Wait (v1.getD x5.toNat z_api_Wait))) fl47_1), ⟨⟨rfl, rfl, trivial⟩, ⟨rfl, trivial⟩, rfl⟩, rfl,
              Step.guarded rfl rfl rfl rfl (fun hc => Does.strip (n' := [(73, (.opt (((((v1.getD x5.toNat z_api_Wait).Entry).Kind) == 1) && ((((v1.getD x3.toNat z_api_Wait).Entry).Kind) == 1)) (.ptr 2 (0 + 3) [1])))]) (n := [(73, (.ptr 2 (0 + 3) [1]))]) ⟨(.opt _ _ hc), trivial⟩ (does_fieldAddr 45 1 1 73 2 (0 + 3) [1] (.var (e_api_Wait (v1.getD x5.toNat z_api_Wait))) fl45_1)), ⟨⟨rfl, rfl, trivial⟩, ⟨rfl, trivial⟩, rfl⟩, rfl,
              Step.guarded rfl rfl rfl rfl (fun hc => Does.strip (n' := [(74, (.opt (((((v1.getD x5.toNat z_api_Wait).Entry).Kind) == 1) && ((((v1.getD x3.toNat z_api_Wait).Entry).Kind) == 1)) (.ptr 2 ((0 + 3) + 1) [1, 1])))]) (n := [(74, (.ptr 2 ((0 + 3) + 1) [1, 1]))]) ⟨(.opt _ _ hc), trivial⟩ (does_load 3 74 2 ((0 + 3) + 1) [1, 1] (.var (e_api_Wait (v1.getD x5.toNat z_api_Wait))) (.int .i64 (((v1.getD x5.toNat z_api_Wait).Entry).Service)) ⟨rfl, Nat.le_of_ble_eq_true rfl, ⟨rfl, Nat.le_of_ble_eq_true rfl, trivial⟩⟩ rfl rfl ty3)), ⟨⟨rfl, rfl, trivial⟩, ⟨rfl, trivial⟩, rfl⟩, rfl,
              Step.guarded rfl rfl rfl rfl (fun hc => Does.strip (n' := [(75, (.opt (((((v1.getD x5.toNat z_api_Wait).Entry).Kind) == 1) && ((((v1.getD x3.toNat z_api_Wait).Entry).Kind) == 1)) (.int .i64 (((v1.getD x5.toNat z_api_Wait).Entry).Service))))]) (n := [(75, (.int .i64 (((v1.getD x5.toNat z_api_Wait).Entry).Service)))]) ⟨(.opt _ _ hc), trivial⟩ (does_bin .eql 3 3 (.tmp 75) (.const (.int .i64 1)) .i64 (((v1.getD x5.toNat z_api_Wait).Entry).Service) 1 (.bool ((((v1.getD x5.toNat z_api_Wait).Entry).Service) == 1)) trivial (fun _ => rfl) (bin_eql _ _ _ _))), ⟨⟨rfl, rfl, trivial⟩, trivial, rfl⟩, rfl,
              Step.plain rfl (does_and 72 76 (((((v1.getD x5.toNat z_api_Wait).Entry).Kind) == 1) && ((((v1.getD x3.toNat z_api_Wait).Entry).Kind) == 1)) ((((v1.getD x5.toNat z_api_Wait).Entry).Service) == 1)), ⟨⟨rfl, rfl, trivial⟩, trivial, rfl⟩, rfl,
              Step.plain rfl (does_move (.tmp 77) (.bool ((((((v1.getD x5.toNat z_api_Wait).Entry).Kind) == 1) && ((((v1.getD x3.toNat z_api_Wait).Entry).Kind) == 1)) && ((((v1.getD x5.toNat z_api_Wait).Entry).Service) == 1))) trivial), ⟨⟨rfl, trivial⟩, trivial, rfl⟩, rfl,
              Step.guarded rfl rfl rfl rfl (fun hc => does_fieldAddr 47 1 3 7 3 0 [] (.var (e_api_Wait (v1.getD x3.toNat z_api_Wait))) fl47_1), ⟨⟨rfl, rfl, trivial⟩, ⟨rfl, trivial⟩, rfl⟩, rfl,
              Step.guarded rfl rfl rfl rfl (fun hc => Does.strip (n' := [(79, (.opt ((((((v1.getD x5.toNat z_api_Wait).Entry).Kind) == 1) && ((((v1.getD x3.toNat z_api_Wait).Entry).Kind) == 1)) && ((((v1.getD x5.toNat z_api_Wait).Entry).Service) == 1)) (.ptr 3 (0 + 3) [1])))]) (n := [(79, (.ptr 3 (0 + 3) [1]))]) ⟨(.opt _ _ hc), trivial⟩ (does_fieldAddr 45 1 1 79 3 (0 + 3) [1] (.var (e_api_Wait (v1.getD x3.toNat z_api_Wait))) fl45_1)), ⟨⟨rfl, rfl, trivial⟩, ⟨rfl, trivial⟩, rfl⟩, rfl,
              Step.guarded rfl rfl rfl rfl (fun hc => Does.strip (n' := [(80, (.opt ((((((v1.getD x5.toNat z_api_Wait).Entry).Kind) == 1) && ((((v1.getD x3.toNat z_api_Wait).Entry).Kind) == 1)) && ((((v1.getD x5.toNat z_api_Wait).Entry).Service) == 1)) (.ptr 3 ((0 + 3) + 1) [1, 1])))]) (n := [(80, (.ptr 3 ((0 + 3) + 1) [1, 1]))]) ⟨(.opt _ _ hc), trivial⟩ (does_load 3 80 3 ((0 + 3) + 1) [1, 1] (.var (e_api_Wait (v1.getD x3.toNat z_api_Wait))) (.int .i64 (((v1.getD x3.toNat z_api_Wait).Entry).Service)) ⟨rfl, Nat.le_of_ble_eq_true rfl, ⟨rfl, Nat.le_of_ble_eq_true rfl, trivial⟩⟩ rfl rfl ty3)), ⟨⟨rfl, rfl, trivial⟩, ⟨rfl, trivial⟩, rfl⟩, rfl,
              Step.guarded rfl rfl rfl rfl (fun hc => Does.strip (n' := [(81, (.opt ((((((v1.getD x5.toNat z_api_Wait).Entry).Kind) == 1) && ((((v1.getD x3.toNat z_api_Wait).Entry).Kind) == 1)) && ((((v1.getD x5.toNat z_api_Wait).Entry).Service) == 1)) (.int .i64 (((v1.getD x3.toNat z_api_Wait).Entry).Service))))]) (n := [(81, (.int .i64 (((v1.getD x3.toNat z_api_Wait).Entry).Service)))]) ⟨(.opt _ _ hc), trivial⟩ (does_bin .eql 3 3 (.tmp 81) (.const (.int .i64 0)) .i64 (((v1.getD x3.toNat z_api_Wait).Entry).Service) 0 (.bool ((((v1.getD x3.toNat z_api_Wait).Entry).Service) == 0)) trivial (fun _ => rfl) (bin_eql _ _ _ _))), ⟨⟨rfl, rfl, trivial⟩, trivial, rfl⟩, rfl,
              Step.guarded rfl rfl rfl rfl (fun hc => Does.strip (n' := [(82, (.opt ((((((v1.getD x5.toNat z_api_Wait).Entry).Kind) == 1) && ((((v1.getD x3.toNat z_api_Wait).Entry).Kind) == 1)) && ((((v1.getD x5.toNat z_api_Wait).Entry).Service) == 1)) (.bool ((((v1.getD x3.toNat z_api_Wait).Entry).Service) == 0))))]) (n := [(82, (.bool ((((v1.getD x3.toNat z_api_Wait).Entry).Service) == 0)))]) ⟨(.opt _ _ hc), trivial⟩ (does_move (.tmp 82) (.bool ((((v1.getD x3.toNat z_api_Wait).Entry).Service) == 0)) trivial)), ⟨⟨rfl, rfl, trivial⟩, trivial, rfl⟩, rfl,
              Step.guarded rfl rfl rfl rfl (fun hc => does_fieldAddr 47 1 3 7 3 0 [] (.var (e_api_Wait (v1.getD x3.toNat z_api_Wait))) fl47_1), ⟨⟨rfl, rfl, trivial⟩, ⟨rfl, trivial⟩, rfl⟩, rfl,
              Step.guarded rfl rfl rfl rfl (fun hc => Does.strip (n' := [(84, (.opt (((((((v1.getD x5.toNat z_api_Wait).Entry).Kind) == 1) && ((((v1.getD x3.toNat z_api_Wait).Entry).Kind) == 1)) && ((((v1.getD x5.toNat z_api_Wait).Entry).Service) == 1)) && (!((((v1.getD x3.toNat z_api_Wait).Entry).Service) == 0))) (.ptr 3 (0 + 3) [1])))]) (n := [(84, (.ptr 3 (0 + 3) [1]))]) ⟨(.opt _ _ hc), trivial⟩ (does_fieldAddr 45 1 1 84 3 (0 + 3) [1] (.var (e_api_Wait (v1.getD x3.toNat z_api_Wait))) fl45_1)), ⟨⟨rfl, rfl, trivial⟩, ⟨rfl, trivial⟩, rfl⟩, rfl,
              Step.guarded rfl rfl rfl rfl (fun hc => Does.strip (n' := [(85, (.opt (((((((v1.getD x5.toNat z_api_Wait).Entry).Kind) == 1) && ((((v1.getD x3.toNat z_api_Wait).Entry).Kind) == 1)) && ((((v1.getD x5.toNat z_api_Wait).Entry).Service) == 1)) && (!((((v1.getD x3.toNat z_api_Wait).Entry).Service) == 0))) (.ptr 3 ((0 + 3) + 1) [1, 1])))]) (n := [(85, (.ptr 3 ((0 + 3) + 1) [1, 1]))]) ⟨(.opt _ _ hc), trivial⟩ (does_load 3 85 3 ((0 + 3) + 1) [1, 1] (.var (e_api_Wait (v1.getD x3.toNat z_api_Wait))) (.int .i64 (((v1.getD x3.toNat z_api_Wait).Entry).Service)) ⟨rfl, Nat.le_of_ble_eq_true rfl, ⟨rfl, Nat.le_of_ble_eq_true rfl, trivial⟩⟩ rfl rfl ty3)), ⟨⟨rfl, rfl, trivial⟩, ⟨rfl, trivial⟩, rfl⟩, rfl,
              Step.guarded rfl rfl rfl rfl (fun hc => Does.strip (n' := [(86, (.opt (((((((v1.getD x5.toNat z_api_Wait).Entry).Kind) == 1) && ((((v1.getD x3.toNat z_api_Wait).Entry).Kind) == 1)) && ((((v1.getD x5.toNat z_api_Wait).Entry).Service) == 1)) && (!((((v1.getD x3.toNat z_api_Wait).Entry).Service) == 0))) (.int .i64 (((v1.getD x3.toNat z_api_Wait).Entry).Service))))]) (n := [(86, (.int .i64 (((v1.getD x3.toNat z_api_Wait).Entry).Service)))]) ⟨(.opt _ _ hc), trivial⟩ (does_bin .eql 3 3 (.tmp 86) (.const (.int .i64 1)) .i64 (((v1.getD x3.toNat z_api_Wait).Entry).Service) 1 (.bool ((((v1.getD x3.toNat z_api_Wait).Entry).Service) == 1)) trivial (fun _ => rfl) (bin_eql _ _ _ _))), ⟨⟨rfl, rfl, trivial⟩, trivial, rfl⟩, rfl,
              Step.guarded rfl rfl rfl rfl (fun hc => Does.strip (n' := [(83, (.opt ((((((v1.getD x5.toNat z_api_Wait).Entry).Kind) == 1) && ((((v1.getD x3.toNat z_api_Wait).Entry).Kind) == 1)) && ((((v1.getD x5.toNat z_api_Wait).Entry).Service) == 1)) (.bool ((((v1.getD x3.toNat z_api_Wait).Entry).Service) == 0)))), (87, (.opt (((((((v1.getD x5.toNat z_api_Wait).Entry).Kind) == 1) && ((((v1.getD x3.toNat z_api_Wait).Entry).Kind) == 1)) && ((((v1.getD x5.toNat z_api_Wait).Entry).Service) == 1)) && (!((((v1.getD x3.toNat z_api_Wait).Entry).Service) == 0))) (.bool ((((v1.getD x3.toNat z_api_Wait).Entry).Service) == 1))))]) (n := [(83, (.bool ((((v1.getD x3.toNat z_api_Wait).Entry).Service) == 0))), (87, (.opt (!((((v1.getD x3.toNat z_api_Wait).Entry).Service) == 0)) (.bool ((((v1.getD x3.toNat z_api_Wait).Entry).Service) == 1))))]) ⟨(.opt _ _ hc), (.half _ _ hc), trivial⟩ (does_or 83 87 ((((v1.getD x3.toNat z_api_Wait).Entry).Service) == 0) ((((v1.getD x3.toNat z_api_Wait).Entry).Service) == 1))), ⟨⟨rfl, rfl, rfl, trivial⟩, trivial, rfl⟩, rfl,
              Step.plain rfl (does_and 78 88 ((((((v1.getD x5.toNat z_api_Wait).Entry).Kind) == 1) && ((((v1.getD x3.toNat z_api_Wait).Entry).Kind) == 1)) && ((((v1.getD x5.toNat z_api_Wait).Entry).Service) == 1)) (((((v1.getD x3.toNat z_api_Wait).Entry).Service) == 0) || ((((v1.getD x3.toNat z_api_Wait).Entry).Service) == 1))), ⟨⟨rfl, rfl, trivial⟩, trivial, rfl⟩, rfl,
              Step.plain rfl (does_move (.tmp 89) (.bool (((((((v1.getD x5.toNat z_api_Wait).Entry).Kind) == 1) && ((((v1.getD x3.toNat z_api_Wait).Entry).Kind) == 1)) && ((((v1.getD x5.toNat z_api_Wait).Entry).Service) == 1)) && (((((v1.getD x3.toNat z_api_Wait).Entry).Service) == 0) || ((((v1.getD x3.toNat z_api_Wait).Entry).Service) == 1)))) trivial), ⟨⟨rfl, trivial⟩, trivial, rfl⟩, rfl,
              Step.guarded rfl rfl rfl rfl (fun hc => does_fieldAddr 47 0 0 7 3 0 [] (.var (e_api_Wait (v1.getD x3.toNat z_api_Wait))) fl47_0), ⟨⟨rfl, rfl, trivial⟩, ⟨rfl, trivial⟩, rfl⟩, rfl,
              Step.guarded rfl rfl rfl rfl (fun hc => Does.strip (n' := [(91, (.opt (((((((v1.getD x5.toNat z_api_Wait).Entry).Kind) == 1) && ((((v1.getD x3.toNat z_api_Wait).Entry).Kind) == 1)) && ((((v1.getD x5.toNat z_api_Wait).Entry).Service) == 1)) && (((((v1.getD x3.toNat z_api_Wait).Entry).Service) == 0) || ((((v1.getD x3.toNat z_api_Wait).Entry).Service) == 1))) (.ptr 3 (0 + 0) [0])))]) (n := [(91, (.ptr 3 (0 + 0) [0]))]) ⟨(.opt _ _ hc), trivial⟩ (does_fieldAddr 42 0 0 91 3 (0 + 0) [0] (.var (e_api_Wait (v1.getD x3.toNat z_api_Wait))) fl42_0)), ⟨⟨rfl, rfl, trivial⟩, ⟨rfl, trivial⟩, rfl⟩, rfl,
              Step.guarded rfl rfl rfl rfl (fun hc => Does.strip (n' := [(92, (.opt (((((((v1.getD x5.toNat z_api_Wait).Entry).Kind) == 1) && ((((v1.getD x3.toNat z_api_Wait).Entry).Kind) == 1)) && ((((v1.getD x5.toNat z_api_Wait).Entry).Service) == 1)) && (((((v1.getD x3.toNat z_api_Wait).Entry).Service) == 0) || ((((v1.getD x3.toNat z_api_Wait).Entry).Service) == 1))) (.ptr 3 ((0 + 0) + 0) [0, 0])))]) (n := [(92, (.ptr 3 ((0 + 0) + 0) [0, 0]))]) ⟨(.opt _ _ hc), trivial⟩ (does_load 23 92 3 ((0 + 0) + 0) [0, 0] (.var (e_api_Wait (v1.getD x3.toNat z_api_Wait))) (.int .u32 (((v1.getD x3.toNat z_api_Wait).Place).Round)) ⟨rfl, Nat.le_of_ble_eq_true rfl, ⟨rfl, Nat.le_of_ble_eq_true rfl, trivial⟩⟩ rfl rfl ty23)), ⟨⟨rfl, rfl, trivial⟩, ⟨rfl, trivial⟩, rfl⟩, rfl,
              Step.guarded rfl rfl rfl rfl (fun hc => does_fieldAddr 47 0 0 6 2 0 [] (.var (e_api_Wait (v1.getD x5.toNat z_api_Wait))) fl47_0), ⟨⟨rfl, rfl, trivial⟩, ⟨rfl, trivial⟩, rfl⟩, rfl,
              Step.guarded rfl rfl rfl rfl (fun hc => Does.strip (n' := [(94, (.opt (((((((v1.getD x5.toNat z_api_Wait).Entry).Kind) == 1) && ((((v1.getD x3.toNat z_api_Wait).Entry).Kind) == 1)) && ((((v1.getD x5.toNat z_api_Wait).Entry).Service) == 1)) && (((((v1.getD x3.toNat z_api_Wait).Entry).Service) == 0) || ((((v1.getD x3.toNat z_api_Wait).Entry).Service) == 1))) (.ptr 2 (0 + 0) [0])))]) (n := [(94, (.ptr 2 (0 + 0) [0]))]) ⟨(.opt _ _ hc), trivial⟩ (does_fieldAddr 42 0 0 94 2 (0 + 0) [0] (.var (e_api_Wait (v1.getD x5.toNat z_api_Wait))) fl42_0)), ⟨⟨rfl, rfl, trivial⟩, ⟨rfl, trivial⟩, rfl⟩, rfl,
              Step.guarded rfl rfl rfl rfl (fun hc => Does.strip (n' := [(95, (.opt (((((((v1.getD x5.toNat z_api_Wait).Entry).Kind) == 1) && ((((v1.getD x3.toNat z_api_Wait).Entry).Kind) == 1)) && ((((v1.getD x5.toNat z_api_Wait).Entry).Service) == 1)) && (((((v1.getD x3.toNat z_api_Wait).Entry).Service) == 0) || ((((v1.getD x3.toNat z_api_Wait).Entry).Service) == 1))) (.ptr 2 ((0 + 0) + 0) [0, 0])))]) (n := [(95, (.ptr 2 ((0 + 0) + 0) [0, 0]))]) ⟨(.opt _ _ hc), trivial⟩ (does_load 23 95 2 ((0 + 0) + 0) [0, 0] (.var (e_api_Wait (v1.getD x5.toNat z_api_Wait))) (.int .u32 (((v1.getD x5.toNat z_api_Wait).Place).Round)) ⟨rfl, Nat.le_of_ble_eq_true rfl, ⟨rfl, Nat.le_of_ble_eq_true rfl, trivial⟩⟩ rfl rfl ty23)), ⟨⟨rfl, rfl, trivial⟩, ⟨rfl, trivial⟩, rfl⟩, rfl,
              Step.guarded rfl rfl rfl rfl (fun hc => Does.strip (n' := [(93, (.opt (((((((v1.getD x5.toNat z_api_Wait).Entry).Kind) == 1) && ((((v1.getD x3.toNat z_api_Wait).Entry).Kind) == 1)) && ((((v1.getD x5.toNat z_api_Wait).Entry).Service) == 1)) && (((((v1.getD x3.toNat z_api_Wait).Entry).Service) == 0) || ((((v1.getD x3.toNat z_api_Wait).Entry).Service) == 1))) (.int .u32 (((v1.getD x3.toNat z_api_Wait).Place).Round)))), (96, (.opt (((((((v1.getD x5.toNat z_api_Wait).Entry).Kind) == 1) && ((((v1.getD x3.toNat z_api_Wait).Entry).Kind) == 1)) && ((((v1.getD x5.toNat z_api_Wait).Entry).Service) == 1)) && (((((v1.getD x3.toNat z_api_Wait).Entry).Service) == 0) || ((((v1.getD x3.toNat z_api_Wait).Entry).Service) == 1))) (.int .u32 (((v1.getD x5.toNat z_api_Wait).Place).Round))))]) (n := [(93, (.int .u32 (((v1.getD x3.toNat z_api_Wait).Place).Round))), (96, (.int .u32 (((v1.getD x5.toNat z_api_Wait).Place).Round)))]) ⟨(.opt _ _ hc), (.opt _ _ hc), trivial⟩ (does_bin .lss 23 23 (.tmp 93) (.tmp 96) .u32 (((v1.getD x3.toNat z_api_Wait).Place).Round) (((v1.getD x5.toNat z_api_Wait).Place).Round) (.bool (decide ((((v1.getD x3.toNat z_api_Wait).Place).Round) < (((v1.getD x5.toNat z_api_Wait).Place).Round)))) trivial trivial (bin_lss _ _ _ _))), ⟨⟨rfl, rfl, rfl, trivial⟩, trivial, rfl⟩, rfl,
              Step.plain rfl (does_and 90 97 (((((((v1.getD x5.toNat z_api_Wait).Entry).Kind) == 1) && ((((v1.getD x3.toNat z_api_Wait).Entry).Kind) == 1)) && ((((v1.getD x5.toNat z_api_Wait).Entry).Service) == 1)) && (((((v1.getD x3.toNat z_api_Wait).Entry).Service) == 0) || ((((v1.getD x3.toNat z_api_Wait).Entry).Service) == 1))) (decide ((((v1.getD x3.toNat z_api_Wait).Place).Round) < (((v1.getD x5.toNat z_api_Wait).Place).Round)))), ⟨⟨rfl, rfl, trivial⟩, trivial, rfl⟩, rfl, rfl⟩ ?_
            obtain ⟨v12, hv12, H⟩ := lt_of H
            refine aw_cov (cov_prune (s1 := ⟨[(3, (.own 1)), (4, (.int .i64 x3)), (5, (.int .i64 x5)), (98, (.bool v12))], [(1, some (.arr 9 v1.length fun j => (e_api_Wait (v1.getD j z_api_Wait))))], 4⟩) ⟨rfl, rfl, rfl, (by subst hv12; rfl), trivial⟩ ⟨rfl, trivial⟩ (Nat.le_refl _)) ?_
            refine aw_cond rfl (fun hc => ?_) (fun hc => ?_)
            · replace H := ite_t hc H
              refine aw_region (es := [_]) ⟨Step.plain rfl (does_assign (.const (.bool false)) (.bool false) (fun _ => rfl)), ⟨trivial, trivial, rfl⟩, rfl, rfl⟩ ?_
              refine aw_cov (cov_prune (s1 := ⟨[(2, (.bool false))], [], 4⟩) ⟨rfl, trivial⟩ trivial (Nat.le_refl _)) ?_
              refine aw_ret ?_
              replace H := rt_of H hsn6 Hrn6
              replace H := rt_of H hsn4 Hrn4
              refine rt_blk ?_
              refine rt_then ?_
              refine rt_then ?_
              refine rt_blk ?_
              refine rt_then ?_
              refine rt_blk ?_
              refine rt_then ?_
              refine rt_then ?_
              refine rt_blk ?_
              refine rt_then ?_
              refine rt_then ?_
              exact fun a w hr => ⟨_, [(.bool false)], hr, ⟨⟨_, rfl, .data (.bool false) trivial⟩, trivial⟩, by decide, by cases H; rfl⟩
            · replace H := ite_f hc H
              refine aw_skip ?_
              refine nx_blk ?_
              refine nx_seq ?_
              refine aw_region1 (es := [_, _, _]) ⟨Step.plain rfl (does_move (.tmp 5) (.int .i64 x5) trivial), ⟨⟨rfl, trivial⟩, trivial, rfl⟩, rfl,
                Step.plain rfl (does_bin .add 3 3 (.tmp 19) (.const (.int .i64 1)) .i64 x5 1 (.int .i64 (IntKind.i64.wrap (x5 + 1))) trivial (fun _ => rfl) (bin_add _ _ _ _)), ⟨⟨rfl, trivial⟩, trivial, rfl⟩, rfl,
                Step.plain rfl (does_assign (.tmp 20) (.int .i64 (IntKind.i64.wrap (x5 + 1))) trivial), ⟨⟨rfl, trivial⟩, trivial, rfl⟩, rfl, rfl⟩ ?_
              exact nx_loop ((IntKind.i64.wrap (x5 + 1))) H (cov_of (fun i => match i with | 1 => 1 | k => k) ⟨⟨_, rfl, ⟨rfl, Nat.le_of_ble_eq_true rfl⟩⟩, ⟨_, rfl, ⟨rfl, trivial⟩⟩, ⟨_, rfl, ⟨rfl, trivial⟩⟩, trivial⟩ ⟨⟨Nat.le_of_ble_eq_true rfl, _, _, rfl, rfl, ⟨rfl, rfl, fun _ => .inl ⟨rfl, (d_api_Wait _).plain⟩⟩⟩, trivial⟩ rfl)
        · replace H := ite_f hc H
          refine aw_exit ?_
          refine ex_then ?_
          refine ex_then ?_
          refine ex_here ?_
          exact nx_ljoin () H hsn6 (cov_prune ⟨rfl, rfl, trivial⟩ ⟨rfl, trivial⟩ (Nat.le_of_ble_eq_true rfl))
    · replace H := ite_f hc H
      refine aw_exit ?_
      refine ex_then ?_
      refine ex_then ?_
      refine ex_here ?_
      exact nx_ljoin () H hsn4 (cov_prune trivial trivial (Nat.le_of_ble_eq_true rfl))
end Go.Proofs.Ytclblogdciebnaa
