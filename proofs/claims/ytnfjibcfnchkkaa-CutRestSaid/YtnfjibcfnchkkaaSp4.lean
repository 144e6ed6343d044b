/- Printed by gen.py. Conditions: none. -/
import Derived.Test.YtnfjibcfnchkkaaSp3
import Derived.KernelRfl
set_option linter.unusedVariables false
set_option maxRecDepth 100000
namespace Go.Proofs.Ytnfjibcfnchkkaa
open Go.Eng
set_option maxHeartbeats 1600000
theorem congresslaw11_CutMissing_spec (p0 : congresslaw11_Two) (r : Bool) (H : congresslaw11_CutMissing p0 = some r) : FSpec Try.prog 5 [(e_congresslaw11_Two p0)] (.bool r) := by
  refine spec_of (fn := Try.f5) (args := [(e_congresslaw11_Two p0)]) Try.func5 rfl (Nat.le_of_ble_eq_true rfl) ?_
  rintro ⟨G, w0, W, S, Sp⟩ hG
  cases hG
  unfold congresslaw11_CutMissing at H
  refine aw_region (es := [_, _]) ⟨Step.plain rfl (does_box 30 (.tmp 0) 0 (e_congresslaw11_Two p0) trivial rfl), ⟨⟨rfl, trivial⟩, trivial, rfl⟩, rfl,
    Step.plain rfl (does_assign (.const (.bool false)) (.bool false) (fun _ => rfl)), ⟨trivial, trivial, rfl⟩, rfl, rfl⟩ ?_
  refine aw_cov (cov_prune (s1 := ⟨[(1, (.ptr 0 0 []))], [(0, some (.var (e_congresslaw11_Two p0)))], 1⟩) ⟨rfl, trivial⟩ ⟨rfl, trivial⟩ (Nat.le_refl _)) ?_
  obtain ⟨v1, h2, H⟩ := bnd H
  refine aw_region (es := [_, _, _, _, _, _, _, _]) ⟨Step.plain rfl (does_fieldAddr 30 0 0 1 0 0 [] (.var (e_congresslaw11_Two p0)) fl30_0), ⟨⟨rfl, trivial⟩, ⟨rfl, trivial⟩, rfl⟩, rfl,
    Step.plain rfl (does_load 25 8 0 (0 + 0) [0] (.var (e_congresslaw11_Two p0)) (e_a8_u32 p0.A) ⟨rfl, Nat.le_of_ble_eq_true rfl, trivial⟩ rfl rfl ty25), ⟨⟨rfl, trivial⟩, ⟨rfl, trivial⟩, rfl⟩, rfl,
    Step.plain rfl (does_fieldAddr 30 1 8 1 0 0 [] (.var (e_congresslaw11_Two p0)) fl30_1), ⟨⟨rfl, trivial⟩, ⟨rfl, trivial⟩, rfl⟩, rfl,
    Step.plain rfl (does_load 25 10 0 (0 + 8) [1] (.var (e_congresslaw11_Two p0)) (e_a8_u32 p0.B) ⟨rfl, Nat.le_of_ble_eq_true rfl, trivial⟩ rfl rfl ty25), ⟨⟨rfl, trivial⟩, ⟨rfl, trivial⟩, rfl⟩, rfl,
    Step.plain rfl (does_fieldAddr 30 2 16 1 0 0 [] (.var (e_congresslaw11_Two p0)) fl30_2), ⟨⟨rfl, trivial⟩, ⟨rfl, trivial⟩, rfl⟩, rfl,
    Step.plain rfl (does_load 26 12 0 (0 + 16) [2] (.var (e_congresslaw11_Two p0)) (e_a8_u32 p0.M) ⟨rfl, Nat.le_of_ble_eq_true rfl, trivial⟩ rfl rfl ty26), ⟨⟨rfl, trivial⟩, ⟨rfl, trivial⟩, rfl⟩, rfl,
    Step.plain rfl (does_callO 14 0 (fun _ => .any) (.func 14) [(.tmp 9), (.tmp 11), (.tmp 13)] [(e_a8_u32 p0.A), (e_a8_u32 p0.B), (e_a8_u32 p0.M)] [] [] true [(e_a8_u32 p0.A), (e_a8_u32 p0.B), (e_a8_u32 p0.M)] _ (.own 1) _ 1 1 _ _ rfl fo14 rfl ⟨trivial, trivial, trivial, trivial⟩ ⟨.ro _ _ (.data _ (d_a8_u32 p0.A)), .ro _ _ (.data _ (d_a8_u32 p0.B)), .ro _ _ (.data _ (d_a8_u32 p0.M)), trivial⟩ (cut_Missing_spec p0.A p0.B p0.M _ h2) rfl (by simp) rfl trivial ⟨⟨Nat.le_of_ble_eq_true rfl, _, rfl, fun _ => (f_api_Place _)⟩, trivial⟩ (.own 0 (Nat.le_of_ble_eq_true rfl))), ⟨⟨rfl, rfl, rfl, trivial⟩, trivial, rfl⟩, rfl,
    Step.plain rfl (does_assign (.tmp 14) (.own 1) trivial), ⟨⟨rfl, trivial⟩, trivial, rfl⟩, rfl, rfl⟩ ?_
  refine aw_cov (cov_prune (s1 := ⟨[(1, (.ptr 0 0 [])), (3, (.own 1))], [(0, some (.var (e_congresslaw11_Two p0))), (1, some (.arr 3 v1.length fun j => (e_api_Place (v1.getD j z_api_Place))))], 2⟩) ⟨rfl, rfl, trivial⟩ ⟨rfl, rfl, trivial⟩ (Nat.le_refl _)) ?_
  refine aw_seq ?_
  obtain ⟨v3, h4, H⟩ := bnd H
  refine aw_region (es := [_, _, _, _, _, _, _]) ⟨Step.plain rfl (does_call 8 0 (fun _ => .any) (.func 8) [] [] [] true [] (.bool v3) _ _ rfl fo8 rfl trivial trivial (congresslaw11_fixed_spec _ h4) trivial), ⟨trivial, trivial, rfl⟩, rfl,
    Step.plain rfl (does_not 4 (.tmp 15) v3 trivial), ⟨⟨rfl, trivial⟩, trivial, rfl⟩, rfl,
    Step.plain rfl (does_move (.tmp 16) (.bool (!v3)) trivial), ⟨⟨rfl, trivial⟩, trivial, rfl⟩, rfl,
    Step.guarded rfl rfl rfl rfl (fun hc => does_move (.tmp 3) (.own 1) trivial), ⟨⟨rfl, rfl, trivial⟩, trivial, rfl⟩, rfl,
    Step.guarded rfl rfl rfl rfl (fun hc => Does.strip (n' := [(18, (.opt (!(!v3)) (.own 1)))]) (n := [(18, (.own 1))]) ⟨(.opt _ _ hc), trivial⟩ (does_leno 36 3 v1.length 18 1 (fun j => (e_api_Place (v1.getD j z_api_Place))) el36)), ⟨⟨rfl, rfl, trivial⟩, ⟨rfl, trivial⟩, rfl⟩, rfl,
    Step.guarded rfl rfl rfl rfl (fun hc => Does.strip (n' := [(19, (.opt (!(!v3)) (.int .i64 (v1.length : Int))))]) (n := [(19, (.int .i64 (v1.length : Int)))]) ⟨(.opt _ _ hc), trivial⟩ (does_bin .gtr 3 3 (.tmp 19) (.const (.int .i64 100)) .i64 (v1.length : Int) 100 (.bool (decide ((v1.length : Int) > 100))) trivial (fun _ => rfl) (bin_gtr _ _ _ _))), ⟨⟨rfl, rfl, trivial⟩, trivial, rfl⟩, rfl,
    Step.plain rfl (does_or 17 20 (!v3) (decide ((v1.length : Int) > 100))), ⟨⟨rfl, rfl, trivial⟩, trivial, rfl⟩, rfl, rfl⟩ ?_
  refine aw_cov (cov_prune (s1 := ⟨[(1, (.ptr 0 0 [])), (3, (.own 1)), (21, (.bool ((!v3) || (decide ((v1.length : Int) > 100)))))], [(0, some (.var (e_congresslaw11_Two p0))), (1, some (.arr 3 v1.length fun j => (e_api_Place (v1.getD j z_api_Place))))], 2⟩) ⟨rfl, rfl, rfl, trivial⟩ ⟨rfl, rfl, trivial⟩ (Nat.le_refl _)) ?_
  refine aw_cond rfl (fun hc => ?_) (fun hc => ?_)
  · replace H := ite_t hc H
    refine aw_region (es := [_]) ⟨Step.plain rfl (does_assign (.const (.bool false)) (.bool false) (fun _ => rfl)), ⟨trivial, trivial, rfl⟩, rfl, rfl⟩ ?_
    refine aw_cov (cov_prune (s1 := ⟨[(2, (.bool false))], [], 2⟩) ⟨rfl, trivial⟩ trivial (Nat.le_refl _)) ?_
    refine aw_ret ?_
    refine rt_then ?_
    exact fun a w hr => ⟨_, [(.bool false)], hr, ⟨⟨_, rfl, .data (.bool false) trivial⟩, trivial⟩, by decide, by cases H; rfl⟩
  · replace H := ite_f hc H
    refine aw_skip ?_
    refine nx_seq ?_
    refine aw_region (es := [_, _, _, _]) ⟨Step.plain rfl (does_fieldAddr 30 0 0 1 0 0 [] (.var (e_congresslaw11_Two p0)) fl30_0), ⟨⟨rfl, trivial⟩, ⟨rfl, trivial⟩, rfl⟩, rfl,
      Step.plain rfl (does_load 25 22 0 (0 + 0) [0] (.var (e_congresslaw11_Two p0)) (e_a8_u32 p0.A) ⟨rfl, Nat.le_of_ble_eq_true rfl, trivial⟩ rfl rfl ty25), ⟨⟨rfl, trivial⟩, ⟨rfl, trivial⟩, rfl⟩, rfl,
      Step.plain rfl (does_alloc 25 2 (e_a8_u32 (fun _ => 0)) zr25), ⟨trivial, trivial, rfl⟩, rfl,
      Step.plain rfl (does_store 25 4 (.tmp 23) 2 0 [] (.var (e_a8_u32 (fun _ => 0))) (.var (e_a8_u32 p0.A)) (e_a8_u32 p0.A) true trivial rfl trivial rfl rfl rfl ty25), ⟨⟨rfl, rfl, trivial⟩, ⟨rfl, trivial⟩, rfl⟩, rfl, rfl⟩ ?_
    refine aw_cov (cov_prune (s1 := ⟨[(1, (.ptr 0 0 [])), (3, (.own 1)), (4, (.ptr 2 0 []))], [(0, some (.var (e_congresslaw11_Two p0))), (1, some (.arr 3 v1.length fun j => (e_api_Place (v1.getD j z_api_Place)))), (2, some (.var (e_a8_u32 p0.A)))], 3⟩) ⟨rfl, rfl, rfl, trivial⟩ ⟨rfl, rfl, rfl, trivial⟩ (Nat.le_refl _)) ?_
    refine aw_seq ?_
    refine aw_region (es := [_]) ⟨Step.plain rfl (does_assign (.const (.int .i64 0)) (.int .i64 0) (fun _ => rfl)), ⟨trivial, trivial, rfl⟩, rfl, rfl⟩ ?_
    refine aw_cov (cov_prune (s1 := ⟨[(1, (.ptr 0 0 [])), (3, (.own 1)), (4, (.ptr 2 0 [])), (5, (.int .i64 0))], [(0, some (.var (e_congresslaw11_Two p0))), (1, some (.arr 3 v1.length fun j => (e_api_Place (v1.getD j z_api_Place)))), (2, some (.var (e_a8_u32 p0.A)))], 3⟩) ⟨rfl, rfl, rfl, rfl, trivial⟩ ⟨rfl, rfl, rfl, trivial⟩ (Nat.le_refl _)) ?_
    obtain ⟨wn6, hwn6, Hrn6⟩ := bnd H
    refine aw_meet (fun y19 : (Nat → Int) => (⟨[(1, (.ptr 0 0 [])), (3, (.own 1)), (4, (.ptr 2 0 []))], [(0, some (.var (e_congresslaw11_Two p0))), (1, some (.arr 3 v1.length fun j => (e_api_Place (v1.getD j z_api_Place)))), (2, some (.var (e_a8_u32 y19)))], 3⟩ : St)) (fun y19 => Fl.nx y19 = wn6) (fun y19 hy => ?_) (aw_block (aw_runs (fun x5 : Int × (Nat → Int) => (⟨[(1, (.ptr 0 0 [])), (3, (.own 1)), (4, (.ptr 2 0 [])), (5, (.int .i64 x5.1))], [(0, some (.var (e_congresslaw11_Two p0))), (1, some (.arr 3 v1.length fun j => (e_api_Place (v1.getD j z_api_Place)))), (2, some (.var (e_a8_u32 x5.2)))], 3⟩ : St)) hwn6 (cov_prune ⟨rfl, rfl, rfl, rfl, trivial⟩ ⟨rfl, rfl, rfl, trivial⟩ (Nat.le_of_ble_eq_true rfl)) (fun x5 st H hsn6 => ?_)))
    · have H := nx_of hy Hrn6
      refine nx_seq ?_
      refine aw_seq ?_
      refine aw_region (es := [_, _, _]) ⟨Step.plain rfl (does_move (.tmp 3) (.own 1) trivial), ⟨⟨rfl, trivial⟩, trivial, rfl⟩, rfl,
        Step.plain rfl (does_leno 36 3 v1.length 85 1 (fun j => (e_api_Place (v1.getD j z_api_Place))) el36), ⟨⟨rfl, trivial⟩, ⟨rfl, trivial⟩, rfl⟩, rfl,
        Step.plain rfl (does_bin .eql 3 3 (.tmp 86) (.const (.int .i64 100)) .i64 (v1.length : Int) 100 (.bool ((v1.length : Int) == 100)) trivial (fun _ => rfl) (bin_eql _ _ _ _)), ⟨⟨rfl, trivial⟩, trivial, rfl⟩, rfl, rfl⟩ ?_
      refine aw_cov (cov_prune (s1 := ⟨[(1, (.ptr 0 0 [])), (4, (.ptr 2 0 [])), (87, (.bool ((v1.length : Int) == 100)))], [(0, some (.var (e_congresslaw11_Two p0))), (2, some (.var (e_a8_u32 y19)))], 3⟩) ⟨rfl, rfl, rfl, trivial⟩ ⟨rfl, rfl, trivial⟩ (Nat.le_refl _)) ?_
      refine aw_cond rfl (fun hc => ?_) (fun hc => ?_)
      · replace H := ite_t hc H
        refine aw_region (es := [_]) ⟨Step.plain rfl (does_assign (.const (.bool true)) (.bool true) (fun _ => rfl)), ⟨trivial, trivial, rfl⟩, rfl, rfl⟩ ?_
        refine aw_cov (cov_prune (s1 := ⟨[(2, (.bool true))], [], 3⟩) ⟨rfl, trivial⟩ trivial (Nat.le_refl _)) ?_
        refine aw_ret ?_
        refine rt_then ?_
        exact fun a w hr => ⟨_, [(.bool true)], hr, ⟨⟨_, rfl, .data (.bool true) trivial⟩, trivial⟩, by decide, by cases H; rfl⟩
      · replace H := ite_f hc H
        refine aw_skip ?_
        refine nx_seq ?_
        refine aw_seq ?_
        refine aw_region (es := [_]) ⟨Step.plain rfl (does_assign (.const (.int .i64 0)) (.int .i64 0) (fun _ => rfl)), ⟨trivial, trivial, rfl⟩, rfl, rfl⟩ ?_
        refine aw_cov (cov_prune (s1 := ⟨[(1, (.ptr 0 0 [])), (4, (.ptr 2 0 [])), (7, (.int .i64 0))], [(0, some (.var (e_congresslaw11_Two p0))), (2, some (.var (e_a8_u32 y19)))], 3⟩) ⟨rfl, rfl, rfl, trivial⟩ ⟨rfl, rfl, trivial⟩ (Nat.le_refl _)) ?_
        obtain ⟨wn21, hwn21, Hrn21⟩ := bnd H
        refine aw_meet (fun y27 : Unit => (⟨[], [], 3⟩ : St)) (fun y27 => Fl.nx y27 = wn21) (fun y27 hy => ?_) (aw_block (aw_runs (fun x20 : Int => (⟨[(1, (.ptr 0 0 [])), (4, (.ptr 2 0 [])), (7, (.int .i64 x20))], [(0, some (.var (e_congresslaw11_Two p0))), (2, some (.var (e_a8_u32 y19)))], 3⟩ : St)) hwn21 (cov_prune ⟨rfl, rfl, rfl, trivial⟩ ⟨rfl, rfl, trivial⟩ (Nat.le_of_ble_eq_true rfl)) (fun x20 st H hsn21 => ?_)))
        · have H := nx_of hy Hrn21
          refine nx_seq ?_
          refine aw_region (es := [_]) ⟨Step.plain rfl (does_assign (.const (.bool true)) (.bool true) (fun _ => rfl)), ⟨trivial, trivial, rfl⟩, rfl, rfl⟩ ?_
          refine aw_cov (cov_prune (s1 := ⟨[(2, (.bool true))], [], 3⟩) ⟨rfl, trivial⟩ trivial (Nat.le_refl _)) ?_
          refine aw_ret ?_
          exact fun a w hr => ⟨_, [(.bool true)], hr, ⟨⟨_, rfl, .data (.bool true) trivial⟩, trivial⟩, by decide, by cases H; rfl⟩
        · refine aw_seq ?_
          refine aw_region (es := [_, _]) ⟨Step.plain rfl (does_move (.tmp 7) (.int .i64 x20) trivial), ⟨⟨rfl, trivial⟩, trivial, rfl⟩, rfl,
            Step.plain rfl (does_bin .lss 3 3 (.tmp 88) (.const (.int .i64 8)) .i64 x20 8 (.bool (decide (x20 < 8))) trivial (fun _ => rfl) (bin_lss _ _ _ _)), ⟨⟨rfl, trivial⟩, trivial, rfl⟩, rfl, rfl⟩ ?_
          refine aw_cov (cov_prune (s1 := ⟨[(1, (.ptr 0 0 [])), (4, (.ptr 2 0 [])), (7, (.int .i64 x20)), (89, (.bool (decide (x20 < 8))))], [(0, some (.var (e_congresslaw11_Two p0))), (2, some (.var (e_a8_u32 y19)))], 3⟩) ⟨rfl, rfl, rfl, rfl, trivial⟩ ⟨rfl, rfl, trivial⟩ (Nat.le_refl _)) ?_
          refine aw_cond rfl (fun hc => ?_) (fun hc => ?_)
          · replace H := ite_t hc H
            refine aw_skip ?_
            refine nx_seq ?_
            refine aw_seq ?_
            refine aw_block ?_
            obtain ⟨h22, H⟩ := ib_of H
            obtain ⟨h23, H⟩ := ibg_of H
            obtain ⟨h24, H⟩ := ibg_of H
            obtain ⟨h25, H⟩ := ibg_of H
            refine aw_draw (es := [_, _, _, _, _, _, _, _, _, _, _, _, _, _, _, _, _, _, _, _]) (mixed) ⟨Step.plain rfl (does_move (.tmp 7) (.int .i64 x20) trivial), ⟨⟨rfl, trivial⟩, trivial, rfl⟩, rfl,
              Step.plain rfl (does_fieldAddr 30 2 16 1 0 0 [] (.var (e_congresslaw11_Two p0)) fl30_2), ⟨⟨rfl, trivial⟩, ⟨rfl, trivial⟩, rfl⟩, rfl,
              Step.plain rfl (does_indexAddr 26 8 1 93 0 (0 + 16) [2] (.var (e_congresslaw11_Two p0)) (.tmp 92) .i64 x20 el26 trivial h22.1 h22.2), ⟨⟨rfl, rfl, trivial⟩, ⟨rfl, trivial⟩, rfl⟩, rfl,
              Step.plain rfl (does_load 23 94 0 ((0 + 16) + x20.toNat * 1) [2, x20.toNat] (.var (e_congresslaw11_Two p0)) (.int .u32 (p0.M x20.toNat)) ⟨rfl, Nat.le_of_ble_eq_true rfl, ⟨rfl, (ixl h22), trivial⟩⟩ rfl rfl ty23), ⟨⟨rfl, trivial⟩, ⟨rfl, trivial⟩, rfl⟩, rfl,
              Step.plain rfl (does_bin .neq 23 23 (.tmp 95) (.const (.int .u32 0)) .u32 (p0.M x20.toNat) 0 (.bool ((p0.M x20.toNat) != 0)) trivial (fun _ => rfl) (bin_neq _ _ _ _)), ⟨⟨rfl, trivial⟩, trivial, rfl⟩, rfl,
              Step.plain rfl (does_move (.tmp 96) (.bool ((p0.M x20.toNat) != 0)) trivial), ⟨⟨rfl, trivial⟩, trivial, rfl⟩, rfl,
              Step.guarded rfl rfl rfl rfl (fun hc => does_move (.tmp 7) (.int .i64 x20) trivial), ⟨⟨rfl, rfl, trivial⟩, trivial, rfl⟩, rfl,
              Step.guarded rfl rfl rfl rfl (fun hc => Does.strip (n' := [(4, (.ptr 2 0 [])), (98, (.opt ((p0.M x20.toNat) != 0) (.int .i64 x20)))]) (n := [(4, (.ptr 2 0 [])), (98, (.int .i64 x20))]) ⟨(.same _), (.opt _ _ hc), trivial⟩ (does_indexAddr 25 8 1 4 2 0 [] (.var (e_a8_u32 y19)) (.tmp 98) .i64 x20 el25 trivial (h23 hc).1 (h23 hc).2)), ⟨⟨rfl, rfl, rfl, trivial⟩, ⟨rfl, trivial⟩, rfl⟩, rfl,
              Step.guarded rfl rfl rfl rfl (fun hc => Does.strip (n' := [(99, (.opt ((p0.M x20.toNat) != 0) (.ptr 2 (0 + x20.toNat * 1) [x20.toNat])))]) (n := [(99, (.ptr 2 (0 + x20.toNat * 1) [x20.toNat]))]) ⟨(.opt _ _ hc), trivial⟩ (does_load 23 99 2 (0 + x20.toNat * 1) [x20.toNat] (.var (e_a8_u32 y19)) (.int .u32 (y19 x20.toNat)) ⟨rfl, (ixl (h23 hc)), trivial⟩ rfl rfl ty23)), ⟨⟨rfl, rfl, trivial⟩, ⟨rfl, trivial⟩, rfl⟩, rfl,
              Step.guarded rfl rfl rfl rfl (fun hc => does_move (.tmp 7) (.int .i64 x20) trivial), ⟨⟨rfl, rfl, trivial⟩, trivial, rfl⟩, rfl,
              Step.guarded rfl rfl rfl rfl (fun hc => does_fieldAddr 30 0 0 1 0 0 [] (.var (e_congresslaw11_Two p0)) fl30_0), ⟨⟨rfl, rfl, trivial⟩, ⟨rfl, trivial⟩, rfl⟩, rfl,
              Step.guarded rfl rfl rfl rfl (fun hc => Does.strip (n' := [(102, (.opt ((p0.M x20.toNat) != 0) (.ptr 0 (0 + 0) [0]))), (101, (.opt ((p0.M x20.toNat) != 0) (.int .i64 x20)))]) (n := [(102, (.ptr 0 (0 + 0) [0])), (101, (.int .i64 x20))]) ⟨(.opt _ _ hc), (.opt _ _ hc), trivial⟩ (does_indexAddr 25 8 1 102 0 (0 + 0) [0] (.var (e_congresslaw11_Two p0)) (.tmp 101) .i64 x20 el25 trivial (h24 hc).1 (h24 hc).2)), ⟨⟨rfl, rfl, rfl, trivial⟩, ⟨rfl, trivial⟩, rfl⟩, rfl,
              Step.guarded rfl rfl rfl rfl (fun hc => Does.strip (n' := [(103, (.opt ((p0.M x20.toNat) != 0) (.ptr 0 ((0 + 0) + x20.toNat * 1) [0, x20.toNat])))]) (n := [(103, (.ptr 0 ((0 + 0) + x20.toNat * 1) [0, x20.toNat]))]) ⟨(.opt _ _ hc), trivial⟩ (does_load 23 103 0 ((0 + 0) + x20.toNat * 1) [0, x20.toNat] (.var (e_congresslaw11_Two p0)) (.int .u32 (p0.A x20.toNat)) ⟨rfl, Nat.le_of_ble_eq_true rfl, ⟨rfl, (ixl (h24 hc)), trivial⟩⟩ rfl rfl ty23)), ⟨⟨rfl, rfl, trivial⟩, ⟨rfl, trivial⟩, rfl⟩, rfl,
              Step.guarded rfl rfl rfl rfl (fun hc => does_move (.tmp 7) (.int .i64 x20) trivial), ⟨⟨rfl, rfl, trivial⟩, trivial, rfl⟩, rfl,
              Step.guarded rfl rfl rfl rfl (fun hc => does_fieldAddr 30 1 8 1 0 0 [] (.var (e_congresslaw11_Two p0)) fl30_1), ⟨⟨rfl, rfl, trivial⟩, ⟨rfl, trivial⟩, rfl⟩, rfl,
              Step.guarded rfl rfl rfl rfl (fun hc => Does.strip (n' := [(106, (.opt ((p0.M x20.toNat) != 0) (.ptr 0 (0 + 8) [1]))), (105, (.opt ((p0.M x20.toNat) != 0) (.int .i64 x20)))]) (n := [(106, (.ptr 0 (0 + 8) [1])), (105, (.int .i64 x20))]) ⟨(.opt _ _ hc), (.opt _ _ hc), trivial⟩ (does_indexAddr 25 8 1 106 0 (0 + 8) [1] (.var (e_congresslaw11_Two p0)) (.tmp 105) .i64 x20 el25 trivial (h25 hc).1 (h25 hc).2)), ⟨⟨rfl, rfl, rfl, trivial⟩, ⟨rfl, trivial⟩, rfl⟩, rfl,
              Step.guarded rfl rfl rfl rfl (fun hc => Does.strip (n' := [(107, (.opt ((p0.M x20.toNat) != 0) (.ptr 0 ((0 + 8) + x20.toNat * 1) [1, x20.toNat])))]) (n := [(107, (.ptr 0 ((0 + 8) + x20.toNat * 1) [1, x20.toNat]))]) ⟨(.opt _ _ hc), trivial⟩ (does_load 23 107 0 ((0 + 8) + x20.toNat * 1) [1, x20.toNat] (.var (e_congresslaw11_Two p0)) (.int .u32 (p0.B x20.toNat)) ⟨rfl, Nat.le_of_ble_eq_true rfl, ⟨rfl, (ixl (h25 hc)), trivial⟩⟩ rfl rfl ty23)), ⟨⟨rfl, rfl, trivial⟩, ⟨rfl, trivial⟩, rfl⟩, rfl,
              Step.guarded rfl rfl rfl rfl (fun hc => Does.strip (n' := [(104, (.opt ((p0.M x20.toNat) != 0) (.int .u32 (p0.A x20.toNat)))), (108, (.opt ((p0.M x20.toNat) != 0) (.int .u32 (p0.B x20.toNat))))]) (n := [(104, (.int .u32 (p0.A x20.toNat))), (108, (.int .u32 (p0.B x20.toNat)))]) ⟨(.opt _ _ hc), (.opt _ _ hc), trivial⟩ (does_max _ _ (.tmp 104) (.tmp 108) rfl .u32 (p0.A x20.toNat) (p0.B x20.toNat) trivial trivial)), ⟨⟨rfl, rfl, rfl, trivial⟩, trivial, rfl⟩, rfl,
              Step.guarded rfl rfl rfl rfl (fun hc => Does.strip (n' := [(100, (.opt ((p0.M x20.toNat) != 0) (.int .u32 (y19 x20.toNat)))), (109, (.opt ((p0.M x20.toNat) != 0) (.int .u32 (if (p0.A x20.toNat) < (p0.B x20.toNat) then p0.B x20.toNat else p0.A x20.toNat))))]) (n := [(100, (.int .u32 (y19 x20.toNat))), (109, (.int .u32 (if (p0.A x20.toNat) < (p0.B x20.toNat) then p0.B x20.toNat else p0.A x20.toNat)))]) ⟨(.opt _ _ hc), (.opt _ _ hc), trivial⟩ (does_bin .neq 23 23 (.tmp 100) (.tmp 109) .u32 (y19 x20.toNat) (if (p0.A x20.toNat) < (p0.B x20.toNat) then p0.B x20.toNat else p0.A x20.toNat) (.bool ((y19 x20.toNat) != (if (p0.A x20.toNat) < (p0.B x20.toNat) then p0.B x20.toNat else p0.A x20.toNat))) trivial trivial (bin_neq _ _ _ _))), ⟨⟨rfl, rfl, rfl, trivial⟩, trivial, rfl⟩, rfl,
              Step.plain rfl (does_and 97 110 ((p0.M x20.toNat) != 0) ((y19 x20.toNat) != (if (p0.A x20.toNat) < (p0.B x20.toNat) then p0.B x20.toNat else p0.A x20.toNat))), ⟨⟨rfl, rfl, trivial⟩, trivial, rfl⟩, rfl, rfl⟩ rfl ?_
            obtain ⟨v26, hv26, H⟩ := lt_of H
            refine aw_cov (cov_prune (s1 := ⟨[(1, (.ptr 0 0 [])), (4, (.ptr 2 0 [])), (7, (.int .i64 x20)), (111, (.bool v26))], [(0, some (.var (e_congresslaw11_Two p0))), (2, some (.var (e_a8_u32 y19)))], 3⟩) ⟨rfl, rfl, rfl, (by subst hv26; rfl), trivial⟩ ⟨rfl, rfl, trivial⟩ (Nat.le_refl _)) ?_
            refine aw_cond rfl (fun hc => ?_) (fun hc => ?_)
            · replace H := ite_t hc H
              refine aw_region (es := [_]) ⟨Step.plain rfl (does_assign (.const (.bool false)) (.bool false) (fun _ => rfl)), ⟨trivial, trivial, rfl⟩, rfl, rfl⟩ ?_
              refine aw_cov (cov_prune (s1 := ⟨[(2, (.bool false))], [], 3⟩) ⟨rfl, trivial⟩ trivial (Nat.le_refl _)) ?_
              refine aw_ret ?_
              replace H := rt_of H hsn21 Hrn21
              refine rt_blk ?_
              refine rt_then ?_
              refine rt_then ?_
              refine rt_blk ?_
              refine rt_then ?_
              refine rt_then ?_
              exact fun a w hr => ⟨_, [(.bool false)], hr, ⟨⟨_, rfl, .data (.bool false) trivial⟩, trivial⟩, by decide, by cases H; rfl⟩
            · replace H := ite_f hc H
              refine aw_skip ?_
              refine nx_blk ?_
              refine nx_seq ?_
              refine aw_region1 (es := [_, _, _]) ⟨Step.plain rfl (does_move (.tmp 7) (.int .i64 x20) trivial), ⟨⟨rfl, trivial⟩, trivial, rfl⟩, rfl,
                Step.plain rfl (does_bin .add 3 3 (.tmp 90) (.const (.int .i64 1)) .i64 x20 1 (.int .i64 (IntKind.i64.wrap (x20 + 1))) trivial (fun _ => rfl) (bin_add _ _ _ _)), ⟨⟨rfl, trivial⟩, trivial, rfl⟩, rfl,
                Step.plain rfl (does_assign (.tmp 91) (.int .i64 (IntKind.i64.wrap (x20 + 1))) trivial), ⟨⟨rfl, trivial⟩, trivial, rfl⟩, rfl, rfl⟩ ?_
              exact nx_loop ((IntKind.i64.wrap (x20 + 1))) H (cov_prune ⟨rfl, rfl, rfl, trivial⟩ ⟨rfl, rfl, trivial⟩ (Nat.le_of_ble_eq_true rfl))
          · replace H := ite_f hc H
            refine aw_exit ?_
            refine ex_then ?_
            refine ex_then ?_
            refine ex_here ?_
            exact nx_ljoin () H hsn21 (cov_prune trivial trivial (Nat.le_of_ble_eq_true rfl))
    · refine aw_seq ?_
      refine aw_region (es := [_, _, _, _]) ⟨Step.plain rfl (does_move (.tmp 5) (.int .i64 x5.1) trivial), ⟨⟨rfl, trivial⟩, trivial, rfl⟩, rfl,
        Step.plain rfl (does_move (.tmp 3) (.own 1) trivial), ⟨⟨rfl, trivial⟩, trivial, rfl⟩, rfl,
        Step.plain rfl (does_leno 36 3 v1.length 25 1 (fun j => (e_api_Place (v1.getD j z_api_Place))) el36), ⟨⟨rfl, trivial⟩, ⟨rfl, trivial⟩, rfl⟩, rfl,
        Step.plain rfl (does_bin .lss 3 3 (.tmp 24) (.tmp 26) .i64 x5.1 (v1.length : Int) (.bool (decide (x5.1 < (v1.length : Int)))) trivial trivial (bin_lss _ _ _ _)), ⟨⟨rfl, rfl, trivial⟩, trivial, rfl⟩, rfl, rfl⟩ ?_
      refine aw_cov (cov_prune (s1 := ⟨[(1, (.ptr 0 0 [])), (3, (.own 1)), (4, (.ptr 2 0 [])), (5, (.int .i64 x5.1)), (27, (.bool (decide (x5.1 < (v1.length : Int)))))], [(0, some (.var (e_congresslaw11_Two p0))), (1, some (.arr 3 v1.length fun j => (e_api_Place (v1.getD j z_api_Place)))), (2, some (.var (e_a8_u32 x5.2)))], 3⟩) ⟨rfl, rfl, rfl, rfl, rfl, trivial⟩ ⟨rfl, rfl, rfl, trivial⟩ (Nat.le_refl _)) ?_
      refine aw_cond rfl (fun hc => ?_) (fun hc => ?_)
      · replace H := ite_t hc H
        refine aw_skip ?_
        refine nx_seq ?_
        refine aw_seq ?_
        refine aw_block ?_
        obtain ⟨h7, H⟩ := ib_of H
        refine aw_region (es := [_, _, _, _, _, _]) ⟨Step.plain rfl (does_move (.tmp 3) (.own 1) trivial), ⟨⟨rfl, trivial⟩, trivial, rfl⟩, rfl,
          Step.plain rfl (does_move (.tmp 5) (.int .i64 x5.1) trivial), ⟨⟨rfl, trivial⟩, trivial, rfl⟩, rfl,
          Step.plain rfl (does_indexAddro 36 3 v1.length 30 1 (fun j => (e_api_Place (v1.getD j z_api_Place))) (.tmp 31) .i64 x5.1 el36 trivial h7.1 h7.2), ⟨⟨rfl, rfl, trivial⟩, ⟨rfl, trivial⟩, rfl⟩, rfl,
          Step.plain rfl (does_load 28 32 1 (x5.1.toNat * 3) [x5.1.toNat] (.arr 3 v1.length fun j => (e_api_Place (v1.getD j z_api_Place))) (e_api_Place (v1.getD x5.1.toNat z_api_Place)) ⟨(ixl h7), trivial⟩ rfl rfl ty28), ⟨⟨rfl, trivial⟩, ⟨rfl, trivial⟩, rfl⟩, rfl,
          Step.plain rfl (does_alloc 28 3 (e_api_Place z_api_Place) zr28), ⟨trivial, trivial, rfl⟩, rfl,
          Step.plain rfl (does_store 28 6 (.tmp 33) 3 0 [] (.var (e_api_Place z_api_Place)) (.var (e_api_Place (v1.getD x5.1.toNat z_api_Place))) (e_api_Place (v1.getD x5.1.toNat z_api_Place)) true trivial rfl trivial rfl rfl rfl ty28), ⟨⟨rfl, rfl, trivial⟩, ⟨rfl, trivial⟩, rfl⟩, rfl, rfl⟩ ?_
        refine aw_cov (cov_prune (s1 := ⟨[(1, (.ptr 0 0 [])), (3, (.own 1)), (4, (.ptr 2 0 [])), (5, (.int .i64 x5.1)), (6, (.ptr 3 0 []))], [(0, some (.var (e_congresslaw11_Two p0))), (1, some (.arr 3 v1.length fun j => (e_api_Place (v1.getD j z_api_Place)))), (2, some (.var (e_a8_u32 x5.2))), (3, some (.var (e_api_Place (v1.getD x5.1.toNat z_api_Place))))], 4⟩) ⟨rfl, rfl, rfl, rfl, rfl, trivial⟩ ⟨rfl, rfl, rfl, rfl, trivial⟩ (Nat.le_refl _)) ?_
        refine aw_seq ?_
        obtain ⟨v8, h9, H⟩ := bnd H
        obtain ⟨h10, H⟩ := ibg_of H
        obtain ⟨v11, h12, H⟩ := whn_of H
        refine aw_draw (es := [_, _, _, _, _, _, _, _, _, _, _, _, _, _, _, _, _, _, _, _, _, _, _, _, _]) (mixed) ⟨Step.plain rfl (does_fieldAddr 30 2 16 1 0 0 [] (.var (e_congresslaw11_Two p0)) fl30_2), ⟨⟨rfl, trivial⟩, ⟨rfl, trivial⟩, rfl⟩, rfl,
          Step.plain rfl (does_load 26 34 0 (0 + 16) [2] (.var (e_congresslaw11_Two p0)) (e_a8_u32 p0.M) ⟨rfl, Nat.le_of_ble_eq_true rfl, trivial⟩ rfl rfl ty26), ⟨⟨rfl, trivial⟩, ⟨rfl, trivial⟩, rfl⟩, rfl,
          Step.plain rfl (does_fieldAddr 28 1 1 6 3 0 [] (.var (e_api_Place (v1.getD x5.1.toNat z_api_Place))) fl28_1), ⟨⟨rfl, trivial⟩, ⟨rfl, trivial⟩, rfl⟩, rfl,
          Step.plain rfl (does_load 3 36 3 (0 + 1) [1] (.var (e_api_Place (v1.getD x5.1.toNat z_api_Place))) (.int .i64 ((v1.getD x5.1.toNat z_api_Place).From)) ⟨rfl, Nat.le_of_ble_eq_true rfl, trivial⟩ rfl rfl ty3), ⟨⟨rfl, trivial⟩, ⟨rfl, trivial⟩, rfl⟩, rfl,
          Step.plain rfl (does_call 18 0 (fun _ => .any) (.func 18) [(.tmp 35), (.tmp 37)] [(e_a8_u32 p0.M), (.int .i64 ((v1.getD x5.1.toNat z_api_Place).From))] [] true [(e_a8_u32 p0.M), (.int .i64 ((v1.getD x5.1.toNat z_api_Place).From))] (.bool v8) _ _ rfl fo18 rfl ⟨trivial, trivial, trivial⟩ ⟨.data _ (d_a8_u32 p0.M), .data _ trivial, trivial⟩ (congressref10_Is_spec p0.M ((v1.getD x5.1.toNat z_api_Place).From) _ h9) trivial), ⟨⟨rfl, rfl, trivial⟩, trivial, rfl⟩, rfl,
          Step.plain rfl (does_not 4 (.tmp 38) v8 trivial), ⟨⟨rfl, trivial⟩, trivial, rfl⟩, rfl,
          Step.plain rfl (does_move (.tmp 39) (.bool (!v8)) trivial), ⟨⟨rfl, trivial⟩, trivial, rfl⟩, rfl,
          Step.guarded rfl rfl rfl rfl (fun hc => does_fieldAddr 28 2 2 6 3 0 [] (.var (e_api_Place (v1.getD x5.1.toNat z_api_Place))) fl28_2), ⟨⟨rfl, rfl, trivial⟩, ⟨rfl, trivial⟩, rfl⟩, rfl,
          Step.guarded rfl rfl rfl rfl (fun hc => Does.strip (n' := [(41, (.opt (!(!v8)) (.ptr 3 (0 + 2) [2])))]) (n := [(41, (.ptr 3 (0 + 2) [2]))]) ⟨(.opt _ _ hc), trivial⟩ (does_load 3 41 3 (0 + 2) [2] (.var (e_api_Place (v1.getD x5.1.toNat z_api_Place))) (.int .i64 ((v1.getD x5.1.toNat z_api_Place).Slot)) ⟨rfl, Nat.le_of_ble_eq_true rfl, trivial⟩ rfl rfl ty3)), ⟨⟨rfl, rfl, trivial⟩, ⟨rfl, trivial⟩, rfl⟩, rfl,
          Step.guarded rfl rfl rfl rfl (fun hc => Does.strip (n' := [(42, (.opt (!(!v8)) (.int .i64 ((v1.getD x5.1.toNat z_api_Place).Slot))))]) (n := [(42, (.int .i64 ((v1.getD x5.1.toNat z_api_Place).Slot)))]) ⟨(.opt _ _ hc), trivial⟩ (does_bin .neq 3 3 (.tmp 42) (.const (.int .i64 0)) .i64 ((v1.getD x5.1.toNat z_api_Place).Slot) 0 (.bool (((v1.getD x5.1.toNat z_api_Place).Slot) != 0)) trivial (fun _ => rfl) (bin_neq _ _ _ _))), ⟨⟨rfl, rfl, trivial⟩, trivial, rfl⟩, rfl,
          Step.plain rfl (does_or 40 43 (!v8) (((v1.getD x5.1.toNat z_api_Place).Slot) != 0)), ⟨⟨rfl, rfl, trivial⟩, trivial, rfl⟩, rfl,
          Step.plain rfl (does_move (.tmp 44) (.bool ((!v8) || (((v1.getD x5.1.toNat z_api_Place).Slot) != 0))) trivial), ⟨⟨rfl, trivial⟩, trivial, rfl⟩, rfl,
          Step.guarded rfl rfl rfl rfl (fun hc => does_move (.tmp 5) (.int .i64 x5.1) trivial), ⟨⟨rfl, rfl, trivial⟩, trivial, rfl⟩, rfl,
          Step.guarded rfl rfl rfl rfl (fun hc => Does.strip (n' := [(46, (.opt (!((!v8) || (((v1.getD x5.1.toNat z_api_Place).Slot) != 0))) (.int .i64 x5.1)))]) (n := [(46, (.int .i64 x5.1))]) ⟨(.opt _ _ hc), trivial⟩ (does_bin .gtr 3 3 (.tmp 46) (.const (.int .i64 0)) .i64 x5.1 0 (.bool (decide (x5.1 > 0))) trivial (fun _ => rfl) (bin_gtr _ _ _ _))), ⟨⟨rfl, rfl, trivial⟩, trivial, rfl⟩, rfl,
          Step.guarded rfl rfl rfl rfl (fun hc => Does.strip (n' := [(47, (.opt (!((!v8) || (((v1.getD x5.1.toNat z_api_Place).Slot) != 0))) (.bool (decide (x5.1 > 0)))))]) (n := [(47, (.bool (decide (x5.1 > 0))))]) ⟨(.opt _ _ hc), trivial⟩ (does_move (.tmp 47) (.bool (decide (x5.1 > 0))) trivial)), ⟨⟨rfl, rfl, trivial⟩, trivial, rfl⟩, rfl,
          Step.guarded rfl rfl rfl rfl (fun hc => does_move (.tmp 3) (.own 1) trivial), ⟨⟨rfl, rfl, trivial⟩, trivial, rfl⟩, rfl,
          Step.guarded rfl rfl rfl rfl (fun hc => does_move (.tmp 5) (.int .i64 x5.1) trivial), ⟨⟨rfl, rfl, trivial⟩, trivial, rfl⟩, rfl,
          Step.guarded rfl rfl rfl rfl (fun hc => Does.strip (n' := [(50, (.opt ((!((!v8) || (((v1.getD x5.1.toNat z_api_Place).Slot) != 0))) && (decide (x5.1 > 0))) (.int .i64 x5.1)))]) (n := [(50, (.int .i64 x5.1))]) ⟨(.opt _ _ hc), trivial⟩ (does_bin .sub 3 3 (.tmp 50) (.const (.int .i64 1)) .i64 x5.1 1 (.int .i64 (IntKind.i64.wrap (x5.1 - 1))) trivial (fun _ => rfl) (bin_sub _ _ _ _))), ⟨⟨rfl, rfl, trivial⟩, trivial, rfl⟩, rfl,
          Step.guarded rfl rfl rfl rfl (fun hc => Does.strip (n' := [(49, (.opt ((!((!v8) || (((v1.getD x5.1.toNat z_api_Place).Slot) != 0))) && (decide (x5.1 > 0))) (.own 1))), (51, (.opt ((!((!v8) || (((v1.getD x5.1.toNat z_api_Place).Slot) != 0))) && (decide (x5.1 > 0))) (.int .i64 (IntKind.i64.wrap (x5.1 - 1)))))]) (n := [(49, (.own 1)), (51, (.int .i64 (IntKind.i64.wrap (x5.1 - 1))))]) ⟨(.opt _ _ hc), (.opt _ _ hc), trivial⟩ (does_indexAddro 36 3 v1.length 49 1 (fun j => (e_api_Place (v1.getD j z_api_Place))) (.tmp 51) .i64 (IntKind.i64.wrap (x5.1 - 1)) el36 trivial (h10 hc).1 (h10 hc).2)), ⟨⟨rfl, rfl, rfl, trivial⟩, ⟨rfl, trivial⟩, rfl⟩, rfl,
          Step.guarded rfl rfl rfl rfl (fun hc => Does.strip (n' := [(52, (.opt ((!((!v8) || (((v1.getD x5.1.toNat z_api_Place).Slot) != 0))) && (decide (x5.1 > 0))) (.ptr 1 ((IntKind.i64.wrap (x5.1 - 1)).toNat * 3) [(IntKind.i64.wrap (x5.1 - 1)).toNat])))]) (n := [(52, (.ptr 1 ((IntKind.i64.wrap (x5.1 - 1)).toNat * 3) [(IntKind.i64.wrap (x5.1 - 1)).toNat]))]) ⟨(.opt _ _ hc), trivial⟩ (does_load 28 52 1 ((IntKind.i64.wrap (x5.1 - 1)).toNat * 3) [(IntKind.i64.wrap (x5.1 - 1)).toNat] (.arr 3 v1.length fun j => (e_api_Place (v1.getD j z_api_Place))) (e_api_Place (v1.getD ((IntKind.i64.wrap (x5.1 - 1)).toNat) z_api_Place)) ⟨(ixl (h10 hc)), trivial⟩ rfl rfl ty28)), ⟨⟨rfl, rfl, trivial⟩, ⟨rfl, trivial⟩, rfl⟩, rfl,
          Step.guarded rfl rfl rfl rfl (fun hc => does_load 28 6 3 0 [] (.var (e_api_Place (v1.getD x5.1.toNat z_api_Place))) (e_api_Place (v1.getD x5.1.toNat z_api_Place)) trivial rfl rfl ty28), ⟨⟨rfl, rfl, trivial⟩, ⟨rfl, trivial⟩, rfl⟩, rfl,
          Step.guarded rfl rfl rfl rfl (fun hc => Does.strip (n' := [(53, (.opt ((!((!v8) || (((v1.getD x5.1.toNat z_api_Place).Slot) != 0))) && (decide (x5.1 > 0))) (e_api_Place (v1.getD ((IntKind.i64.wrap (x5.1 - 1)).toNat) z_api_Place)))), (54, (.opt ((!((!v8) || (((v1.getD x5.1.toNat z_api_Place).Slot) != 0))) && (decide (x5.1 > 0))) (e_api_Place (v1.getD x5.1.toNat z_api_Place))))]) (n := [(53, (e_api_Place (v1.getD ((IntKind.i64.wrap (x5.1 - 1)).toNat) z_api_Place))), (54, (e_api_Place (v1.getD x5.1.toNat z_api_Place)))]) ⟨(.opt _ _ hc), (.opt _ _ hc), trivial⟩ (does_call 19 0 (fun _ => .any) (.func 19) [(.tmp 53), (.tmp 54)] [(e_api_Place (v1.getD ((IntKind.i64.wrap (x5.1 - 1)).toNat) z_api_Place)), (e_api_Place (v1.getD x5.1.toNat z_api_Place))] [] true [(e_api_Place (v1.getD ((IntKind.i64.wrap (x5.1 - 1)).toNat) z_api_Place)), (e_api_Place (v1.getD x5.1.toNat z_api_Place))] (.bool v11) _ _ rfl fo19 rfl ⟨trivial, trivial, trivial⟩ ⟨.data _ (d_api_Place (v1.getD ((IntKind.i64.wrap (x5.1 - 1)).toNat) z_api_Place)), .data _ (d_api_Place (v1.getD x5.1.toNat z_api_Place)), trivial⟩ (congressref09_Before_spec (v1.getD ((IntKind.i64.wrap (x5.1 - 1)).toNat) z_api_Place) (v1.getD x5.1.toNat z_api_Place) _ (h12 hc)) trivial)), ⟨⟨rfl, rfl, rfl, trivial⟩, trivial, rfl⟩, rfl,
          Step.guarded rfl rfl rfl rfl (fun hc => Does.strip (n' := [(55, (.opt ((!((!v8) || (((v1.getD x5.1.toNat z_api_Place).Slot) != 0))) && (decide (x5.1 > 0))) (.bool v11)))]) (n := [(55, (.bool v11))]) ⟨(.opt _ _ hc), trivial⟩ (does_not 4 (.tmp 55) v11 trivial)), ⟨⟨rfl, rfl, trivial⟩, trivial, rfl⟩, rfl,
          Step.guarded rfl rfl rfl rfl (fun hc => Does.strip (n' := [(48, (.opt (!((!v8) || (((v1.getD x5.1.toNat z_api_Place).Slot) != 0))) (.bool (decide (x5.1 > 0))))), (56, (.opt ((!((!v8) || (((v1.getD x5.1.toNat z_api_Place).Slot) != 0))) && (decide (x5.1 > 0))) (.bool (!v11))))]) (n := [(48, (.bool (decide (x5.1 > 0)))), (56, (.opt (decide (x5.1 > 0)) (.bool (!v11))))]) ⟨(.opt _ _ hc), (.half _ _ hc), trivial⟩ (does_and 48 56 (decide (x5.1 > 0)) (!v11))), ⟨⟨rfl, rfl, rfl, trivial⟩, trivial, rfl⟩, rfl,
          Step.plain rfl (does_or 45 57 ((!v8) || (((v1.getD x5.1.toNat z_api_Place).Slot) != 0)) ((decide (x5.1 > 0)) && (!v11))), ⟨⟨rfl, rfl, trivial⟩, trivial, rfl⟩, rfl, rfl⟩ rfl ?_
        obtain ⟨v13, hv13, H⟩ := lt_of H
        refine aw_cov (cov_prune (s1 := ⟨[(1, (.ptr 0 0 [])), (3, (.own 1)), (4, (.ptr 2 0 [])), (5, (.int .i64 x5.1)), (6, (.ptr 3 0 [])), (58, (.bool v13))], [(0, some (.var (e_congresslaw11_Two p0))), (1, some (.arr 3 v1.length fun j => (e_api_Place (v1.getD j z_api_Place)))), (2, some (.var (e_a8_u32 x5.2))), (3, some (.var (e_api_Place (v1.getD x5.1.toNat z_api_Place))))], 4⟩) ⟨rfl, rfl, rfl, rfl, rfl, (by subst hv13; rfl), trivial⟩ ⟨rfl, rfl, rfl, rfl, trivial⟩ (Nat.le_refl _)) ?_
        refine aw_cond rfl (fun hc => ?_) (fun hc => ?_)
        · replace H := ite_t hc H
          refine aw_region (es := [_]) ⟨Step.plain rfl (does_assign (.const (.bool false)) (.bool false) (fun _ => rfl)), ⟨trivial, trivial, rfl⟩, rfl, rfl⟩ ?_
          refine aw_cov (cov_prune (s1 := ⟨[(2, (.bool false))], [], 4⟩) ⟨rfl, trivial⟩ trivial (Nat.le_refl _)) ?_
          refine aw_ret ?_
          replace H := rt_of H hsn6 Hrn6
          refine rt_then ?_
          refine rt_blk ?_
          refine rt_then ?_
          refine rt_then ?_
          refine rt_blk ?_
          refine rt_then ?_
          refine rt_then ?_
          exact fun a w hr => ⟨_, [(.bool false)], hr, ⟨⟨_, rfl, .data (.bool false) trivial⟩, trivial⟩, by decide, by cases H; rfl⟩
        · replace H := ite_f hc H
          refine aw_skip ?_
          refine nx_seq ?_
          refine aw_seq ?_
          obtain ⟨h14, H⟩ := ib_of H
          obtain ⟨h15, H⟩ := ibg_of H
          refine aw_draw (es := [_, _, _, _, _, _, _, _, _, _, _, _, _, _, _, _, _, _, _, _]) (mixed) ⟨Step.plain rfl (does_fieldAddr 28 0 0 6 3 0 [] (.var (e_api_Place (v1.getD x5.1.toNat z_api_Place))) fl28_0), ⟨⟨rfl, trivial⟩, ⟨rfl, trivial⟩, rfl⟩, rfl,
            Step.plain rfl (does_load 23 59 3 (0 + 0) [0] (.var (e_api_Place (v1.getD x5.1.toNat z_api_Place))) (.int .u32 ((v1.getD x5.1.toNat z_api_Place).Round)) ⟨rfl, Nat.le_of_ble_eq_true rfl, trivial⟩ rfl rfl ty23), ⟨⟨rfl, trivial⟩, ⟨rfl, trivial⟩, rfl⟩, rfl,
            Step.plain rfl (does_fieldAddr 28 1 1 6 3 0 [] (.var (e_api_Place (v1.getD x5.1.toNat z_api_Place))) fl28_1), ⟨⟨rfl, trivial⟩, ⟨rfl, trivial⟩, rfl⟩, rfl,
            Step.plain rfl (does_load 3 61 3 (0 + 1) [1] (.var (e_api_Place (v1.getD x5.1.toNat z_api_Place))) (.int .i64 ((v1.getD x5.1.toNat z_api_Place).From)) ⟨rfl, Nat.le_of_ble_eq_true rfl, trivial⟩ rfl rfl ty3), ⟨⟨rfl, trivial⟩, ⟨rfl, trivial⟩, rfl⟩, rfl,
            Step.plain rfl (does_bin .and 3 3 (.tmp 62) (.const (.int .i64 7)) .i64 ((v1.getD x5.1.toNat z_api_Place).From) 7 (.int .i64 (iand .i64 ((v1.getD x5.1.toNat z_api_Place).From) 7)) trivial (fun _ => rfl) (bin_and _ _ _ _)), ⟨⟨rfl, trivial⟩, trivial, rfl⟩, rfl,
            Step.plain rfl (does_indexAddr 25 8 1 4 2 0 [] (.var (e_a8_u32 x5.2)) (.tmp 63) .i64 (iand .i64 ((v1.getD x5.1.toNat z_api_Place).From) 7) el25 trivial h14.1 h14.2), ⟨⟨rfl, rfl, trivial⟩, ⟨rfl, trivial⟩, rfl⟩, rfl,
            Step.plain rfl (does_load 23 64 2 (0 + (iand .i64 ((v1.getD x5.1.toNat z_api_Place).From) 7).toNat * 1) [(iand .i64 ((v1.getD x5.1.toNat z_api_Place).From) 7).toNat] (.var (e_a8_u32 x5.2)) (.int .u32 (x5.2 ((iand .i64 ((v1.getD x5.1.toNat z_api_Place).From) 7).toNat))) ⟨rfl, (ixl h14), trivial⟩ rfl rfl ty23), ⟨⟨rfl, trivial⟩, ⟨rfl, trivial⟩, rfl⟩, rfl,
            Step.plain rfl (does_bin .add 23 23 (.tmp 65) (.const (.int .u32 1)) .u32 (x5.2 ((iand .i64 ((v1.getD x5.1.toNat z_api_Place).From) 7).toNat)) 1 (.int .u32 (IntKind.u32.wrap ((x5.2 ((iand .i64 ((v1.getD x5.1.toNat z_api_Place).From) 7).toNat)) + 1))) trivial (fun _ => rfl) (bin_add _ _ _ _)), ⟨⟨rfl, trivial⟩, trivial, rfl⟩, rfl,
            Step.plain rfl (does_bin .neq 23 23 (.tmp 60) (.tmp 66) .u32 ((v1.getD x5.1.toNat z_api_Place).Round) (IntKind.u32.wrap ((x5.2 ((iand .i64 ((v1.getD x5.1.toNat z_api_Place).From) 7).toNat)) + 1)) (.bool (((v1.getD x5.1.toNat z_api_Place).Round) != (IntKind.u32.wrap ((x5.2 ((iand .i64 ((v1.getD x5.1.toNat z_api_Place).From) 7).toNat)) + 1)))) trivial trivial (bin_neq _ _ _ _)), ⟨⟨rfl, rfl, trivial⟩, trivial, rfl⟩, rfl,
            Step.plain rfl (does_move (.tmp 67) (.bool (((v1.getD x5.1.toNat z_api_Place).Round) != (IntKind.u32.wrap ((x5.2 ((iand .i64 ((v1.getD x5.1.toNat z_api_Place).From) 7).toNat)) + 1)))) trivial), ⟨⟨rfl, trivial⟩, trivial, rfl⟩, rfl,
            Step.guarded rfl rfl rfl rfl (fun hc => does_fieldAddr 28 0 0 6 3 0 [] (.var (e_api_Place (v1.getD x5.1.toNat z_api_Place))) fl28_0), ⟨⟨rfl, rfl, trivial⟩, ⟨rfl, trivial⟩, rfl⟩, rfl,
            Step.guarded rfl rfl rfl rfl (fun hc => Does.strip (n' := [(69, (.opt (!(((v1.getD x5.1.toNat z_api_Place).Round) != (IntKind.u32.wrap ((x5.2 ((iand .i64 ((v1.getD x5.1.toNat z_api_Place).From) 7).toNat)) + 1)))) (.ptr 3 (0 + 0) [0])))]) (n := [(69, (.ptr 3 (0 + 0) [0]))]) ⟨(.opt _ _ hc), trivial⟩ (does_load 23 69 3 (0 + 0) [0] (.var (e_api_Place (v1.getD x5.1.toNat z_api_Place))) (.int .u32 ((v1.getD x5.1.toNat z_api_Place).Round)) ⟨rfl, Nat.le_of_ble_eq_true rfl, trivial⟩ rfl rfl ty23)), ⟨⟨rfl, rfl, trivial⟩, ⟨rfl, trivial⟩, rfl⟩, rfl,
            Step.guarded rfl rfl rfl rfl (fun hc => does_fieldAddr 28 1 1 6 3 0 [] (.var (e_api_Place (v1.getD x5.1.toNat z_api_Place))) fl28_1), ⟨⟨rfl, rfl, trivial⟩, ⟨rfl, trivial⟩, rfl⟩, rfl,
            Step.guarded rfl rfl rfl rfl (fun hc => Does.strip (n' := [(71, (.opt (!(((v1.getD x5.1.toNat z_api_Place).Round) != (IntKind.u32.wrap ((x5.2 ((iand .i64 ((v1.getD x5.1.toNat z_api_Place).From) 7).toNat)) + 1)))) (.ptr 3 (0 + 1) [1])))]) (n := [(71, (.ptr 3 (0 + 1) [1]))]) ⟨(.opt _ _ hc), trivial⟩ (does_load 3 71 3 (0 + 1) [1] (.var (e_api_Place (v1.getD x5.1.toNat z_api_Place))) (.int .i64 ((v1.getD x5.1.toNat z_api_Place).From)) ⟨rfl, Nat.le_of_ble_eq_true rfl, trivial⟩ rfl rfl ty3)), ⟨⟨rfl, rfl, trivial⟩, ⟨rfl, trivial⟩, rfl⟩, rfl,
            Step.guarded rfl rfl rfl rfl (fun hc => Does.strip (n' := [(72, (.opt (!(((v1.getD x5.1.toNat z_api_Place).Round) != (IntKind.u32.wrap ((x5.2 ((iand .i64 ((v1.getD x5.1.toNat z_api_Place).From) 7).toNat)) + 1)))) (.int .i64 ((v1.getD x5.1.toNat z_api_Place).From))))]) (n := [(72, (.int .i64 ((v1.getD x5.1.toNat z_api_Place).From)))]) ⟨(.opt _ _ hc), trivial⟩ (does_bin .and 3 3 (.tmp 72) (.const (.int .i64 7)) .i64 ((v1.getD x5.1.toNat z_api_Place).From) 7 (.int .i64 (iand .i64 ((v1.getD x5.1.toNat z_api_Place).From) 7)) trivial (fun _ => rfl) (bin_and _ _ _ _))), ⟨⟨rfl, rfl, trivial⟩, trivial, rfl⟩, rfl,
            Step.guarded rfl rfl rfl rfl (fun hc => does_fieldAddr 30 1 8 1 0 0 [] (.var (e_congresslaw11_Two p0)) fl30_1), ⟨⟨rfl, rfl, trivial⟩, ⟨rfl, trivial⟩, rfl⟩, rfl,
            Step.guarded rfl rfl rfl rfl (fun hc => Does.strip (n' := [(74, (.opt (!(((v1.getD x5.1.toNat z_api_Place).Round) != (IntKind.u32.wrap ((x5.2 ((iand .i64 ((v1.getD x5.1.toNat z_api_Place).From) 7).toNat)) + 1)))) (.ptr 0 (0 + 8) [1]))), (73, (.opt (!(((v1.getD x5.1.toNat z_api_Place).Round) != (IntKind.u32.wrap ((x5.2 ((iand .i64 ((v1.getD x5.1.toNat z_api_Place).From) 7).toNat)) + 1)))) (.int .i64 (iand .i64 ((v1.getD x5.1.toNat z_api_Place).From) 7))))]) (n := [(74, (.ptr 0 (0 + 8) [1])), (73, (.int .i64 (iand .i64 ((v1.getD x5.1.toNat z_api_Place).From) 7)))]) ⟨(.opt _ _ hc), (.opt _ _ hc), trivial⟩ (does_indexAddr 25 8 1 74 0 (0 + 8) [1] (.var (e_congresslaw11_Two p0)) (.tmp 73) .i64 (iand .i64 ((v1.getD x5.1.toNat z_api_Place).From) 7) el25 trivial (h15 hc).1 (h15 hc).2)), ⟨⟨rfl, rfl, rfl, trivial⟩, ⟨rfl, trivial⟩, rfl⟩, rfl,
            Step.guarded rfl rfl rfl rfl (fun hc => Does.strip (n' := [(75, (.opt (!(((v1.getD x5.1.toNat z_api_Place).Round) != (IntKind.u32.wrap ((x5.2 ((iand .i64 ((v1.getD x5.1.toNat z_api_Place).From) 7).toNat)) + 1)))) (.ptr 0 ((0 + 8) + (iand .i64 ((v1.getD x5.1.toNat z_api_Place).From) 7).toNat * 1) [1, (iand .i64 ((v1.getD x5.1.toNat z_api_Place).From) 7).toNat])))]) (n := [(75, (.ptr 0 ((0 + 8) + (iand .i64 ((v1.getD x5.1.toNat z_api_Place).From) 7).toNat * 1) [1, (iand .i64 ((v1.getD x5.1.toNat z_api_Place).From) 7).toNat]))]) ⟨(.opt _ _ hc), trivial⟩ (does_load 23 75 0 ((0 + 8) + (iand .i64 ((v1.getD x5.1.toNat z_api_Place).From) 7).toNat * 1) [1, (iand .i64 ((v1.getD x5.1.toNat z_api_Place).From) 7).toNat] (.var (e_congresslaw11_Two p0)) (.int .u32 (p0.B ((iand .i64 ((v1.getD x5.1.toNat z_api_Place).From) 7).toNat))) ⟨rfl, Nat.le_of_ble_eq_true rfl, ⟨rfl, (ixl (h15 hc)), trivial⟩⟩ rfl rfl ty23)), ⟨⟨rfl, rfl, trivial⟩, ⟨rfl, trivial⟩, rfl⟩, rfl,
            Step.guarded rfl rfl rfl rfl (fun hc => Does.strip (n' := [(70, (.opt (!(((v1.getD x5.1.toNat z_api_Place).Round) != (IntKind.u32.wrap ((x5.2 ((iand .i64 ((v1.getD x5.1.toNat z_api_Place).From) 7).toNat)) + 1)))) (.int .u32 ((v1.getD x5.1.toNat z_api_Place).Round)))), (76, (.opt (!(((v1.getD x5.1.toNat z_api_Place).Round) != (IntKind.u32.wrap ((x5.2 ((iand .i64 ((v1.getD x5.1.toNat z_api_Place).From) 7).toNat)) + 1)))) (.int .u32 (p0.B ((iand .i64 ((v1.getD x5.1.toNat z_api_Place).From) 7).toNat)))))]) (n := [(70, (.int .u32 ((v1.getD x5.1.toNat z_api_Place).Round))), (76, (.int .u32 (p0.B ((iand .i64 ((v1.getD x5.1.toNat z_api_Place).From) 7).toNat))))]) ⟨(.opt _ _ hc), (.opt _ _ hc), trivial⟩ (does_bin .gtr 23 23 (.tmp 70) (.tmp 76) .u32 ((v1.getD x5.1.toNat z_api_Place).Round) (p0.B ((iand .i64 ((v1.getD x5.1.toNat z_api_Place).From) 7).toNat)) (.bool (decide (((v1.getD x5.1.toNat z_api_Place).Round) > (p0.B ((iand .i64 ((v1.getD x5.1.toNat z_api_Place).From) 7).toNat))))) trivial trivial (bin_gtr _ _ _ _))), ⟨⟨rfl, rfl, rfl, trivial⟩, trivial, rfl⟩, rfl,
            Step.plain rfl (does_or 68 77 (((v1.getD x5.1.toNat z_api_Place).Round) != (IntKind.u32.wrap ((x5.2 ((iand .i64 ((v1.getD x5.1.toNat z_api_Place).From) 7).toNat)) + 1))) (decide (((v1.getD x5.1.toNat z_api_Place).Round) > (p0.B ((iand .i64 ((v1.getD x5.1.toNat z_api_Place).From) 7).toNat))))), ⟨⟨rfl, rfl, trivial⟩, trivial, rfl⟩, rfl, rfl⟩ rfl ?_
          obtain ⟨v16, hv16, H⟩ := lt_of H
          refine aw_cov (cov_prune (s1 := ⟨[(1, (.ptr 0 0 [])), (3, (.own 1)), (4, (.ptr 2 0 [])), (5, (.int .i64 x5.1)), (6, (.ptr 3 0 [])), (78, (.bool v16))], [(0, some (.var (e_congresslaw11_Two p0))), (1, some (.arr 3 v1.length fun j => (e_api_Place (v1.getD j z_api_Place)))), (2, some (.var (e_a8_u32 x5.2))), (3, some (.var (e_api_Place (v1.getD x5.1.toNat z_api_Place))))], 4⟩) ⟨rfl, rfl, rfl, rfl, rfl, (by subst hv16; rfl), trivial⟩ ⟨rfl, rfl, rfl, rfl, trivial⟩ (Nat.le_refl _)) ?_
          refine aw_cond rfl (fun hc => ?_) (fun hc => ?_)
          · replace H := ite_t hc H
            refine aw_region (es := [_]) ⟨Step.plain rfl (does_assign (.const (.bool false)) (.bool false) (fun _ => rfl)), ⟨trivial, trivial, rfl⟩, rfl, rfl⟩ ?_
            refine aw_cov (cov_prune (s1 := ⟨[(2, (.bool false))], [], 4⟩) ⟨rfl, trivial⟩ trivial (Nat.le_refl _)) ?_
            refine aw_ret ?_
            replace H := rt_of H hsn6 Hrn6
            refine rt_then ?_
            refine rt_blk ?_
            refine rt_then ?_
            refine rt_then ?_
            refine rt_blk ?_
            refine rt_then ?_
            refine rt_then ?_
            exact fun a w hr => ⟨_, [(.bool false)], hr, ⟨⟨_, rfl, .data (.bool false) trivial⟩, trivial⟩, by decide, by cases H; rfl⟩
          · replace H := ite_f hc H
            refine aw_skip ?_
            refine nx_seq ?_
            obtain ⟨h17, H⟩ := ib_of H
            refine aw_region1 (es := [_, _, _, _, _, _, _]) ⟨Step.plain rfl (does_fieldAddr 28 1 1 6 3 0 [] (.var (e_api_Place (v1.getD x5.1.toNat z_api_Place))) fl28_1), ⟨⟨rfl, trivial⟩, ⟨rfl, trivial⟩, rfl⟩, rfl,
              Step.plain rfl (does_load 3 79 3 (0 + 1) [1] (.var (e_api_Place (v1.getD x5.1.toNat z_api_Place))) (.int .i64 ((v1.getD x5.1.toNat z_api_Place).From)) ⟨rfl, Nat.le_of_ble_eq_true rfl, trivial⟩ rfl rfl ty3), ⟨⟨rfl, trivial⟩, ⟨rfl, trivial⟩, rfl⟩, rfl,
              Step.plain rfl (does_bin .and 3 3 (.tmp 80) (.const (.int .i64 7)) .i64 ((v1.getD x5.1.toNat z_api_Place).From) 7 (.int .i64 (iand .i64 ((v1.getD x5.1.toNat z_api_Place).From) 7)) trivial (fun _ => rfl) (bin_and _ _ _ _)), ⟨⟨rfl, trivial⟩, trivial, rfl⟩, rfl,
              Step.plain rfl (does_fieldAddr 28 0 0 6 3 0 [] (.var (e_api_Place (v1.getD x5.1.toNat z_api_Place))) fl28_0), ⟨⟨rfl, trivial⟩, ⟨rfl, trivial⟩, rfl⟩, rfl,
              Step.plain rfl (does_load 23 82 3 (0 + 0) [0] (.var (e_api_Place (v1.getD x5.1.toNat z_api_Place))) (.int .u32 ((v1.getD x5.1.toNat z_api_Place).Round)) ⟨rfl, Nat.le_of_ble_eq_true rfl, trivial⟩ rfl rfl ty23), ⟨⟨rfl, trivial⟩, ⟨rfl, trivial⟩, rfl⟩, rfl,
              Step.plain rfl (does_indexAddr 25 8 1 4 2 0 [] (.var (e_a8_u32 x5.2)) (.tmp 81) .i64 (iand .i64 ((v1.getD x5.1.toNat z_api_Place).From) 7) el25 trivial h17.1 h17.2), ⟨⟨rfl, rfl, trivial⟩, ⟨rfl, trivial⟩, rfl⟩, rfl,
              Step.plain rfl (does_store 23 84 (.tmp 83) 2 (0 + (iand .i64 ((v1.getD x5.1.toNat z_api_Place).From) 7).toNat * 1) [(iand .i64 ((v1.getD x5.1.toNat z_api_Place).From) 7).toNat] (.var (e_a8_u32 x5.2)) (.var (e_a8_u32 (aupd x5.2 ((iand .i64 ((v1.getD x5.1.toNat z_api_Place).From) 7).toNat) ((v1.getD x5.1.toNat z_api_Place).Round)))) (.int .u32 ((v1.getD x5.1.toNat z_api_Place).Round)) false trivial rfl ⟨rfl, (ixl h17), trivial⟩ rfl rfl (congrArg Box.var (set_cons rfl (vupd_map (fun z => V.int .u32 z) _ _ _))) ty23), ⟨⟨rfl, rfl, trivial⟩, ⟨rfl, trivial⟩, rfl⟩, rfl, rfl⟩ ?_
            refine nx_blk ?_
            refine nx_seq ?_
            obtain ⟨v18, hv18, H⟩ := lt_of H
            refine aw_cov (cov_prune (s1 := ⟨[(1, (.ptr 0 0 [])), (3, (.own 1)), (4, (.ptr 2 0 [])), (5, (.int .i64 x5.1))], [(0, some (.var (e_congresslaw11_Two p0))), (1, some (.arr 3 v1.length fun j => (e_api_Place (v1.getD j z_api_Place)))), (2, some (.var (e_a8_u32 v18)))], 4⟩) ⟨rfl, rfl, rfl, rfl, trivial⟩ ⟨rfl, rfl, (by subst hv18; rfl), trivial⟩ (Nat.le_refl _)) ?_
            refine aw_region1 (es := [_, _, _]) ⟨Step.plain rfl (does_move (.tmp 5) (.int .i64 x5.1) trivial), ⟨⟨rfl, trivial⟩, trivial, rfl⟩, rfl,
              Step.plain rfl (does_bin .add 3 3 (.tmp 28) (.const (.int .i64 1)) .i64 x5.1 1 (.int .i64 (IntKind.i64.wrap (x5.1 + 1))) trivial (fun _ => rfl) (bin_add _ _ _ _)), ⟨⟨rfl, trivial⟩, trivial, rfl⟩, rfl,
              Step.plain rfl (does_assign (.tmp 29) (.int .i64 (IntKind.i64.wrap (x5.1 + 1))) trivial), ⟨⟨rfl, trivial⟩, trivial, rfl⟩, rfl, rfl⟩ ?_
            exact nx_loop ((IntKind.i64.wrap (x5.1 + 1)), v18) H (cov_of (fun i => match i with | 0 => 0 | 1 => 1 | 2 => 2 | k => k) ⟨⟨_, rfl, ⟨rfl, Nat.le_of_ble_eq_true rfl⟩⟩, ⟨_, rfl, ⟨rfl, Nat.le_of_ble_eq_true rfl⟩⟩, ⟨_, rfl, ⟨rfl, Nat.le_of_ble_eq_true rfl⟩⟩, ⟨_, rfl, ⟨rfl, trivial⟩⟩, trivial⟩ ⟨⟨Nat.le_of_ble_eq_true rfl, _, _, rfl, rfl, .inl ⟨rfl, (d_congresslaw11_Two _).plain⟩⟩, ⟨Nat.le_of_ble_eq_true rfl, _, _, rfl, rfl, ⟨rfl, rfl, fun _ => .inl ⟨rfl, (d_api_Place _).plain⟩⟩⟩, ⟨Nat.le_of_ble_eq_true rfl, _, _, rfl, rfl, .inl ⟨rfl, (d_a8_u32 _).plain⟩⟩, trivial⟩ rfl)
      · replace H := ite_f hc H
        refine aw_exit ?_
        refine ex_then ?_
        refine ex_then ?_
        refine ex_here ?_
        exact nx_ljoin (x5.2) H hsn6 (cov_prune ⟨rfl, rfl, rfl, trivial⟩ ⟨rfl, rfl, rfl, trivial⟩ (Nat.le_of_ble_eq_true rfl))

theorem congresslaw11_CutRest_spec (p0 : congresslaw11_Two) (p1 : api_Place) (r : Bool) (H : congresslaw11_CutRest p0 p1 = some r) : FSpec Try.prog 6 [(e_congresslaw11_Two p0), (e_api_Place p1)] (.bool r) := by
  refine spec_of (fn := Try.f6) (args := [(e_congresslaw11_Two p0), (e_api_Place p1)]) Try.func6 rfl (Nat.le_of_ble_eq_true rfl) ?_
  rintro ⟨G, w0, W, S, Sp⟩ hG
  cases hG
  unfold congresslaw11_CutRest at H
  refine aw_region (es := [_, _, _]) ⟨Step.plain rfl (does_box 30 (.tmp 0) 0 (e_congresslaw11_Two p0) trivial rfl), ⟨⟨rfl, trivial⟩, trivial, rfl⟩, rfl,
    Step.plain rfl (does_box 28 (.tmp 1) 1 (e_api_Place p1) trivial rfl), ⟨⟨rfl, trivial⟩, trivial, rfl⟩, rfl,
    Step.plain rfl (does_assign (.const (.bool false)) (.bool false) (fun _ => rfl)), ⟨trivial, trivial, rfl⟩, rfl, rfl⟩ ?_
  refine aw_cov (cov_prune (s1 := ⟨[(2, (.ptr 0 0 [])), (3, (.ptr 1 0 []))], [(0, some (.var (e_congresslaw11_Two p0))), (1, some (.var (e_api_Place p1)))], 2⟩) ⟨rfl, rfl, trivial⟩ ⟨rfl, rfl, trivial⟩ (Nat.le_refl _)) ?_
  obtain ⟨v1, h2, H⟩ := bnd H
  obtain ⟨v3, h4, H⟩ := bnd H
  refine aw_draw (es := [_, _, _, _, _, _, _, _, _, _, _, _, _, _, _]) (mixed) ⟨Step.plain rfl (does_fieldAddr 30 3 24 2 0 0 [] (.var (e_congresslaw11_Two p0)) fl30_3), ⟨⟨rfl, trivial⟩, ⟨rfl, trivial⟩, rfl⟩, rfl,
    Step.plain rfl (does_load 28 8 0 (0 + 24) [3] (.var (e_congresslaw11_Two p0)) (e_api_Place p0.Given) ⟨rfl, Nat.le_of_ble_eq_true rfl, trivial⟩ rfl rfl ty28), ⟨⟨rfl, trivial⟩, ⟨rfl, trivial⟩, rfl⟩, rfl,
    Step.plain rfl (does_fieldAddr 30 1 8 2 0 0 [] (.var (e_congresslaw11_Two p0)) fl30_1), ⟨⟨rfl, trivial⟩, ⟨rfl, trivial⟩, rfl⟩, rfl,
    Step.plain rfl (does_load 25 10 0 (0 + 8) [1] (.var (e_congresslaw11_Two p0)) (e_a8_u32 p0.B) ⟨rfl, Nat.le_of_ble_eq_true rfl, trivial⟩ rfl rfl ty25), ⟨⟨rfl, trivial⟩, ⟨rfl, trivial⟩, rfl⟩, rfl,
    Step.plain rfl (does_fieldAddr 30 2 16 2 0 0 [] (.var (e_congresslaw11_Two p0)) fl30_2), ⟨⟨rfl, trivial⟩, ⟨rfl, trivial⟩, rfl⟩, rfl,
    Step.plain rfl (does_load 26 12 0 (0 + 16) [2] (.var (e_congresslaw11_Two p0)) (e_a8_u32 p0.M) ⟨rfl, Nat.le_of_ble_eq_true rfl, trivial⟩ rfl rfl ty26), ⟨⟨rfl, trivial⟩, ⟨rfl, trivial⟩, rfl⟩, rfl,
    Step.plain rfl (does_callO 16 0 (fun _ => .any) (.func 16) [(.tmp 9), (.tmp 11), (.tmp 13)] [(e_api_Place p0.Given), (e_a8_u32 p0.B), (e_a8_u32 p0.M)] [] [] true [(e_api_Place p0.Given), (e_a8_u32 p0.B), (e_a8_u32 p0.M)] _ (.own 2) _ 2 1 _ _ rfl fo16 rfl ⟨trivial, trivial, trivial, trivial⟩ ⟨.ro _ _ (.data _ (d_api_Place p0.Given)), .ro _ _ (.data _ (d_a8_u32 p0.B)), .ro _ _ (.data _ (d_a8_u32 p0.M)), trivial⟩ (cut_Rest_spec p0.Given p0.B p0.M _ h2) rfl (by simp) rfl trivial ⟨⟨Nat.le_of_ble_eq_true rfl, _, rfl, fun _ => (f_api_Place _)⟩, trivial⟩ (.own 0 (Nat.le_of_ble_eq_true rfl))), ⟨⟨rfl, rfl, rfl, trivial⟩, trivial, rfl⟩, rfl,
    Step.plain rfl (does_load 28 3 1 0 [] (.var (e_api_Place p1)) (e_api_Place p1) trivial rfl rfl ty28), ⟨⟨rfl, trivial⟩, ⟨rfl, trivial⟩, rfl⟩, rfl,
    Step.plain rfl (does_fieldAddr 30 1 8 2 0 0 [] (.var (e_congresslaw11_Two p0)) fl30_1), ⟨⟨rfl, trivial⟩, ⟨rfl, trivial⟩, rfl⟩, rfl,
    Step.plain rfl (does_load 25 16 0 (0 + 8) [1] (.var (e_congresslaw11_Two p0)) (e_a8_u32 p0.B) ⟨rfl, Nat.le_of_ble_eq_true rfl, trivial⟩ rfl rfl ty25), ⟨⟨rfl, trivial⟩, ⟨rfl, trivial⟩, rfl⟩, rfl,
    Step.plain rfl (does_fieldAddr 30 2 16 2 0 0 [] (.var (e_congresslaw11_Two p0)) fl30_2), ⟨⟨rfl, trivial⟩, ⟨rfl, trivial⟩, rfl⟩, rfl,
    Step.plain rfl (does_load 26 18 0 (0 + 16) [2] (.var (e_congresslaw11_Two p0)) (e_a8_u32 p0.M) ⟨rfl, Nat.le_of_ble_eq_true rfl, trivial⟩ rfl rfl ty26), ⟨⟨rfl, trivial⟩, ⟨rfl, trivial⟩, rfl⟩, rfl,
    Step.plain rfl (does_callO 16 0 (fun _ => .any) (.func 16) [(.tmp 15), (.tmp 17), (.tmp 19)] [(e_api_Place p1), (e_a8_u32 p0.B), (e_a8_u32 p0.M)] [] [] true [(e_api_Place p1), (e_a8_u32 p0.B), (e_a8_u32 p0.M)] _ (.own 3) _ 3 1 _ _ rfl fo16 rfl ⟨trivial, trivial, trivial, trivial⟩ ⟨.ro _ _ (.data _ (d_api_Place p1)), .ro _ _ (.data _ (d_a8_u32 p0.B)), .ro _ _ (.data _ (d_a8_u32 p0.M)), trivial⟩ (cut_Rest_spec p1 p0.B p0.M _ h4) rfl (by simp) rfl trivial ⟨⟨Nat.le_of_ble_eq_true rfl, _, rfl, fun _ => (f_api_Place _)⟩, trivial⟩ (.own 0 (Nat.le_of_ble_eq_true rfl))), ⟨⟨rfl, rfl, rfl, trivial⟩, trivial, rfl⟩, rfl,
    Step.plain rfl (does_assign (.tmp 14) (.own 2) trivial), ⟨⟨rfl, trivial⟩, trivial, rfl⟩, rfl,
    Step.plain rfl (does_assign (.tmp 20) (.own 3) trivial), ⟨⟨rfl, trivial⟩, trivial, rfl⟩, rfl, rfl⟩ rfl ?_
  refine aw_cov (cov_prune (s1 := ⟨[(2, (.ptr 0 0 [])), (3, (.ptr 1 0 [])), (5, (.own 2)), (6, (.own 3))], [(0, some (.var (e_congresslaw11_Two p0))), (1, some (.var (e_api_Place p1))), (2, some (.arr 3 v1.length fun j => (e_api_Place (v1.getD j z_api_Place)))), (3, some (.arr 3 v3.length fun j => (e_api_Place (v3.getD j z_api_Place))))], 4⟩) ⟨rfl, rfl, rfl, rfl, trivial⟩ ⟨rfl, rfl, rfl, rfl, trivial⟩ (Nat.le_refl _)) ?_
  refine aw_seq ?_
  obtain ⟨v5, h6, H⟩ := bnd H
  obtain ⟨v7, h8, H⟩ := whn_of H
  refine aw_region (es := [_, _, _, _, _, _, _, _, _, _, _, _, _]) ⟨Step.plain rfl (does_call 8 0 (fun _ => .any) (.func 8) [] [] [] true [] (.bool v5) _ _ rfl fo8 rfl trivial trivial (congresslaw11_fixed_spec _ h6) trivial), ⟨trivial, trivial, rfl⟩, rfl,
    Step.plain rfl (does_not 4 (.tmp 21) v5 trivial), ⟨⟨rfl, trivial⟩, trivial, rfl⟩, rfl,
    Step.plain rfl (does_move (.tmp 22) (.bool (!v5)) trivial), ⟨⟨rfl, trivial⟩, trivial, rfl⟩, rfl,
    Step.guarded rfl rfl rfl rfl (fun hc => does_load 28 3 1 0 [] (.var (e_api_Place p1)) (e_api_Place p1) trivial rfl rfl ty28), ⟨⟨rfl, rfl, trivial⟩, ⟨rfl, trivial⟩, rfl⟩, rfl,
    Step.guarded rfl rfl rfl rfl (fun hc => does_fieldAddr 30 3 24 2 0 0 [] (.var (e_congresslaw11_Two p0)) fl30_3), ⟨⟨rfl, rfl, trivial⟩, ⟨rfl, trivial⟩, rfl⟩, rfl,
    Step.guarded rfl rfl rfl rfl (fun hc => Does.strip (n' := [(25, (.opt (!(!v5)) (.ptr 0 (0 + 24) [3])))]) (n := [(25, (.ptr 0 (0 + 24) [3]))]) ⟨(.opt _ _ hc), trivial⟩ (does_load 28 25 0 (0 + 24) [3] (.var (e_congresslaw11_Two p0)) (e_api_Place p0.Given) ⟨rfl, Nat.le_of_ble_eq_true rfl, trivial⟩ rfl rfl ty28)), ⟨⟨rfl, rfl, trivial⟩, ⟨rfl, trivial⟩, rfl⟩, rfl,
    Step.guarded rfl rfl rfl rfl (fun hc => Does.strip (n' := [(24, (.opt (!(!v5)) (e_api_Place p1))), (26, (.opt (!(!v5)) (e_api_Place p0.Given)))]) (n := [(24, (e_api_Place p1)), (26, (e_api_Place p0.Given))]) ⟨(.opt _ _ hc), (.opt _ _ hc), trivial⟩ (does_call 19 0 (fun _ => .any) (.func 19) [(.tmp 24), (.tmp 26)] [(e_api_Place p1), (e_api_Place p0.Given)] [] true [(e_api_Place p1), (e_api_Place p0.Given)] (.bool v7) _ _ rfl fo19 rfl ⟨trivial, trivial, trivial⟩ ⟨.data _ (d_api_Place p1), .data _ (d_api_Place p0.Given), trivial⟩ (congressref09_Before_spec p1 p0.Given _ (h8 hc)) trivial)), ⟨⟨rfl, rfl, rfl, trivial⟩, trivial, rfl⟩, rfl,
    Step.plain rfl (does_or 23 27 (!v5) v7), ⟨⟨rfl, rfl, trivial⟩, trivial, rfl⟩, rfl,
    Step.plain rfl (does_move (.tmp 28) (.bool ((!v5) || v7)) trivial), ⟨⟨rfl, trivial⟩, trivial, rfl⟩, rfl,
    Step.guarded rfl rfl rfl rfl (fun hc => does_move (.tmp 5) (.own 2) trivial), ⟨⟨rfl, rfl, trivial⟩, trivial, rfl⟩, rfl,
    Step.guarded rfl rfl rfl rfl (fun hc => Does.strip (n' := [(30, (.opt (!((!v5) || v7)) (.own 2)))]) (n := [(30, (.own 2))]) ⟨(.opt _ _ hc), trivial⟩ (does_leno 36 3 v1.length 30 2 (fun j => (e_api_Place (v1.getD j z_api_Place))) el36)), ⟨⟨rfl, rfl, trivial⟩, ⟨rfl, trivial⟩, rfl⟩, rfl,
    Step.guarded rfl rfl rfl rfl (fun hc => Does.strip (n' := [(31, (.opt (!((!v5) || v7)) (.int .i64 (v1.length : Int))))]) (n := [(31, (.int .i64 (v1.length : Int)))]) ⟨(.opt _ _ hc), trivial⟩ (does_bin .geq 3 3 (.tmp 31) (.const (.int .i64 100)) .i64 (v1.length : Int) 100 (.bool (decide ((v1.length : Int) ≥ 100))) trivial (fun _ => rfl) (bin_geq _ _ _ _))), ⟨⟨rfl, rfl, trivial⟩, trivial, rfl⟩, rfl,
    Step.plain rfl (does_or 29 32 ((!v5) || v7) (decide ((v1.length : Int) ≥ 100))), ⟨⟨rfl, rfl, trivial⟩, trivial, rfl⟩, rfl, rfl⟩ ?_
  refine aw_cov (cov_prune (s1 := ⟨[(3, (.ptr 1 0 [])), (5, (.own 2)), (6, (.own 3)), (33, (.bool (((!v5) || v7) || (decide ((v1.length : Int) ≥ 100)))))], [(1, some (.var (e_api_Place p1))), (2, some (.arr 3 v1.length fun j => (e_api_Place (v1.getD j z_api_Place)))), (3, some (.arr 3 v3.length fun j => (e_api_Place (v3.getD j z_api_Place))))], 4⟩) ⟨rfl, rfl, rfl, rfl, trivial⟩ ⟨rfl, rfl, rfl, trivial⟩ (Nat.le_refl _)) ?_
  refine aw_cond rfl (fun hc => ?_) (fun hc => ?_)
  · replace H := ite_t hc H
    obtain ⟨v9, h10, H⟩ := bnd H
    refine aw_region (es := [_, _]) ⟨Step.plain rfl (does_call 8 0 (fun _ => .any) (.func 8) [] [] [] true [] (.bool v9) _ _ rfl fo8 rfl trivial trivial (congresslaw11_fixed_spec _ h10) trivial), ⟨trivial, trivial, rfl⟩, rfl,
      Step.plain rfl (does_assign (.tmp 34) (.bool v9) trivial), ⟨⟨rfl, trivial⟩, trivial, rfl⟩, rfl, rfl⟩ ?_
    refine aw_cov (cov_prune (s1 := ⟨[(4, (.bool v9))], [], 4⟩) ⟨rfl, trivial⟩ trivial (Nat.le_refl _)) ?_
    refine aw_ret ?_
    refine rt_then ?_
    exact fun a w hr => ⟨_, [(.bool v9)], hr, ⟨⟨_, rfl, .data (.bool v9) trivial⟩, trivial⟩, by decide, by cases H; rfl⟩
  · replace H := ite_f hc H
    refine aw_skip ?_
    refine nx_seq ?_
    refine aw_region (es := [_]) ⟨Step.plain rfl (does_assign (.const (.int .i64 0)) (.int .i64 0) (fun _ => rfl)), ⟨trivial, trivial, rfl⟩, rfl, rfl⟩ ?_
    refine aw_cov (cov_prune (s1 := ⟨[(3, (.ptr 1 0 [])), (5, (.own 2)), (6, (.own 3)), (7, (.int .i64 0))], [(1, some (.var (e_api_Place p1))), (2, some (.arr 3 v1.length fun j => (e_api_Place (v1.getD j z_api_Place)))), (3, some (.arr 3 v3.length fun j => (e_api_Place (v3.getD j z_api_Place))))], 4⟩) ⟨rfl, rfl, rfl, rfl, trivial⟩ ⟨rfl, rfl, rfl, trivial⟩ (Nat.le_refl _)) ?_
    refine aw_seq ?_
    obtain ⟨wn12, hwn12, Hrn12⟩ := bnd H
    refine aw_meet (fun y16 : Int => (⟨[(5, (.own 2)), (6, (.own 3)), (7, (.int .i64 y16))], [(2, some (.arr 3 v1.length fun j => (e_api_Place (v1.getD j z_api_Place)))), (3, some (.arr 3 v3.length fun j => (e_api_Place (v3.getD j z_api_Place))))], 4⟩ : St)) (fun y16 => Fl.nx y16 = wn12) (fun y16 hy => ?_) (aw_block (aw_runs (fun x11 : Int => (⟨[(3, (.ptr 1 0 [])), (5, (.own 2)), (6, (.own 3)), (7, (.int .i64 x11))], [(1, some (.var (e_api_Place p1))), (2, some (.arr 3 v1.length fun j => (e_api_Place (v1.getD j z_api_Place)))), (3, some (.arr 3 v3.length fun j => (e_api_Place (v3.getD j z_api_Place))))], 4⟩ : St)) hwn12 (cov_prune ⟨rfl, rfl, rfl, rfl, trivial⟩ ⟨rfl, rfl, rfl, trivial⟩ (Nat.le_of_ble_eq_true rfl)) (fun x11 st H hsn12 => ?_)))
    · have H := nx_of hy Hrn12
      refine nx_seq ?_
      refine aw_cov (cov_to (s1 := ⟨[(5, (e_s_api_Place v1)), (6, (.own 3)), (7, (.int .i64 y16))], [(3, some (.arr 3 v3.length fun j => (e_api_Place (v3.getD j z_api_Place))))], 4⟩) (fun i => i) [2] ⟨⟨_, rfl, .frz 2 _ _ _ rfl (fun _ => (d_api_Place _)) (by decide)⟩, ⟨_, rfl, .own 3 _ _ (Nat.le_of_ble_eq_true rfl) rfl rfl (Box.like_refl _)⟩, ⟨_, rfl, .plain _ (trivial)⟩, trivial⟩ ⟨⟨Nat.le_of_ble_eq_true rfl, _, _, rfl, rfl, boxTo_arr (fun _ => (d_api_Place _))⟩, trivial⟩ rfl rfl) ?_
      obtain ⟨h17, H⟩ := sb_of H
      obtain ⟨v18, h19, H⟩ := bnd H
      refine aw_region (es := [_, _, _, _, _, _]) ⟨Step.plain rfl (does_move (.tmp 5) (e_s_api_Place v1) trivial), ⟨⟨rfl, trivial⟩, trivial, rfl⟩, rfl,
        Step.plain rfl (does_move (.tmp 7) (.int .i64 y16) trivial), ⟨⟨rfl, trivial⟩, trivial, rfl⟩, rfl,
        Step.plain rfl (does_slicesL e_api_Place z_api_Place v1 36 3 49 y16.toNat v1.length (some ((.tmp 50), .i64, y16)) none _ _ el36 (by decide) rfl rfl trivial trivial (Int.toNat_of_nonneg h17.1).symm rfl (by omega) (by omega)), ⟨⟨rfl, rfl, trivial⟩, trivial, rfl⟩, rfl,
        Step.plain rfl (does_move (.tmp 6) (.own 3) trivial), ⟨⟨rfl, trivial⟩, trivial, rfl⟩, rfl,
        Step.plain rfl (does_call 13 0 (fun _ => .any) (.func 13) [(.tmp 51), (.tmp 52)] [(e_s_api_Place ((v1.take v1.length).drop y16.toNat)), (.own 3)] [(3, (.arr 3 v3.length fun j => (e_api_Place (v3.getD j z_api_Place))))] true [(e_s_api_Place ((v1.take v1.length).drop y16.toNat)), (e_s_api_Place v3)] (.bool v18) _ _ rfl fo13 rfl ⟨trivial, trivial, trivial⟩ ⟨.data _ (d_s_api_Place ((v1.take v1.length).drop y16.toNat)), .own 3 _ _ _ (.head _) rfl (fun _ => (d_api_Place _)), trivial⟩ (congressref11_Places_spec ((v1.take v1.length).drop y16.toNat) v3 _ h19) trivial), ⟨⟨rfl, rfl, trivial⟩, ⟨rfl, trivial⟩, rfl⟩, rfl,
        Step.plain rfl (does_assign (.tmp 53) (.bool v18) trivial), ⟨⟨rfl, trivial⟩, trivial, rfl⟩, rfl, rfl⟩ ?_
      refine aw_cov (cov_prune (s1 := ⟨[(4, (.bool v18))], [], 4⟩) ⟨rfl, trivial⟩ trivial (Nat.le_refl _)) ?_
      refine aw_ret ?_
      exact fun a w hr => ⟨_, [(.bool v18)], hr, ⟨⟨_, rfl, .data (.bool v18) trivial⟩, trivial⟩, by decide, by cases H; rfl⟩
    · refine aw_seq ?_
      obtain ⟨h13, H⟩ := ibg_of H
      obtain ⟨v14, h15, H⟩ := whn_of H
      refine aw_draw (es := [_, _, _, _, _, _, _, _, _, _, _, _]) (mixed) ⟨Step.plain rfl (does_move (.tmp 7) (.int .i64 x11) trivial), ⟨⟨rfl, trivial⟩, trivial, rfl⟩, rfl,
        Step.plain rfl (does_move (.tmp 5) (.own 2) trivial), ⟨⟨rfl, trivial⟩, trivial, rfl⟩, rfl,
        Step.plain rfl (does_leno 36 3 v1.length 36 2 (fun j => (e_api_Place (v1.getD j z_api_Place))) el36), ⟨⟨rfl, trivial⟩, ⟨rfl, trivial⟩, rfl⟩, rfl,
        Step.plain rfl (does_bin .lss 3 3 (.tmp 35) (.tmp 37) .i64 x11 (v1.length : Int) (.bool (decide (x11 < (v1.length : Int)))) trivial trivial (bin_lss _ _ _ _)), ⟨⟨rfl, rfl, trivial⟩, trivial, rfl⟩, rfl,
        Step.plain rfl (does_move (.tmp 38) (.bool (decide (x11 < (v1.length : Int)))) trivial), ⟨⟨rfl, trivial⟩, trivial, rfl⟩, rfl,
        Step.guarded rfl rfl rfl rfl (fun hc => does_move (.tmp 5) (.own 2) trivial), ⟨⟨rfl, rfl, trivial⟩, trivial, rfl⟩, rfl,
        Step.guarded rfl rfl rfl rfl (fun hc => does_move (.tmp 7) (.int .i64 x11) trivial), ⟨⟨rfl, rfl, trivial⟩, trivial, rfl⟩, rfl,
        Step.guarded rfl rfl rfl rfl (fun hc => Does.strip (n' := [(40, (.opt (decide (x11 < (v1.length : Int))) (.own 2))), (41, (.opt (decide (x11 < (v1.length : Int))) (.int .i64 x11)))]) (n := [(40, (.own 2)), (41, (.int .i64 x11))]) ⟨(.opt _ _ hc), (.opt _ _ hc), trivial⟩ (does_indexAddro 36 3 v1.length 40 2 (fun j => (e_api_Place (v1.getD j z_api_Place))) (.tmp 41) .i64 x11 el36 trivial (h13 hc).1 (h13 hc).2)), ⟨⟨rfl, rfl, rfl, trivial⟩, ⟨rfl, trivial⟩, rfl⟩, rfl,
        Step.guarded rfl rfl rfl rfl (fun hc => Does.strip (n' := [(42, (.opt (decide (x11 < (v1.length : Int))) (.ptr 2 (x11.toNat * 3) [x11.toNat])))]) (n := [(42, (.ptr 2 (x11.toNat * 3) [x11.toNat]))]) ⟨(.opt _ _ hc), trivial⟩ (does_load 28 42 2 (x11.toNat * 3) [x11.toNat] (.arr 3 v1.length fun j => (e_api_Place (v1.getD j z_api_Place))) (e_api_Place (v1.getD x11.toNat z_api_Place)) ⟨(ixl (h13 hc)), trivial⟩ rfl rfl ty28)), ⟨⟨rfl, rfl, trivial⟩, ⟨rfl, trivial⟩, rfl⟩, rfl,
        Step.guarded rfl rfl rfl rfl (fun hc => does_load 28 3 1 0 [] (.var (e_api_Place p1)) (e_api_Place p1) trivial rfl rfl ty28), ⟨⟨rfl, rfl, trivial⟩, ⟨rfl, trivial⟩, rfl⟩, rfl,
        Step.guarded rfl rfl rfl rfl (fun hc => Does.strip (n' := [(43, (.opt (decide (x11 < (v1.length : Int))) (e_api_Place (v1.getD x11.toNat z_api_Place)))), (44, (.opt (decide (x11 < (v1.length : Int))) (e_api_Place p1)))]) (n := [(43, (e_api_Place (v1.getD x11.toNat z_api_Place))), (44, (e_api_Place p1))]) ⟨(.opt _ _ hc), (.opt _ _ hc), trivial⟩ (does_call 19 0 (fun _ => .any) (.func 19) [(.tmp 43), (.tmp 44)] [(e_api_Place (v1.getD x11.toNat z_api_Place)), (e_api_Place p1)] [] true [(e_api_Place (v1.getD x11.toNat z_api_Place)), (e_api_Place p1)] (.bool v14) _ _ rfl fo19 rfl ⟨trivial, trivial, trivial⟩ ⟨.data _ (d_api_Place (v1.getD x11.toNat z_api_Place)), .data _ (d_api_Place p1), trivial⟩ (congressref09_Before_spec (v1.getD x11.toNat z_api_Place) p1 _ (h15 hc)) trivial)), ⟨⟨rfl, rfl, rfl, trivial⟩, trivial, rfl⟩, rfl,
        Step.plain rfl (does_and 39 45 (decide (x11 < (v1.length : Int))) v14), ⟨⟨rfl, rfl, trivial⟩, trivial, rfl⟩, rfl, rfl⟩ rfl ?_
      refine aw_cov (cov_prune (s1 := ⟨[(3, (.ptr 1 0 [])), (5, (.own 2)), (6, (.own 3)), (7, (.int .i64 x11)), (46, (.bool ((decide (x11 < (v1.length : Int))) && v14)))], [(1, some (.var (e_api_Place p1))), (2, some (.arr 3 v1.length fun j => (e_api_Place (v1.getD j z_api_Place)))), (3, some (.arr 3 v3.length fun j => (e_api_Place (v3.getD j z_api_Place))))], 4⟩) ⟨rfl, rfl, rfl, rfl, rfl, trivial⟩ ⟨rfl, rfl, rfl, trivial⟩ (Nat.le_refl _)) ?_
      refine aw_cond rfl (fun hc => ?_) (fun hc => ?_)
      · replace H := ite_t hc H
        refine aw_skip ?_
        refine nx_seq ?_
        refine aw_block ?_
        refine aw_region1 (es := [_, _, _]) ⟨Step.plain rfl (does_move (.tmp 7) (.int .i64 x11) trivial), ⟨⟨rfl, trivial⟩, trivial, rfl⟩, rfl,
          Step.plain rfl (does_bin .add 3 3 (.tmp 47) (.const (.int .i64 1)) .i64 x11 1 (.int .i64 (IntKind.i64.wrap (x11 + 1))) trivial (fun _ => rfl) (bin_add _ _ _ _)), ⟨⟨rfl, trivial⟩, trivial, rfl⟩, rfl,
          Step.plain rfl (does_assign (.tmp 48) (.int .i64 (IntKind.i64.wrap (x11 + 1))) trivial), ⟨⟨rfl, trivial⟩, trivial, rfl⟩, rfl, rfl⟩ ?_
        refine nx_blk ?_
        exact nx_loop ((IntKind.i64.wrap (x11 + 1))) H (cov_prune ⟨rfl, rfl, rfl, rfl, trivial⟩ ⟨rfl, rfl, rfl, trivial⟩ (Nat.le_of_ble_eq_true rfl))
      · replace H := ite_f hc H
        refine aw_exit ?_
        refine ex_then ?_
        refine ex_then ?_
        refine ex_here ?_
        exact nx_ljoin (x11) H hsn12 (cov_prune ⟨rfl, rfl, rfl, trivial⟩ ⟨rfl, rfl, trivial⟩ (Nat.le_of_ble_eq_true rfl))

theorem congresslaw11_CutWithin_spec (p0 : (Nat → Int)) (p1 : (Nat → Int)) (p2 : (Nat → Int)) (r : Bool) (H : congresslaw11_CutWithin p0 p1 p2 = some r) : FSpec Try.prog 7 [(e_a8_u32 p0), (e_a8_u32 p1), (e_a8_u32 p2)] (.bool r) := by
  refine spec_of (fn := Try.f7) (args := [(e_a8_u32 p0), (e_a8_u32 p1), (e_a8_u32 p2)]) Try.func7 rfl (Nat.le_of_ble_eq_true rfl) ?_
  rintro ⟨G, w0, W, S, Sp⟩ hG
  cases hG
  unfold congresslaw11_CutWithin at H
  refine aw_region (es := [_, _, _, _]) ⟨Step.plain rfl (does_box 25 (.tmp 0) 0 (e_a8_u32 p0) trivial rfl), ⟨⟨rfl, trivial⟩, trivial, rfl⟩, rfl,
    Step.plain rfl (does_box 25 (.tmp 1) 1 (e_a8_u32 p1) trivial rfl), ⟨⟨rfl, trivial⟩, trivial, rfl⟩, rfl,
    Step.plain rfl (does_box 25 (.tmp 2) 2 (e_a8_u32 p2) trivial rfl), ⟨⟨rfl, trivial⟩, trivial, rfl⟩, rfl,
    Step.plain rfl (does_assign (.const (.bool false)) (.bool false) (fun _ => rfl)), ⟨trivial, trivial, rfl⟩, rfl, rfl⟩ ?_
  refine aw_cov (cov_prune (s1 := ⟨[(3, (.ptr 0 0 [])), (4, (.ptr 1 0 [])), (5, (.ptr 2 0 []))], [(0, some (.var (e_a8_u32 p0))), (1, some (.var (e_a8_u32 p1))), (2, some (.var (e_a8_u32 p2)))], 3⟩) ⟨rfl, rfl, rfl, trivial⟩ ⟨rfl, rfl, rfl, trivial⟩ (Nat.le_refl _)) ?_
  refine aw_seq ?_
  obtain ⟨v1, h2, H⟩ := bnd H
  obtain ⟨v3, h4, H⟩ := whn_of H
  obtain ⟨v5, h6, H⟩ := whn_of H
  obtain ⟨v7, h8, H⟩ := whn_of H
  refine aw_draw (es := [_, _, _, _, _, _, _, _, _, _, _, _, _, _, _, _, _, _, _, _, _, _]) (mixed) ⟨Step.plain rfl (does_call 8 0 (fun _ => .any) (.func 8) [] [] [] true [] (.bool v1) _ _ rfl fo8 rfl trivial trivial (congresslaw11_fixed_spec _ h2) trivial), ⟨trivial, trivial, rfl⟩, rfl,
    Step.plain rfl (does_not 4 (.tmp 7) v1 trivial), ⟨⟨rfl, trivial⟩, trivial, rfl⟩, rfl,
    Step.plain rfl (does_move (.tmp 8) (.bool (!v1)) trivial), ⟨⟨rfl, trivial⟩, trivial, rfl⟩, rfl,
    Step.guarded rfl rfl rfl rfl (fun hc => does_load 25 3 0 0 [] (.var (e_a8_u32 p0)) (e_a8_u32 p0) trivial rfl rfl ty25), ⟨⟨rfl, rfl, trivial⟩, ⟨rfl, trivial⟩, rfl⟩, rfl,
    Step.guarded rfl rfl rfl rfl (fun hc => does_load 25 3 0 0 [] (.var (e_a8_u32 p0)) (e_a8_u32 p0) trivial rfl rfl ty25), ⟨⟨rfl, rfl, trivial⟩, ⟨rfl, trivial⟩, rfl⟩, rfl,
    Step.guarded rfl rfl rfl rfl (fun hc => Does.strip (n' := [(10, (.opt (!(!v1)) (e_a8_u32 p0))), (11, (.opt (!(!v1)) (e_a8_u32 p0)))]) (n := [(10, (e_a8_u32 p0)), (11, (e_a8_u32 p0))]) ⟨(.opt _ _ hc), (.opt _ _ hc), trivial⟩ (does_call 11 0 (fun _ => .any) (.func 11) [(.tmp 10), (.tmp 11)] [(e_a8_u32 p0), (e_a8_u32 p0)] [] true [(e_a8_u32 p0), (e_a8_u32 p0)] (.bool v3) _ _ rfl fo11 rfl ⟨trivial, trivial, trivial⟩ ⟨.data _ (d_a8_u32 p0), .data _ (d_a8_u32 p0), trivial⟩ (cut_Within_spec p0 p0 _ (h4 hc)) trivial)), ⟨⟨rfl, rfl, rfl, trivial⟩, trivial, rfl⟩, rfl,
    Step.guarded rfl rfl rfl rfl (fun hc => Does.strip (n' := [(12, (.opt (!(!v1)) (.bool v3)))]) (n := [(12, (.bool v3))]) ⟨(.opt _ _ hc), trivial⟩ (does_not 4 (.tmp 12) v3 trivial)), ⟨⟨rfl, rfl, trivial⟩, trivial, rfl⟩, rfl,
    Step.plain rfl (does_or 9 13 (!v1) (!v3)), ⟨⟨rfl, rfl, trivial⟩, trivial, rfl⟩, rfl,
    Step.plain rfl (does_move (.tmp 14) (.bool ((!v1) || (!v3))) trivial), ⟨⟨rfl, trivial⟩, trivial, rfl⟩, rfl,
    Step.guarded rfl rfl rfl rfl (fun hc => does_load 25 3 0 0 [] (.var (e_a8_u32 p0)) (e_a8_u32 p0) trivial rfl rfl ty25), ⟨⟨rfl, rfl, trivial⟩, ⟨rfl, trivial⟩, rfl⟩, rfl,
    Step.guarded rfl rfl rfl rfl (fun hc => does_load 25 4 1 0 [] (.var (e_a8_u32 p1)) (e_a8_u32 p1) trivial rfl rfl ty25), ⟨⟨rfl, rfl, trivial⟩, ⟨rfl, trivial⟩, rfl⟩, rfl,
    Step.guarded rfl rfl rfl rfl (fun hc => Does.strip (n' := [(16, (.opt (!((!v1) || (!v3))) (e_a8_u32 p0))), (17, (.opt (!((!v1) || (!v3))) (e_a8_u32 p1)))]) (n := [(16, (e_a8_u32 p0)), (17, (e_a8_u32 p1))]) ⟨(.opt _ _ hc), (.opt _ _ hc), trivial⟩ (does_call 11 0 (fun _ => .any) (.func 11) [(.tmp 16), (.tmp 17)] [(e_a8_u32 p0), (e_a8_u32 p1)] [] true [(e_a8_u32 p0), (e_a8_u32 p1)] (.bool v5) _ _ rfl fo11 rfl ⟨trivial, trivial, trivial⟩ ⟨.data _ (d_a8_u32 p0), .data _ (d_a8_u32 p1), trivial⟩ (cut_Within_spec p0 p1 _ (h6 hc)) trivial)), ⟨⟨rfl, rfl, rfl, trivial⟩, trivial, rfl⟩, rfl,
    Step.guarded rfl rfl rfl rfl (fun hc => Does.strip (n' := [(18, (.opt (!((!v1) || (!v3))) (.bool v5)))]) (n := [(18, (.bool v5))]) ⟨(.opt _ _ hc), trivial⟩ (does_move (.tmp 18) (.bool v5) trivial)), ⟨⟨rfl, rfl, trivial⟩, trivial, rfl⟩, rfl,
    Step.guarded rfl rfl rfl rfl (fun hc => does_load 25 4 1 0 [] (.var (e_a8_u32 p1)) (e_a8_u32 p1) trivial rfl rfl ty25), ⟨⟨rfl, rfl, trivial⟩, ⟨rfl, trivial⟩, rfl⟩, rfl,
    Step.guarded rfl rfl rfl rfl (fun hc => does_load 25 3 0 0 [] (.var (e_a8_u32 p0)) (e_a8_u32 p0) trivial rfl rfl ty25), ⟨⟨rfl, rfl, trivial⟩, ⟨rfl, trivial⟩, rfl⟩, rfl,
    Step.guarded rfl rfl rfl rfl (fun hc => Does.strip (n' := [(20, (.opt ((!((!v1) || (!v3))) && v5) (e_a8_u32 p1))), (21, (.opt ((!((!v1) || (!v3))) && v5) (e_a8_u32 p0)))]) (n := [(20, (e_a8_u32 p1)), (21, (e_a8_u32 p0))]) ⟨(.opt _ _ hc), (.opt _ _ hc), trivial⟩ (does_call 11 0 (fun _ => .any) (.func 11) [(.tmp 20), (.tmp 21)] [(e_a8_u32 p1), (e_a8_u32 p0)] [] true [(e_a8_u32 p1), (e_a8_u32 p0)] (.bool v7) _ _ rfl fo11 rfl ⟨trivial, trivial, trivial⟩ ⟨.data _ (d_a8_u32 p1), .data _ (d_a8_u32 p0), trivial⟩ (cut_Within_spec p1 p0 _ (h8 hc)) trivial)), ⟨⟨rfl, rfl, rfl, trivial⟩, trivial, rfl⟩, rfl,
    Step.guarded rfl rfl rfl rfl (fun hc => does_load 25 3 0 0 [] (.var (e_a8_u32 p0)) (e_a8_u32 p0) trivial rfl rfl ty25), ⟨⟨rfl, rfl, trivial⟩, ⟨rfl, trivial⟩, rfl⟩, rfl,
    Step.guarded rfl rfl rfl rfl (fun hc => does_load 25 4 1 0 [] (.var (e_a8_u32 p1)) (e_a8_u32 p1) trivial rfl rfl ty25), ⟨⟨rfl, rfl, trivial⟩, ⟨rfl, trivial⟩, rfl⟩, rfl,
    Step.guarded rfl rfl rfl rfl (fun hc => Does.strip (n' := [(23, (.opt ((!((!v1) || (!v3))) && v5) (e_a8_u32 p0))), (24, (.opt ((!((!v1) || (!v3))) && v5) (e_a8_u32 p1)))]) (n := [(23, (e_a8_u32 p0)), (24, (e_a8_u32 p1))]) ⟨(.opt _ _ hc), (.opt _ _ hc), trivial⟩ (does_eqT false 25 25 (.tmp 23) (.tmp 24) (e_a8_u32 p0) (e_a8_u32 p1) (e_a8_u32 (fun _ => 0)) (b_a8_u32 p0 p1) rfl rfl trivial trivial eg25 sh25 (al_a8_u32 _ _) (al_a8_u32 _ _) (q_a8_u32 _ _))), ⟨⟨rfl, rfl, rfl, trivial⟩, trivial, rfl⟩, rfl,
    Step.guarded rfl rfl rfl rfl (fun hc => Does.strip (n' := [(22, (.opt ((!((!v1) || (!v3))) && v5) (.bool v7))), (25, (.opt ((!((!v1) || (!v3))) && v5) (.bool (b_a8_u32 p0 p1))))]) (n := [(22, (.bool v7)), (25, (.bool (b_a8_u32 p0 p1)))]) ⟨(.opt _ _ hc), (.opt _ _ hc), trivial⟩ (does_eqBool true 4 4 (.tmp 22) (.tmp 25) v7 (b_a8_u32 p0 p1) trivial trivial rfl)), ⟨⟨rfl, rfl, rfl, trivial⟩, trivial, rfl⟩, rfl,
    Step.guarded rfl rfl rfl rfl (fun hc => Does.strip (n' := [(19, (.opt (!((!v1) || (!v3))) (.bool v5))), (26, (.opt ((!((!v1) || (!v3))) && v5) (.bool (v7 != (b_a8_u32 p0 p1)))))]) (n := [(19, (.bool v5)), (26, (.opt v5 (.bool (v7 != (b_a8_u32 p0 p1)))))]) ⟨(.opt _ _ hc), (.half _ _ hc), trivial⟩ (does_and 19 26 v5 (v7 != (b_a8_u32 p0 p1)))), ⟨⟨rfl, rfl, rfl, trivial⟩, trivial, rfl⟩, rfl,
    Step.plain rfl (does_or 15 27 ((!v1) || (!v3)) (v5 && (v7 != (b_a8_u32 p0 p1)))), ⟨⟨rfl, rfl, trivial⟩, trivial, rfl⟩, rfl, rfl⟩ rfl ?_
  refine aw_cov (cov_prune (s1 := ⟨[(3, (.ptr 0 0 [])), (4, (.ptr 1 0 [])), (5, (.ptr 2 0 [])), (28, (.bool (((!v1) || (!v3)) || (v5 && (v7 != (b_a8_u32 p0 p1))))))], [(0, some (.var (e_a8_u32 p0))), (1, some (.var (e_a8_u32 p1))), (2, some (.var (e_a8_u32 p2)))], 3⟩) ⟨rfl, rfl, rfl, rfl, trivial⟩ ⟨rfl, rfl, rfl, trivial⟩ (Nat.le_refl _)) ?_
  refine aw_cond rfl (fun hc => ?_) (fun hc => ?_)
  · replace H := ite_t hc H
    refine aw_region (es := [_]) ⟨Step.plain rfl (does_assign (.const (.bool false)) (.bool false) (fun _ => rfl)), ⟨trivial, trivial, rfl⟩, rfl, rfl⟩ ?_
    refine aw_cov (cov_prune (s1 := ⟨[(6, (.bool false))], [], 3⟩) ⟨rfl, trivial⟩ trivial (Nat.le_refl _)) ?_
    refine aw_ret ?_
    refine rt_then ?_
    exact fun a w hr => ⟨_, [(.bool false)], hr, ⟨⟨_, rfl, .data (.bool false) trivial⟩, trivial⟩, by decide, by cases H; rfl⟩
  · replace H := ite_f hc H
    refine aw_skip ?_
    refine nx_seq ?_
    obtain ⟨v9, h10, H⟩ := bnd H
    obtain ⟨v11, h12, H⟩ := whn_of H
    obtain ⟨v13, h14, H⟩ := whn_of H
    refine aw_region (es := [_, _, _, _, _, _, _, _, _, _, _, _, _, _, _, _]) ⟨Step.plain rfl (does_load 25 3 0 0 [] (.var (e_a8_u32 p0)) (e_a8_u32 p0) trivial rfl rfl ty25), ⟨⟨rfl, trivial⟩, ⟨rfl, trivial⟩, rfl⟩, rfl,
      Step.plain rfl (does_load 25 4 1 0 [] (.var (e_a8_u32 p1)) (e_a8_u32 p1) trivial rfl rfl ty25), ⟨⟨rfl, trivial⟩, ⟨rfl, trivial⟩, rfl⟩, rfl,
      Step.plain rfl (does_call 11 0 (fun _ => .any) (.func 11) [(.tmp 29), (.tmp 30)] [(e_a8_u32 p0), (e_a8_u32 p1)] [] true [(e_a8_u32 p0), (e_a8_u32 p1)] (.bool v9) _ _ rfl fo11 rfl ⟨trivial, trivial, trivial⟩ ⟨.data _ (d_a8_u32 p0), .data _ (d_a8_u32 p1), trivial⟩ (cut_Within_spec p0 p1 _ h10) trivial), ⟨⟨rfl, rfl, trivial⟩, trivial, rfl⟩, rfl,
      Step.plain rfl (does_not 4 (.tmp 31) v9 trivial), ⟨⟨rfl, trivial⟩, trivial, rfl⟩, rfl,
      Step.plain rfl (does_move (.tmp 32) (.bool (!v9)) trivial), ⟨⟨rfl, trivial⟩, trivial, rfl⟩, rfl,
      Step.guarded rfl rfl rfl rfl (fun hc => does_load 25 4 1 0 [] (.var (e_a8_u32 p1)) (e_a8_u32 p1) trivial rfl rfl ty25), ⟨⟨rfl, rfl, trivial⟩, ⟨rfl, trivial⟩, rfl⟩, rfl,
      Step.guarded rfl rfl rfl rfl (fun hc => does_load 25 5 2 0 [] (.var (e_a8_u32 p2)) (e_a8_u32 p2) trivial rfl rfl ty25), ⟨⟨rfl, rfl, trivial⟩, ⟨rfl, trivial⟩, rfl⟩, rfl,
      Step.guarded rfl rfl rfl rfl (fun hc => Does.strip (n' := [(34, (.opt (!(!v9)) (e_a8_u32 p1))), (35, (.opt (!(!v9)) (e_a8_u32 p2)))]) (n := [(34, (e_a8_u32 p1)), (35, (e_a8_u32 p2))]) ⟨(.opt _ _ hc), (.opt _ _ hc), trivial⟩ (does_call 11 0 (fun _ => .any) (.func 11) [(.tmp 34), (.tmp 35)] [(e_a8_u32 p1), (e_a8_u32 p2)] [] true [(e_a8_u32 p1), (e_a8_u32 p2)] (.bool v11) _ _ rfl fo11 rfl ⟨trivial, trivial, trivial⟩ ⟨.data _ (d_a8_u32 p1), .data _ (d_a8_u32 p2), trivial⟩ (cut_Within_spec p1 p2 _ (h12 hc)) trivial)), ⟨⟨rfl, rfl, rfl, trivial⟩, trivial, rfl⟩, rfl,
      Step.guarded rfl rfl rfl rfl (fun hc => Does.strip (n' := [(36, (.opt (!(!v9)) (.bool v11)))]) (n := [(36, (.bool v11))]) ⟨(.opt _ _ hc), trivial⟩ (does_not 4 (.tmp 36) v11 trivial)), ⟨⟨rfl, rfl, trivial⟩, trivial, rfl⟩, rfl,
      Step.plain rfl (does_or 33 37 (!v9) (!v11)), ⟨⟨rfl, rfl, trivial⟩, trivial, rfl⟩, rfl,
      Step.plain rfl (does_move (.tmp 38) (.bool ((!v9) || (!v11))) trivial), ⟨⟨rfl, trivial⟩, trivial, rfl⟩, rfl,
      Step.guarded rfl rfl rfl rfl (fun hc => does_load 25 3 0 0 [] (.var (e_a8_u32 p0)) (e_a8_u32 p0) trivial rfl rfl ty25), ⟨⟨rfl, rfl, trivial⟩, ⟨rfl, trivial⟩, rfl⟩, rfl,
      Step.guarded rfl rfl rfl rfl (fun hc => does_load 25 5 2 0 [] (.var (e_a8_u32 p2)) (e_a8_u32 p2) trivial rfl rfl ty25), ⟨⟨rfl, rfl, trivial⟩, ⟨rfl, trivial⟩, rfl⟩, rfl,
      Step.guarded rfl rfl rfl rfl (fun hc => Does.strip (n' := [(40, (.opt (!((!v9) || (!v11))) (e_a8_u32 p0))), (41, (.opt (!((!v9) || (!v11))) (e_a8_u32 p2)))]) (n := [(40, (e_a8_u32 p0)), (41, (e_a8_u32 p2))]) ⟨(.opt _ _ hc), (.opt _ _ hc), trivial⟩ (does_call 11 0 (fun _ => .any) (.func 11) [(.tmp 40), (.tmp 41)] [(e_a8_u32 p0), (e_a8_u32 p2)] [] true [(e_a8_u32 p0), (e_a8_u32 p2)] (.bool v13) _ _ rfl fo11 rfl ⟨trivial, trivial, trivial⟩ ⟨.data _ (d_a8_u32 p0), .data _ (d_a8_u32 p2), trivial⟩ (cut_Within_spec p0 p2 _ (h14 hc)) trivial)), ⟨⟨rfl, rfl, rfl, trivial⟩, trivial, rfl⟩, rfl,
      Step.plain rfl (does_or 39 42 ((!v9) || (!v11)) v13), ⟨⟨rfl, rfl, trivial⟩, trivial, rfl⟩, rfl,
      Step.plain rfl (does_assign (.tmp 43) (.bool (((!v9) || (!v11)) || v13)) trivial), ⟨⟨rfl, trivial⟩, trivial, rfl⟩, rfl, rfl⟩ ?_
    refine aw_cov (cov_prune (s1 := ⟨[(6, (.bool (((!v9) || (!v11)) || v13)))], [], 3⟩) ⟨rfl, trivial⟩ trivial (Nat.le_refl _)) ?_
    refine aw_ret ?_
    exact fun a w hr => ⟨_, [(.bool (((!v9) || (!v11)) || v13))], hr, ⟨⟨_, rfl, .data (.bool (((!v9) || (!v11)) || v13)) trivial⟩, trivial⟩, by decide, by cases H; rfl⟩
end Go.Proofs.Ytnfjibcfnchkkaa
