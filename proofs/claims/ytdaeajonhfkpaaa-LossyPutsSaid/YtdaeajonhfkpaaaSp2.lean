/- Printed by gen.py. Conditions: none. -/
import Derived.Test.YtdaeajonhfkpaaaSp1
import Derived.KernelRfl
set_option linter.unusedVariables false
set_option maxRecDepth 100000
namespace Go.Proofs.Ytdaeajonhfkpaaa
open Go.Eng
set_option maxHeartbeats 1600000
theorem congressref01_Four_spec (p0 : Int) (r : ByteArray) (H : congressref01_Four p0 = some r) : FSpec Try.prog 26 [(.int .u32 p0)] (.str r) := by
  refine spec_of (fn := Try.f26) (args := [(.int .u32 p0)]) Try.func26 rfl (Nat.le_of_ble_eq_true rfl) ?_
  rintro ⟨G, w0, W, S, Sp⟩ hG
  cases hG
  unfold congressref01_Four at H
  refine aw_region (es := [_]) ⟨Step.plain rfl (does_assign (.const (.string ByteArray.empty)) (.str ByteArray.empty) (fun _ => rfl)), ⟨trivial, trivial, rfl⟩, rfl, rfl⟩ ?_
  refine aw_cov (cov_prune (s1 := ⟨[(0, (.int .u32 p0))], [], 0⟩) ⟨rfl, trivial⟩ trivial (Nat.le_refl _)) ?_
  obtain ⟨h1, H⟩ := mk_of H
  refine aw_region (es := [_, _]) ⟨Step.plain rfl (does_make (fun z => V.int .u8 z) 0 48 1 1 0 (.const (.int .i64 4)) (.const (.int .i64 4)) .i64 .i64 4 so48 ap48 (fun _ => rfl) (fun _ => rfl) h1), ⟨trivial, trivial, rfl⟩, rfl,
    Step.plain rfl (does_assign (.tmp 5) (.own 0) trivial), ⟨⟨rfl, trivial⟩, trivial, rfl⟩, rfl, rfl⟩ ?_
  refine aw_cov (cov_prune (s1 := ⟨[(0, (.int .u32 p0)), (3, (.own 0))], [(0, some (.arr 1 (_root_.List.replicate (4 : Int).toNat 0).length fun j => (.int .u8 ((_root_.List.replicate (4 : Int).toNat 0).getD j 0))))], 1⟩) ⟨rfl, rfl, trivial⟩ ⟨rfl, trivial⟩ (Nat.le_refl _)) ?_
  refine aw_seq ?_
  refine aw_region (es := [_]) ⟨Step.plain rfl (does_assign (.const (.int .i64 0)) (.int .i64 0) (fun _ => rfl)), ⟨trivial, trivial, rfl⟩, rfl, rfl⟩ ?_
  refine aw_cov (cov_prune (s1 := ⟨[(0, (.int .u32 p0)), (3, (.own 0)), (4, (.int .i64 0))], [(0, some (.arr 1 (_root_.List.replicate (4 : Int).toNat 0).length fun j => (.int .u8 ((_root_.List.replicate (4 : Int).toNat 0).getD j 0))))], 1⟩) ⟨rfl, rfl, rfl, trivial⟩ ⟨rfl, trivial⟩ (Nat.le_refl _)) ?_
  obtain ⟨wn3, hwn3, Hrn3⟩ := bnd H
  refine aw_meet (fun y5 : _root_.List Int => (⟨[(3, (.own 0))], [(0, some (.arr 1 y5.length fun j => (.int .u8 (y5.getD j 0))))], 1⟩ : St)) (fun y5 => Fl.nx y5 = wn3) (fun y5 hy => ?_) (aw_block (aw_runs (fun x2 : Int × Int × _root_.List Int => (⟨[(0, (.int .u32 x2.1)), (3, (.own 0)), (4, (.int .i64 x2.2.1))], [(0, some (.arr 1 x2.2.2.length fun j => (.int .u8 (x2.2.2.getD j 0))))], 1⟩ : St)) hwn3 (cov_prune ⟨rfl, rfl, rfl, trivial⟩ ⟨rfl, trivial⟩ (Nat.le_of_ble_eq_true rfl)) (fun x2 st H hsn3 => ?_)))
  · have H := nx_of hy Hrn3
    refine nx_seq ?_
    refine aw_region (es := [_, _, _]) ⟨Step.plain rfl (does_move (.tmp 3) (.own 0) trivial), ⟨⟨rfl, trivial⟩, trivial, rfl⟩, rfl,
      Step.plain rfl (does_b2so 48 9 5 18 0 y5 us48 ui5 us9), ⟨⟨rfl, trivial⟩, ⟨rfl, trivial⟩, rfl⟩, rfl,
      Step.plain rfl (does_assign (.tmp 19) (.str (strOf y5)) trivial), ⟨⟨rfl, trivial⟩, trivial, rfl⟩, rfl, rfl⟩ ?_
    refine aw_cov (cov_prune (s1 := ⟨[(2, (.str (strOf y5)))], [], 1⟩) ⟨rfl, trivial⟩ trivial (Nat.le_refl _)) ?_
    refine aw_ret ?_
    exact fun a w hr => ⟨_, [(.str (strOf y5))], hr, ⟨⟨_, rfl, .data (.str (strOf y5)) trivial⟩, trivial⟩, by decide, by cases H; rfl⟩
  · refine aw_seq ?_
    refine aw_region (es := [_, _]) ⟨Step.plain rfl (does_move (.tmp 4) (.int .i64 x2.2.1) trivial), ⟨⟨rfl, trivial⟩, trivial, rfl⟩, rfl,
      Step.plain rfl (does_bin .lss 3 3 (.tmp 6) (.const (.int .i64 4)) .i64 x2.2.1 4 (.bool (decide (x2.2.1 < 4))) trivial (fun _ => rfl) (bin_lss _ _ _ _)), ⟨⟨rfl, trivial⟩, trivial, rfl⟩, rfl, rfl⟩ ?_
    refine aw_cov (cov_prune (s1 := ⟨[(0, (.int .u32 x2.1)), (3, (.own 0)), (4, (.int .i64 x2.2.1)), (7, (.bool (decide (x2.2.1 < 4))))], [(0, some (.arr 1 x2.2.2.length fun j => (.int .u8 (x2.2.2.getD j 0))))], 1⟩) ⟨rfl, rfl, rfl, rfl, trivial⟩ ⟨rfl, trivial⟩ (Nat.le_refl _)) ?_
    refine aw_cond rfl (fun hc => ?_) (fun hc => ?_)
    · replace H := ite_t hc H
      refine aw_skip ?_
      refine nx_seq ?_
      refine aw_seq ?_
      refine aw_block ?_
      obtain ⟨h4, H⟩ := ib_of H
      refine aw_region (es := [_, _, _, _, _, _, _]) ⟨Step.plain rfl (does_move (.tmp 3) (.own 0) trivial), ⟨⟨rfl, trivial⟩, trivial, rfl⟩, rfl,
        Step.plain rfl (does_move (.tmp 4) (.int .i64 x2.2.1) trivial), ⟨⟨rfl, trivial⟩, trivial, rfl⟩, rfl,
        Step.plain rfl (does_move (.tmp 0) (.int .u32 x2.1) trivial), ⟨⟨rfl, trivial⟩, trivial, rfl⟩, rfl,
        Step.plain rfl (does_bin .rem 23 23 (.tmp 12) (.const (.int .u32 256)) .u32 x2.1 256 (.int .u32 (x2.1.tmod 256)) trivial (fun _ => rfl) (bin_rem _ _ _ _ (by decide))), ⟨⟨rfl, trivial⟩, trivial, rfl⟩, rfl,
        Step.plain rfl (does_convInt 23 5 (.tmp 13) .u32 .u8 (x2.1.tmod 256) trivial rfl rfl), ⟨⟨rfl, trivial⟩, trivial, rfl⟩, rfl,
        Step.plain rfl (does_indexAddro 48 1 x2.2.2.length 10 0 (fun j => (.int .u8 (x2.2.2.getD j 0))) (.tmp 11) .i64 x2.2.1 el48 trivial h4.1 h4.2), ⟨⟨rfl, rfl, trivial⟩, ⟨rfl, trivial⟩, rfl⟩, rfl,
        Step.plain rfl (does_store 5 15 (.tmp 14) 0 (x2.2.1.toNat * 1) [x2.2.1.toNat] (.arr 1 x2.2.2.length fun j => (.int .u8 (x2.2.2.getD j 0))) (.arr 1 (x2.2.2.set x2.2.1.toNat (IntKind.u8.wrap ((x2.1.tmod 256)))).length fun j => (.int .u8 ((x2.2.2.set x2.2.1.toNat (IntKind.u8.wrap ((x2.1.tmod 256)))).getD j 0))) (.int .u8 (IntKind.u8.wrap ((x2.1.tmod 256)))) false trivial rfl ⟨(ixl h4), trivial⟩ rfl rfl (set_arr (fun z => V.int .u8 z) 0 _ (ixl h4) rfl) ty5), ⟨⟨rfl, rfl, trivial⟩, ⟨rfl, trivial⟩, rfl⟩, rfl, rfl⟩ ?_
      refine aw_cov (cov_prune (s1 := ⟨[(0, (.int .u32 x2.1)), (3, (.own 0)), (4, (.int .i64 x2.2.1))], [(0, some (.arr 1 (x2.2.2.set x2.2.1.toNat (IntKind.u8.wrap ((x2.1.tmod 256)))).length fun j => (.int .u8 ((x2.2.2.set x2.2.1.toNat (IntKind.u8.wrap ((x2.1.tmod 256)))).getD j 0))))], 1⟩) ⟨rfl, rfl, rfl, trivial⟩ ⟨rfl, trivial⟩ (Nat.le_refl _)) ?_
      refine aw_region1 (es := [_, _, _]) ⟨Step.plain rfl (does_move (.tmp 0) (.int .u32 x2.1) trivial), ⟨⟨rfl, trivial⟩, trivial, rfl⟩, rfl,
        Step.plain rfl (does_bin .quo 23 23 (.tmp 16) (.const (.int .u32 256)) .u32 x2.1 256 (.int .u32 (IntKind.u32.wrap (x2.1.tdiv 256))) trivial (fun _ => rfl) (bin_quo _ _ _ _ (by decide))), ⟨⟨rfl, trivial⟩, trivial, rfl⟩, rfl,
        Step.plain rfl (does_assign (.tmp 17) (.int .u32 (IntKind.u32.wrap (x2.1.tdiv 256))) trivial), ⟨⟨rfl, trivial⟩, trivial, rfl⟩, rfl, rfl⟩ ?_
      refine nx_blk ?_
      refine nx_seq ?_
      refine aw_cov (cov_prune (s1 := ⟨[(3, (.own 0)), (4, (.int .i64 x2.2.1)), (0, (.int .u32 (IntKind.u32.wrap (x2.1.tdiv 256))))], [(0, some (.arr 1 (x2.2.2.set x2.2.1.toNat (IntKind.u8.wrap ((x2.1.tmod 256)))).length fun j => (.int .u8 ((x2.2.2.set x2.2.1.toNat (IntKind.u8.wrap ((x2.1.tmod 256)))).getD j 0))))], 1⟩) ⟨rfl, rfl, rfl, trivial⟩ ⟨rfl, trivial⟩ (Nat.le_refl _)) ?_
      refine aw_region1 (es := [_, _, _]) ⟨Step.plain rfl (does_move (.tmp 4) (.int .i64 x2.2.1) trivial), ⟨⟨rfl, trivial⟩, trivial, rfl⟩, rfl,
        Step.plain rfl (does_bin .add 3 3 (.tmp 8) (.const (.int .i64 1)) .i64 x2.2.1 1 (.int .i64 (IntKind.i64.wrap (x2.2.1 + 1))) trivial (fun _ => rfl) (bin_add _ _ _ _)), ⟨⟨rfl, trivial⟩, trivial, rfl⟩, rfl,
        Step.plain rfl (does_assign (.tmp 9) (.int .i64 (IntKind.i64.wrap (x2.2.1 + 1))) trivial), ⟨⟨rfl, trivial⟩, trivial, rfl⟩, rfl, rfl⟩ ?_
      exact nx_loop ((IntKind.u32.wrap (x2.1.tdiv 256)), (IntKind.i64.wrap (x2.2.1 + 1)), x2.2.2.set x2.2.1.toNat (IntKind.u8.wrap ((x2.1.tmod 256)))) H (cov_prune ⟨rfl, rfl, rfl, trivial⟩ ⟨rfl, trivial⟩ (Nat.le_of_ble_eq_true rfl))
    · replace H := ite_f hc H
      refine aw_exit ?_
      refine ex_then ?_
      refine ex_then ?_
      refine ex_here ?_
      exact nx_ljoin (x2.2.2) H hsn3 (cov_prune ⟨rfl, trivial⟩ ⟨rfl, trivial⟩ (Nat.le_of_ble_eq_true rfl))

theorem congressref01_Turn_spec (p0 : ByteArray) (p1 : Int) (p2 : Int) (r : ByteArray) (H : congressref01_Turn p0 p1 p2 = some r) : FSpec Try.prog 23 [(.str p0), (.int .i64 p1), (.int .u32 p2)] (.str r) := by
  refine spec_of (fn := Try.f23) (args := [(.str p0), (.int .i64 p1), (.int .u32 p2)]) Try.func23 rfl (Nat.le_of_ble_eq_true rfl) ?_
  rintro ⟨G, w0, W, S, Sp⟩ hG
  cases hG
  unfold congressref01_Turn at H
  refine aw_region (es := [_]) ⟨Step.plain rfl (does_assign (.const (.string ByteArray.empty)) (.str ByteArray.empty) (fun _ => rfl)), ⟨trivial, trivial, rfl⟩, rfl, rfl⟩ ?_
  refine aw_cov (cov_prune (s1 := ⟨[(0, (.str p0)), (1, (.int .i64 p1)), (2, (.int .u32 p2))], [], 0⟩) ⟨rfl, rfl, rfl, trivial⟩ trivial (Nat.le_refl _)) ?_
  obtain ⟨h1, H⟩ := inb_of H
  refine aw_region (es := [_, _, _]) ⟨Step.plain rfl (does_move (.tmp 0) (.str p0) trivial), ⟨⟨rfl, trivial⟩, trivial, rfl⟩, rfl,
    Step.plain rfl (does_s2b 9 48 5 0 (.tmp 10) p0 trivial us9 us48 ui5 h1), ⟨⟨rfl, trivial⟩, trivial, rfl⟩, rfl,
    Step.plain rfl (does_assign (.tmp 11) (.own 0) trivial), ⟨⟨rfl, trivial⟩, trivial, rfl⟩, rfl, rfl⟩ ?_
  refine aw_cov (cov_prune (s1 := ⟨[(1, (.int .i64 p1)), (2, (.int .u32 p2)), (7, (.own 0))], [(0, some (.arr 1 (bytesOf p0).length fun j => (.int .u8 ((bytesOf p0).getD j 0))))], 1⟩) ⟨rfl, rfl, rfl, trivial⟩ ⟨rfl, trivial⟩ (Nat.le_refl _)) ?_
  obtain ⟨v2, h3, H⟩ := bnd H
  refine aw_region (es := [_, _, _]) ⟨Step.plain rfl (does_move (.tmp 2) (.int .u32 p2) trivial), ⟨⟨rfl, trivial⟩, trivial, rfl⟩, rfl,
    Step.plain rfl (does_call 26 0 (fun _ => .any) (.func 26) [(.tmp 12)] [(.int .u32 p2)] [] true [(.int .u32 p2)] (.str v2) _ _ rfl fo26 rfl ⟨trivial, trivial⟩ ⟨.data _ trivial, trivial⟩ (congressref01_Four_spec p2 _ h3) trivial), ⟨⟨rfl, trivial⟩, trivial, rfl⟩, rfl,
    Step.plain rfl (does_assign (.tmp 13) (.str v2) trivial), ⟨⟨rfl, trivial⟩, trivial, rfl⟩, rfl, rfl⟩ ?_
  refine aw_cov (cov_prune (s1 := ⟨[(1, (.int .i64 p1)), (7, (.own 0)), (8, (.str v2))], [(0, some (.arr 1 (bytesOf p0).length fun j => (.int .u8 ((bytesOf p0).getD j 0))))], 1⟩) ⟨rfl, rfl, rfl, trivial⟩ ⟨rfl, trivial⟩ (Nat.le_refl _)) ?_
  refine aw_seq ?_
  refine aw_region (es := [_]) ⟨Step.plain rfl (does_assign (.const (.int .i64 0)) (.int .i64 0) (fun _ => rfl)), ⟨trivial, trivial, rfl⟩, rfl, rfl⟩ ?_
  refine aw_cov (cov_prune (s1 := ⟨[(1, (.int .i64 p1)), (7, (.own 0)), (8, (.str v2)), (9, (.int .i64 0))], [(0, some (.arr 1 (bytesOf p0).length fun j => (.int .u8 ((bytesOf p0).getD j 0))))], 1⟩) ⟨rfl, rfl, rfl, rfl, trivial⟩ ⟨rfl, trivial⟩ (Nat.le_refl _)) ?_
  obtain ⟨wn5, hwn5, Hrn5⟩ := bnd H
  refine aw_meet (fun y12 : _root_.List Int => (⟨[(7, (.own 0))], [(0, some (.arr 1 y12.length fun j => (.int .u8 (y12.getD j 0))))], 1⟩ : St)) (fun y12 => Fl.nx y12 = wn5) (fun y12 hy => ?_) (aw_block (aw_runs (fun x4 : Int × _root_.List Int => (⟨[(1, (.int .i64 p1)), (7, (.own 0)), (8, (.str v2)), (9, (.int .i64 x4.1))], [(0, some (.arr 1 x4.2.length fun j => (.int .u8 (x4.2.getD j 0))))], 1⟩ : St)) hwn5 (cov_prune ⟨rfl, rfl, rfl, rfl, trivial⟩ ⟨rfl, trivial⟩ (Nat.le_of_ble_eq_true rfl)) (fun x4 st H hsn5 => ?_)))
  · have H := nx_of hy Hrn5
    refine nx_seq ?_
    refine aw_region (es := [_, _, _]) ⟨Step.plain rfl (does_move (.tmp 7) (.own 0) trivial), ⟨⟨rfl, trivial⟩, trivial, rfl⟩, rfl,
      Step.plain rfl (does_b2so 48 9 5 43 0 y12 us48 ui5 us9), ⟨⟨rfl, trivial⟩, ⟨rfl, trivial⟩, rfl⟩, rfl,
      Step.plain rfl (does_assign (.tmp 44) (.str (strOf y12)) trivial), ⟨⟨rfl, trivial⟩, trivial, rfl⟩, rfl, rfl⟩ ?_
    refine aw_cov (cov_prune (s1 := ⟨[(6, (.str (strOf y12)))], [], 1⟩) ⟨rfl, trivial⟩ trivial (Nat.le_refl _)) ?_
    refine aw_ret ?_
    exact fun a w hr => ⟨_, [(.str (strOf y12))], hr, ⟨⟨_, rfl, .data (.str (strOf y12)) trivial⟩, trivial⟩, by decide, by cases H; rfl⟩
  · refine aw_seq ?_
    refine aw_region (es := [_, _]) ⟨Step.plain rfl (does_move (.tmp 9) (.int .i64 x4.1) trivial), ⟨⟨rfl, trivial⟩, trivial, rfl⟩, rfl,
      Step.plain rfl (does_bin .lss 3 3 (.tmp 14) (.const (.int .i64 4)) .i64 x4.1 4 (.bool (decide (x4.1 < 4))) trivial (fun _ => rfl) (bin_lss _ _ _ _)), ⟨⟨rfl, trivial⟩, trivial, rfl⟩, rfl, rfl⟩ ?_
    refine aw_cov (cov_prune (s1 := ⟨[(1, (.int .i64 p1)), (7, (.own 0)), (8, (.str v2)), (9, (.int .i64 x4.1)), (15, (.bool (decide (x4.1 < 4))))], [(0, some (.arr 1 x4.2.length fun j => (.int .u8 (x4.2.getD j 0))))], 1⟩) ⟨rfl, rfl, rfl, rfl, rfl, trivial⟩ ⟨rfl, trivial⟩ (Nat.le_refl _)) ?_
    refine aw_cond rfl (fun hc => ?_) (fun hc => ?_)
    · replace H := ite_t hc H
      refine aw_skip ?_
      refine nx_seq ?_
      refine aw_seq ?_
      refine aw_jn (fun x11 : _root_.List Int => (⟨[(1, (.int .i64 p1)), (7, (.own 0)), (8, (.str v2)), (9, (.int .i64 x4.1))], [(0, some (.arr 1 x11.length fun j => (.int .u8 (x11.getD j 0))))], 1⟩ : St)) H (fun x11 H => ?_) (fun j6 H => ?_)
      · refine nx_seq ?_
        refine aw_region1 (es := [_, _, _]) ⟨Step.plain rfl (does_move (.tmp 9) (.int .i64 x4.1) trivial), ⟨⟨rfl, trivial⟩, trivial, rfl⟩, rfl,
          Step.plain rfl (does_bin .add 3 3 (.tmp 16) (.const (.int .i64 1)) .i64 x4.1 1 (.int .i64 (IntKind.i64.wrap (x4.1 + 1))) trivial (fun _ => rfl) (bin_add _ _ _ _)), ⟨⟨rfl, trivial⟩, trivial, rfl⟩, rfl,
          Step.plain rfl (does_assign (.tmp 17) (.int .i64 (IntKind.i64.wrap (x4.1 + 1))) trivial), ⟨⟨rfl, trivial⟩, trivial, rfl⟩, rfl, rfl⟩ ?_
        exact nx_loop ((IntKind.i64.wrap (x4.1 + 1)), x11) H (cov_prune ⟨rfl, rfl, rfl, rfl, trivial⟩ ⟨rfl, trivial⟩ (Nat.le_of_ble_eq_true rfl))
      · refine aw_block ?_
        refine aw_region (es := [_, _, _, _, _, _, _, _, _, _]) ⟨Step.plain rfl (does_move (.tmp 1) (.int .i64 p1) trivial), ⟨⟨rfl, trivial⟩, trivial, rfl⟩, rfl,
          Step.plain rfl (does_bin .geq 3 3 (.tmp 18) (.const (.int .i64 0)) .i64 p1 0 (.bool (decide (p1 ≥ 0))) trivial (fun _ => rfl) (bin_geq _ _ _ _)), ⟨⟨rfl, trivial⟩, trivial, rfl⟩, rfl,
          Step.plain rfl (does_move (.tmp 19) (.bool (decide (p1 ≥ 0))) trivial), ⟨⟨rfl, trivial⟩, trivial, rfl⟩, rfl,
          Step.guarded rfl rfl rfl rfl (fun hc => does_move (.tmp 1) (.int .i64 p1) trivial), ⟨⟨rfl, rfl, trivial⟩, trivial, rfl⟩, rfl,
          Step.guarded rfl rfl rfl rfl (fun hc => does_move (.tmp 7) (.own 0) trivial), ⟨⟨rfl, rfl, trivial⟩, trivial, rfl⟩, rfl,
          Step.guarded rfl rfl rfl rfl (fun hc => Does.strip (n' := [(22, (.opt (decide (p1 ≥ 0)) (.own 0)))]) (n := [(22, (.own 0))]) ⟨(.opt _ _ hc), trivial⟩ (does_leno 48 1 x4.2.length 22 0 (fun j => (.int .u8 (x4.2.getD j 0))) el48)), ⟨⟨rfl, rfl, trivial⟩, ⟨rfl, trivial⟩, rfl⟩, rfl,
          Step.guarded rfl rfl rfl rfl (fun hc => does_move (.tmp 9) (.int .i64 x4.1) trivial), ⟨⟨rfl, rfl, trivial⟩, trivial, rfl⟩, rfl,
          Step.guarded rfl rfl rfl rfl (fun hc => Does.strip (n' := [(23, (.opt (decide (p1 ≥ 0)) (.int .i64 (x4.2.length : Int)))), (24, (.opt (decide (p1 ≥ 0)) (.int .i64 x4.1)))]) (n := [(23, (.int .i64 (x4.2.length : Int))), (24, (.int .i64 x4.1))]) ⟨(.opt _ _ hc), (.opt _ _ hc), trivial⟩ (does_bin .sub 3 3 (.tmp 23) (.tmp 24) .i64 (x4.2.length : Int) x4.1 (.int .i64 (IntKind.i64.wrap ((x4.2.length : Int) - x4.1))) trivial trivial (bin_sub _ _ _ _))), ⟨⟨rfl, rfl, rfl, trivial⟩, trivial, rfl⟩, rfl,
          Step.guarded rfl rfl rfl rfl (fun hc => Does.strip (n' := [(21, (.opt (decide (p1 ≥ 0)) (.int .i64 p1))), (25, (.opt (decide (p1 ≥ 0)) (.int .i64 (IntKind.i64.wrap ((x4.2.length : Int) - x4.1)))))]) (n := [(21, (.int .i64 p1)), (25, (.int .i64 (IntKind.i64.wrap ((x4.2.length : Int) - x4.1))))]) ⟨(.opt _ _ hc), (.opt _ _ hc), trivial⟩ (does_bin .lss 3 3 (.tmp 21) (.tmp 25) .i64 p1 (IntKind.i64.wrap ((x4.2.length : Int) - x4.1)) (.bool (decide (p1 < (IntKind.i64.wrap ((x4.2.length : Int) - x4.1))))) trivial trivial (bin_lss _ _ _ _))), ⟨⟨rfl, rfl, rfl, trivial⟩, trivial, rfl⟩, rfl,
          Step.plain rfl (does_and 20 26 (decide (p1 ≥ 0)) (decide (p1 < (IntKind.i64.wrap ((x4.2.length : Int) - x4.1))))), ⟨⟨rfl, rfl, trivial⟩, trivial, rfl⟩, rfl, rfl⟩ ?_
        obtain ⟨v7, hv7, H⟩ := lt_of H
        refine aw_cov (cov_prune (s1 := ⟨[(1, (.int .i64 p1)), (7, (.own 0)), (8, (.str v2)), (9, (.int .i64 x4.1)), (27, (.bool v7))], [(0, some (.arr 1 x4.2.length fun j => (.int .u8 (x4.2.getD j 0))))], 1⟩) ⟨rfl, rfl, rfl, rfl, (by subst hv7; rfl), trivial⟩ ⟨rfl, trivial⟩ (Nat.le_refl _)) ?_
        refine aw_cond rfl (fun hc => ?_) (fun hc => ?_)
        · replace H := ite_t hc H
          obtain ⟨h8, H⟩ := ib_of H
          obtain ⟨h9, H⟩ := ib_of H
          obtain ⟨h10, H⟩ := ib_of H
          refine aw_draw1 (es := [_, _, _, _, _, _, _, _, _, _, _, _, _, _, _, _]) (mixed) ⟨Step.plain rfl (does_move (.tmp 7) (.own 0) trivial), ⟨⟨rfl, trivial⟩, trivial, rfl⟩, rfl,
            Step.plain rfl (does_move (.tmp 1) (.int .i64 p1) trivial), ⟨⟨rfl, trivial⟩, trivial, rfl⟩, rfl,
            Step.plain rfl (does_move (.tmp 9) (.int .i64 x4.1) trivial), ⟨⟨rfl, trivial⟩, trivial, rfl⟩, rfl,
            Step.plain rfl (does_bin .add 3 3 (.tmp 29) (.tmp 30) .i64 p1 x4.1 (.int .i64 (IntKind.i64.wrap (p1 + x4.1))) trivial trivial (bin_add _ _ _ _)), ⟨⟨rfl, rfl, trivial⟩, trivial, rfl⟩, rfl,
            Step.plain rfl (does_move (.tmp 7) (.own 0) trivial), ⟨⟨rfl, trivial⟩, trivial, rfl⟩, rfl,
            Step.plain rfl (does_move (.tmp 1) (.int .i64 p1) trivial), ⟨⟨rfl, trivial⟩, trivial, rfl⟩, rfl,
            Step.plain rfl (does_move (.tmp 9) (.int .i64 x4.1) trivial), ⟨⟨rfl, trivial⟩, trivial, rfl⟩, rfl,
            Step.plain rfl (does_bin .add 3 3 (.tmp 33) (.tmp 34) .i64 p1 x4.1 (.int .i64 (IntKind.i64.wrap (p1 + x4.1))) trivial trivial (bin_add _ _ _ _)), ⟨⟨rfl, rfl, trivial⟩, trivial, rfl⟩, rfl,
            Step.plain rfl (does_indexAddro 48 1 x4.2.length 32 0 (fun j => (.int .u8 (x4.2.getD j 0))) (.tmp 35) .i64 (IntKind.i64.wrap (p1 + x4.1)) el48 trivial h8.1 h8.2), ⟨⟨rfl, rfl, trivial⟩, ⟨rfl, trivial⟩, rfl⟩, rfl,
            Step.plain rfl (does_load 5 36 0 ((IntKind.i64.wrap (p1 + x4.1)).toNat * 1) [(IntKind.i64.wrap (p1 + x4.1)).toNat] (.arr 1 x4.2.length fun j => (.int .u8 (x4.2.getD j 0))) (.int .u8 (x4.2.getD ((IntKind.i64.wrap (p1 + x4.1)).toNat) 0)) ⟨(ixl h8), trivial⟩ rfl rfl ty5), ⟨⟨rfl, trivial⟩, ⟨rfl, trivial⟩, rfl⟩, rfl,
            Step.plain rfl (does_move (.tmp 8) (.str v2) trivial), ⟨⟨rfl, trivial⟩, trivial, rfl⟩, rfl,
            Step.plain rfl (does_move (.tmp 9) (.int .i64 x4.1) trivial), ⟨⟨rfl, trivial⟩, trivial, rfl⟩, rfl,
            Step.plain rfl (does_indexStr 9 (.tmp 38) (.tmp 39) v2 .i64 x4.1 us9 trivial trivial h9.1 h9.2), ⟨⟨rfl, rfl, trivial⟩, trivial, rfl⟩, rfl,
            Step.plain rfl (does_bin .xor 5 5 (.tmp 37) (.tmp 40) .u8 (x4.2.getD ((IntKind.i64.wrap (p1 + x4.1)).toNat) 0) ((bytesOf v2).getD x4.1.toNat 0) (.int .u8 (ixor .u8 (x4.2.getD ((IntKind.i64.wrap (p1 + x4.1)).toNat) 0) ((bytesOf v2).getD x4.1.toNat 0))) trivial trivial (bin_xor _ _ _ _)), ⟨⟨rfl, rfl, trivial⟩, trivial, rfl⟩, rfl,
            Step.plain rfl (does_indexAddro 48 1 x4.2.length 28 0 (fun j => (.int .u8 (x4.2.getD j 0))) (.tmp 31) .i64 (IntKind.i64.wrap (p1 + x4.1)) el48 trivial h10.1 h10.2), ⟨⟨rfl, rfl, trivial⟩, ⟨rfl, trivial⟩, rfl⟩, rfl,
            Step.plain rfl (does_store 5 42 (.tmp 41) 0 ((IntKind.i64.wrap (p1 + x4.1)).toNat * 1) [(IntKind.i64.wrap (p1 + x4.1)).toNat] (.arr 1 x4.2.length fun j => (.int .u8 (x4.2.getD j 0))) (.arr 1 (x4.2.set ((IntKind.i64.wrap (p1 + x4.1)).toNat) (ixor .u8 (x4.2.getD ((IntKind.i64.wrap (p1 + x4.1)).toNat) 0) ((bytesOf v2).getD x4.1.toNat 0))).length fun j => (.int .u8 ((x4.2.set ((IntKind.i64.wrap (p1 + x4.1)).toNat) (ixor .u8 (x4.2.getD ((IntKind.i64.wrap (p1 + x4.1)).toNat) 0) ((bytesOf v2).getD x4.1.toNat 0))).getD j 0))) (.int .u8 (ixor .u8 (x4.2.getD ((IntKind.i64.wrap (p1 + x4.1)).toNat) 0) ((bytesOf v2).getD x4.1.toNat 0))) false trivial rfl ⟨(ixl h10), trivial⟩ rfl rfl (set_arr (fun z => V.int .u8 z) 0 _ (ixl h10) rfl) ty5), ⟨⟨rfl, rfl, trivial⟩, ⟨rfl, trivial⟩, rfl⟩, rfl, rfl⟩ rfl ?_
          refine nx_blk ?_
          exact nx_join (x4.2.set ((IntKind.i64.wrap (p1 + x4.1)).toNat) (ixor .u8 (x4.2.getD ((IntKind.i64.wrap (p1 + x4.1)).toNat) 0) ((bytesOf v2).getD x4.1.toNat 0))) H (cov_prune ⟨rfl, rfl, rfl, rfl, trivial⟩ ⟨rfl, trivial⟩ (Nat.le_of_ble_eq_true rfl))
        · replace H := ite_f hc H
          refine aw_skip ?_
          refine nx_blk ?_
          exact nx_join (x4.2) H (cov_prune ⟨rfl, rfl, rfl, rfl, trivial⟩ ⟨rfl, trivial⟩ (Nat.le_of_ble_eq_true rfl))
    · replace H := ite_f hc H
      refine aw_exit ?_
      refine ex_then ?_
      refine ex_then ?_
      refine ex_here ?_
      exact nx_ljoin (x4.2) H hsn5 (cov_prune ⟨rfl, trivial⟩ ⟨rfl, trivial⟩ (Nat.le_of_ble_eq_true rfl))

theorem congressref14_Turn_spec (p0 : (_root_.List api_Letter)) (p1 : Int) (p2 : Int) (p3 : Int) (p4 : Int) (p5 : Int) (r : (_root_.List api_Letter)) (H : congressref14_Turn p0 p1 p2 p3 p4 p5 = some r) : FSpecO Try.prog 14 [(e_s_api_Letter p0), (.int .i64 p1), (.int .i64 p2), (.int .i64 p3), (.int .i64 p4), (.int .u32 p5)] [] 0 (.own 0) [(0, some (.arr 4 r.length fun j => (e_api_Letter (r.getD j z_api_Letter))))] 1 := by
  refine specO_of (fn := Try.f14) (args := [(e_s_api_Letter p0), (.int .i64 p1), (.int .i64 p2), (.int .i64 p3), (.int .i64 p4), (.int .u32 p5)]) Try.func14 rfl (Nat.le_of_ble_eq_true rfl) ?_
  rintro ⟨G, w0, W, S, Sp⟩ hG
  cases hG
  unfold congressref14_Turn at H
  refine aw_region (es := [_]) ⟨Step.plain rfl (does_nil false 0 4 (fun j => (e_api_Letter (([] : _root_.List api_Letter).getD j z_api_Letter)))), ⟨trivial, trivial, rfl⟩, rfl, rfl⟩ ?_
  refine aw_cov (cov_prune (s1 := ⟨[(0, (e_s_api_Letter p0)), (1, (.int .i64 p1)), (2, (.int .i64 p2)), (3, (.int .i64 p3)), (4, (.int .i64 p4)), (5, (.int .u32 p5))], [], 1⟩) ⟨rfl, rfl, rfl, rfl, rfl, rfl, trivial⟩ trivial (Nat.le_refl _)) ?_
  obtain ⟨h1, H⟩ := fit_of H
  refine aw_region (es := [_, _, _, _]) ⟨Step.plain rfl (does_buildOwn 22 0 4 1 (e_api_Letter z_api_Letter) (fun j => (e_api_Letter (([] : _root_.List api_Letter).getD j z_api_Letter))) #[] [] [] rfl so22 (by decide) trivial trivial (fun j h => match j, h with  | k + 0, h => absurd h (by omega))), ⟨trivial, trivial, rfl⟩, rfl,
    Step.plain rfl (does_move (.tmp 0) (e_s_api_Letter p0) trivial), ⟨⟨rfl, trivial⟩, trivial, rfl⟩, rfl,
    Step.plain rfl (does_appendL e_api_Letter z_api_Letter ([] : _root_.List api_Letter) p0 22 4 40 1 2 16 17 ap22 h1), ⟨⟨rfl, rfl, trivial⟩, ⟨rfl, trivial⟩, rfl⟩, rfl,
    Step.plain rfl (does_assign (.tmp 18) (.own 2) trivial), ⟨⟨rfl, trivial⟩, trivial, rfl⟩, rfl, rfl⟩ ?_
  refine aw_cov (cov_prune (s1 := ⟨[(0, (e_s_api_Letter p0)), (1, (.int .i64 p1)), (2, (.int .i64 p2)), (3, (.int .i64 p3)), (4, (.int .i64 p4)), (5, (.int .u32 p5)), (13, (.own 2))], [(2, some (.arr 4 (([] : _root_.List api_Letter) ++ p0).length fun j => (e_api_Letter ((([] : _root_.List api_Letter) ++ p0).getD j z_api_Letter))))], 3⟩) ⟨rfl, rfl, rfl, rfl, rfl, rfl, rfl, trivial⟩ ⟨rfl, trivial⟩ (Nat.le_refl _)) ?_
  obtain ⟨v2, h3, H⟩ := bnd H
  refine aw_region (es := [_, _, _, _, _, _, _, _, _, _]) ⟨Step.plain rfl (does_move (.tmp 0) (e_s_api_Letter p0) trivial), ⟨⟨rfl, trivial⟩, trivial, rfl⟩, rfl,
    Step.plain rfl (does_move (.tmp 1) (.int .i64 p1) trivial), ⟨⟨rfl, trivial⟩, trivial, rfl⟩, rfl,
    Step.plain rfl (does_move (.tmp 2) (.int .i64 p2) trivial), ⟨⟨rfl, trivial⟩, trivial, rfl⟩, rfl,
    Step.plain rfl (does_move (.tmp 3) (.int .i64 p3) trivial), ⟨⟨rfl, trivial⟩, trivial, rfl⟩, rfl,
    Step.plain rfl (does_call 11 0 (fun _ => .any) (.func 11) [(.tmp 20), (.tmp 21), (.tmp 22), (.tmp 23)] [(e_s_api_Letter p0), (.int .i64 p1), (.int .i64 p2), (.int .i64 p3)] [] true [(e_s_api_Letter p0), (.int .i64 p1), (.int .i64 p2), (.int .i64 p3)] (resV [(.int .i64 v2.1), (.bool v2.2)]) _ _ rfl fo11 rfl ⟨trivial, trivial, trivial, trivial, trivial⟩ ⟨.data _ (d_s_api_Letter p0), .data _ trivial, .data _ trivial, .data _ trivial, trivial⟩ (congressref14_Find_spec p0 p1 p2 p3 _ h3) (res_flat2 trivial trivial)), ⟨⟨rfl, rfl, rfl, rfl, trivial⟩, trivial, rfl⟩, rfl,
    Step.plain rfl (does_move (.tmp 24) (resV [(.int .i64 v2.1), (.bool v2.2)]) trivial), ⟨⟨rfl, trivial⟩, trivial, rfl⟩, rfl,
    Step.plain rfl (does_extract 19 0 2 (fun j => [(.int .i64 v2.1), (.bool v2.2)].getD j (.bool false)) (Nat.le_of_ble_eq_true rfl)), ⟨⟨rfl, trivial⟩, trivial, rfl⟩, rfl,
    Step.plain rfl (does_extract 19 1 2 (fun j => [(.int .i64 v2.1), (.bool v2.2)].getD j (.bool false)) (Nat.le_of_ble_eq_true rfl)), ⟨⟨rfl, trivial⟩, trivial, rfl⟩, rfl,
    Step.plain rfl (does_assign (.tmp 25) (.int .i64 v2.1) trivial), ⟨⟨rfl, trivial⟩, trivial, rfl⟩, rfl,
    Step.plain rfl (does_assign (.tmp 26) (.bool v2.2) trivial), ⟨⟨rfl, trivial⟩, trivial, rfl⟩, rfl, rfl⟩ ?_
  refine aw_cov (cov_prune (s1 := ⟨[(0, (e_s_api_Letter p0)), (4, (.int .i64 p4)), (5, (.int .u32 p5)), (13, (.own 2)), (14, (.int .i64 v2.1)), (15, (.bool v2.2))], [(2, some (.arr 4 (([] : _root_.List api_Letter) ++ p0).length fun j => (e_api_Letter ((([] : _root_.List api_Letter) ++ p0).getD j z_api_Letter))))], 3⟩) ⟨rfl, rfl, rfl, rfl, rfl, rfl, trivial⟩ ⟨rfl, trivial⟩ (Nat.le_refl _)) ?_
  refine aw_seq ?_
  obtain ⟨h4, H⟩ := ibg_of H
  refine aw_region (es := [_, _, _, _, _, _, _, _, _]) ⟨Step.plain rfl (does_move (.tmp 15) (.bool v2.2) trivial), ⟨⟨rfl, trivial⟩, trivial, rfl⟩, rfl,
    Step.plain rfl (does_move (.tmp 27) (.bool v2.2) trivial), ⟨⟨rfl, trivial⟩, trivial, rfl⟩, rfl,
    Step.guarded rfl rfl rfl rfl (fun hc => does_move (.tmp 13) (.own 2) trivial), ⟨⟨rfl, rfl, trivial⟩, trivial, rfl⟩, rfl,
    Step.guarded rfl rfl rfl rfl (fun hc => does_move (.tmp 14) (.int .i64 v2.1) trivial), ⟨⟨rfl, rfl, trivial⟩, trivial, rfl⟩, rfl,
    Step.guarded rfl rfl rfl rfl (fun hc => Does.strip (n' := [(29, (.opt v2.2 (.own 2))), (30, (.opt v2.2 (.int .i64 v2.1)))]) (n := [(29, (.own 2)), (30, (.int .i64 v2.1))]) ⟨(.opt _ _ hc), (.opt _ _ hc), trivial⟩ (does_indexAddro 22 4 (([] : _root_.List api_Letter) ++ p0).length 29 2 (fun j => (e_api_Letter ((([] : _root_.List api_Letter) ++ p0).getD j z_api_Letter))) (.tmp 30) .i64 v2.1 el22 trivial (h4 hc).1 (h4 hc).2)), ⟨⟨rfl, rfl, rfl, trivial⟩, ⟨rfl, trivial⟩, rfl⟩, rfl,
    Step.guarded rfl rfl rfl rfl (fun hc => Does.strip (n' := [(31, (.opt v2.2 (.ptr 2 (v2.1.toNat * 4) [v2.1.toNat])))]) (n := [(31, (.ptr 2 (v2.1.toNat * 4) [v2.1.toNat]))]) ⟨(.opt _ _ hc), trivial⟩ (does_fieldAddr 27 3 3 31 2 (v2.1.toNat * 4) [v2.1.toNat] (.arr 4 (([] : _root_.List api_Letter) ++ p0).length fun j => (e_api_Letter ((([] : _root_.List api_Letter) ++ p0).getD j z_api_Letter))) fl27_3)), ⟨⟨rfl, rfl, trivial⟩, ⟨rfl, trivial⟩, rfl⟩, rfl,
    Step.guarded rfl rfl rfl rfl (fun hc => Does.strip (n' := [(32, (.opt v2.2 (.ptr 2 ((v2.1.toNat * 4) + 3) [v2.1.toNat, 3])))]) (n := [(32, (.ptr 2 ((v2.1.toNat * 4) + 3) [v2.1.toNat, 3]))]) ⟨(.opt _ _ hc), trivial⟩ (does_load 4 32 2 ((v2.1.toNat * 4) + 3) [v2.1.toNat, 3] (.arr 4 (([] : _root_.List api_Letter) ++ p0).length fun j => (e_api_Letter ((([] : _root_.List api_Letter) ++ p0).getD j z_api_Letter))) (.bool (((([] : _root_.List api_Letter) ++ p0).getD v2.1.toNat z_api_Letter).Turned)) ⟨(ixl (h4 hc)), ⟨rfl, Nat.le_of_ble_eq_true rfl, trivial⟩⟩ rfl rfl ty4)), ⟨⟨rfl, rfl, trivial⟩, ⟨rfl, trivial⟩, rfl⟩, rfl,
    Step.guarded rfl rfl rfl rfl (fun hc => Does.strip (n' := [(33, (.opt v2.2 (.bool (((([] : _root_.List api_Letter) ++ p0).getD v2.1.toNat z_api_Letter).Turned))))]) (n := [(33, (.bool (((([] : _root_.List api_Letter) ++ p0).getD v2.1.toNat z_api_Letter).Turned)))]) ⟨(.opt _ _ hc), trivial⟩ (does_not 4 (.tmp 33) (((([] : _root_.List api_Letter) ++ p0).getD v2.1.toNat z_api_Letter).Turned) trivial)), ⟨⟨rfl, rfl, trivial⟩, trivial, rfl⟩, rfl,
    Step.plain rfl (does_and 28 34 v2.2 (!(((([] : _root_.List api_Letter) ++ p0).getD v2.1.toNat z_api_Letter).Turned))), ⟨⟨rfl, rfl, trivial⟩, trivial, rfl⟩, rfl, rfl⟩ ?_
  obtain ⟨v5, hv5, H⟩ := lt_of H
  refine aw_cov (cov_prune (s1 := ⟨[(0, (e_s_api_Letter p0)), (4, (.int .i64 p4)), (5, (.int .u32 p5)), (13, (.own 2)), (14, (.int .i64 v2.1)), (35, (.bool v5))], [(2, some (.arr 4 (([] : _root_.List api_Letter) ++ p0).length fun j => (e_api_Letter ((([] : _root_.List api_Letter) ++ p0).getD j z_api_Letter))))], 3⟩) ⟨rfl, rfl, rfl, rfl, rfl, (by subst hv5; rfl), trivial⟩ ⟨rfl, trivial⟩ (Nat.le_refl _)) ?_
  refine aw_jn (fun x15 : _root_.List api_Letter => (⟨[(13, (.own 2))], [(2, some (.arr 4 x15.length fun j => (e_api_Letter (x15.getD j z_api_Letter))))], 3⟩ : St)) H (fun x15 H => ?_) (fun j6 H => ?_)
  · refine nx_seq ?_
    refine aw_region (es := [_, _]) ⟨Step.plain rfl (does_move (.tmp 13) (.own 2) trivial), ⟨⟨rfl, trivial⟩, trivial, rfl⟩, rfl,
      Step.plain rfl (does_assign (.tmp 63) (.own 2) trivial), ⟨⟨rfl, trivial⟩, trivial, rfl⟩, rfl, rfl⟩ ?_
    refine aw_cov (cov_prune (s1 := ⟨[(12, (.own 2))], [(2, some (.arr 4 x15.length fun j => (e_api_Letter (x15.getD j z_api_Letter))))], 3⟩) ⟨rfl, trivial⟩ ⟨rfl, trivial⟩ (Nat.le_refl _)) ?_
    refine aw_ret ?_
    exact fun a w hr => ⟨_, [(.own 0)], reach_of hr (cov_to (s1 := ⟨[(12, (.own 0))], [(0, some (.arr 4 x15.length fun j => (e_api_Letter (x15.getD j z_api_Letter))))], 1⟩) (fun i => match i with | 0 => 2 | k => k) [] ⟨⟨_, rfl, .own 0 _ _ (Nat.le_of_ble_eq_true rfl) rfl rfl (Box.like_refl _)⟩, trivial⟩ ⟨⟨Nat.le_of_ble_eq_true rfl, _, _, rfl, rfl, boxTo_arr (fun _ => (d_api_Letter _))⟩, trivial⟩ rfl rfl), ⟨rfl, trivial⟩, by decide, by cases H; rfl, by cases H; exact ⟨rfl, trivial⟩, Nat.le_of_ble_eq_true rfl⟩
  · refine aw_cond rfl (fun hc => ?_) (fun hc => ?_)
    · replace H := ite_t hc H
      obtain ⟨h7, H⟩ := ib_of H
      obtain ⟨v8, h9, H⟩ := bnd H
      obtain ⟨h10, H⟩ := ib_of H
      refine aw_region (es := [_, _, _, _, _, _, _, _, _, _, _, _, _]) ⟨Step.plain rfl (does_move (.tmp 13) (.own 2) trivial), ⟨⟨rfl, trivial⟩, trivial, rfl⟩, rfl,
        Step.plain rfl (does_move (.tmp 14) (.int .i64 v2.1) trivial), ⟨⟨rfl, trivial⟩, trivial, rfl⟩, rfl,
        Step.plain rfl (does_move (.tmp 13) (.own 2) trivial), ⟨⟨rfl, trivial⟩, trivial, rfl⟩, rfl,
        Step.plain rfl (does_move (.tmp 14) (.int .i64 v2.1) trivial), ⟨⟨rfl, trivial⟩, trivial, rfl⟩, rfl,
        Step.plain rfl (does_indexAddro 22 4 (([] : _root_.List api_Letter) ++ p0).length 38 2 (fun j => (e_api_Letter ((([] : _root_.List api_Letter) ++ p0).getD j z_api_Letter))) (.tmp 39) .i64 v2.1 el22 trivial h7.1 h7.2), ⟨⟨rfl, rfl, trivial⟩, ⟨rfl, trivial⟩, rfl⟩, rfl,
        Step.plain rfl (does_fieldAddr 27 2 2 40 2 (v2.1.toNat * 4) [v2.1.toNat] (.arr 4 (([] : _root_.List api_Letter) ++ p0).length fun j => (e_api_Letter ((([] : _root_.List api_Letter) ++ p0).getD j z_api_Letter))) fl27_2), ⟨⟨rfl, trivial⟩, ⟨rfl, trivial⟩, rfl⟩, rfl,
        Step.plain rfl (does_load 9 41 2 ((v2.1.toNat * 4) + 2) [v2.1.toNat, 2] (.arr 4 (([] : _root_.List api_Letter) ++ p0).length fun j => (e_api_Letter ((([] : _root_.List api_Letter) ++ p0).getD j z_api_Letter))) (.str (((([] : _root_.List api_Letter) ++ p0).getD v2.1.toNat z_api_Letter).Text)) ⟨(ixl h7), ⟨rfl, Nat.le_of_ble_eq_true rfl, trivial⟩⟩ rfl rfl ty9), ⟨⟨rfl, trivial⟩, ⟨rfl, trivial⟩, rfl⟩, rfl,
        Step.plain rfl (does_move (.tmp 4) (.int .i64 p4) trivial), ⟨⟨rfl, trivial⟩, trivial, rfl⟩, rfl,
        Step.plain rfl (does_move (.tmp 5) (.int .u32 p5) trivial), ⟨⟨rfl, trivial⟩, trivial, rfl⟩, rfl,
        Step.plain rfl (does_call 23 0 (fun _ => .any) (.func 23) [(.tmp 42), (.tmp 43), (.tmp 44)] [(.str (((([] : _root_.List api_Letter) ++ p0).getD v2.1.toNat z_api_Letter).Text)), (.int .i64 p4), (.int .u32 p5)] [] true [(.str (((([] : _root_.List api_Letter) ++ p0).getD v2.1.toNat z_api_Letter).Text)), (.int .i64 p4), (.int .u32 p5)] (.str v8) _ _ rfl fo23 rfl ⟨trivial, trivial, trivial, trivial⟩ ⟨.data _ trivial, .data _ trivial, .data _ trivial, trivial⟩ (congressref01_Turn_spec (((([] : _root_.List api_Letter) ++ p0).getD v2.1.toNat z_api_Letter).Text) p4 p5 _ h9) trivial), ⟨⟨rfl, rfl, rfl, trivial⟩, trivial, rfl⟩, rfl,
        Step.plain rfl (does_indexAddro 22 4 (([] : _root_.List api_Letter) ++ p0).length 36 2 (fun j => (e_api_Letter ((([] : _root_.List api_Letter) ++ p0).getD j z_api_Letter))) (.tmp 37) .i64 v2.1 el22 trivial h10.1 h10.2), ⟨⟨rfl, rfl, trivial⟩, ⟨rfl, trivial⟩, rfl⟩, rfl,
        Step.plain rfl (does_fieldAddr 27 2 2 46 2 (v2.1.toNat * 4) [v2.1.toNat] (.arr 4 (([] : _root_.List api_Letter) ++ p0).length fun j => (e_api_Letter ((([] : _root_.List api_Letter) ++ p0).getD j z_api_Letter))) fl27_2), ⟨⟨rfl, trivial⟩, ⟨rfl, trivial⟩, rfl⟩, rfl,
        Step.plain rfl (does_store 9 47 (.tmp 45) 2 ((v2.1.toNat * 4) + 2) [v2.1.toNat, 2] (.arr 4 (([] : _root_.List api_Letter) ++ p0).length fun j => (e_api_Letter ((([] : _root_.List api_Letter) ++ p0).getD j z_api_Letter))) (.arr 4 ((([] : _root_.List api_Letter) ++ p0).set v2.1.toNat ({ (([] : _root_.List api_Letter) ++ p0).getD v2.1.toNat z_api_Letter with Text := v8 })).length fun j => (e_api_Letter (((([] : _root_.List api_Letter) ++ p0).set v2.1.toNat ({ (([] : _root_.List api_Letter) ++ p0).getD v2.1.toNat z_api_Letter with Text := v8 })).getD j z_api_Letter))) (.str v8) false trivial rfl ⟨(ixl h10), ⟨rfl, Nat.le_of_ble_eq_true rfl, trivial⟩⟩ rfl rfl (set_arr e_api_Letter z_api_Letter _ (ixl h10) (set_cons rfl (st_api_Letter_2 _ _))) ty9), ⟨⟨rfl, rfl, trivial⟩, ⟨rfl, trivial⟩, rfl⟩, rfl, rfl⟩ ?_
      obtain ⟨v11, hv11, H⟩ := lt_of H
      refine aw_cov (cov_prune (s1 := ⟨[(0, (e_s_api_Letter p0)), (13, (.own 2)), (14, (.int .i64 v2.1))], [(2, some (.arr 4 v11.length fun j => (e_api_Letter (v11.getD j z_api_Letter))))], 3⟩) ⟨rfl, rfl, rfl, trivial⟩ ⟨(by subst hv11; rfl), trivial⟩ (Nat.le_refl _)) ?_
      obtain ⟨h12, H⟩ := ib_of H
      obtain ⟨h13, H⟩ := ib_of H
      obtain ⟨h14, H⟩ := ib_of H
      refine aw_draw1 (es := [_, _, _, _, _, _, _, _, _, _, _, _, _, _, _, _]) (mixed) ⟨Step.plain rfl (does_move (.tmp 13) (.own 2) trivial), ⟨⟨rfl, trivial⟩, trivial, rfl⟩, rfl,
        Step.plain rfl (does_move (.tmp 14) (.int .i64 v2.1) trivial), ⟨⟨rfl, trivial⟩, trivial, rfl⟩, rfl,
        Step.plain rfl (does_move (.tmp 13) (.own 2) trivial), ⟨⟨rfl, trivial⟩, trivial, rfl⟩, rfl,
        Step.plain rfl (does_move (.tmp 14) (.int .i64 v2.1) trivial), ⟨⟨rfl, trivial⟩, trivial, rfl⟩, rfl,
        Step.plain rfl (does_indexAddro 22 4 v11.length 50 2 (fun j => (e_api_Letter (v11.getD j z_api_Letter))) (.tmp 51) .i64 v2.1 el22 trivial h12.1 h12.2), ⟨⟨rfl, rfl, trivial⟩, ⟨rfl, trivial⟩, rfl⟩, rfl,
        Step.plain rfl (does_fieldAddr 27 2 2 52 2 (v2.1.toNat * 4) [v2.1.toNat] (.arr 4 v11.length fun j => (e_api_Letter (v11.getD j z_api_Letter))) fl27_2), ⟨⟨rfl, trivial⟩, ⟨rfl, trivial⟩, rfl⟩, rfl,
        Step.plain rfl (does_load 9 53 2 ((v2.1.toNat * 4) + 2) [v2.1.toNat, 2] (.arr 4 v11.length fun j => (e_api_Letter (v11.getD j z_api_Letter))) (.str ((v11.getD v2.1.toNat z_api_Letter).Text)) ⟨(ixl h12), ⟨rfl, Nat.le_of_ble_eq_true rfl, trivial⟩⟩ rfl rfl ty9), ⟨⟨rfl, trivial⟩, ⟨rfl, trivial⟩, rfl⟩, rfl,
        Step.plain rfl (does_move (.tmp 0) (e_s_api_Letter p0) trivial), ⟨⟨rfl, trivial⟩, trivial, rfl⟩, rfl,
        Step.plain rfl (does_move (.tmp 14) (.int .i64 v2.1) trivial), ⟨⟨rfl, trivial⟩, trivial, rfl⟩, rfl,
        Step.plain rfl (does_indexAddrs 22 4 p0.length 55 (fun j => (e_api_Letter (p0.getD j z_api_Letter))) (.tmp 56) .i64 v2.1 el22 trivial h13.1 h13.2), ⟨⟨rfl, rfl, trivial⟩, trivial, rfl⟩, rfl,
        Step.plain rfl (does_fieldAddrc 27 2 2 57 (e_api_Letter (p0.getD v2.1.toNat z_api_Letter)) fl27_2 rfl (Nat.le_of_ble_eq_true rfl) rfl), ⟨⟨rfl, trivial⟩, trivial, rfl⟩, rfl,
        Step.plain rfl (does_loadc 9 58 (.str ((p0.getD v2.1.toNat z_api_Letter).Text)) ty9), ⟨⟨rfl, trivial⟩, trivial, rfl⟩, rfl,
        Step.plain rfl (does_eqStr true 9 9 (.tmp 54) (.tmp 59) ((v11.getD v2.1.toNat z_api_Letter).Text) ((p0.getD v2.1.toNat z_api_Letter).Text) trivial trivial), ⟨⟨rfl, rfl, trivial⟩, trivial, rfl⟩, rfl,
        Step.plain rfl (does_indexAddro 22 4 v11.length 48 2 (fun j => (e_api_Letter (v11.getD j z_api_Letter))) (.tmp 49) .i64 v2.1 el22 trivial h14.1 h14.2), ⟨⟨rfl, rfl, trivial⟩, ⟨rfl, trivial⟩, rfl⟩, rfl,
        Step.plain rfl (does_fieldAddr 27 3 3 61 2 (v2.1.toNat * 4) [v2.1.toNat] (.arr 4 v11.length fun j => (e_api_Letter (v11.getD j z_api_Letter))) fl27_3), ⟨⟨rfl, trivial⟩, ⟨rfl, trivial⟩, rfl⟩, rfl,
        Step.plain rfl (does_store 4 62 (.tmp 60) 2 ((v2.1.toNat * 4) + 3) [v2.1.toNat, 3] (.arr 4 v11.length fun j => (e_api_Letter (v11.getD j z_api_Letter))) (.arr 4 (v11.set v2.1.toNat ({ v11.getD v2.1.toNat z_api_Letter with Turned := (((v11.getD v2.1.toNat z_api_Letter).Text) != ((p0.getD v2.1.toNat z_api_Letter).Text)) })).length fun j => (e_api_Letter ((v11.set v2.1.toNat ({ v11.getD v2.1.toNat z_api_Letter with Turned := (((v11.getD v2.1.toNat z_api_Letter).Text) != ((p0.getD v2.1.toNat z_api_Letter).Text)) })).getD j z_api_Letter))) (.bool (((v11.getD v2.1.toNat z_api_Letter).Text) != ((p0.getD v2.1.toNat z_api_Letter).Text))) false trivial rfl ⟨(ixl h14), ⟨rfl, Nat.le_of_ble_eq_true rfl, trivial⟩⟩ rfl rfl (set_arr e_api_Letter z_api_Letter _ (ixl h14) (set_cons rfl (st_api_Letter_3 _ _))) ty4), ⟨⟨rfl, rfl, trivial⟩, ⟨rfl, trivial⟩, rfl⟩, rfl, rfl⟩ rfl ?_
      exact nx_join (v11.set v2.1.toNat ({ v11.getD v2.1.toNat z_api_Letter with Turned := (((v11.getD v2.1.toNat z_api_Letter).Text) != ((p0.getD v2.1.toNat z_api_Letter).Text)) })) H (cov_prune ⟨rfl, trivial⟩ ⟨rfl, trivial⟩ (Nat.le_of_ble_eq_true rfl))
    · replace H := ite_f hc H
      refine aw_skip ?_
      exact nx_join ((([] : _root_.List api_Letter) ++ p0)) H (cov_prune ⟨rfl, trivial⟩ ⟨rfl, trivial⟩ (Nat.le_of_ble_eq_true rfl))

theorem congressref14_Turn_data (p0 : (_root_.List api_Letter)) (p1 : Int) (p2 : Int) (p3 : Int) (p4 : Int) (p5 : Int) (r : (_root_.List api_Letter)) (H : congressref14_Turn p0 p1 p2 p3 p4 p5 = some r) : FSpec Try.prog 14 [(e_s_api_Letter p0), (.int .i64 p1), (.int .i64 p2), (.int .i64 p3), (.int .i64 p4), (.int .u32 p5)] (e_s_api_Letter r) :=
  FSpecO.toData (fz := [0]) (congressref14_Turn_spec p0 p1 p2 p3 p4 p5 r H) (d_s_api_Letter r) (.frz 0 _ _ _ rfl (fun _ => (d_api_Letter _)) (by decide))

theorem congressref14_Same_spec (p0 : (_root_.List api_Letter)) (p1 : (_root_.List api_Letter)) (r : Bool) (H : congressref14_Same p0 p1 = some r) : FSpec Try.prog 12 [(e_s_api_Letter p0), (e_s_api_Letter p1)] (.bool r) := by
  refine spec_of (fn := Try.f12) (args := [(e_s_api_Letter p0), (e_s_api_Letter p1)]) Try.func12 rfl (Nat.le_of_ble_eq_true rfl) ?_
  rintro ⟨G, w0, W, S, Sp⟩ hG
  cases hG
  unfold congressref14_Same at H
  refine aw_region (es := [_]) ⟨Step.plain rfl (does_assign (.const (.bool false)) (.bool false) (fun _ => rfl)), ⟨trivial, trivial, rfl⟩, rfl, rfl⟩ ?_
  refine aw_cov (cov_prune (s1 := ⟨[(0, (e_s_api_Letter p0)), (1, (e_s_api_Letter p1))], [], 0⟩) ⟨rfl, rfl, trivial⟩ trivial (Nat.le_refl _)) ?_
  refine aw_seq ?_
  refine aw_region (es := [_, _, _, _, _]) ⟨Step.plain rfl (does_move (.tmp 0) (e_s_api_Letter p0) trivial), ⟨⟨rfl, trivial⟩, trivial, rfl⟩, rfl,
    Step.plain rfl (does_lens 22 4 p0.length 6 (fun j => (e_api_Letter (p0.getD j z_api_Letter))) el22), ⟨⟨rfl, trivial⟩, trivial, rfl⟩, rfl,
    Step.plain rfl (does_move (.tmp 1) (e_s_api_Letter p1) trivial), ⟨⟨rfl, trivial⟩, trivial, rfl⟩, rfl,
    Step.plain rfl (does_lens 22 4 p1.length 8 (fun j => (e_api_Letter (p1.getD j z_api_Letter))) el22), ⟨⟨rfl, trivial⟩, trivial, rfl⟩, rfl,
    Step.plain rfl (does_bin .neq 3 3 (.tmp 7) (.tmp 9) .i64 (p0.length : Int) (p1.length : Int) (.bool ((p0.length : Int) != (p1.length : Int))) trivial trivial (bin_neq _ _ _ _)), ⟨⟨rfl, rfl, trivial⟩, trivial, rfl⟩, rfl, rfl⟩ ?_
  refine aw_cov (cov_prune (s1 := ⟨[(0, (e_s_api_Letter p0)), (1, (e_s_api_Letter p1)), (10, (.bool ((p0.length : Int) != (p1.length : Int))))], [], 0⟩) ⟨rfl, rfl, rfl, trivial⟩ trivial (Nat.le_refl _)) ?_
  refine aw_cond rfl (fun hc => ?_) (fun hc => ?_)
  · replace H := ite_t hc H
    refine aw_region (es := [_]) ⟨Step.plain rfl (does_assign (.const (.bool false)) (.bool false) (fun _ => rfl)), ⟨trivial, trivial, rfl⟩, rfl, rfl⟩ ?_
    refine aw_cov (cov_prune (s1 := ⟨[(4, (.bool false))], [], 0⟩) ⟨rfl, trivial⟩ trivial (Nat.le_refl _)) ?_
    refine aw_ret ?_
    refine rt_then ?_
    exact fun a w hr => ⟨_, [(.bool false)], hr, ⟨⟨_, rfl, .data (.bool false) trivial⟩, trivial⟩, by decide, by cases H; rfl⟩
  · replace H := ite_f hc H
    refine aw_skip ?_
    refine nx_seq ?_
    refine aw_seq ?_
    refine aw_region (es := [_]) ⟨Step.plain rfl (does_assign (.const (.int .i64 0)) (.int .i64 0) (fun _ => rfl)), ⟨trivial, trivial, rfl⟩, rfl, rfl⟩ ?_
    refine aw_cov (cov_prune (s1 := ⟨[(0, (e_s_api_Letter p0)), (1, (e_s_api_Letter p1)), (5, (.int .i64 0))], [], 0⟩) ⟨rfl, rfl, rfl, trivial⟩ trivial (Nat.le_refl _)) ?_
    obtain ⟨wn2, hwn2, Hrn2⟩ := bnd H
    refine aw_meet (fun y6 : Unit => (⟨[], [], 0⟩ : St)) (fun y6 => Fl.nx y6 = wn2) (fun y6 hy => ?_) (aw_block (aw_runs (fun x1 : Int => (⟨[(0, (e_s_api_Letter p0)), (1, (e_s_api_Letter p1)), (5, (.int .i64 x1))], [], 0⟩ : St)) hwn2 (cov_prune ⟨rfl, rfl, rfl, trivial⟩ trivial (Nat.le_of_ble_eq_true rfl)) (fun x1 st H hsn2 => ?_)))
    · have H := nx_of hy Hrn2
      refine nx_seq ?_
      refine aw_region (es := [_]) ⟨Step.plain rfl (does_assign (.const (.bool true)) (.bool true) (fun _ => rfl)), ⟨trivial, trivial, rfl⟩, rfl, rfl⟩ ?_
      refine aw_cov (cov_prune (s1 := ⟨[(4, (.bool true))], [], 0⟩) ⟨rfl, trivial⟩ trivial (Nat.le_refl _)) ?_
      refine aw_ret ?_
      exact fun a w hr => ⟨_, [(.bool true)], hr, ⟨⟨_, rfl, .data (.bool true) trivial⟩, trivial⟩, by decide, by cases H; rfl⟩
    · refine aw_seq ?_
      refine aw_region (es := [_, _, _, _]) ⟨Step.plain rfl (does_move (.tmp 5) (.int .i64 x1) trivial), ⟨⟨rfl, trivial⟩, trivial, rfl⟩, rfl,
        Step.plain rfl (does_move (.tmp 0) (e_s_api_Letter p0) trivial), ⟨⟨rfl, trivial⟩, trivial, rfl⟩, rfl,
        Step.plain rfl (does_lens 22 4 p0.length 12 (fun j => (e_api_Letter (p0.getD j z_api_Letter))) el22), ⟨⟨rfl, trivial⟩, trivial, rfl⟩, rfl,
        Step.plain rfl (does_bin .lss 3 3 (.tmp 11) (.tmp 13) .i64 x1 (p0.length : Int) (.bool (decide (x1 < (p0.length : Int)))) trivial trivial (bin_lss _ _ _ _)), ⟨⟨rfl, rfl, trivial⟩, trivial, rfl⟩, rfl, rfl⟩ ?_
      refine aw_cov (cov_prune (s1 := ⟨[(0, (e_s_api_Letter p0)), (1, (e_s_api_Letter p1)), (5, (.int .i64 x1)), (14, (.bool (decide (x1 < (p0.length : Int)))))], [], 0⟩) ⟨rfl, rfl, rfl, rfl, trivial⟩ trivial (Nat.le_refl _)) ?_
      refine aw_cond rfl (fun hc => ?_) (fun hc => ?_)
      · replace H := ite_t hc H
        refine aw_skip ?_
        refine nx_seq ?_
        refine aw_seq ?_
        refine aw_block ?_
        obtain ⟨h3, H⟩ := ib_of H
        obtain ⟨h4, H⟩ := ib_of H
        refine aw_draw (es := [_, _, _, _, _, _, _, _, _]) (mixed) ⟨Step.plain rfl (does_move (.tmp 0) (e_s_api_Letter p0) trivial), ⟨⟨rfl, trivial⟩, trivial, rfl⟩, rfl,
          Step.plain rfl (does_move (.tmp 5) (.int .i64 x1) trivial), ⟨⟨rfl, trivial⟩, trivial, rfl⟩, rfl,
          Step.plain rfl (does_indexAddrs 22 4 p0.length 17 (fun j => (e_api_Letter (p0.getD j z_api_Letter))) (.tmp 18) .i64 x1 el22 trivial h3.1 h3.2), ⟨⟨rfl, rfl, trivial⟩, trivial, rfl⟩, rfl,
          Step.plain rfl (does_loadc 27 19 (e_api_Letter (p0.getD x1.toNat z_api_Letter)) ty27), ⟨⟨rfl, trivial⟩, trivial, rfl⟩, rfl,
          Step.plain rfl (does_move (.tmp 1) (e_s_api_Letter p1) trivial), ⟨⟨rfl, trivial⟩, trivial, rfl⟩, rfl,
          Step.plain rfl (does_move (.tmp 5) (.int .i64 x1) trivial), ⟨⟨rfl, trivial⟩, trivial, rfl⟩, rfl,
          Step.plain rfl (does_indexAddrs 22 4 p1.length 21 (fun j => (e_api_Letter (p1.getD j z_api_Letter))) (.tmp 22) .i64 x1 el22 trivial h4.1 h4.2), ⟨⟨rfl, rfl, trivial⟩, trivial, rfl⟩, rfl,
          Step.plain rfl (does_loadc 27 23 (e_api_Letter (p1.getD x1.toNat z_api_Letter)) ty27), ⟨⟨rfl, trivial⟩, trivial, rfl⟩, rfl,
          Step.plain rfl (does_eqT true 27 27 (.tmp 20) (.tmp 24) (e_api_Letter (p0.getD x1.toNat z_api_Letter)) (e_api_Letter (p1.getD x1.toNat z_api_Letter)) (e_api_Letter z_api_Letter) (b_api_Letter (p0.getD x1.toNat z_api_Letter) (p1.getD x1.toNat z_api_Letter)) rfl rfl trivial trivial eg27 sh27 (al_api_Letter _ _) (al_api_Letter _ _) (q_api_Letter _ _)), ⟨⟨rfl, rfl, trivial⟩, trivial, rfl⟩, rfl, rfl⟩ rfl ?_
        obtain ⟨v5, hv5, H⟩ := lt_of H
        refine aw_cov (cov_prune (s1 := ⟨[(0, (e_s_api_Letter p0)), (1, (e_s_api_Letter p1)), (5, (.int .i64 x1)), (25, (.bool v5))], [], 0⟩) ⟨rfl, rfl, rfl, (by subst hv5; rfl), trivial⟩ trivial (Nat.le_refl _)) ?_
        refine aw_cond rfl (fun hc => ?_) (fun hc => ?_)
        · replace H := ite_t hc H
          refine aw_region (es := [_]) ⟨Step.plain rfl (does_assign (.const (.bool false)) (.bool false) (fun _ => rfl)), ⟨trivial, trivial, rfl⟩, rfl, rfl⟩ ?_
          refine aw_cov (cov_prune (s1 := ⟨[(4, (.bool false))], [], 0⟩) ⟨rfl, trivial⟩ trivial (Nat.le_refl _)) ?_
          refine aw_ret ?_
          replace H := rt_of H hsn2 Hrn2
          refine rt_blk ?_
          refine rt_then ?_
          refine rt_then ?_
          refine rt_blk ?_
          refine rt_then ?_
          refine rt_then ?_
          exact fun a w hr => ⟨_, [(.bool false)], hr, ⟨⟨_, rfl, .data (.bool false) trivial⟩, trivial⟩, by decide, by cases H; rfl⟩
        · replace H := ite_f hc H
          refine aw_skip ?_
          refine nx_blk ?_
          refine nx_seq ?_
          refine aw_region1 (es := [_, _, _]) ⟨Step.plain rfl (does_move (.tmp 5) (.int .i64 x1) trivial), ⟨⟨rfl, trivial⟩, trivial, rfl⟩, rfl,
            Step.plain rfl (does_bin .add 3 3 (.tmp 15) (.const (.int .i64 1)) .i64 x1 1 (.int .i64 (IntKind.i64.wrap (x1 + 1))) trivial (fun _ => rfl) (bin_add _ _ _ _)), ⟨⟨rfl, trivial⟩, trivial, rfl⟩, rfl,
            Step.plain rfl (does_assign (.tmp 16) (.int .i64 (IntKind.i64.wrap (x1 + 1))) trivial), ⟨⟨rfl, trivial⟩, trivial, rfl⟩, rfl, rfl⟩ ?_
          exact nx_loop ((IntKind.i64.wrap (x1 + 1))) H (cov_prune ⟨rfl, rfl, rfl, trivial⟩ trivial (Nat.le_of_ble_eq_true rfl))
      · replace H := ite_f hc H
        refine aw_exit ?_
        refine ex_then ?_
        refine ex_then ?_
        refine ex_here ?_
        exact nx_ljoin () H hsn2 (cov_prune trivial trivial (Nat.le_of_ble_eq_true rfl))

theorem congresslaw14_three_spec (r : (_root_.List api_Letter)) (H : congresslaw14_three = some r) : FSpec Try.prog 24 [] (e_s_api_Letter r) := by
  refine spec_of (fn := Try.f24) (args := []) Try.func24 rfl (Nat.le_of_ble_eq_true rfl) ?_
  rintro ⟨G, w0, W, S, Sp⟩ hG
  cases hG
  unfold congresslaw14_three at H
  refine aw_region (es := [_]) ⟨Step.plain rfl (does_nil false 0 4 (fun j => (e_api_Letter (([] : _root_.List api_Letter).getD j z_api_Letter)))), ⟨trivial, trivial, rfl⟩, rfl, rfl⟩ ?_
  refine aw_cov (cov_prune (s1 := ⟨[], [], 1⟩) trivial trivial (Nat.le_refl _)) ?_
  refine aw_region (es := [_, _, _, _, _]) ⟨Step.plain rfl (does_buildT 27 #[(1, (.const (.int .i64 1))), (2, (.const (.string (⟨#[97]⟩ : ByteArray))))] [(1, (.const (.int .i64 1))), (2, (.const (.string (⟨#[97]⟩ : ByteArray))))] [(1, (.int .i64 1)), (2, (.str (⟨#[97]⟩ : ByteArray)))] (.st [1, 1, 1, 1]) (c_api_Letter z_api_Letter) (c_api_Letter ({ From := 0, To := 1, Text := (⟨#[97]⟩ : ByteArray), Turned := false } : api_Letter)) rfl bo27 ⟨⟨rfl, (fun _ => rfl)⟩, ⟨rfl, (fun _ => rfl)⟩, trivial⟩ ⟨⟨Nat.le_of_ble_eq_true rfl, rfl, rfl⟩, ⟨Nat.le_of_ble_eq_true rfl, rfl, rfl⟩, trivial⟩ (by funext j; match j with | 0 => rfl | 1 => rfl | 2 => rfl | 3 => rfl | _ + 4 => rfl)), ⟨trivial, trivial, rfl⟩, rfl,
    Step.plain rfl (does_buildT 27 #[(1, (.const (.int .i64 1))), (2, (.const (.string (⟨#[98]⟩ : ByteArray))))] [(1, (.const (.int .i64 1))), (2, (.const (.string (⟨#[98]⟩ : ByteArray))))] [(1, (.int .i64 1)), (2, (.str (⟨#[98]⟩ : ByteArray)))] (.st [1, 1, 1, 1]) (c_api_Letter z_api_Letter) (c_api_Letter ({ From := 0, To := 1, Text := (⟨#[98]⟩ : ByteArray), Turned := false } : api_Letter)) rfl bo27 ⟨⟨rfl, (fun _ => rfl)⟩, ⟨rfl, (fun _ => rfl)⟩, trivial⟩ ⟨⟨Nat.le_of_ble_eq_true rfl, rfl, rfl⟩, ⟨Nat.le_of_ble_eq_true rfl, rfl, rfl⟩, trivial⟩ (by funext j; match j with | 0 => rfl | 1 => rfl | 2 => rfl | 3 => rfl | _ + 4 => rfl)), ⟨trivial, trivial, rfl⟩, rfl,
    Step.plain rfl (does_buildT 27 #[(1, (.const (.int .i64 1))), (2, (.const (.string (⟨#[99]⟩ : ByteArray))))] [(1, (.const (.int .i64 1))), (2, (.const (.string (⟨#[99]⟩ : ByteArray))))] [(1, (.int .i64 1)), (2, (.str (⟨#[99]⟩ : ByteArray)))] (.st [1, 1, 1, 1]) (c_api_Letter z_api_Letter) (c_api_Letter ({ From := 0, To := 1, Text := (⟨#[99]⟩ : ByteArray), Turned := false } : api_Letter)) rfl bo27 ⟨⟨rfl, (fun _ => rfl)⟩, ⟨rfl, (fun _ => rfl)⟩, trivial⟩ ⟨⟨Nat.le_of_ble_eq_true rfl, rfl, rfl⟩, ⟨Nat.le_of_ble_eq_true rfl, rfl, rfl⟩, trivial⟩ (by funext j; match j with | 0 => rfl | 1 => rfl | 2 => rfl | 3 => rfl | _ + 4 => rfl)), ⟨trivial, trivial, rfl⟩, rfl,
    Step.plain rfl (does_buildSl 22 3 4 (e_api_Letter z_api_Letter) (fun j => (e_api_Letter (([({ From := 0, To := 1, Text := (⟨#[97]⟩ : ByteArray), Turned := false } : api_Letter), ({ From := 0, To := 1, Text := (⟨#[98]⟩ : ByteArray), Turned := false } : api_Letter), ({ From := 0, To := 1, Text := (⟨#[99]⟩ : ByteArray), Turned := false } : api_Letter)] : _root_.List api_Letter).getD j z_api_Letter))) #[(0, (.tmp 1)), (1, (.tmp 2)), (2, (.tmp 3))] [(0, (.tmp 1)), (1, (.tmp 2)), (2, (.tmp 3))] [(0, (e_api_Letter ({ From := 0, To := 1, Text := (⟨#[97]⟩ : ByteArray), Turned := false } : api_Letter))), (1, (e_api_Letter ({ From := 0, To := 1, Text := (⟨#[98]⟩ : ByteArray), Turned := false } : api_Letter))), (2, (e_api_Letter ({ From := 0, To := 1, Text := (⟨#[99]⟩ : ByteArray), Turned := false } : api_Letter)))] rfl so22 (by decide) ⟨⟨rfl, trivial⟩, ⟨rfl, trivial⟩, ⟨rfl, trivial⟩, trivial⟩ ⟨⟨Nat.le_of_ble_eq_true rfl, rfl, rfl⟩, ⟨Nat.le_of_ble_eq_true rfl, rfl, rfl⟩, ⟨Nat.le_of_ble_eq_true rfl, rfl, rfl⟩, trivial⟩ (fun j h => match j, h with | 0, _ => rfl | 1, _ => rfl | 2, _ => rfl | k + 3, h => absurd h (by omega))), ⟨⟨rfl, rfl, rfl, trivial⟩, trivial, rfl⟩, rfl,
    Step.plain rfl (does_assign (.tmp 4) (e_s_api_Letter ([({ From := 0, To := 1, Text := (⟨#[97]⟩ : ByteArray), Turned := false } : api_Letter), ({ From := 0, To := 1, Text := (⟨#[98]⟩ : ByteArray), Turned := false } : api_Letter), ({ From := 0, To := 1, Text := (⟨#[99]⟩ : ByteArray), Turned := false } : api_Letter)] : _root_.List api_Letter)) trivial), ⟨⟨rfl, trivial⟩, trivial, rfl⟩, rfl, rfl⟩ ?_
  obtain ⟨v1, hv1, H⟩ := lt_of H
  refine aw_cov (cov_prune (s1 := ⟨[(0, (e_s_api_Letter v1))], [], 1⟩) ⟨(by subst hv1; rfl), trivial⟩ trivial (Nat.le_refl _)) ?_
  refine aw_ret ?_
  exact fun a w hr => ⟨_, [(e_s_api_Letter v1)], hr, ⟨⟨_, rfl, .data (e_s_api_Letter v1) (d_s_api_Letter v1)⟩, trivial⟩, by decide, by cases H; rfl⟩

theorem lossy_Many_spec (p0 : (_root_.List api_Letter)) (p1 : Int) (p2 : Int) (r : Int) (H : lossy_Many p0 p1 p2 = some r) : FSpec Try.prog 18 [(e_s_api_Letter p0), (.int .i64 p1), (.int .i64 p2)] (.int .i64 r) := by
  refine spec_of (fn := Try.f18) (args := [(e_s_api_Letter p0), (.int .i64 p1), (.int .i64 p2)]) Try.func18 rfl (Nat.le_of_ble_eq_true rfl) ?_
  rintro ⟨G, w0, W, S, Sp⟩ hG
  cases hG
  unfold lossy_Many at H
  refine aw_region (es := [_]) ⟨Step.plain rfl (does_assign (.const (.int .i64 0)) (.int .i64 0) (fun _ => rfl)), ⟨trivial, trivial, rfl⟩, rfl, rfl⟩ ?_
  refine aw_cov (cov_prune (s1 := ⟨[(0, (e_s_api_Letter p0)), (1, (.int .i64 p1)), (2, (.int .i64 p2))], [], 0⟩) ⟨rfl, rfl, rfl, trivial⟩ trivial (Nat.le_refl _)) ?_
  obtain ⟨v1, h2, H⟩ := bnd H
  refine aw_region (es := [_, _, _, _, _, _]) ⟨Step.plain rfl (does_move (.tmp 0) (e_s_api_Letter p0) trivial), ⟨⟨rfl, trivial⟩, trivial, rfl⟩, rfl,
    Step.plain rfl (does_move (.tmp 1) (.int .i64 p1) trivial), ⟨⟨rfl, trivial⟩, trivial, rfl⟩, rfl,
    Step.plain rfl (does_move (.tmp 2) (.int .i64 p2) trivial), ⟨⟨rfl, trivial⟩, trivial, rfl⟩, rfl,
    Step.plain rfl (does_callO 22 0 (fun _ => .any) (.func 22) [(.tmp 7), (.tmp 8), (.tmp 9)] [(e_s_api_Letter p0), (.int .i64 p1), (.int .i64 p2)] [] [] true [(e_s_api_Letter p0), (.int .i64 p1), (.int .i64 p2)] _ (.own 0) _ 0 1 _ _ rfl fo22 rfl ⟨trivial, trivial, trivial, trivial⟩ ⟨.ro _ _ (.data _ (d_s_api_Letter p0)), .ro _ _ (.data _ trivial), .ro _ _ (.data _ trivial), trivial⟩ (lossy_places_spec p0 p1 p2 _ h2) rfl (by simp) rfl trivial ⟨⟨Nat.le_of_ble_eq_true rfl, _, rfl, fun _ => trivial⟩, trivial⟩ (.own 0 (Nat.le_of_ble_eq_true rfl))), ⟨⟨rfl, rfl, rfl, trivial⟩, trivial, rfl⟩, rfl,
    Step.plain rfl (does_leno 46 1 v1.length 10 0 (fun j => (.int .i64 (v1.getD j 0))) el46), ⟨⟨rfl, trivial⟩, ⟨rfl, trivial⟩, rfl⟩, rfl,
    Step.plain rfl (does_assign (.tmp 11) (.int .i64 (v1.length : Int)) trivial), ⟨⟨rfl, trivial⟩, trivial, rfl⟩, rfl, rfl⟩ ?_
  refine aw_cov (cov_prune (s1 := ⟨[(6, (.int .i64 (v1.length : Int)))], [], 1⟩) ⟨rfl, trivial⟩ trivial (Nat.le_refl _)) ?_
  refine aw_ret ?_
  exact fun a w hr => ⟨_, [(.int .i64 (v1.length : Int))], hr, ⟨⟨_, rfl, .data (.int .i64 (v1.length : Int)) trivial⟩, trivial⟩, by decide, by cases H; rfl⟩

theorem slices_Grow_api_Letter_api_Letter_spec (p1 : Int) (r : (_root_.List api_Letter)) (H : slices_Grow_api_Letter_api_Letter p1 = some r) : FSpecO Try.prog 27 [.nil, (.int .i64 p1)] [] 0 (.own 0) [(0, some (.arr 4 r.length fun j => (e_api_Letter (r.getD j z_api_Letter))))] 1 := by
  refine specO_of (fn := Try.f27) (args := [.nil, (.int .i64 p1)]) Try.func27 rfl (Nat.le_of_ble_eq_true rfl) ?_
  rintro ⟨G, w0, W, S, Sp⟩ hG
  cases hG
  unfold slices_Grow_api_Letter_api_Letter at H
  refine aw_region (es := [_]) ⟨Step.plain rfl (does_nil false 0 4 (fun j => (e_api_Letter (([] : _root_.List api_Letter).getD j z_api_Letter)))), ⟨trivial, trivial, rfl⟩, rfl, rfl⟩ ?_
  refine aw_cov (cov_prune (s1 := ⟨[(0, .nil), (1, (.int .i64 p1))], [], 1⟩) ⟨rfl, rfl, trivial⟩ trivial (Nat.le_refl _)) ?_
  refine aw_seq ?_
  refine aw_region (es := [_, _]) ⟨Step.plain rfl (does_move (.tmp 1) (.int .i64 p1) trivial), ⟨⟨rfl, trivial⟩, trivial, rfl⟩, rfl,
    Step.plain rfl (does_bin .lss 3 3 (.tmp 5) (.const (.int .i64 0)) .i64 p1 0 (.bool (decide (p1 < 0))) trivial (fun _ => rfl) (bin_lss _ _ _ _)), ⟨⟨rfl, trivial⟩, trivial, rfl⟩, rfl, rfl⟩ ?_
  refine aw_cov (cov_prune (s1 := ⟨[(0, .nil), (1, (.int .i64 p1)), (6, (.bool (decide (p1 < 0))))], [], 1⟩) ⟨rfl, rfl, rfl, trivial⟩ trivial (Nat.le_refl _)) ?_
  refine aw_cond rfl (fun hc => ?_) (fun hc => ?_)
  · replace H := ite_t hc H
    cases H
  · replace H := ite_f hc H
    refine aw_skip ?_
    refine nx_seq ?_
    refine aw_seq ?_
    refine aw_region (es := [_, _, _, _, _, _, _, _]) ⟨Step.plain rfl (does_move (.tmp 1) (.int .i64 p1) trivial), ⟨⟨rfl, trivial⟩, trivial, rfl⟩, rfl,
      Step.plain rfl (does_move (.tmp 0) .nil trivial), ⟨⟨rfl, trivial⟩, trivial, rfl⟩, rfl,
      Step.plain rfl (does_capnil 22 4 9 el22), ⟨⟨rfl, trivial⟩, trivial, rfl⟩, rfl,
      Step.plain rfl (does_move (.tmp 0) .nil trivial), ⟨⟨rfl, trivial⟩, trivial, rfl⟩, rfl,
      Step.plain rfl (does_lennil 22 4 11 el22), ⟨⟨rfl, trivial⟩, trivial, rfl⟩, rfl,
      Step.plain rfl (does_bin .sub 3 3 (.tmp 10) (.tmp 12) .i64 0 0 (.int .i64 (IntKind.i64.wrap (0 - 0))) trivial trivial (bin_sub _ _ _ _)), ⟨⟨rfl, rfl, trivial⟩, trivial, rfl⟩, rfl,
      Step.plain rfl (does_bin .sub 3 3 (.tmp 8) (.tmp 13) .i64 p1 (IntKind.i64.wrap (0 - 0)) (.int .i64 (IntKind.i64.wrap (p1 - (IntKind.i64.wrap (0 - 0))))) trivial trivial (bin_sub _ _ _ _)), ⟨⟨rfl, rfl, trivial⟩, trivial, rfl⟩, rfl,
      Step.plain rfl (does_assign (.tmp 14) (.int .i64 (IntKind.i64.wrap (p1 - (IntKind.i64.wrap (0 - 0))))) trivial), ⟨⟨rfl, trivial⟩, trivial, rfl⟩, rfl, rfl⟩ ?_
    refine aw_cov (cov_prune (s1 := ⟨[(0, .nil), (1, (.int .i64 (IntKind.i64.wrap (p1 - (IntKind.i64.wrap (0 - 0))))))], [], 1⟩) ⟨rfl, rfl, trivial⟩ trivial (Nat.le_refl _)) ?_
    refine aw_region (es := [_, _]) ⟨Step.plain rfl (does_move (.tmp 1) (.int .i64 (IntKind.i64.wrap (p1 - (IntKind.i64.wrap (0 - 0))))) trivial), ⟨⟨rfl, trivial⟩, trivial, rfl⟩, rfl,
      Step.plain rfl (does_bin .gtr 3 3 (.tmp 15) (.const (.int .i64 0)) .i64 (IntKind.i64.wrap (p1 - (IntKind.i64.wrap (0 - 0)))) 0 (.bool (decide ((IntKind.i64.wrap (p1 - (IntKind.i64.wrap (0 - 0)))) > 0))) trivial (fun _ => rfl) (bin_gtr _ _ _ _)), ⟨⟨rfl, trivial⟩, trivial, rfl⟩, rfl, rfl⟩ ?_
    refine aw_cov (cov_prune (s1 := ⟨[(0, .nil), (1, (.int .i64 (IntKind.i64.wrap (p1 - (IntKind.i64.wrap (0 - 0)))))), (16, (.bool (decide ((IntKind.i64.wrap (p1 - (IntKind.i64.wrap (0 - 0)))) > 0))))], [], 1⟩) ⟨rfl, rfl, rfl, trivial⟩ trivial (Nat.le_refl _)) ?_
    refine aw_cond rfl (fun hc => ?_) (fun hc => ?_)
    · replace H := ite_t hc H
      obtain ⟨h1, H⟩ := sb_of H
      obtain ⟨h2, H⟩ := mkp_of H
      obtain ⟨h3, H⟩ := sb_of H
      refine aw_region1 (es := [_, _, _, _, _, _, _, _, _, _]) ⟨Step.plain rfl (does_move (.tmp 0) .nil trivial), ⟨⟨rfl, trivial⟩, trivial, rfl⟩, rfl,
        Step.plain rfl (does_move (.tmp 0) .nil trivial), ⟨⟨rfl, trivial⟩, trivial, rfl⟩, rfl,
        Step.plain rfl (does_capnil 22 4 18 el22), ⟨⟨rfl, trivial⟩, trivial, rfl⟩, rfl,
        Step.plain rfl (does_slicenil 22 4 17 none (some ((.tmp 19), .i64, 0)) _ _ el22 rfl rfl trivial trivial rfl rfl), ⟨⟨rfl, rfl, trivial⟩, trivial, rfl⟩, rfl,
        Step.plain rfl (does_move (.tmp 1) (.int .i64 (IntKind.i64.wrap (p1 - (IntKind.i64.wrap (0 - 0))))) trivial), ⟨⟨rfl, trivial⟩, trivial, rfl⟩, rfl,
        Step.plain rfl (does_appendNZ e_api_Letter z_api_Letter 22 3 4 40 1 20 (.tmp 21) .i64 .i64 (IntKind.i64.wrap (p1 - (IntKind.i64.wrap (0 - 0)))) so22 ap22 ui3 trivial h2), ⟨⟨rfl, rfl, trivial⟩, trivial, rfl⟩, rfl,
        Step.plain rfl (does_move (.tmp 0) .nil trivial), ⟨⟨rfl, trivial⟩, trivial, rfl⟩, rfl,
        Step.plain rfl (does_lennil 22 4 23 el22), ⟨⟨rfl, trivial⟩, trivial, rfl⟩, rfl,
        Step.plain rfl (does_sliceo 22 4 (_root_.List.replicate (IntKind.i64.wrap (p1 - (IntKind.i64.wrap (0 - 0)))).toNat z_api_Letter).length 22 1 0 ((0 : Int).toNat) (fun j => (e_api_Letter ((_root_.List.replicate (IntKind.i64.wrap (p1 - (IntKind.i64.wrap (0 - 0)))).toNat z_api_Letter).getD j z_api_Letter))) none (some ((.tmp 24), .i64, 0)) _ _ el22 rfl rfl trivial trivial rfl (Int.toNat_of_nonneg (Int.le_trans h3.1 h3.2.1)).symm (by omega) (by omega)), ⟨⟨rfl, rfl, trivial⟩, ⟨rfl, trivial⟩, rfl⟩, rfl,
        Step.plain rfl (does_assign (.tmp 25) (.view 1 0 (((0 : Int).toNat) - 0)) trivial), ⟨⟨rfl, trivial⟩, trivial, rfl⟩, rfl, rfl⟩ ?_
      refine nx_seq ?_
      obtain ⟨v4, hv4, H⟩ := lt_of H
      refine aw_cov (cov_prune (s1 := ⟨[(0, (.view 1 0 (((0 : Int).toNat) - 0)))], [(1, some (.arr 4 v4.length fun j => (e_api_Letter (v4.getD j z_api_Letter))))], 2⟩) ⟨rfl, trivial⟩ ⟨(by subst hv4; rfl), trivial⟩ (Nat.le_refl _)) ?_
      refine aw_region (es := [_, _]) ⟨Step.plain rfl (does_move (.tmp 0) (.view 1 0 (((0 : Int).toNat) - 0)) trivial), ⟨⟨rfl, trivial⟩, trivial, rfl⟩, rfl,
        Step.plain rfl (does_assign (.tmp 26) (.view 1 0 (((0 : Int).toNat) - 0)) trivial), ⟨⟨rfl, trivial⟩, trivial, rfl⟩, rfl, rfl⟩ ?_
      refine aw_cov (cov_prune (s1 := ⟨[(4, (.view 1 0 (((0 : Int).toNat) - 0)))], [(1, some (.arr 4 v4.length fun j => (e_api_Letter (v4.getD j z_api_Letter))))], 2⟩) ⟨rfl, trivial⟩ ⟨rfl, trivial⟩ (Nat.le_refl _)) ?_
      refine aw_ret ?_
      obtain ⟨h5, H⟩ := inb_of H
      exact fun a w hr => ⟨_, [(.own 0)], reach_of hr (cov_to (s1 := ⟨[(4, (.own 0))], [(0, some (.arr 4 (v4.take (((0 : Int).toNat) - 0)).length fun j => (e_api_Letter ((v4.take (((0 : Int).toNat) - 0)).getD j z_api_Letter))))], 1⟩) (fun i => match i with | 0 => 1 | k => k) [] ⟨⟨_, rfl, .shr 0 _ _ _ _ _ _ (Nat.le_of_ble_eq_true rfl) rfl rfl (len_take h5)⟩, trivial⟩ ⟨⟨Nat.le_of_ble_eq_true rfl, _, _, rfl, rfl, boxTo_take e_api_Letter _ (fun _ => (d_api_Letter _))⟩, trivial⟩ rfl rfl), ⟨rfl, trivial⟩, by decide, by cases H; rfl, by cases H; exact ⟨rfl, trivial⟩, Nat.le_of_ble_eq_true rfl⟩
    · replace H := ite_f hc H
      refine aw_skip ?_
      refine nx_seq ?_
      refine aw_region (es := [_, _]) ⟨Step.plain rfl (does_move (.tmp 0) .nil trivial), ⟨⟨rfl, trivial⟩, trivial, rfl⟩, rfl,
        Step.plain rfl (does_assign (.tmp 26) .nil trivial), ⟨⟨rfl, trivial⟩, trivial, rfl⟩, rfl, rfl⟩ ?_
      refine aw_cov (cov_prune (s1 := ⟨[(4, .nil)], [], 1⟩) ⟨rfl, trivial⟩ trivial (Nat.le_refl _)) ?_
      refine aw_ret ?_
      exact fun a w hr => ⟨_, [(.own 0)], reach_of hr (cov_trans (cov_void (t := 4) (id := 1) (es := 4) (f := fun j => (e_api_Letter (([] : _root_.List api_Letter).getD j z_api_Letter))) rfl rfl) (cov_to (s1 := ⟨[(4, (.own 0))], [(0, some (.arr 4 ([] : _root_.List api_Letter).length fun j => (e_api_Letter (([] : _root_.List api_Letter).getD j z_api_Letter))))], 1⟩) (fun i => match i with | 0 => 1 | k => k) [] ⟨⟨_, rfl, .own 0 _ _ (Nat.le_of_ble_eq_true rfl) rfl rfl (Box.like_refl _)⟩, trivial⟩ ⟨⟨Nat.le_of_ble_eq_true rfl, _, _, rfl, rfl, boxTo_arr (fun _ => (d_api_Letter _))⟩, trivial⟩ rfl rfl)), ⟨rfl, trivial⟩, by decide, by cases H; rfl, by cases H; exact ⟨rfl, trivial⟩, Nat.le_of_ble_eq_true rfl⟩

theorem slices_Grow_api_Letter_api_Letter_data (p1 : Int) (r : (_root_.List api_Letter)) (H : slices_Grow_api_Letter_api_Letter p1 = some r) : FSpec Try.prog 27 [.nil, (.int .i64 p1)] (e_s_api_Letter r) :=
  FSpecO.toData (fz := [0]) (slices_Grow_api_Letter_api_Letter_spec p1 r H) (d_s_api_Letter r) (.frz 0 _ _ _ rfl (fun _ => (d_api_Letter _)) (by decide))

theorem slices_Concat_api_Letter_api_Letter_spec (p0 : (_root_.List (_root_.List api_Letter))) (r : (_root_.List api_Letter)) (H : slices_Concat_api_Letter_api_Letter p0 = some r) : FSpecO Try.prog 25 [(e_s_s_api_Letter p0)] [] 0 (.own 0) [(0, some (.arr 4 r.length fun j => (e_api_Letter (r.getD j z_api_Letter))))] 1 := by
  refine specO_of (fn := Try.f25) (args := [(e_s_s_api_Letter p0)]) Try.func25 rfl (Nat.le_of_ble_eq_true rfl) ?_
  rintro ⟨G, w0, W, S, Sp⟩ hG
  cases hG
  unfold slices_Concat_api_Letter_api_Letter at H
  refine aw_region (es := [_]) ⟨Step.plain rfl (does_nil false 0 4 (fun j => (e_api_Letter (([] : _root_.List api_Letter).getD j z_api_Letter)))), ⟨trivial, trivial, rfl⟩, rfl, rfl⟩ ?_
  refine aw_cov (cov_prune (s1 := ⟨[(0, (e_s_s_api_Letter p0))], [], 1⟩) ⟨rfl, trivial⟩ trivial (Nat.le_refl _)) ?_
  refine aw_region (es := [_]) ⟨Step.plain rfl (does_assign (.const (.int .i64 0)) (.int .i64 0) (fun _ => rfl)), ⟨trivial, trivial, rfl⟩, rfl, rfl⟩ ?_
  refine aw_cov (cov_prune (s1 := ⟨[(0, (e_s_s_api_Letter p0)), (3, (.int .i64 0))], [], 1⟩) ⟨rfl, rfl, trivial⟩ trivial (Nat.le_refl _)) ?_
  refine aw_seq ?_
  refine aw_region (es := [_, _, _]) ⟨Step.plain rfl (does_move (.tmp 0) (e_s_s_api_Letter p0) trivial), ⟨⟨rfl, trivial⟩, trivial, rfl⟩, rfl,
    Step.plain rfl (does_lens 53 1 p0.length 9 (fun j => (e_s_api_Letter (p0.getD j []))) el53), ⟨⟨rfl, trivial⟩, trivial, rfl⟩, rfl,
    Step.plain rfl (does_move (.const (.int .i64 0)) (.int .i64 0) (fun _ => rfl)), ⟨trivial, trivial, rfl⟩, rfl, rfl⟩ ?_
  refine aw_cov (cov_prune (s1 := ⟨[(0, (e_s_s_api_Letter p0)), (3, (.int .i64 0)), (9, (e_s_s_api_Letter p0)), (10, (.int .i64 (p0.length : Int))), (11, (.int .i64 0))], [], 1⟩) ⟨rfl, rfl, rfl, rfl, rfl, trivial⟩ trivial (Nat.le_refl _)) ?_
  obtain ⟨wn2, hwn2, Hrn2⟩ := bnd H
  refine aw_meet (fun y5 : Int => (⟨[(0, (e_s_s_api_Letter p0)), (3, (.int .i64 y5))], [], 1⟩ : St)) (fun y5 => Fl.nx y5 = wn2) (fun y5 hy => ?_) (aw_block (aw_runs (fun x1 : Int × Int => (⟨[(0, (e_s_s_api_Letter p0)), (3, (.int .i64 x1.1)), (9, (e_s_s_api_Letter p0)), (10, (.int .i64 (p0.length : Int))), (11, (.int .i64 x1.2))], [], 1⟩ : St)) hwn2 (cov_prune ⟨rfl, rfl, rfl, rfl, rfl, trivial⟩ trivial (Nat.le_of_ble_eq_true rfl)) (fun x1 st H hsn2 => ?_)))
  · have H := nx_of hy Hrn2
    refine nx_seq ?_
    obtain ⟨v6, h7, H⟩ := bnd H
    refine aw_region (es := [_, _, _]) ⟨Step.plain rfl (does_move (.tmp 3) (.int .i64 y5) trivial), ⟨⟨rfl, trivial⟩, trivial, rfl⟩, rfl,
      Step.plain rfl (does_callO 27 0 (fun _ => .any) (.func 27) [(.const (.slice none 0 0)), (.tmp 23)] [.nil, (.int .i64 y5)] [] [] true [.nil, (.int .i64 y5)] _ (.own 1) _ 1 1 _ _ rfl fo27 rfl ⟨(fun _ => rfl), trivial, trivial⟩ ⟨.ro _ _ (.data _ trivial), .ro _ _ (.data _ trivial), trivial⟩ (slices_Grow_api_Letter_api_Letter_spec y5 _ h7) rfl (by simp) rfl trivial ⟨⟨Nat.le_of_ble_eq_true rfl, _, rfl, fun _ => (f_api_Letter _)⟩, trivial⟩ (.own 0 (Nat.le_of_ble_eq_true rfl))), ⟨⟨rfl, trivial⟩, trivial, rfl⟩, rfl,
      Step.plain rfl (does_assign (.tmp 24) (.own 1) trivial), ⟨⟨rfl, trivial⟩, trivial, rfl⟩, rfl, rfl⟩ ?_
    refine aw_cov (cov_prune (s1 := ⟨[(0, (e_s_s_api_Letter p0)), (6, (.own 1))], [(1, some (.arr 4 v6.length fun j => (e_api_Letter (v6.getD j z_api_Letter))))], 2⟩) ⟨rfl, rfl, trivial⟩ ⟨rfl, trivial⟩ (Nat.le_refl _)) ?_
    refine aw_seq ?_
    refine aw_region (es := [_, _, _]) ⟨Step.plain rfl (does_move (.tmp 0) (e_s_s_api_Letter p0) trivial), ⟨⟨rfl, trivial⟩, trivial, rfl⟩, rfl,
      Step.plain rfl (does_lens 53 1 p0.length 25 (fun j => (e_s_api_Letter (p0.getD j []))) el53), ⟨⟨rfl, trivial⟩, trivial, rfl⟩, rfl,
      Step.plain rfl (does_move (.const (.int .i64 0)) (.int .i64 0) (fun _ => rfl)), ⟨trivial, trivial, rfl⟩, rfl, rfl⟩ ?_
    refine aw_cov (cov_prune (s1 := ⟨[(6, (.own 1)), (25, (e_s_s_api_Letter p0)), (26, (.int .i64 (p0.length : Int))), (27, (.int .i64 0))], [(1, some (.arr 4 v6.length fun j => (e_api_Letter (v6.getD j z_api_Letter))))], 2⟩) ⟨rfl, rfl, rfl, rfl, trivial⟩ ⟨rfl, trivial⟩ (Nat.le_refl _)) ?_
    obtain ⟨wn9, hwn9, Hrn9⟩ := bnd H
    refine aw_meet (fun y12 : _root_.List api_Letter => (⟨[(6, (.own 1))], [(1, some (.arr 4 y12.length fun j => (e_api_Letter (y12.getD j z_api_Letter))))], 2⟩ : St)) (fun y12 => Fl.nx y12 = wn9) (fun y12 hy => ?_) (aw_block (aw_runs (fun x8 : Int × _root_.List api_Letter => (⟨[(6, (.own 1)), (25, (e_s_s_api_Letter p0)), (26, (.int .i64 (p0.length : Int))), (27, (.int .i64 x8.1))], [(1, some (.arr 4 x8.2.length fun j => (e_api_Letter (x8.2.getD j z_api_Letter))))], 2⟩ : St)) hwn9 (cov_prune ⟨rfl, rfl, rfl, rfl, trivial⟩ ⟨rfl, trivial⟩ (Nat.le_of_ble_eq_true rfl)) (fun x8 st H hsn9 => ?_)))
    · have H := nx_of hy Hrn9
      refine nx_seq ?_
      refine aw_region (es := [_, _]) ⟨Step.plain rfl (does_move (.tmp 6) (.own 1) trivial), ⟨⟨rfl, trivial⟩, trivial, rfl⟩, rfl,
        Step.plain rfl (does_assign (.tmp 35) (.own 1) trivial), ⟨⟨rfl, trivial⟩, trivial, rfl⟩, rfl, rfl⟩ ?_
      refine aw_cov (cov_prune (s1 := ⟨[(2, (.own 1))], [(1, some (.arr 4 y12.length fun j => (e_api_Letter (y12.getD j z_api_Letter))))], 2⟩) ⟨rfl, trivial⟩ ⟨rfl, trivial⟩ (Nat.le_refl _)) ?_
      refine aw_ret ?_
      exact fun a w hr => ⟨_, [(.own 0)], reach_of hr (cov_to (s1 := ⟨[(2, (.own 0))], [(0, some (.arr 4 y12.length fun j => (e_api_Letter (y12.getD j z_api_Letter))))], 1⟩) (fun i => match i with | 0 => 1 | k => k) [] ⟨⟨_, rfl, .own 0 _ _ (Nat.le_of_ble_eq_true rfl) rfl rfl (Box.like_refl _)⟩, trivial⟩ ⟨⟨Nat.le_of_ble_eq_true rfl, _, _, rfl, rfl, boxTo_arr (fun _ => (d_api_Letter _))⟩, trivial⟩ rfl rfl), ⟨rfl, trivial⟩, by decide, by cases H; rfl, by cases H; exact ⟨rfl, trivial⟩, Nat.le_of_ble_eq_true rfl⟩
    · refine aw_region (es := [_]) ⟨Step.plain rfl (does_bin .lss 3 3 (.tmp 27) (.tmp 26) .i64 x8.1 (p0.length : Int) (.bool (decide (x8.1 < (p0.length : Int)))) trivial trivial (bin_lss _ _ _ _)), ⟨⟨rfl, rfl, trivial⟩, trivial, rfl⟩, rfl, rfl⟩ ?_
      refine aw_cov (cov_prune (s1 := ⟨[(6, (.own 1)), (25, (e_s_s_api_Letter p0)), (26, (.int .i64 (p0.length : Int))), (27, (.int .i64 x8.1)), (28, (.bool (decide (x8.1 < (p0.length : Int)))))], [(1, some (.arr 4 x8.2.length fun j => (e_api_Letter (x8.2.getD j z_api_Letter))))], 2⟩) ⟨rfl, rfl, rfl, rfl, rfl, trivial⟩ ⟨rfl, trivial⟩ (Nat.le_refl _)) ?_
      refine aw_seq ?_
      refine aw_cond rfl (fun hc => ?_) (fun hc => ?_)
      · replace H := ite_t hc H
        refine aw_skip ?_
        refine nx_seq ?_
        refine aw_seq ?_
        refine aw_block ?_
        obtain ⟨h10, H⟩ := ib_of H
        refine aw_region (es := [_, _, _]) ⟨Step.plain rfl (does_indexAddrs 53 1 p0.length 25 (fun j => (e_s_api_Letter (p0.getD j []))) (.tmp 27) .i64 x8.1 el53 trivial h10.1 h10.2), ⟨⟨rfl, rfl, trivial⟩, trivial, rfl⟩, rfl,
          Step.plain rfl (does_loadc 22 29 (e_s_api_Letter (p0.getD x8.1.toNat [])) ty22), ⟨⟨rfl, trivial⟩, trivial, rfl⟩, rfl,
          Step.plain rfl (does_assign (.tmp 30) (e_s_api_Letter (p0.getD x8.1.toNat [])) trivial), ⟨⟨rfl, trivial⟩, trivial, rfl⟩, rfl, rfl⟩ ?_
        refine aw_cov (cov_prune (s1 := ⟨[(6, (.own 1)), (25, (e_s_s_api_Letter p0)), (26, (.int .i64 (p0.length : Int))), (27, (.int .i64 x8.1)), (8, (e_s_api_Letter (p0.getD x8.1.toNat [])))], [(1, some (.arr 4 x8.2.length fun j => (e_api_Letter (x8.2.getD j z_api_Letter))))], 2⟩) ⟨rfl, rfl, rfl, rfl, rfl, trivial⟩ ⟨rfl, trivial⟩ (Nat.le_refl _)) ?_
        obtain ⟨h11, H⟩ := fit_of H
        refine aw_region1 (es := [_, _, _, _]) ⟨Step.plain rfl (does_move (.tmp 6) (.own 1) trivial), ⟨⟨rfl, trivial⟩, trivial, rfl⟩, rfl,
          Step.plain rfl (does_move (.tmp 8) (e_s_api_Letter (p0.getD x8.1.toNat [])) trivial), ⟨⟨rfl, trivial⟩, trivial, rfl⟩, rfl,
          Step.plain rfl (does_appendL e_api_Letter z_api_Letter x8.2 (p0.getD x8.1.toNat []) 22 4 40 1 2 31 32 ap22 h11), ⟨⟨rfl, rfl, trivial⟩, ⟨rfl, trivial⟩, rfl⟩, rfl,
          Step.plain rfl (does_assign (.tmp 33) (.own 2) trivial), ⟨⟨rfl, trivial⟩, trivial, rfl⟩, rfl, rfl⟩ ?_
        refine nx_blk ?_
        refine nx_seq ?_
        refine aw_cov (cov_prune (s1 := ⟨[(25, (e_s_s_api_Letter p0)), (26, (.int .i64 (p0.length : Int))), (27, (.int .i64 x8.1)), (6, (.own 2))], [(2, some (.arr 4 (x8.2 ++ (p0.getD x8.1.toNat [])).length fun j => (e_api_Letter ((x8.2 ++ (p0.getD x8.1.toNat [])).getD j z_api_Letter))))], 3⟩) ⟨rfl, rfl, rfl, rfl, trivial⟩ ⟨rfl, trivial⟩ (Nat.le_refl _)) ?_
        refine aw_region1 (es := [_, _]) ⟨Step.plain rfl (does_bin .add 3 3 (.tmp 27) (.const (.int .i64 1)) .i64 x8.1 1 (.int .i64 (IntKind.i64.wrap (x8.1 + 1))) trivial (fun _ => rfl) (bin_add _ _ _ _)), ⟨⟨rfl, trivial⟩, trivial, rfl⟩, rfl,
          Step.plain rfl (does_move (.tmp 34) (.int .i64 (IntKind.i64.wrap (x8.1 + 1))) trivial), ⟨⟨rfl, trivial⟩, trivial, rfl⟩, rfl, rfl⟩ ?_
        exact nx_loop ((IntKind.i64.wrap (x8.1 + 1)), (x8.2 ++ (p0.getD x8.1.toNat []))) H (cov_of (fun i => match i with | 1 => 2 | k => k) ⟨⟨_, rfl, ⟨rfl, Nat.le_of_ble_eq_true rfl⟩⟩, ⟨_, rfl, ⟨rfl, (d_s_s_api_Letter _).plain⟩⟩, ⟨_, rfl, ⟨rfl, trivial⟩⟩, ⟨_, rfl, ⟨rfl, trivial⟩⟩, trivial⟩ ⟨⟨Nat.le_of_ble_eq_true rfl, _, _, rfl, rfl, ⟨rfl, rfl, fun _ => .inl ⟨rfl, (d_api_Letter _).plain⟩⟩⟩, trivial⟩ rfl)
      · replace H := ite_f hc H
        refine aw_exit ?_
        refine ex_then ?_
        refine ex_then ?_
        refine ex_here ?_
        exact nx_ljoin (x8.2) H hsn9 (cov_prune ⟨rfl, trivial⟩ ⟨rfl, trivial⟩ (Nat.le_of_ble_eq_true rfl))
  · refine aw_region (es := [_]) ⟨Step.plain rfl (does_bin .lss 3 3 (.tmp 11) (.tmp 10) .i64 x1.2 (p0.length : Int) (.bool (decide (x1.2 < (p0.length : Int)))) trivial trivial (bin_lss _ _ _ _)), ⟨⟨rfl, rfl, trivial⟩, trivial, rfl⟩, rfl, rfl⟩ ?_
    refine aw_cov (cov_prune (s1 := ⟨[(0, (e_s_s_api_Letter p0)), (3, (.int .i64 x1.1)), (9, (e_s_s_api_Letter p0)), (10, (.int .i64 (p0.length : Int))), (11, (.int .i64 x1.2)), (12, (.bool (decide (x1.2 < (p0.length : Int)))))], [], 1⟩) ⟨rfl, rfl, rfl, rfl, rfl, rfl, trivial⟩ trivial (Nat.le_refl _)) ?_
    refine aw_seq ?_
    refine aw_cond rfl (fun hc => ?_) (fun hc => ?_)
    · replace H := ite_t hc H
      refine aw_skip ?_
      refine nx_seq ?_
      refine aw_seq ?_
      refine aw_block ?_
      obtain ⟨h3, H⟩ := ib_of H
      refine aw_region (es := [_, _, _]) ⟨Step.plain rfl (does_indexAddrs 53 1 p0.length 9 (fun j => (e_s_api_Letter (p0.getD j []))) (.tmp 11) .i64 x1.2 el53 trivial h3.1 h3.2), ⟨⟨rfl, rfl, trivial⟩, trivial, rfl⟩, rfl,
        Step.plain rfl (does_loadc 22 13 (e_s_api_Letter (p0.getD x1.2.toNat [])) ty22), ⟨⟨rfl, trivial⟩, trivial, rfl⟩, rfl,
        Step.plain rfl (does_assign (.tmp 14) (e_s_api_Letter (p0.getD x1.2.toNat [])) trivial), ⟨⟨rfl, trivial⟩, trivial, rfl⟩, rfl, rfl⟩ ?_
      refine aw_cov (cov_prune (s1 := ⟨[(0, (e_s_s_api_Letter p0)), (3, (.int .i64 x1.1)), (9, (e_s_s_api_Letter p0)), (10, (.int .i64 (p0.length : Int))), (11, (.int .i64 x1.2)), (5, (e_s_api_Letter (p0.getD x1.2.toNat [])))], [], 1⟩) ⟨rfl, rfl, rfl, rfl, rfl, rfl, trivial⟩ trivial (Nat.le_refl _)) ?_
      refine aw_region (es := [_, _, _, _, _]) ⟨Step.plain rfl (does_move (.tmp 3) (.int .i64 x1.1) trivial), ⟨⟨rfl, trivial⟩, trivial, rfl⟩, rfl,
        Step.plain rfl (does_move (.tmp 5) (e_s_api_Letter (p0.getD x1.2.toNat [])) trivial), ⟨⟨rfl, trivial⟩, trivial, rfl⟩, rfl,
        Step.plain rfl (does_lens 22 4 (p0.getD x1.2.toNat []).length 16 (fun j => (e_api_Letter ((p0.getD x1.2.toNat []).getD j z_api_Letter))) el22), ⟨⟨rfl, trivial⟩, trivial, rfl⟩, rfl,
        Step.plain rfl (does_bin .add 3 3 (.tmp 15) (.tmp 17) .i64 x1.1 ((p0.getD x1.2.toNat []).length : Int) (.int .i64 (IntKind.i64.wrap (x1.1 + ((p0.getD x1.2.toNat []).length : Int)))) trivial trivial (bin_add _ _ _ _)), ⟨⟨rfl, rfl, trivial⟩, trivial, rfl⟩, rfl,
        Step.plain rfl (does_assign (.tmp 18) (.int .i64 (IntKind.i64.wrap (x1.1 + ((p0.getD x1.2.toNat []).length : Int)))) trivial), ⟨⟨rfl, trivial⟩, trivial, rfl⟩, rfl, rfl⟩ ?_
      refine aw_cov (cov_prune (s1 := ⟨[(0, (e_s_s_api_Letter p0)), (9, (e_s_s_api_Letter p0)), (10, (.int .i64 (p0.length : Int))), (11, (.int .i64 x1.2)), (3, (.int .i64 (IntKind.i64.wrap (x1.1 + ((p0.getD x1.2.toNat []).length : Int)))))], [], 1⟩) ⟨rfl, rfl, rfl, rfl, rfl, trivial⟩ trivial (Nat.le_refl _)) ?_
      refine aw_region (es := [_, _]) ⟨Step.plain rfl (does_move (.tmp 3) (.int .i64 (IntKind.i64.wrap (x1.1 + ((p0.getD x1.2.toNat []).length : Int)))) trivial), ⟨⟨rfl, trivial⟩, trivial, rfl⟩, rfl,
        Step.plain rfl (does_bin .lss 3 3 (.tmp 19) (.const (.int .i64 0)) .i64 (IntKind.i64.wrap (x1.1 + ((p0.getD x1.2.toNat []).length : Int))) 0 (.bool (decide ((IntKind.i64.wrap (x1.1 + ((p0.getD x1.2.toNat []).length : Int))) < 0))) trivial (fun _ => rfl) (bin_lss _ _ _ _)), ⟨⟨rfl, trivial⟩, trivial, rfl⟩, rfl, rfl⟩ ?_
      obtain ⟨v4, hv4, H⟩ := lt_of H
      refine aw_cov (cov_prune (s1 := ⟨[(0, (e_s_s_api_Letter p0)), (9, (e_s_s_api_Letter p0)), (10, (.int .i64 (p0.length : Int))), (11, (.int .i64 x1.2)), (3, (.int .i64 (IntKind.i64.wrap (x1.1 + ((p0.getD x1.2.toNat []).length : Int))))), (20, (.bool v4))], [], 1⟩) ⟨rfl, rfl, rfl, rfl, rfl, (by subst hv4; rfl), trivial⟩ trivial (Nat.le_refl _)) ?_
      refine aw_cond rfl (fun hc => ?_) (fun hc => ?_)
      · replace H := ite_t hc H
        cases H
      · replace H := ite_f hc H
        refine aw_skip ?_
        refine nx_blk ?_
        refine nx_seq ?_
        refine aw_region1 (es := [_, _]) ⟨Step.plain rfl (does_bin .add 3 3 (.tmp 11) (.const (.int .i64 1)) .i64 x1.2 1 (.int .i64 (IntKind.i64.wrap (x1.2 + 1))) trivial (fun _ => rfl) (bin_add _ _ _ _)), ⟨⟨rfl, trivial⟩, trivial, rfl⟩, rfl,
          Step.plain rfl (does_move (.tmp 22) (.int .i64 (IntKind.i64.wrap (x1.2 + 1))) trivial), ⟨⟨rfl, trivial⟩, trivial, rfl⟩, rfl, rfl⟩ ?_
        exact nx_loop ((IntKind.i64.wrap (x1.1 + ((p0.getD x1.2.toNat []).length : Int))), (IntKind.i64.wrap (x1.2 + 1))) H (cov_prune ⟨rfl, rfl, rfl, rfl, rfl, trivial⟩ trivial (Nat.le_of_ble_eq_true rfl))
    · replace H := ite_f hc H
      refine aw_exit ?_
      refine ex_then ?_
      refine ex_then ?_
      refine ex_here ?_
      exact nx_ljoin (x1.1) H hsn2 (cov_prune ⟨rfl, rfl, trivial⟩ trivial (Nat.le_of_ble_eq_true rfl))

theorem slices_Concat_api_Letter_api_Letter_data (p0 : (_root_.List (_root_.List api_Letter))) (r : (_root_.List api_Letter)) (H : slices_Concat_api_Letter_api_Letter p0 = some r) : FSpec Try.prog 25 [(e_s_s_api_Letter p0)] (e_s_api_Letter r) :=
  FSpecO.toData (fz := [0]) (slices_Concat_api_Letter_api_Letter_spec p0 r H) (d_s_api_Letter r) (.frz 0 _ _ _ rfl (fun _ => (d_api_Letter _)) (by decide))

theorem lossy_Put_spec (p0 : (_root_.List api_Letter)) (p1 : (_root_.List api_Letter)) (r : (_root_.List api_Letter)) (H : lossy_Put p0 p1 = some r) : FSpecO Try.prog 16 [(e_s_api_Letter p0), (e_s_api_Letter p1)] [] 0 (.own 0) [(0, some (.arr 4 r.length fun j => (e_api_Letter (r.getD j z_api_Letter))))] 1 := by
  refine specO_of (fn := Try.f16) (args := [(e_s_api_Letter p0), (e_s_api_Letter p1)]) Try.func16 rfl (Nat.le_of_ble_eq_true rfl) ?_
  rintro ⟨G, w0, W, S, Sp⟩ hG
  cases hG
  unfold lossy_Put at H
  refine aw_region (es := [_]) ⟨Step.plain rfl (does_nil false 0 4 (fun j => (e_api_Letter (([] : _root_.List api_Letter).getD j z_api_Letter)))), ⟨trivial, trivial, rfl⟩, rfl, rfl⟩ ?_
  refine aw_cov (cov_prune (s1 := ⟨[(0, (e_s_api_Letter p0)), (1, (e_s_api_Letter p1))], [], 1⟩) ⟨rfl, rfl, trivial⟩ trivial (Nat.le_refl _)) ?_
  refine aw_region (es := [_, _, _, _, _]) ⟨Step.plain rfl (does_move (.tmp 0) (e_s_api_Letter p0) trivial), ⟨⟨rfl, trivial⟩, trivial, rfl⟩, rfl,
    Step.plain rfl (does_lens 22 4 p0.length 6 (fun j => (e_api_Letter (p0.getD j z_api_Letter))) el22), ⟨⟨rfl, trivial⟩, trivial, rfl⟩, rfl,
    Step.plain rfl (does_bin .sub 3 3 (.const (.int .i64 4096)) (.tmp 7) .i64 4096 (p0.length : Int) (.int .i64 (IntKind.i64.wrap (4096 - (p0.length : Int)))) (fun _ => rfl) trivial (bin_sub _ _ _ _)), ⟨⟨rfl, trivial⟩, trivial, rfl⟩, rfl,
    Step.plain rfl (does_max _ _ (.const (.int .i64 0)) (.tmp 8) rfl .i64 0 (IntKind.i64.wrap (4096 - (p0.length : Int))) (fun _ => rfl) trivial), ⟨⟨rfl, trivial⟩, trivial, rfl⟩, rfl,
    Step.plain rfl (does_assign (.tmp 9) (.int .i64 (if 0 < (IntKind.i64.wrap (4096 - (p0.length : Int))) then (IntKind.i64.wrap (4096 - (p0.length : Int))) else 0)) trivial), ⟨⟨rfl, trivial⟩, trivial, rfl⟩, rfl, rfl⟩ ?_
  obtain ⟨v1, hv1, H⟩ := lt_of H
  refine aw_cov (cov_prune (s1 := ⟨[(0, (e_s_api_Letter p0)), (1, (e_s_api_Letter p1)), (5, (.int .i64 v1))], [], 1⟩) ⟨rfl, rfl, (by subst hv1; rfl), trivial⟩ trivial (Nat.le_refl _)) ?_
  obtain ⟨h2, H⟩ := sb_of H
  obtain ⟨v3, h4, H⟩ := bnd H
  refine aw_region (es := [_, _, _, _, _, _, _, _, _, _]) ⟨Step.plain rfl (does_move (.tmp 0) (e_s_api_Letter p0) trivial), ⟨⟨rfl, trivial⟩, trivial, rfl⟩, rfl,
    Step.plain rfl (does_move (.tmp 1) (e_s_api_Letter p1) trivial), ⟨⟨rfl, trivial⟩, trivial, rfl⟩, rfl,
    Step.plain rfl (does_move (.tmp 1) (e_s_api_Letter p1) trivial), ⟨⟨rfl, trivial⟩, trivial, rfl⟩, rfl,
    Step.plain rfl (does_lens 22 4 p1.length 12 (fun j => (e_api_Letter (p1.getD j z_api_Letter))) el22), ⟨⟨rfl, trivial⟩, trivial, rfl⟩, rfl,
    Step.plain rfl (does_move (.tmp 5) (.int .i64 v1) trivial), ⟨⟨rfl, trivial⟩, trivial, rfl⟩, rfl,
    Step.plain rfl (does_min _ _ (.tmp 13) (.tmp 14) rfl .i64 (p1.length : Int) v1 trivial trivial), ⟨⟨rfl, rfl, trivial⟩, trivial, rfl⟩, rfl,
    Step.plain rfl (does_slicesL e_api_Letter z_api_Letter p1 22 4 11 0 ((if v1 < (p1.length : Int) then v1 else (p1.length : Int)).toNat) none (some ((.tmp 15), .i64, (if v1 < (p1.length : Int) then v1 else (p1.length : Int)))) _ _ el22 (by decide) rfl rfl trivial trivial rfl (Int.toNat_of_nonneg (Int.le_trans h2.1 h2.2.1)).symm (by omega) (by omega)), ⟨⟨rfl, rfl, trivial⟩, trivial, rfl⟩, rfl,
    Step.plain rfl (does_buildSl 53 2 1 (e_s_api_Letter []) (fun j => (e_s_api_Letter (([p0, ((p1.take ((if v1 < (p1.length : Int) then v1 else (p1.length : Int)).toNat)).drop 0)] : _root_.List (_root_.List api_Letter)).getD j []))) #[(0, (.tmp 10)), (1, (.tmp 16))] [(0, (.tmp 10)), (1, (.tmp 16))] [(0, (e_s_api_Letter p0)), (1, (e_s_api_Letter ((p1.take ((if v1 < (p1.length : Int) then v1 else (p1.length : Int)).toNat)).drop 0)))] rfl so53 (by decide) ⟨⟨rfl, trivial⟩, ⟨rfl, trivial⟩, trivial⟩ ⟨⟨Nat.le_of_ble_eq_true rfl, rfl, rfl⟩, ⟨Nat.le_of_ble_eq_true rfl, rfl, rfl⟩, trivial⟩ (fun j h => match j, h with | 0, _ => rfl | 1, _ => rfl | k + 2, h => absurd h (by omega))), ⟨⟨rfl, rfl, trivial⟩, trivial, rfl⟩, rfl,
    Step.plain rfl (does_callO 25 0 (fun _ => .any) (.func 25) [(.tmp 17)] [(e_s_s_api_Letter ([p0, ((p1.take ((if v1 < (p1.length : Int) then v1 else (p1.length : Int)).toNat)).drop 0)] : _root_.List (_root_.List api_Letter)))] [] [] true [(e_s_s_api_Letter ([p0, ((p1.take ((if v1 < (p1.length : Int) then v1 else (p1.length : Int)).toNat)).drop 0)] : _root_.List (_root_.List api_Letter)))] _ (.own 1) _ 1 1 _ _ rfl fo25 rfl ⟨trivial, trivial⟩ ⟨.ro _ _ (.data _ (d_s_s_api_Letter ([p0, ((p1.take ((if v1 < (p1.length : Int) then v1 else (p1.length : Int)).toNat)).drop 0)] : _root_.List (_root_.List api_Letter)))), trivial⟩ (slices_Concat_api_Letter_api_Letter_spec ([p0, ((p1.take ((if v1 < (p1.length : Int) then v1 else (p1.length : Int)).toNat)).drop 0)] : _root_.List (_root_.List api_Letter)) _ h4) rfl (by simp) rfl trivial ⟨⟨Nat.le_of_ble_eq_true rfl, _, rfl, fun _ => (f_api_Letter _)⟩, trivial⟩ (.own 0 (Nat.le_of_ble_eq_true rfl))), ⟨⟨rfl, trivial⟩, trivial, rfl⟩, rfl,
    Step.plain rfl (does_assign (.tmp 18) (.own 1) trivial), ⟨⟨rfl, trivial⟩, trivial, rfl⟩, rfl, rfl⟩ ?_
  refine aw_cov (cov_prune (s1 := ⟨[(4, (.own 1))], [(1, some (.arr 4 v3.length fun j => (e_api_Letter (v3.getD j z_api_Letter))))], 2⟩) ⟨rfl, trivial⟩ ⟨rfl, trivial⟩ (Nat.le_refl _)) ?_
  refine aw_ret ?_
  exact fun a w hr => ⟨_, [(.own 0)], reach_of hr (cov_to (s1 := ⟨[(4, (.own 0))], [(0, some (.arr 4 v3.length fun j => (e_api_Letter (v3.getD j z_api_Letter))))], 1⟩) (fun i => match i with | 0 => 1 | k => k) [] ⟨⟨_, rfl, .own 0 _ _ (Nat.le_of_ble_eq_true rfl) rfl rfl (Box.like_refl _)⟩, trivial⟩ ⟨⟨Nat.le_of_ble_eq_true rfl, _, _, rfl, rfl, boxTo_arr (fun _ => (d_api_Letter _))⟩, trivial⟩ rfl rfl), ⟨rfl, trivial⟩, by decide, by cases H; rfl, by cases H; exact ⟨rfl, trivial⟩, Nat.le_of_ble_eq_true rfl⟩

theorem lossy_Put_data (p0 : (_root_.List api_Letter)) (p1 : (_root_.List api_Letter)) (r : (_root_.List api_Letter)) (H : lossy_Put p0 p1 = some r) : FSpec Try.prog 16 [(e_s_api_Letter p0), (e_s_api_Letter p1)] (e_s_api_Letter r) :=
  FSpecO.toData (fz := [0]) (lossy_Put_spec p0 p1 r H) (d_s_api_Letter r) (.frz 0 _ _ _ rfl (fun _ => (d_api_Letter _)) (by decide))

theorem congresslaw14_fixed_spec (r : Bool) (H : congresslaw14_fixed = some r) : FSpec Try.prog 15 [] (.bool r) := by
  refine spec_of (fn := Try.f15) (args := []) Try.func15 rfl (Nat.le_of_ble_eq_true rfl) ?_
  rintro ⟨G, w0, W, S, Sp⟩ hG
  cases hG
  unfold congresslaw14_fixed at H
  refine aw_region (es := [_]) ⟨Step.plain rfl (does_assign (.const (.bool false)) (.bool false) (fun _ => rfl)), ⟨trivial, trivial, rfl⟩, rfl, rfl⟩ ?_
  refine aw_cov (cov_prune (s1 := ⟨[], [], 0⟩) trivial trivial (Nat.le_refl _)) ?_
  obtain ⟨v1, h2, H⟩ := bnd H
  obtain ⟨v3, h4, H⟩ := bnd H
  refine aw_region (es := [_, _, _, _, _, _, _, _, _, _]) ⟨Step.plain rfl (does_call 24 0 (fun _ => .any) (.func 24) [] [] [] false [] (e_s_api_Letter v1) _ _ rfl fo24 rfl trivial trivial (congresslaw14_three_spec _ h2) (d_s_api_Letter v1)), ⟨trivial, trivial, rfl⟩, rfl,
    Step.plain rfl (does_callO 8 0 (fun _ => .any) (.func 8) [(.tmp 12), (.const (.int .i64 0)), (.const (.int .i64 1)), (.const (.int .i64 4))] [(e_s_api_Letter v1), (.int .i64 0), (.int .i64 1), (.int .i64 4)] [] [] true [(e_s_api_Letter v1), (.int .i64 0), (.int .i64 1), (.int .i64 4)] _ (resV [(.own 0), (e_api_Letter v3.2.1), (.bool v3.2.2)]) _ 0 2 _ _ rfl fo8 rfl ⟨trivial, (fun _ => rfl), (fun _ => rfl), (fun _ => rfl), trivial⟩ ⟨.ro _ _ (.data _ (d_s_api_Letter v1)), .ro _ _ (.data _ trivial), .ro _ _ (.data _ trivial), .ro _ _ (.data _ trivial), trivial⟩ (lossy_Take_spec v1 0 1 4 _ h4) rfl (by simp) rfl trivial ⟨⟨Nat.le_of_ble_eq_true rfl, _, rfl, fun _ => (f_api_Letter _)⟩, trivial⟩ (.tup _ _ _ (fun j => match j with | 0 => .own 0 (Nat.le_of_ble_eq_true rfl) | 1 => .data _ ((f_api_Letter v3.2.1)) | 2 => .data _ (trivial) | _ + 3 => .data _ trivial))), ⟨⟨rfl, trivial⟩, trivial, rfl⟩, rfl,
    Step.plain rfl (does_move (.tmp 13) (resV [(.own 0), (e_api_Letter v3.2.1), (.bool v3.2.2)]) trivial), ⟨⟨rfl, trivial⟩, trivial, rfl⟩, rfl,
    Step.plain rfl (does_extract 11 0 3 (fun j => [(.own 0), (e_api_Letter v3.2.1), (.bool v3.2.2)].getD j (.bool false)) (Nat.le_of_ble_eq_true rfl)), ⟨⟨rfl, trivial⟩, trivial, rfl⟩, rfl,
    Step.plain rfl (does_extract 11 1 3 (fun j => [(.own 0), (e_api_Letter v3.2.1), (.bool v3.2.2)].getD j (.bool false)) (Nat.le_of_ble_eq_true rfl)), ⟨⟨rfl, trivial⟩, trivial, rfl⟩, rfl,
    Step.plain rfl (does_extract 11 2 3 (fun j => [(.own 0), (e_api_Letter v3.2.1), (.bool v3.2.2)].getD j (.bool false)) (Nat.le_of_ble_eq_true rfl)), ⟨⟨rfl, trivial⟩, trivial, rfl⟩, rfl,
    Step.plain rfl (does_alloc 27 2 (e_api_Letter z_api_Letter) zr27), ⟨trivial, trivial, rfl⟩, rfl,
    Step.plain rfl (does_assign (.tmp 14) (.own 0) trivial), ⟨⟨rfl, trivial⟩, trivial, rfl⟩, rfl,
    Step.plain rfl (does_store 27 2 (.tmp 15) 2 0 [] (.var (e_api_Letter z_api_Letter)) (.var (e_api_Letter v3.2.1)) (e_api_Letter v3.2.1) true trivial rfl trivial rfl rfl rfl ty27), ⟨⟨rfl, rfl, trivial⟩, ⟨rfl, trivial⟩, rfl⟩, rfl,
    Step.plain rfl (does_assign (.tmp 16) (.bool v3.2.2) trivial), ⟨⟨rfl, trivial⟩, trivial, rfl⟩, rfl, rfl⟩ ?_
  refine aw_cov (cov_prune (s1 := ⟨[(2, (.ptr 2 0 [])), (1, (.own 0)), (3, (.bool v3.2.2))], [(0, some (.arr 4 v3.1.length fun j => (e_api_Letter (v3.1.getD j z_api_Letter)))), (2, some (.var (e_api_Letter v3.2.1)))], 3⟩) ⟨rfl, rfl, rfl, trivial⟩ ⟨rfl, rfl, trivial⟩ (Nat.le_refl _)) ?_
  obtain ⟨v5, h6, H⟩ := bnd H
  obtain ⟨v7, h8, H⟩ := bnd H
  refine aw_region (es := [_, _, _, _, _, _, _, _, _, _]) ⟨Step.plain rfl (does_call 24 0 (fun _ => .any) (.func 24) [] [] [] false [] (e_s_api_Letter v5) _ _ rfl fo24 rfl trivial trivial (congresslaw14_three_spec _ h6) (d_s_api_Letter v5)), ⟨trivial, trivial, rfl⟩, rfl,
    Step.plain rfl (does_callO 8 0 (fun _ => .any) (.func 8) [(.tmp 18), (.const (.int .i64 0)), (.const (.int .i64 1)), (.const (.int .i64 (-1)))] [(e_s_api_Letter v5), (.int .i64 0), (.int .i64 1), (.int .i64 (-1))] [] [] true [(e_s_api_Letter v5), (.int .i64 0), (.int .i64 1), (.int .i64 (-1))] _ (resV [(.own 3), (e_api_Letter v7.2.1), (.bool v7.2.2)]) _ 3 2 _ _ rfl fo8 rfl ⟨trivial, (fun _ => rfl), (fun _ => rfl), (fun _ => rfl), trivial⟩ ⟨.ro _ _ (.data _ (d_s_api_Letter v5)), .ro _ _ (.data _ trivial), .ro _ _ (.data _ trivial), .ro _ _ (.data _ trivial), trivial⟩ (lossy_Take_spec v5 0 1 (-1) _ h8) rfl (by simp) rfl trivial ⟨⟨Nat.le_of_ble_eq_true rfl, _, rfl, fun _ => (f_api_Letter _)⟩, trivial⟩ (.tup _ _ _ (fun j => match j with | 0 => .own 0 (Nat.le_of_ble_eq_true rfl) | 1 => .data _ ((f_api_Letter v7.2.1)) | 2 => .data _ (trivial) | _ + 3 => .data _ trivial))), ⟨⟨rfl, trivial⟩, trivial, rfl⟩, rfl,
    Step.plain rfl (does_move (.tmp 19) (resV [(.own 3), (e_api_Letter v7.2.1), (.bool v7.2.2)]) trivial), ⟨⟨rfl, trivial⟩, trivial, rfl⟩, rfl,
    Step.plain rfl (does_extract 17 0 3 (fun j => [(.own 3), (e_api_Letter v7.2.1), (.bool v7.2.2)].getD j (.bool false)) (Nat.le_of_ble_eq_true rfl)), ⟨⟨rfl, trivial⟩, trivial, rfl⟩, rfl,
    Step.plain rfl (does_extract 17 1 3 (fun j => [(.own 3), (e_api_Letter v7.2.1), (.bool v7.2.2)].getD j (.bool false)) (Nat.le_of_ble_eq_true rfl)), ⟨⟨rfl, trivial⟩, trivial, rfl⟩, rfl,
    Step.plain rfl (does_extract 17 2 3 (fun j => [(.own 3), (e_api_Letter v7.2.1), (.bool v7.2.2)].getD j (.bool false)) (Nat.le_of_ble_eq_true rfl)), ⟨⟨rfl, trivial⟩, trivial, rfl⟩, rfl,
    Step.plain rfl (does_alloc 27 5 (e_api_Letter z_api_Letter) zr27), ⟨trivial, trivial, rfl⟩, rfl,
    Step.plain rfl (does_assign (.tmp 20) (.own 3) trivial), ⟨⟨rfl, trivial⟩, trivial, rfl⟩, rfl,
    Step.plain rfl (does_store 27 5 (.tmp 21) 5 0 [] (.var (e_api_Letter z_api_Letter)) (.var (e_api_Letter v7.2.1)) (e_api_Letter v7.2.1) true trivial rfl trivial rfl rfl rfl ty27), ⟨⟨rfl, rfl, trivial⟩, ⟨rfl, trivial⟩, rfl⟩, rfl,
    Step.plain rfl (does_assign (.tmp 22) (.bool v7.2.2) trivial), ⟨⟨rfl, trivial⟩, trivial, rfl⟩, rfl, rfl⟩ ?_
  refine aw_cov (cov_prune (s1 := ⟨[(2, (.ptr 2 0 [])), (1, (.own 0)), (3, (.bool v3.2.2)), (5, (.ptr 5 0 [])), (6, (.bool v7.2.2))], [(0, some (.arr 4 v3.1.length fun j => (e_api_Letter (v3.1.getD j z_api_Letter)))), (2, some (.var (e_api_Letter v3.2.1))), (5, some (.var (e_api_Letter v7.2.1)))], 6⟩) ⟨rfl, rfl, rfl, rfl, rfl, trivial⟩ ⟨rfl, rfl, rfl, trivial⟩ (Nat.le_refl _)) ?_
  obtain ⟨v9, h10, H⟩ := bnd H
  obtain ⟨v11, h12, H⟩ := bnd H
  refine aw_region (es := [_, _, _, _, _, _, _, _, _, _]) ⟨Step.plain rfl (does_call 24 0 (fun _ => .any) (.func 24) [] [] [] false [] (e_s_api_Letter v9) _ _ rfl fo24 rfl trivial trivial (congresslaw14_three_spec _ h10) (d_s_api_Letter v9)), ⟨trivial, trivial, rfl⟩, rfl,
    Step.plain rfl (does_callO 8 0 (fun _ => .any) (.func 8) [(.tmp 24), (.const (.int .i64 1)), (.const (.int .i64 0)), (.const (.int .i64 0))] [(e_s_api_Letter v9), (.int .i64 1), (.int .i64 0), (.int .i64 0)] [] [] true [(e_s_api_Letter v9), (.int .i64 1), (.int .i64 0), (.int .i64 0)] _ (resV [(.own 6), (e_api_Letter v11.2.1), (.bool v11.2.2)]) _ 6 2 _ _ rfl fo8 rfl ⟨trivial, (fun _ => rfl), (fun _ => rfl), (fun _ => rfl), trivial⟩ ⟨.ro _ _ (.data _ (d_s_api_Letter v9)), .ro _ _ (.data _ trivial), .ro _ _ (.data _ trivial), .ro _ _ (.data _ trivial), trivial⟩ (lossy_Take_spec v9 1 0 0 _ h12) rfl (by simp) rfl trivial ⟨⟨Nat.le_of_ble_eq_true rfl, _, rfl, fun _ => (f_api_Letter _)⟩, trivial⟩ (.tup _ _ _ (fun j => match j with | 0 => .own 0 (Nat.le_of_ble_eq_true rfl) | 1 => .data _ ((f_api_Letter v11.2.1)) | 2 => .data _ (trivial) | _ + 3 => .data _ trivial))), ⟨⟨rfl, trivial⟩, trivial, rfl⟩, rfl,
    Step.plain rfl (does_move (.tmp 25) (resV [(.own 6), (e_api_Letter v11.2.1), (.bool v11.2.2)]) trivial), ⟨⟨rfl, trivial⟩, trivial, rfl⟩, rfl,
    Step.plain rfl (does_extract 23 0 3 (fun j => [(.own 6), (e_api_Letter v11.2.1), (.bool v11.2.2)].getD j (.bool false)) (Nat.le_of_ble_eq_true rfl)), ⟨⟨rfl, trivial⟩, trivial, rfl⟩, rfl,
    Step.plain rfl (does_extract 23 1 3 (fun j => [(.own 6), (e_api_Letter v11.2.1), (.bool v11.2.2)].getD j (.bool false)) (Nat.le_of_ble_eq_true rfl)), ⟨⟨rfl, trivial⟩, trivial, rfl⟩, rfl,
    Step.plain rfl (does_extract 23 2 3 (fun j => [(.own 6), (e_api_Letter v11.2.1), (.bool v11.2.2)].getD j (.bool false)) (Nat.le_of_ble_eq_true rfl)), ⟨⟨rfl, trivial⟩, trivial, rfl⟩, rfl,
    Step.plain rfl (does_alloc 27 8 (e_api_Letter z_api_Letter) zr27), ⟨trivial, trivial, rfl⟩, rfl,
    Step.plain rfl (does_assign (.tmp 26) (.own 6) trivial), ⟨⟨rfl, trivial⟩, trivial, rfl⟩, rfl,
    Step.plain rfl (does_store 27 8 (.tmp 27) 8 0 [] (.var (e_api_Letter z_api_Letter)) (.var (e_api_Letter v11.2.1)) (e_api_Letter v11.2.1) true trivial rfl trivial rfl rfl rfl ty27), ⟨⟨rfl, rfl, trivial⟩, ⟨rfl, trivial⟩, rfl⟩, rfl,
    Step.plain rfl (does_assign (.tmp 28) (.bool v11.2.2) trivial), ⟨⟨rfl, trivial⟩, trivial, rfl⟩, rfl, rfl⟩ ?_
  refine aw_cov (cov_prune (s1 := ⟨[(2, (.ptr 2 0 [])), (1, (.own 0)), (3, (.bool v3.2.2)), (5, (.ptr 5 0 [])), (6, (.bool v7.2.2)), (9, (.bool v11.2.2))], [(0, some (.arr 4 v3.1.length fun j => (e_api_Letter (v3.1.getD j z_api_Letter)))), (2, some (.var (e_api_Letter v3.2.1))), (5, some (.var (e_api_Letter v7.2.1)))], 9⟩) ⟨rfl, rfl, rfl, rfl, rfl, rfl, trivial⟩ ⟨rfl, rfl, rfl, trivial⟩ (Nat.le_refl _)) ?_
  obtain ⟨v13, h14, H⟩ := bnd H
  obtain ⟨v15, h16, H⟩ := bnd H
  refine aw_region (es := [_, _, _]) ⟨Step.plain rfl (does_call 24 0 (fun _ => .any) (.func 24) [] [] [] false [] (e_s_api_Letter v13) _ _ rfl fo24 rfl trivial trivial (congresslaw14_three_spec _ h14) (d_s_api_Letter v13)), ⟨trivial, trivial, rfl⟩, rfl,
    Step.plain rfl (does_callO 13 0 (fun _ => .any) (.func 13) [(.tmp 29), (.const (.int .i64 0)), (.const (.int .i64 1)), (.const (.int .i64 0)), (.const (.int .i64 0)), (.const (.int .u32 1))] [(e_s_api_Letter v13), (.int .i64 0), (.int .i64 1), (.int .i64 0), (.int .i64 0), (.int .u32 1)] [] [] true [(e_s_api_Letter v13), (.int .i64 0), (.int .i64 1), (.int .i64 0), (.int .i64 0), (.int .u32 1)] _ (.own 9) _ 9 1 _ _ rfl fo13 rfl ⟨trivial, (fun _ => rfl), (fun _ => rfl), (fun _ => rfl), (fun _ => rfl), (fun _ => rfl), trivial⟩ ⟨.ro _ _ (.data _ (d_s_api_Letter v13)), .ro _ _ (.data _ trivial), .ro _ _ (.data _ trivial), .ro _ _ (.data _ trivial), .ro _ _ (.data _ trivial), .ro _ _ (.data _ trivial), trivial⟩ (lossy_Turn_spec v13 0 1 0 0 1 _ h16) rfl (by simp) rfl trivial ⟨⟨Nat.le_of_ble_eq_true rfl, _, rfl, fun _ => (f_api_Letter _)⟩, trivial⟩ (.own 0 (Nat.le_of_ble_eq_true rfl))), ⟨⟨rfl, trivial⟩, trivial, rfl⟩, rfl,
    Step.plain rfl (does_assign (.tmp 30) (.own 9) trivial), ⟨⟨rfl, trivial⟩, trivial, rfl⟩, rfl, rfl⟩ ?_
  refine aw_cov (cov_prune (s1 := ⟨[(2, (.ptr 2 0 [])), (1, (.own 0)), (3, (.bool v3.2.2)), (5, (.ptr 5 0 [])), (6, (.bool v7.2.2)), (9, (.bool v11.2.2)), (10, (.own 9))], [(0, some (.arr 4 v3.1.length fun j => (e_api_Letter (v3.1.getD j z_api_Letter)))), (2, some (.var (e_api_Letter v3.2.1))), (5, some (.var (e_api_Letter v7.2.1))), (9, some (.arr 4 v15.length fun j => (e_api_Letter (v15.getD j z_api_Letter))))], 10⟩) ⟨rfl, rfl, rfl, rfl, rfl, rfl, rfl, trivial⟩ ⟨rfl, rfl, rfl, rfl, trivial⟩ (Nat.le_refl _)) ?_
  obtain ⟨h17, H⟩ := ibg_of H
  obtain ⟨v18, h19, H⟩ := whn_of H
  obtain ⟨v20, h21, H⟩ := whn_of H
  obtain ⟨v22, h23, H⟩ := whn_of H
  obtain ⟨v24, h25, H⟩ := whn_of H
  obtain ⟨v26, h27, H⟩ := whn_of H
  refine aw_region (es := [_, _, _, _, _, _, _, _, _, _, _, _, _, _, _, _, _, _, _, _, _, _, _, _, _, _, _, _, _, _, _, _, _, _, _, _, _, _, _, _, _, _, _, _, _, _, _, _]) ⟨Step.plain rfl (does_move (.tmp 3) (.bool v3.2.2) trivial), ⟨⟨rfl, trivial⟩, trivial, rfl⟩, rfl,
    Step.plain rfl (does_move (.tmp 31) (.bool v3.2.2) trivial), ⟨⟨rfl, trivial⟩, trivial, rfl⟩, rfl,
    Step.guarded rfl rfl rfl rfl (fun hc => does_fieldAddr 27 2 2 2 2 0 [] (.var (e_api_Letter v3.2.1)) fl27_2), ⟨⟨rfl, rfl, trivial⟩, ⟨rfl, trivial⟩, rfl⟩, rfl,
    Step.guarded rfl rfl rfl rfl (fun hc => Does.strip (n' := [(33, (.opt v3.2.2 (.ptr 2 (0 + 2) [2])))]) (n := [(33, (.ptr 2 (0 + 2) [2]))]) ⟨(.opt _ _ hc), trivial⟩ (does_load 9 33 2 (0 + 2) [2] (.var (e_api_Letter v3.2.1)) (.str v3.2.1.Text) ⟨rfl, Nat.le_of_ble_eq_true rfl, trivial⟩ rfl rfl ty9)), ⟨⟨rfl, rfl, trivial⟩, ⟨rfl, trivial⟩, rfl⟩, rfl,
    Step.guarded rfl rfl rfl rfl (fun hc => Does.strip (n' := [(34, (.opt v3.2.2 (.str v3.2.1.Text)))]) (n := [(34, (.str v3.2.1.Text))]) ⟨(.opt _ _ hc), trivial⟩ (does_eqStr false 9 9 (.tmp 34) (.const (.string (⟨#[98]⟩ : ByteArray))) v3.2.1.Text (⟨#[98]⟩ : ByteArray) trivial (fun _ => rfl))), ⟨⟨rfl, rfl, trivial⟩, trivial, rfl⟩, rfl,
    Step.plain rfl (does_and 32 35 v3.2.2 (v3.2.1.Text == (⟨#[98]⟩ : ByteArray))), ⟨⟨rfl, rfl, trivial⟩, trivial, rfl⟩, rfl,
    Step.plain rfl (does_move (.tmp 36) (.bool (v3.2.2 && (v3.2.1.Text == (⟨#[98]⟩ : ByteArray)))) trivial), ⟨⟨rfl, trivial⟩, trivial, rfl⟩, rfl,
    Step.guarded rfl rfl rfl rfl (fun hc => does_move (.tmp 1) (.own 0) trivial), ⟨⟨rfl, rfl, trivial⟩, trivial, rfl⟩, rfl,
    Step.guarded rfl rfl rfl rfl (fun hc => Does.strip (n' := [(38, (.opt (v3.2.2 && (v3.2.1.Text == (⟨#[98]⟩ : ByteArray))) (.own 0)))]) (n := [(38, (.own 0))]) ⟨(.opt _ _ hc), trivial⟩ (does_leno 22 4 v3.1.length 38 0 (fun j => (e_api_Letter (v3.1.getD j z_api_Letter))) el22)), ⟨⟨rfl, rfl, trivial⟩, ⟨rfl, trivial⟩, rfl⟩, rfl,
    Step.guarded rfl rfl rfl rfl (fun hc => Does.strip (n' := [(39, (.opt (v3.2.2 && (v3.2.1.Text == (⟨#[98]⟩ : ByteArray))) (.int .i64 (v3.1.length : Int))))]) (n := [(39, (.int .i64 (v3.1.length : Int)))]) ⟨(.opt _ _ hc), trivial⟩ (does_bin .eql 3 3 (.tmp 39) (.const (.int .i64 2)) .i64 (v3.1.length : Int) 2 (.bool ((v3.1.length : Int) == 2)) trivial (fun _ => rfl) (bin_eql _ _ _ _))), ⟨⟨rfl, rfl, trivial⟩, trivial, rfl⟩, rfl,
    Step.plain rfl (does_and 37 40 (v3.2.2 && (v3.2.1.Text == (⟨#[98]⟩ : ByteArray))) ((v3.1.length : Int) == 2)), ⟨⟨rfl, rfl, trivial⟩, trivial, rfl⟩, rfl,
    Step.plain rfl (does_move (.tmp 41) (.bool ((v3.2.2 && (v3.2.1.Text == (⟨#[98]⟩ : ByteArray))) && ((v3.1.length : Int) == 2))) trivial), ⟨⟨rfl, trivial⟩, trivial, rfl⟩, rfl,
    Step.guarded rfl rfl rfl rfl (fun hc => does_move (.tmp 6) (.bool v7.2.2) trivial), ⟨⟨rfl, rfl, trivial⟩, trivial, rfl⟩, rfl,
    Step.plain rfl (does_and 42 43 ((v3.2.2 && (v3.2.1.Text == (⟨#[98]⟩ : ByteArray))) && ((v3.1.length : Int) == 2)) v7.2.2), ⟨⟨rfl, rfl, trivial⟩, trivial, rfl⟩, rfl,
    Step.plain rfl (does_move (.tmp 44) (.bool (((v3.2.2 && (v3.2.1.Text == (⟨#[98]⟩ : ByteArray))) && ((v3.1.length : Int) == 2)) && v7.2.2)) trivial), ⟨⟨rfl, trivial⟩, trivial, rfl⟩, rfl,
    Step.guarded rfl rfl rfl rfl (fun hc => does_fieldAddr 27 2 2 5 5 0 [] (.var (e_api_Letter v7.2.1)) fl27_2), ⟨⟨rfl, rfl, trivial⟩, ⟨rfl, trivial⟩, rfl⟩, rfl,
    Step.guarded rfl rfl rfl rfl (fun hc => Does.strip (n' := [(46, (.opt (((v3.2.2 && (v3.2.1.Text == (⟨#[98]⟩ : ByteArray))) && ((v3.1.length : Int) == 2)) && v7.2.2) (.ptr 5 (0 + 2) [2])))]) (n := [(46, (.ptr 5 (0 + 2) [2]))]) ⟨(.opt _ _ hc), trivial⟩ (does_load 9 46 5 (0 + 2) [2] (.var (e_api_Letter v7.2.1)) (.str v7.2.1.Text) ⟨rfl, Nat.le_of_ble_eq_true rfl, trivial⟩ rfl rfl ty9)), ⟨⟨rfl, rfl, trivial⟩, ⟨rfl, trivial⟩, rfl⟩, rfl,
    Step.guarded rfl rfl rfl rfl (fun hc => Does.strip (n' := [(47, (.opt (((v3.2.2 && (v3.2.1.Text == (⟨#[98]⟩ : ByteArray))) && ((v3.1.length : Int) == 2)) && v7.2.2) (.str v7.2.1.Text)))]) (n := [(47, (.str v7.2.1.Text))]) ⟨(.opt _ _ hc), trivial⟩ (does_eqStr false 9 9 (.tmp 47) (.const (.string (⟨#[99]⟩ : ByteArray))) v7.2.1.Text (⟨#[99]⟩ : ByteArray) trivial (fun _ => rfl))), ⟨⟨rfl, rfl, trivial⟩, trivial, rfl⟩, rfl,
    Step.plain rfl (does_and 45 48 (((v3.2.2 && (v3.2.1.Text == (⟨#[98]⟩ : ByteArray))) && ((v3.1.length : Int) == 2)) && v7.2.2) (v7.2.1.Text == (⟨#[99]⟩ : ByteArray))), ⟨⟨rfl, rfl, trivial⟩, trivial, rfl⟩, rfl,
    Step.plain rfl (does_move (.tmp 49) (.bool ((((v3.2.2 && (v3.2.1.Text == (⟨#[98]⟩ : ByteArray))) && ((v3.1.length : Int) == 2)) && v7.2.2) && (v7.2.1.Text == (⟨#[99]⟩ : ByteArray)))) trivial), ⟨⟨rfl, trivial⟩, trivial, rfl⟩, rfl,
    Step.guarded rfl rfl rfl rfl (fun hc => does_move (.tmp 9) (.bool v11.2.2) trivial), ⟨⟨rfl, rfl, trivial⟩, trivial, rfl⟩, rfl,
    Step.guarded rfl rfl rfl rfl (fun hc => Does.strip (n' := [(51, (.opt ((((v3.2.2 && (v3.2.1.Text == (⟨#[98]⟩ : ByteArray))) && ((v3.1.length : Int) == 2)) && v7.2.2) && (v7.2.1.Text == (⟨#[99]⟩ : ByteArray))) (.bool v11.2.2)))]) (n := [(51, (.bool v11.2.2))]) ⟨(.opt _ _ hc), trivial⟩ (does_not 4 (.tmp 51) v11.2.2 trivial)), ⟨⟨rfl, rfl, trivial⟩, trivial, rfl⟩, rfl,
    Step.plain rfl (does_and 50 52 ((((v3.2.2 && (v3.2.1.Text == (⟨#[98]⟩ : ByteArray))) && ((v3.1.length : Int) == 2)) && v7.2.2) && (v7.2.1.Text == (⟨#[99]⟩ : ByteArray))) (!v11.2.2)), ⟨⟨rfl, rfl, trivial⟩, trivial, rfl⟩, rfl,
    Step.plain rfl (does_move (.tmp 53) (.bool (((((v3.2.2 && (v3.2.1.Text == (⟨#[98]⟩ : ByteArray))) && ((v3.1.length : Int) == 2)) && v7.2.2) && (v7.2.1.Text == (⟨#[99]⟩ : ByteArray))) && (!v11.2.2))) trivial), ⟨⟨rfl, trivial⟩, trivial, rfl⟩, rfl,
    Step.guarded rfl rfl rfl rfl (fun hc => does_move (.tmp 10) (.own 9) trivial), ⟨⟨rfl, rfl, trivial⟩, trivial, rfl⟩, rfl,
    Step.guarded rfl rfl rfl rfl (fun hc => Does.strip (n' := [(55, (.opt (((((v3.2.2 && (v3.2.1.Text == (⟨#[98]⟩ : ByteArray))) && ((v3.1.length : Int) == 2)) && v7.2.2) && (v7.2.1.Text == (⟨#[99]⟩ : ByteArray))) && (!v11.2.2)) (.own 9)))]) (n := [(55, (.own 9))]) ⟨(.opt _ _ hc), trivial⟩ (does_leno 22 4 v15.length 55 9 (fun j => (e_api_Letter (v15.getD j z_api_Letter))) el22)), ⟨⟨rfl, rfl, trivial⟩, ⟨rfl, trivial⟩, rfl⟩, rfl,
    Step.guarded rfl rfl rfl rfl (fun hc => Does.strip (n' := [(56, (.opt (((((v3.2.2 && (v3.2.1.Text == (⟨#[98]⟩ : ByteArray))) && ((v3.1.length : Int) == 2)) && v7.2.2) && (v7.2.1.Text == (⟨#[99]⟩ : ByteArray))) && (!v11.2.2)) (.int .i64 (v15.length : Int))))]) (n := [(56, (.int .i64 (v15.length : Int)))]) ⟨(.opt _ _ hc), trivial⟩ (does_bin .eql 3 3 (.tmp 56) (.const (.int .i64 3)) .i64 (v15.length : Int) 3 (.bool ((v15.length : Int) == 3)) trivial (fun _ => rfl) (bin_eql _ _ _ _))), ⟨⟨rfl, rfl, trivial⟩, trivial, rfl⟩, rfl,
    Step.plain rfl (does_and 54 57 (((((v3.2.2 && (v3.2.1.Text == (⟨#[98]⟩ : ByteArray))) && ((v3.1.length : Int) == 2)) && v7.2.2) && (v7.2.1.Text == (⟨#[99]⟩ : ByteArray))) && (!v11.2.2)) ((v15.length : Int) == 3)), ⟨⟨rfl, rfl, trivial⟩, trivial, rfl⟩, rfl,
    Step.plain rfl (does_move (.tmp 58) (.bool ((((((v3.2.2 && (v3.2.1.Text == (⟨#[98]⟩ : ByteArray))) && ((v3.1.length : Int) == 2)) && v7.2.2) && (v7.2.1.Text == (⟨#[99]⟩ : ByteArray))) && (!v11.2.2)) && ((v15.length : Int) == 3))) trivial), ⟨⟨rfl, trivial⟩, trivial, rfl⟩, rfl,
    Step.guarded rfl rfl rfl rfl (fun hc => does_move (.tmp 10) (.own 9) trivial), ⟨⟨rfl, rfl, trivial⟩, trivial, rfl⟩, rfl,
    Step.guarded rfl rfl rfl rfl (fun hc => Does.strip (n' := [(60, (.opt ((((((v3.2.2 && (v3.2.1.Text == (⟨#[98]⟩ : ByteArray))) && ((v3.1.length : Int) == 2)) && v7.2.2) && (v7.2.1.Text == (⟨#[99]⟩ : ByteArray))) && (!v11.2.2)) && ((v15.length : Int) == 3)) (.own 9)))]) (n := [(60, (.own 9))]) ⟨(.opt _ _ hc), trivial⟩ (does_indexAddro 22 4 v15.length 60 9 (fun j => (e_api_Letter (v15.getD j z_api_Letter))) (.const (.int .i64 0)) .i64 0 el22 (fun _ => rfl) (h17 hc).1 (h17 hc).2)), ⟨⟨rfl, rfl, trivial⟩, ⟨rfl, trivial⟩, rfl⟩, rfl,
    Step.guarded rfl rfl rfl rfl (fun hc => Does.strip (n' := [(61, (.opt ((((((v3.2.2 && (v3.2.1.Text == (⟨#[98]⟩ : ByteArray))) && ((v3.1.length : Int) == 2)) && v7.2.2) && (v7.2.1.Text == (⟨#[99]⟩ : ByteArray))) && (!v11.2.2)) && ((v15.length : Int) == 3)) (.ptr 9 (0 * 4) [0])))]) (n := [(61, (.ptr 9 (0 * 4) [0]))]) ⟨(.opt _ _ hc), trivial⟩ (does_fieldAddr 27 2 2 61 9 (0 * 4) [0] (.arr 4 v15.length fun j => (e_api_Letter (v15.getD j z_api_Letter))) fl27_2)), ⟨⟨rfl, rfl, trivial⟩, ⟨rfl, trivial⟩, rfl⟩, rfl,
    Step.guarded rfl rfl rfl rfl (fun hc => Does.strip (n' := [(62, (.opt ((((((v3.2.2 && (v3.2.1.Text == (⟨#[98]⟩ : ByteArray))) && ((v3.1.length : Int) == 2)) && v7.2.2) && (v7.2.1.Text == (⟨#[99]⟩ : ByteArray))) && (!v11.2.2)) && ((v15.length : Int) == 3)) (.ptr 9 ((0 * 4) + 2) [0, 2])))]) (n := [(62, (.ptr 9 ((0 * 4) + 2) [0, 2]))]) ⟨(.opt _ _ hc), trivial⟩ (does_load 9 62 9 ((0 * 4) + 2) [0, 2] (.arr 4 v15.length fun j => (e_api_Letter (v15.getD j z_api_Letter))) (.str ((v15.getD 0 z_api_Letter).Text)) ⟨(ixl (h17 hc)), ⟨rfl, Nat.le_of_ble_eq_true rfl, trivial⟩⟩ rfl rfl ty9)), ⟨⟨rfl, rfl, trivial⟩, ⟨rfl, trivial⟩, rfl⟩, rfl,
    Step.guarded rfl rfl rfl rfl (fun hc => Does.strip (n' := [(63, (.opt ((((((v3.2.2 && (v3.2.1.Text == (⟨#[98]⟩ : ByteArray))) && ((v3.1.length : Int) == 2)) && v7.2.2) && (v7.2.1.Text == (⟨#[99]⟩ : ByteArray))) && (!v11.2.2)) && ((v15.length : Int) == 3)) (.str ((v15.getD 0 z_api_Letter).Text))))]) (n := [(63, (.str ((v15.getD 0 z_api_Letter).Text)))]) ⟨(.opt _ _ hc), trivial⟩ (does_eqStr false 9 9 (.tmp 63) (.const (.string (⟨#[96]⟩ : ByteArray))) ((v15.getD 0 z_api_Letter).Text) (⟨#[96]⟩ : ByteArray) trivial (fun _ => rfl))), ⟨⟨rfl, rfl, trivial⟩, trivial, rfl⟩, rfl,
    Step.plain rfl (does_and 59 64 ((((((v3.2.2 && (v3.2.1.Text == (⟨#[98]⟩ : ByteArray))) && ((v3.1.length : Int) == 2)) && v7.2.2) && (v7.2.1.Text == (⟨#[99]⟩ : ByteArray))) && (!v11.2.2)) && ((v15.length : Int) == 3)) (((v15.getD 0 z_api_Letter).Text) == (⟨#[96]⟩ : ByteArray))), ⟨⟨rfl, rfl, trivial⟩, trivial, rfl⟩, rfl,
    Step.plain rfl (does_move (.tmp 65) (.bool (((((((v3.2.2 && (v3.2.1.Text == (⟨#[98]⟩ : ByteArray))) && ((v3.1.length : Int) == 2)) && v7.2.2) && (v7.2.1.Text == (⟨#[99]⟩ : ByteArray))) && (!v11.2.2)) && ((v15.length : Int) == 3)) && (((v15.getD 0 z_api_Letter).Text) == (⟨#[96]⟩ : ByteArray)))) trivial), ⟨⟨rfl, trivial⟩, trivial, rfl⟩, rfl,
    Step.guarded rfl rfl rfl rfl (fun hc => does_call 24 0 (fun _ => .any) (.func 24) [] [] [] false [] (e_s_api_Letter v18) _ _ rfl fo24 rfl trivial trivial (congresslaw14_three_spec _ (h19 hc)) (d_s_api_Letter v18)), ⟨⟨rfl, trivial⟩, trivial, rfl⟩, rfl,
    Step.guarded rfl rfl rfl rfl (fun hc => Does.strip (n' := [(67, (.opt (((((((v3.2.2 && (v3.2.1.Text == (⟨#[98]⟩ : ByteArray))) && ((v3.1.length : Int) == 2)) && v7.2.2) && (v7.2.1.Text == (⟨#[99]⟩ : ByteArray))) && (!v11.2.2)) && ((v15.length : Int) == 3)) && (((v15.getD 0 z_api_Letter).Text) == (⟨#[96]⟩ : ByteArray))) (e_s_api_Letter v18)))]) (n := [(67, (e_s_api_Letter v18))]) ⟨(.opt _ _ hc), trivial⟩ (does_call 18 0 (fun _ => .any) (.func 18) [(.tmp 67), (.const (.int .i64 0)), (.const (.int .i64 1))] [(e_s_api_Letter v18), (.int .i64 0), (.int .i64 1)] [] true [(e_s_api_Letter v18), (.int .i64 0), (.int .i64 1)] (.int .i64 v20) _ _ rfl fo18 rfl ⟨trivial, (fun _ => rfl), (fun _ => rfl), trivial⟩ ⟨.data _ (d_s_api_Letter v18), .data _ trivial, .data _ trivial, trivial⟩ (lossy_Many_spec v18 0 1 _ (h21 hc)) trivial)), ⟨⟨rfl, rfl, trivial⟩, trivial, rfl⟩, rfl,
    Step.guarded rfl rfl rfl rfl (fun hc => Does.strip (n' := [(68, (.opt (((((((v3.2.2 && (v3.2.1.Text == (⟨#[98]⟩ : ByteArray))) && ((v3.1.length : Int) == 2)) && v7.2.2) && (v7.2.1.Text == (⟨#[99]⟩ : ByteArray))) && (!v11.2.2)) && ((v15.length : Int) == 3)) && (((v15.getD 0 z_api_Letter).Text) == (⟨#[96]⟩ : ByteArray))) (.int .i64 v20)))]) (n := [(68, (.int .i64 v20))]) ⟨(.opt _ _ hc), trivial⟩ (does_bin .eql 3 3 (.tmp 68) (.const (.int .i64 3)) .i64 v20 3 (.bool (v20 == 3)) trivial (fun _ => rfl) (bin_eql _ _ _ _))), ⟨⟨rfl, rfl, trivial⟩, trivial, rfl⟩, rfl,
    Step.plain rfl (does_and 66 69 (((((((v3.2.2 && (v3.2.1.Text == (⟨#[98]⟩ : ByteArray))) && ((v3.1.length : Int) == 2)) && v7.2.2) && (v7.2.1.Text == (⟨#[99]⟩ : ByteArray))) && (!v11.2.2)) && ((v15.length : Int) == 3)) && (((v15.getD 0 z_api_Letter).Text) == (⟨#[96]⟩ : ByteArray))) (v20 == 3)), ⟨⟨rfl, rfl, trivial⟩, trivial, rfl⟩, rfl,
    Step.plain rfl (does_move (.tmp 70) (.bool ((((((((v3.2.2 && (v3.2.1.Text == (⟨#[98]⟩ : ByteArray))) && ((v3.1.length : Int) == 2)) && v7.2.2) && (v7.2.1.Text == (⟨#[99]⟩ : ByteArray))) && (!v11.2.2)) && ((v15.length : Int) == 3)) && (((v15.getD 0 z_api_Letter).Text) == (⟨#[96]⟩ : ByteArray))) && (v20 == 3))) trivial), ⟨⟨rfl, trivial⟩, trivial, rfl⟩, rfl,
    Step.guarded rfl rfl rfl rfl (fun hc => does_call 24 0 (fun _ => .any) (.func 24) [] [] [] false [] (e_s_api_Letter v22) _ _ rfl fo24 rfl trivial trivial (congresslaw14_three_spec _ (h23 hc)) (d_s_api_Letter v22)), ⟨⟨rfl, trivial⟩, trivial, rfl⟩, rfl,
    Step.guarded rfl rfl rfl rfl (fun hc => does_call 24 0 (fun _ => .any) (.func 24) [] [] [] false [] (e_s_api_Letter v24) _ _ rfl fo24 rfl trivial trivial (congresslaw14_three_spec _ (h25 hc)) (d_s_api_Letter v24)), ⟨⟨rfl, trivial⟩, trivial, rfl⟩, rfl,
    Step.guarded rfl rfl rfl rfl (fun hc => Does.strip (n' := [(72, (.opt ((((((((v3.2.2 && (v3.2.1.Text == (⟨#[98]⟩ : ByteArray))) && ((v3.1.length : Int) == 2)) && v7.2.2) && (v7.2.1.Text == (⟨#[99]⟩ : ByteArray))) && (!v11.2.2)) && ((v15.length : Int) == 3)) && (((v15.getD 0 z_api_Letter).Text) == (⟨#[96]⟩ : ByteArray))) && (v20 == 3)) (e_s_api_Letter v22))), (73, (.opt ((((((((v3.2.2 && (v3.2.1.Text == (⟨#[98]⟩ : ByteArray))) && ((v3.1.length : Int) == 2)) && v7.2.2) && (v7.2.1.Text == (⟨#[99]⟩ : ByteArray))) && (!v11.2.2)) && ((v15.length : Int) == 3)) && (((v15.getD 0 z_api_Letter).Text) == (⟨#[96]⟩ : ByteArray))) && (v20 == 3)) (e_s_api_Letter v24)))]) (n := [(72, (e_s_api_Letter v22)), (73, (e_s_api_Letter v24))]) ⟨(.opt _ _ hc), (.opt _ _ hc), trivial⟩ (does_call 16 0 (fun _ => .any) (.func 16) [(.tmp 72), (.tmp 73)] [(e_s_api_Letter v22), (e_s_api_Letter v24)] [] false [(e_s_api_Letter v22), (e_s_api_Letter v24)] (e_s_api_Letter v26) _ _ rfl fo16 rfl ⟨trivial, trivial, trivial⟩ ⟨.data _ (d_s_api_Letter v22), .data _ (d_s_api_Letter v24), trivial⟩ (lossy_Put_data v22 v24 _ (h27 hc)) (d_s_api_Letter v26))), ⟨⟨rfl, rfl, rfl, trivial⟩, trivial, rfl⟩, rfl,
    Step.guarded rfl rfl rfl rfl (fun hc => Does.strip (n' := [(74, (.opt ((((((((v3.2.2 && (v3.2.1.Text == (⟨#[98]⟩ : ByteArray))) && ((v3.1.length : Int) == 2)) && v7.2.2) && (v7.2.1.Text == (⟨#[99]⟩ : ByteArray))) && (!v11.2.2)) && ((v15.length : Int) == 3)) && (((v15.getD 0 z_api_Letter).Text) == (⟨#[96]⟩ : ByteArray))) && (v20 == 3)) (e_s_api_Letter v26)))]) (n := [(74, (e_s_api_Letter v26))]) ⟨(.opt _ _ hc), trivial⟩ (does_lens 22 4 v26.length 74 (fun j => (e_api_Letter (v26.getD j z_api_Letter))) el22)), ⟨⟨rfl, rfl, trivial⟩, trivial, rfl⟩, rfl,
    Step.guarded rfl rfl rfl rfl (fun hc => Does.strip (n' := [(75, (.opt ((((((((v3.2.2 && (v3.2.1.Text == (⟨#[98]⟩ : ByteArray))) && ((v3.1.length : Int) == 2)) && v7.2.2) && (v7.2.1.Text == (⟨#[99]⟩ : ByteArray))) && (!v11.2.2)) && ((v15.length : Int) == 3)) && (((v15.getD 0 z_api_Letter).Text) == (⟨#[96]⟩ : ByteArray))) && (v20 == 3)) (.int .i64 (v26.length : Int))))]) (n := [(75, (.int .i64 (v26.length : Int)))]) ⟨(.opt _ _ hc), trivial⟩ (does_bin .eql 3 3 (.tmp 75) (.const (.int .i64 6)) .i64 (v26.length : Int) 6 (.bool ((v26.length : Int) == 6)) trivial (fun _ => rfl) (bin_eql _ _ _ _))), ⟨⟨rfl, rfl, trivial⟩, trivial, rfl⟩, rfl,
    Step.plain rfl (does_and 71 76 ((((((((v3.2.2 && (v3.2.1.Text == (⟨#[98]⟩ : ByteArray))) && ((v3.1.length : Int) == 2)) && v7.2.2) && (v7.2.1.Text == (⟨#[99]⟩ : ByteArray))) && (!v11.2.2)) && ((v15.length : Int) == 3)) && (((v15.getD 0 z_api_Letter).Text) == (⟨#[96]⟩ : ByteArray))) && (v20 == 3)) ((v26.length : Int) == 6)), ⟨⟨rfl, rfl, trivial⟩, trivial, rfl⟩, rfl,
    Step.plain rfl (does_assign (.tmp 77) (.bool (((((((((v3.2.2 && (v3.2.1.Text == (⟨#[98]⟩ : ByteArray))) && ((v3.1.length : Int) == 2)) && v7.2.2) && (v7.2.1.Text == (⟨#[99]⟩ : ByteArray))) && (!v11.2.2)) && ((v15.length : Int) == 3)) && (((v15.getD 0 z_api_Letter).Text) == (⟨#[96]⟩ : ByteArray))) && (v20 == 3)) && ((v26.length : Int) == 6))) trivial), ⟨⟨rfl, trivial⟩, trivial, rfl⟩, rfl, rfl⟩ ?_
  obtain ⟨v28, hv28, H⟩ := lt_of H
  refine aw_cov (cov_prune (s1 := ⟨[(0, (.bool v28))], [], 10⟩) ⟨(by subst hv28; rfl), trivial⟩ trivial (Nat.le_refl _)) ?_
  refine aw_ret ?_
  exact fun a w hr => ⟨_, [(.bool v28)], hr, ⟨⟨_, rfl, .data (.bool v28) trivial⟩, trivial⟩, by decide, by cases H; rfl⟩
end Go.Proofs.Ytdaeajonhfkpaaa
