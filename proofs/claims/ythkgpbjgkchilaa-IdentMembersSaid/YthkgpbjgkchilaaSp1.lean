/- Printed by gen.py. Conditions: none. -/
import Derived.Test.YthkgpbjgkchilaaFact
import Derived.KernelRfl
set_option linter.unusedVariables false
set_option maxRecDepth 100000
namespace Go.Proofs.Ythkgpbjgkchilaa
open Go.Eng
theorem cmp_isNaN_uint32_spec (p0 : Int) (r : Bool) (H : cmp_isNaN_uint32 p0 = some r) : FSpec Try.prog 23 [(.int .u32 p0)] (.bool r) := by
  refine spec_of (fn := Try.f23) (args := [(.int .u32 p0)]) Try.func23 rfl (Nat.le_of_ble_eq_true rfl) ?_
  rintro ⟨G, w0, W, S, Sp⟩ hG
  cases hG
  unfold cmp_isNaN_uint32 at H
  refine aw_region (es := [_]) ⟨Step.plain rfl (does_assign (.const (.bool false)) (.bool false) (fun _ => rfl)), ⟨trivial, trivial, rfl⟩, rfl, rfl⟩ ?_
  refine aw_cov (cov_prune (s1 := ⟨[(0, (.int .u32 p0))], [], 0⟩) ⟨rfl, trivial⟩ trivial (Nat.le_refl _)) ?_
  refine aw_region (es := [_, _, _, _]) ⟨Step.plain rfl (does_move (.tmp 0) (.int .u32 p0) trivial), ⟨⟨rfl, trivial⟩, trivial, rfl⟩, rfl,
    Step.plain rfl (does_move (.tmp 0) (.int .u32 p0) trivial), ⟨⟨rfl, trivial⟩, trivial, rfl⟩, rfl,
    Step.plain rfl (does_bin .neq 22 22 (.tmp 3) (.tmp 4) .u32 p0 p0 (.bool (p0 != p0)) trivial trivial (bin_neq _ _ _ _)), ⟨⟨rfl, rfl, trivial⟩, trivial, rfl⟩, rfl,
    Step.plain rfl (does_assign (.tmp 5) (.bool (p0 != p0)) trivial), ⟨⟨rfl, trivial⟩, trivial, rfl⟩, rfl, rfl⟩ ?_
  refine aw_cov (cov_prune (s1 := ⟨[(2, (.bool (p0 != p0)))], [], 0⟩) ⟨rfl, trivial⟩ trivial (Nat.le_refl _)) ?_
  refine aw_ret ?_
  exact fun a w hr => ⟨_, [(.bool (p0 != p0))], hr, ⟨⟨_, rfl, .data _ trivial⟩, trivial⟩, by decide, by cases H; rfl⟩

theorem cmp_Compare_uint32_spec (p0 : Int) (p1 : Int) (r : Int) (H : cmp_Compare_uint32 p0 p1 = some r) : FSpec Try.prog 21 [(.int .u32 p0), (.int .u32 p1)] (.int .i64 r) := by
  refine spec_of (fn := Try.f21) (args := [(.int .u32 p0), (.int .u32 p1)]) Try.func21 rfl (Nat.le_of_ble_eq_true rfl) ?_
  rintro ⟨G, w0, W, S, Sp⟩ hG
  cases hG
  unfold cmp_Compare_uint32 at H
  refine aw_region (es := [_]) ⟨Step.plain rfl (does_assign (.const (.int .i64 0)) (.int .i64 0) (fun _ => rfl)), ⟨trivial, trivial, rfl⟩, rfl, rfl⟩ ?_
  refine aw_cov (cov_prune (s1 := ⟨[(0, (.int .u32 p0)), (1, (.int .u32 p1))], [], 0⟩) ⟨rfl, rfl, trivial⟩ trivial (Nat.le_refl _)) ?_
  obtain ⟨v1, h2, H⟩ := bnd H
  refine aw_region (es := [_, _, _]) ⟨Step.plain rfl (does_move (.tmp 0) (.int .u32 p0) trivial), ⟨⟨rfl, trivial⟩, trivial, rfl⟩, rfl,
    Step.plain rfl (does_call 23 0 (fun _ => .any) (.func 23) [(.tmp 7)] [(.int .u32 p0)] [] true [(.int .u32 p0)] (.bool v1) _ _ rfl fo23 rfl ⟨trivial, trivial⟩ ⟨.data _ trivial, trivial⟩ (cmp_isNaN_uint32_spec p0 _ h2) trivial), ⟨⟨rfl, trivial⟩, trivial, rfl⟩, rfl,
    Step.plain rfl (does_assign (.tmp 8) (.bool v1) trivial), ⟨⟨rfl, trivial⟩, trivial, rfl⟩, rfl, rfl⟩ ?_
  refine aw_cov (cov_prune (s1 := ⟨[(0, (.int .u32 p0)), (1, (.int .u32 p1)), (5, (.bool v1))], [], 0⟩) ⟨rfl, rfl, rfl, trivial⟩ trivial (Nat.le_refl _)) ?_
  obtain ⟨v3, h4, H⟩ := bnd H
  refine aw_region (es := [_, _, _]) ⟨Step.plain rfl (does_move (.tmp 1) (.int .u32 p1) trivial), ⟨⟨rfl, trivial⟩, trivial, rfl⟩, rfl,
    Step.plain rfl (does_call 23 0 (fun _ => .any) (.func 23) [(.tmp 9)] [(.int .u32 p1)] [] true [(.int .u32 p1)] (.bool v3) _ _ rfl fo23 rfl ⟨trivial, trivial⟩ ⟨.data _ trivial, trivial⟩ (cmp_isNaN_uint32_spec p1 _ h4) trivial), ⟨⟨rfl, trivial⟩, trivial, rfl⟩, rfl,
    Step.plain rfl (does_assign (.tmp 10) (.bool v3) trivial), ⟨⟨rfl, trivial⟩, trivial, rfl⟩, rfl, rfl⟩ ?_
  refine aw_cov (cov_prune (s1 := ⟨[(0, (.int .u32 p0)), (1, (.int .u32 p1)), (5, (.bool v1)), (6, (.bool v3))], [], 0⟩) ⟨rfl, rfl, rfl, rfl, trivial⟩ trivial (Nat.le_refl _)) ?_
  refine aw_seq ?_
  refine aw_region (es := [_]) ⟨Step.plain rfl (does_move (.tmp 5) (.bool v1) trivial), ⟨⟨rfl, trivial⟩, trivial, rfl⟩, rfl, rfl⟩ ?_
  refine aw_cov (cov_prune (s1 := ⟨[(0, (.int .u32 p0)), (1, (.int .u32 p1)), (6, (.bool v3)), (11, (.bool v1))], [], 0⟩) ⟨rfl, rfl, rfl, rfl, trivial⟩ trivial (Nat.le_refl _)) ?_
  refine aw_cond rfl (fun hc => ?_) (fun hc => ?_)
  · replace H := ite_t hc H
    refine aw_seq ?_
    refine aw_region (es := [_]) ⟨Step.plain rfl (does_move (.tmp 6) (.bool v3) trivial), ⟨⟨rfl, trivial⟩, trivial, rfl⟩, rfl, rfl⟩ ?_
    refine aw_cov (cov_prune (s1 := ⟨[(12, (.bool v3))], [], 0⟩) ⟨rfl, trivial⟩ trivial (Nat.le_refl _)) ?_
    refine aw_cond rfl (fun hc => ?_) (fun hc => ?_)
    · replace H := ite_t hc H
      refine aw_region (es := [_]) ⟨Step.plain rfl (does_assign (.const (.int .i64 0)) (.int .i64 0) (fun _ => rfl)), ⟨trivial, trivial, rfl⟩, rfl, rfl⟩ ?_
      refine aw_cov (cov_prune (s1 := ⟨[(4, (.int .i64 0))], [], 0⟩) ⟨rfl, trivial⟩ trivial (Nat.le_refl _)) ?_
      refine aw_ret ?_
      refine rt_then ?_
      refine rt_then ?_
      exact fun a w hr => ⟨_, [(.int .i64 0)], hr, ⟨⟨_, rfl, .data _ trivial⟩, trivial⟩, by decide, by cases H; rfl⟩
    · replace H := ite_f hc H
      refine aw_skip ?_
      refine nx_seq ?_
      refine aw_region (es := [_]) ⟨Step.plain rfl (does_assign (.const (.int .i64 (-1))) (.int .i64 (-1)) (fun _ => rfl)), ⟨trivial, trivial, rfl⟩, rfl, rfl⟩ ?_
      refine aw_cov (cov_prune (s1 := ⟨[(4, (.int .i64 (-1)))], [], 0⟩) ⟨rfl, trivial⟩ trivial (Nat.le_refl _)) ?_
      refine aw_ret ?_
      refine rt_then ?_
      exact fun a w hr => ⟨_, [(.int .i64 (-1))], hr, ⟨⟨_, rfl, .data _ trivial⟩, trivial⟩, by decide, by cases H; rfl⟩
  · replace H := ite_f hc H
    refine aw_skip ?_
    refine nx_seq ?_
    refine aw_seq ?_
    refine aw_region (es := [_]) ⟨Step.plain rfl (does_move (.tmp 6) (.bool v3) trivial), ⟨⟨rfl, trivial⟩, trivial, rfl⟩, rfl, rfl⟩ ?_
    refine aw_cov (cov_prune (s1 := ⟨[(0, (.int .u32 p0)), (1, (.int .u32 p1)), (13, (.bool v3))], [], 0⟩) ⟨rfl, rfl, rfl, trivial⟩ trivial (Nat.le_refl _)) ?_
    refine aw_cond rfl (fun hc => ?_) (fun hc => ?_)
    · replace H := ite_t hc H
      refine aw_region (es := [_]) ⟨Step.plain rfl (does_assign (.const (.int .i64 1)) (.int .i64 1) (fun _ => rfl)), ⟨trivial, trivial, rfl⟩, rfl, rfl⟩ ?_
      refine aw_cov (cov_prune (s1 := ⟨[(4, (.int .i64 1))], [], 0⟩) ⟨rfl, trivial⟩ trivial (Nat.le_refl _)) ?_
      refine aw_ret ?_
      refine rt_then ?_
      exact fun a w hr => ⟨_, [(.int .i64 1)], hr, ⟨⟨_, rfl, .data _ trivial⟩, trivial⟩, by decide, by cases H; rfl⟩
    · replace H := ite_f hc H
      refine aw_skip ?_
      refine nx_seq ?_
      refine aw_seq ?_
      refine aw_region (es := [_, _, _]) ⟨Step.plain rfl (does_move (.tmp 0) (.int .u32 p0) trivial), ⟨⟨rfl, trivial⟩, trivial, rfl⟩, rfl,
        Step.plain rfl (does_move (.tmp 1) (.int .u32 p1) trivial), ⟨⟨rfl, trivial⟩, trivial, rfl⟩, rfl,
        Step.plain rfl (does_bin .lss 22 22 (.tmp 14) (.tmp 15) .u32 p0 p1 (.bool (decide (p0 < p1))) trivial trivial (bin_lss _ _ _ _)), ⟨⟨rfl, rfl, trivial⟩, trivial, rfl⟩, rfl, rfl⟩ ?_
      refine aw_cov (cov_prune (s1 := ⟨[(0, (.int .u32 p0)), (1, (.int .u32 p1)), (16, (.bool (decide (p0 < p1))))], [], 0⟩) ⟨rfl, rfl, rfl, trivial⟩ trivial (Nat.le_refl _)) ?_
      refine aw_cond rfl (fun hc => ?_) (fun hc => ?_)
      · replace H := ite_t hc H
        refine aw_region (es := [_]) ⟨Step.plain rfl (does_assign (.const (.int .i64 (-1))) (.int .i64 (-1)) (fun _ => rfl)), ⟨trivial, trivial, rfl⟩, rfl, rfl⟩ ?_
        refine aw_cov (cov_prune (s1 := ⟨[(4, (.int .i64 (-1)))], [], 0⟩) ⟨rfl, trivial⟩ trivial (Nat.le_refl _)) ?_
        refine aw_ret ?_
        refine rt_then ?_
        exact fun a w hr => ⟨_, [(.int .i64 (-1))], hr, ⟨⟨_, rfl, .data _ trivial⟩, trivial⟩, by decide, by cases H; rfl⟩
      · replace H := ite_f hc H
        refine aw_skip ?_
        refine nx_seq ?_
        refine aw_seq ?_
        refine aw_region (es := [_, _, _]) ⟨Step.plain rfl (does_move (.tmp 0) (.int .u32 p0) trivial), ⟨⟨rfl, trivial⟩, trivial, rfl⟩, rfl,
          Step.plain rfl (does_move (.tmp 1) (.int .u32 p1) trivial), ⟨⟨rfl, trivial⟩, trivial, rfl⟩, rfl,
          Step.plain rfl (does_bin .gtr 22 22 (.tmp 17) (.tmp 18) .u32 p0 p1 (.bool (decide (p0 > p1))) trivial trivial (bin_gtr _ _ _ _)), ⟨⟨rfl, rfl, trivial⟩, trivial, rfl⟩, rfl, rfl⟩ ?_
        refine aw_cov (cov_prune (s1 := ⟨[(19, (.bool (decide (p0 > p1))))], [], 0⟩) ⟨rfl, trivial⟩ trivial (Nat.le_refl _)) ?_
        refine aw_cond rfl (fun hc => ?_) (fun hc => ?_)
        · replace H := ite_t hc H
          refine aw_region (es := [_]) ⟨Step.plain rfl (does_assign (.const (.int .i64 1)) (.int .i64 1) (fun _ => rfl)), ⟨trivial, trivial, rfl⟩, rfl, rfl⟩ ?_
          refine aw_cov (cov_prune (s1 := ⟨[(4, (.int .i64 1))], [], 0⟩) ⟨rfl, trivial⟩ trivial (Nat.le_refl _)) ?_
          refine aw_ret ?_
          refine rt_then ?_
          exact fun a w hr => ⟨_, [(.int .i64 1)], hr, ⟨⟨_, rfl, .data _ trivial⟩, trivial⟩, by decide, by cases H; rfl⟩
        · replace H := ite_f hc H
          refine aw_skip ?_
          refine nx_seq ?_
          refine aw_region (es := [_]) ⟨Step.plain rfl (does_assign (.const (.int .i64 0)) (.int .i64 0) (fun _ => rfl)), ⟨trivial, trivial, rfl⟩, rfl, rfl⟩ ?_
          refine aw_cov (cov_prune (s1 := ⟨[(4, (.int .i64 0))], [], 0⟩) ⟨rfl, trivial⟩ trivial (Nat.le_refl _)) ?_
          refine aw_ret ?_
          exact fun a w hr => ⟨_, [(.int .i64 0)], hr, ⟨⟨_, rfl, .data _ trivial⟩, trivial⟩, by decide, by cases H; rfl⟩

theorem cmp_Or_int_spec (p0 : (_root_.List Int)) (r : Int) (H : cmp_Or_int p0 = some r) : FSpec Try.prog 20 [(e_s_i64 p0)] (.int .i64 r) := by
  refine spec_of (fn := Try.f20) (args := [(e_s_i64 p0)]) Try.func20 rfl (Nat.le_of_ble_eq_true rfl) ?_
  rintro ⟨G, w0, W, S, Sp⟩ hG
  cases hG
  unfold cmp_Or_int at H
  refine aw_region (es := [_]) ⟨Step.plain rfl (does_assign (.const (.int .i64 0)) (.int .i64 0) (fun _ => rfl)), ⟨trivial, trivial, rfl⟩, rfl, rfl⟩ ?_
  refine aw_cov (cov_prune (s1 := ⟨[(0, (e_s_i64 p0))], [], 0⟩) ⟨rfl, trivial⟩ trivial (Nat.le_refl _)) ?_
  refine aw_region (es := [_]) ⟨Step.plain rfl (does_assign (.const (.int .i64 0)) (.int .i64 0) (fun _ => rfl)), ⟨trivial, trivial, rfl⟩, rfl, rfl⟩ ?_
  refine aw_cov (cov_prune (s1 := ⟨[(0, (e_s_i64 p0)), (3, (.int .i64 0))], [], 0⟩) ⟨rfl, rfl, trivial⟩ trivial (Nat.le_refl _)) ?_
  refine aw_seq ?_
  refine aw_region (es := [_, _, _]) ⟨Step.plain rfl (does_move (.tmp 0) (e_s_i64 p0) trivial), ⟨⟨rfl, trivial⟩, trivial, rfl⟩, rfl,
    Step.plain rfl (does_lens 33 1 p0.length 6 (fun j => (.int .i64 (p0.getD j 0))) el33), ⟨⟨rfl, trivial⟩, trivial, rfl⟩, rfl,
    Step.plain rfl (does_move (.const (.int .i64 0)) (.int .i64 0) (fun _ => rfl)), ⟨trivial, trivial, rfl⟩, rfl, rfl⟩ ?_
  refine aw_cov (cov_prune (s1 := ⟨[(3, (.int .i64 0)), (6, (e_s_i64 p0)), (7, (.int .i64 (p0.length : Int))), (8, (.int .i64 0))], [], 0⟩) ⟨rfl, rfl, rfl, rfl, trivial⟩ trivial (Nat.le_refl _)) ?_
  obtain ⟨wn2, hwn2, Hrn2⟩ := bnd H
  refine aw_meet (fun y4 : Unit => (⟨[(3, (.int .i64 0))], [], 0⟩ : St)) (fun y4 => Fl.nx y4 = wn2) (fun y4 hy => ?_) (aw_block (aw_runs (fun x1 : Int => (⟨[(3, (.int .i64 0)), (6, (e_s_i64 p0)), (7, (.int .i64 (p0.length : Int))), (8, (.int .i64 x1))], [], 0⟩ : St)) hwn2 (cov_prune ⟨rfl, rfl, rfl, rfl, trivial⟩ trivial (Nat.le_of_ble_eq_true rfl)) (fun x1 st H hsn2 => ?_)))
  · have H := nx_of hy Hrn2
    refine nx_seq ?_
    refine aw_region (es := [_, _]) ⟨Step.plain rfl (does_move (.tmp 3) (.int .i64 0) trivial), ⟨⟨rfl, trivial⟩, trivial, rfl⟩, rfl,
      Step.plain rfl (does_assign (.tmp 17) (.int .i64 0) trivial), ⟨⟨rfl, trivial⟩, trivial, rfl⟩, rfl, rfl⟩ ?_
    refine aw_cov (cov_prune (s1 := ⟨[(2, (.int .i64 0))], [], 0⟩) ⟨rfl, trivial⟩ trivial (Nat.le_refl _)) ?_
    refine aw_ret ?_
    exact fun a w hr => ⟨_, [(.int .i64 0)], hr, ⟨⟨_, rfl, .data _ trivial⟩, trivial⟩, by decide, by cases H; rfl⟩
  · refine aw_region (es := [_]) ⟨Step.plain rfl (does_bin .lss 3 3 (.tmp 8) (.tmp 7) .i64 x1 (p0.length : Int) (.bool (decide (x1 < (p0.length : Int)))) trivial trivial (bin_lss _ _ _ _)), ⟨⟨rfl, rfl, trivial⟩, trivial, rfl⟩, rfl, rfl⟩ ?_
    refine aw_cov (cov_prune (s1 := ⟨[(3, (.int .i64 0)), (6, (e_s_i64 p0)), (7, (.int .i64 (p0.length : Int))), (8, (.int .i64 x1)), (9, (.bool (decide (x1 < (p0.length : Int)))))], [], 0⟩) ⟨rfl, rfl, rfl, rfl, rfl, trivial⟩ trivial (Nat.le_refl _)) ?_
    refine aw_seq ?_
    refine aw_cond rfl (fun hc => ?_) (fun hc => ?_)
    · replace H := ite_t hc H
      refine aw_skip ?_
      refine nx_seq ?_
      refine aw_seq ?_
      refine aw_block ?_
      obtain ⟨h3, H⟩ := ib_of H
      refine aw_region (es := [_, _, _]) ⟨Step.plain rfl (does_indexAddrs 33 1 p0.length 6 (fun j => (.int .i64 (p0.getD j 0))) (.tmp 8) .i64 x1 el33 trivial h3.1 h3.2), ⟨⟨rfl, rfl, trivial⟩, trivial, rfl⟩, rfl,
        Step.plain rfl (does_loadc 3 10 (.int .i64 (p0.getD x1.toNat 0)) ty3), ⟨⟨rfl, trivial⟩, trivial, rfl⟩, rfl,
        Step.plain rfl (does_assign (.tmp 11) (.int .i64 (p0.getD x1.toNat 0)) trivial), ⟨⟨rfl, trivial⟩, trivial, rfl⟩, rfl, rfl⟩ ?_
      refine aw_cov (cov_prune (s1 := ⟨[(3, (.int .i64 0)), (6, (e_s_i64 p0)), (7, (.int .i64 (p0.length : Int))), (8, (.int .i64 x1)), (5, (.int .i64 (p0.getD x1.toNat 0)))], [], 0⟩) ⟨rfl, rfl, rfl, rfl, rfl, trivial⟩ trivial (Nat.le_refl _)) ?_
      refine aw_region (es := [_, _, _]) ⟨Step.plain rfl (does_move (.tmp 5) (.int .i64 (p0.getD x1.toNat 0)) trivial), ⟨⟨rfl, trivial⟩, trivial, rfl⟩, rfl,
        Step.plain rfl (does_move (.tmp 3) (.int .i64 0) trivial), ⟨⟨rfl, trivial⟩, trivial, rfl⟩, rfl,
        Step.plain rfl (does_bin .neq 3 3 (.tmp 12) (.tmp 13) .i64 (p0.getD x1.toNat 0) 0 (.bool ((p0.getD x1.toNat 0) != 0)) trivial trivial (bin_neq _ _ _ _)), ⟨⟨rfl, rfl, trivial⟩, trivial, rfl⟩, rfl, rfl⟩ ?_
      refine aw_cov (cov_prune (s1 := ⟨[(3, (.int .i64 0)), (6, (e_s_i64 p0)), (7, (.int .i64 (p0.length : Int))), (8, (.int .i64 x1)), (5, (.int .i64 (p0.getD x1.toNat 0))), (14, (.bool ((p0.getD x1.toNat 0) != 0)))], [], 0⟩) ⟨rfl, rfl, rfl, rfl, rfl, rfl, trivial⟩ trivial (Nat.le_refl _)) ?_
      refine aw_cond rfl (fun hc => ?_) (fun hc => ?_)
      · replace H := ite_t hc H
        refine aw_region (es := [_, _]) ⟨Step.plain rfl (does_move (.tmp 5) (.int .i64 (p0.getD x1.toNat 0)) trivial), ⟨⟨rfl, trivial⟩, trivial, rfl⟩, rfl,
          Step.plain rfl (does_assign (.tmp 15) (.int .i64 (p0.getD x1.toNat 0)) trivial), ⟨⟨rfl, trivial⟩, trivial, rfl⟩, rfl, rfl⟩ ?_
        refine aw_cov (cov_prune (s1 := ⟨[(2, (.int .i64 (p0.getD x1.toNat 0)))], [], 0⟩) ⟨rfl, trivial⟩ trivial (Nat.le_refl _)) ?_
        refine aw_ret ?_
        replace H := rt_of H hsn2 Hrn2
        refine rt_blk ?_
        refine rt_then ?_
        refine rt_then ?_
        refine rt_blk ?_
        refine rt_then ?_
        refine rt_then ?_
        exact fun a w hr => ⟨_, [(.int .i64 (p0.getD x1.toNat 0))], hr, ⟨⟨_, rfl, .data _ trivial⟩, trivial⟩, by decide, by cases H; rfl⟩
      · replace H := ite_f hc H
        refine aw_skip ?_
        refine nx_blk ?_
        refine nx_seq ?_
        refine aw_region1 (es := [_, _]) ⟨Step.plain rfl (does_bin .add 3 3 (.tmp 8) (.const (.int .i64 1)) .i64 x1 1 (.int .i64 (IntKind.i64.wrap (x1 + 1))) trivial (fun _ => rfl) (bin_add _ _ _ _)), ⟨⟨rfl, trivial⟩, trivial, rfl⟩, rfl,
          Step.plain rfl (does_move (.tmp 16) (.int .i64 (IntKind.i64.wrap (x1 + 1))) trivial), ⟨⟨rfl, trivial⟩, trivial, rfl⟩, rfl, rfl⟩ ?_
        exact nx_loop ((IntKind.i64.wrap (x1 + 1))) H (cov_prune ⟨rfl, rfl, rfl, rfl, trivial⟩ trivial (Nat.le_of_ble_eq_true rfl))
    · replace H := ite_f hc H
      refine aw_exit ?_
      refine ex_then ?_
      refine ex_then ?_
      refine ex_here ?_
      exact nx_ljoin () H hsn2 (cov_prune ⟨rfl, trivial⟩ trivial (Nat.le_of_ble_eq_true rfl))

theorem ident_Compare_spec (p0 : api_Id) (p1 : api_Id) (r : Int) (H : ident_Compare p0 p1 = some r) : FSpec Try.prog 8 [(e_api_Id p0), (e_api_Id p1)] (.int .i64 r) := by
  refine spec_of (fn := Try.f8) (args := [(e_api_Id p0), (e_api_Id p1)]) Try.func8 rfl (Nat.le_of_ble_eq_true rfl) ?_
  rintro ⟨G, w0, W, S, Sp⟩ hG
  cases hG
  unfold ident_Compare at H
  refine aw_region (es := [_, _, _]) ⟨Step.plain rfl (does_box 24 (.tmp 0) 0 (e_api_Id p0) trivial rfl), ⟨⟨rfl, trivial⟩, trivial, rfl⟩, rfl,
    Step.plain rfl (does_box 24 (.tmp 1) 1 (e_api_Id p1) trivial rfl), ⟨⟨rfl, trivial⟩, trivial, rfl⟩, rfl,
    Step.plain rfl (does_assign (.const (.int .i64 0)) (.int .i64 0) (fun _ => rfl)), ⟨trivial, trivial, rfl⟩, rfl, rfl⟩ ?_
  refine aw_cov (cov_prune (s1 := ⟨[(2, (.ptr 0 0 [])), (3, (.ptr 1 0 []))], [(0, some (.var (e_api_Id p0))), (1, some (.var (e_api_Id p1)))], 2⟩) ⟨rfl, rfl, trivial⟩ ⟨rfl, rfl, trivial⟩ (Nat.le_refl _)) ?_
  obtain ⟨v1, h2, H⟩ := bnd H
  obtain ⟨v3, h4, H⟩ := bnd H
  obtain ⟨v5, h6, H⟩ := bnd H
  obtain ⟨v7, h8, H⟩ := bnd H
  refine aw_draw (es := [_, _, _, _, _, _, _, _, _, _, _, _, _, _, _, _, _, _]) (mixed) ⟨Step.plain rfl (does_fieldAddr 24 0 0 2 0 0 [] (.var (e_api_Id p0)) fl24_0), ⟨⟨rfl, trivial⟩, ⟨rfl, trivial⟩, rfl⟩, rfl,
    Step.plain rfl (does_load 22 5 0 (0 + 0) [0] (.var (e_api_Id p0)) (.int .u32 p0.Epoch) ⟨rfl, Nat.le_of_ble_eq_true rfl, trivial⟩ rfl rfl ty22), ⟨⟨rfl, trivial⟩, ⟨rfl, trivial⟩, rfl⟩, rfl,
    Step.plain rfl (does_fieldAddr 24 0 0 3 1 0 [] (.var (e_api_Id p1)) fl24_0), ⟨⟨rfl, trivial⟩, ⟨rfl, trivial⟩, rfl⟩, rfl,
    Step.plain rfl (does_load 22 7 1 (0 + 0) [0] (.var (e_api_Id p1)) (.int .u32 p1.Epoch) ⟨rfl, Nat.le_of_ble_eq_true rfl, trivial⟩ rfl rfl ty22), ⟨⟨rfl, trivial⟩, ⟨rfl, trivial⟩, rfl⟩, rfl,
    Step.plain rfl (does_call 21 0 (fun _ => .any) (.func 21) [(.tmp 6), (.tmp 8)] [(.int .u32 p0.Epoch), (.int .u32 p1.Epoch)] [] true [(.int .u32 p0.Epoch), (.int .u32 p1.Epoch)] (.int .i64 v1) _ _ rfl fo21 rfl ⟨trivial, trivial, trivial⟩ ⟨.data _ trivial, .data _ trivial, trivial⟩ (cmp_Compare_uint32_spec p0.Epoch p1.Epoch _ h2) trivial), ⟨⟨rfl, rfl, trivial⟩, trivial, rfl⟩, rfl,
    Step.plain rfl (does_fieldAddr 24 1 1 2 0 0 [] (.var (e_api_Id p0)) fl24_1), ⟨⟨rfl, trivial⟩, ⟨rfl, trivial⟩, rfl⟩, rfl,
    Step.plain rfl (does_load 22 10 0 (0 + 1) [1] (.var (e_api_Id p0)) (.int .u32 p0.Coord) ⟨rfl, Nat.le_of_ble_eq_true rfl, trivial⟩ rfl rfl ty22), ⟨⟨rfl, trivial⟩, ⟨rfl, trivial⟩, rfl⟩, rfl,
    Step.plain rfl (does_fieldAddr 24 1 1 3 1 0 [] (.var (e_api_Id p1)) fl24_1), ⟨⟨rfl, trivial⟩, ⟨rfl, trivial⟩, rfl⟩, rfl,
    Step.plain rfl (does_load 22 12 1 (0 + 1) [1] (.var (e_api_Id p1)) (.int .u32 p1.Coord) ⟨rfl, Nat.le_of_ble_eq_true rfl, trivial⟩ rfl rfl ty22), ⟨⟨rfl, trivial⟩, ⟨rfl, trivial⟩, rfl⟩, rfl,
    Step.plain rfl (does_call 21 0 (fun _ => .any) (.func 21) [(.tmp 11), (.tmp 13)] [(.int .u32 p0.Coord), (.int .u32 p1.Coord)] [] true [(.int .u32 p0.Coord), (.int .u32 p1.Coord)] (.int .i64 v3) _ _ rfl fo21 rfl ⟨trivial, trivial, trivial⟩ ⟨.data _ trivial, .data _ trivial, trivial⟩ (cmp_Compare_uint32_spec p0.Coord p1.Coord _ h4) trivial), ⟨⟨rfl, rfl, trivial⟩, trivial, rfl⟩, rfl,
    Step.plain rfl (does_fieldAddr 24 2 2 2 0 0 [] (.var (e_api_Id p0)) fl24_2), ⟨⟨rfl, trivial⟩, ⟨rfl, trivial⟩, rfl⟩, rfl,
    Step.plain rfl (does_load 22 15 0 (0 + 2) [2] (.var (e_api_Id p0)) (.int .u32 p0.Inc) ⟨rfl, Nat.le_of_ble_eq_true rfl, trivial⟩ rfl rfl ty22), ⟨⟨rfl, trivial⟩, ⟨rfl, trivial⟩, rfl⟩, rfl,
    Step.plain rfl (does_fieldAddr 24 2 2 3 1 0 [] (.var (e_api_Id p1)) fl24_2), ⟨⟨rfl, trivial⟩, ⟨rfl, trivial⟩, rfl⟩, rfl,
    Step.plain rfl (does_load 22 17 1 (0 + 2) [2] (.var (e_api_Id p1)) (.int .u32 p1.Inc) ⟨rfl, Nat.le_of_ble_eq_true rfl, trivial⟩ rfl rfl ty22), ⟨⟨rfl, trivial⟩, ⟨rfl, trivial⟩, rfl⟩, rfl,
    Step.plain rfl (does_call 21 0 (fun _ => .any) (.func 21) [(.tmp 16), (.tmp 18)] [(.int .u32 p0.Inc), (.int .u32 p1.Inc)] [] true [(.int .u32 p0.Inc), (.int .u32 p1.Inc)] (.int .i64 v5) _ _ rfl fo21 rfl ⟨trivial, trivial, trivial⟩ ⟨.data _ trivial, .data _ trivial, trivial⟩ (cmp_Compare_uint32_spec p0.Inc p1.Inc _ h6) trivial), ⟨⟨rfl, rfl, trivial⟩, trivial, rfl⟩, rfl,
    Step.plain rfl (does_buildSl 33 3 1 (.int .i64 0) (fun j => (.int .i64 (([v1, v3, v5] : _root_.List Int).getD j 0))) #[(0, (.tmp 9)), (1, (.tmp 14)), (2, (.tmp 19))] [(0, (.tmp 9)), (1, (.tmp 14)), (2, (.tmp 19))] [(0, (.int .i64 v1)), (1, (.int .i64 v3)), (2, (.int .i64 v5))] rfl so33 (by decide) ⟨⟨rfl, trivial⟩, ⟨rfl, trivial⟩, ⟨rfl, trivial⟩, trivial⟩ ⟨⟨Nat.le_of_ble_eq_true rfl, rfl, rfl⟩, ⟨Nat.le_of_ble_eq_true rfl, rfl, rfl⟩, ⟨Nat.le_of_ble_eq_true rfl, rfl, rfl⟩, trivial⟩ (fun j h => match j, h with | 0, _ => rfl | 1, _ => rfl | 2, _ => rfl | k + 3, h => absurd h (by omega))), ⟨⟨rfl, rfl, rfl, trivial⟩, trivial, rfl⟩, rfl,
    Step.plain rfl (does_call 20 0 (fun _ => .any) (.func 20) [(.tmp 20)] [(e_s_i64 ([v1, v3, v5] : _root_.List Int))] [] true [(e_s_i64 ([v1, v3, v5] : _root_.List Int))] (.int .i64 v7) _ _ rfl fo20 rfl ⟨trivial, trivial⟩ ⟨.data _ (d_s_i64 ([v1, v3, v5] : _root_.List Int)), trivial⟩ (cmp_Or_int_spec ([v1, v3, v5] : _root_.List Int) _ h8) trivial), ⟨⟨rfl, trivial⟩, trivial, rfl⟩, rfl,
    Step.plain rfl (does_assign (.tmp 21) (.int .i64 v7) trivial), ⟨⟨rfl, trivial⟩, trivial, rfl⟩, rfl, rfl⟩ rfl ?_
  refine aw_cov (cov_prune (s1 := ⟨[(4, (.int .i64 v7))], [], 2⟩) ⟨rfl, trivial⟩ trivial (Nat.le_refl _)) ?_
  refine aw_ret ?_
  exact fun a w hr => ⟨_, [(.int .i64 v7)], hr, ⟨⟨_, rfl, .data _ trivial⟩, trivial⟩, by decide, by cases H; rfl⟩

theorem ident_List_spec (p0 : (Nat → Int)) (r : (_root_.List Int)) (H : ident_List p0 = some r) : FSpec Try.prog 11 [(e_a8_u32 p0)] (e_s_i64 r) := by
  refine spec_of (fn := Try.f11) (args := [(e_a8_u32 p0)]) Try.func11 rfl (Nat.le_of_ble_eq_true rfl) ?_
  rintro ⟨G, w0, W, S, Sp⟩ hG
  cases hG
  unfold ident_List at H
  refine aw_region (es := [_, _]) ⟨Step.plain rfl (does_box 32 (.tmp 0) 0 (e_a8_u32 p0) trivial rfl), ⟨⟨rfl, trivial⟩, trivial, rfl⟩, rfl,
    Step.plain rfl (does_nil false 1 1 (fun j => (.int .i64 (([] : _root_.List Int).getD j 0)))), ⟨trivial, trivial, rfl⟩, rfl, rfl⟩ ?_
  refine aw_cov (cov_prune (s1 := ⟨[(1, (.ptr 0 0 []))], [(0, some (.var (e_a8_u32 p0)))], 2⟩) ⟨rfl, trivial⟩ ⟨rfl, trivial⟩ (Nat.le_refl _)) ?_
  refine aw_region (es := [_]) ⟨Step.plain rfl (does_nil false 2 1 (fun j => (.int .i64 (([] : _root_.List Int).getD j 0)))), ⟨trivial, trivial, rfl⟩, rfl, rfl⟩ ?_
  refine aw_cov (cov_prune (s1 := ⟨[(1, (.ptr 0 0 [])), (3, (.own 2))], [(0, some (.var (e_a8_u32 p0))), (2, some (.arr 1 ([] : _root_.List Int).length fun j => (.int .i64 (([] : _root_.List Int).getD j 0))))], 3⟩) ⟨rfl, rfl, trivial⟩ ⟨rfl, rfl, trivial⟩ (Nat.le_refl _)) ?_
  refine aw_seq ?_
  refine aw_region (es := [_, _]) ⟨Step.plain rfl (does_load 32 1 0 0 [] (.var (e_a8_u32 p0)) (e_a8_u32 p0) trivial rfl rfl ty32), ⟨⟨rfl, trivial⟩, ⟨rfl, trivial⟩, rfl⟩, rfl,
    Step.plain rfl (does_move (.const (.int .i64 0)) (.int .i64 0) (fun _ => rfl)), ⟨trivial, trivial, rfl⟩, rfl, rfl⟩ ?_
  refine aw_cov (cov_prune (s1 := ⟨[(3, (.own 2)), (6, (e_a8_u32 p0)), (7, (.int .i64 0))], [(2, some (.arr 1 ([] : _root_.List Int).length fun j => (.int .i64 (([] : _root_.List Int).getD j 0))))], 3⟩) ⟨rfl, rfl, rfl, trivial⟩ ⟨rfl, trivial⟩ (Nat.le_refl _)) ?_
  obtain ⟨wn2, hwn2, Hrn2⟩ := bnd H
  refine aw_meet (fun y7 : _root_.List Int => (⟨[(3, (.own 2))], [(2, some (.arr 1 y7.length fun j => (.int .i64 (y7.getD j 0))))], 3⟩ : St)) (fun y7 => Fl.nx y7 = wn2) (fun y7 hy => ?_) (aw_block (aw_runs (fun x1 : Int × _root_.List Int => (⟨[(3, (.own 2)), (6, (e_a8_u32 p0)), (7, (.int .i64 x1.1))], [(2, some (.arr 1 x1.2.length fun j => (.int .i64 (x1.2.getD j 0))))], 3⟩ : St)) hwn2 (cov_prune ⟨rfl, rfl, rfl, trivial⟩ ⟨rfl, trivial⟩ (Nat.le_of_ble_eq_true rfl)) (fun x1 st H hsn2 => ?_)))
  · have H := nx_of hy Hrn2
    refine nx_seq ?_
    refine aw_region (es := [_, _]) ⟨Step.plain rfl (does_move (.tmp 3) (.own 2) trivial), ⟨⟨rfl, trivial⟩, trivial, rfl⟩, rfl,
      Step.plain rfl (does_assign (.tmp 18) (.own 2) trivial), ⟨⟨rfl, trivial⟩, trivial, rfl⟩, rfl, rfl⟩ ?_
    refine aw_cov (cov_prune (s1 := ⟨[(2, (.own 2))], [(2, some (.arr 1 y7.length fun j => (.int .i64 (y7.getD j 0))))], 3⟩) ⟨rfl, trivial⟩ ⟨rfl, trivial⟩ (Nat.le_refl _)) ?_
    refine aw_ret ?_
    exact fun a w hr => ⟨_, [(e_s_i64 y7)], hr, ⟨⟨_, rfl, .own _ _ _ _ rfl (fun _ => trivial)⟩, trivial⟩, by decide, by cases H; rfl⟩
  · refine aw_region (es := [_]) ⟨Step.plain rfl (does_bin .lss 3 3 (.tmp 7) (.const (.int .i64 8)) .i64 x1.1 8 (.bool (decide (x1.1 < 8))) trivial (fun _ => rfl) (bin_lss _ _ _ _)), ⟨⟨rfl, trivial⟩, trivial, rfl⟩, rfl, rfl⟩ ?_
    refine aw_cov (cov_prune (s1 := ⟨[(3, (.own 2)), (6, (e_a8_u32 p0)), (7, (.int .i64 x1.1)), (8, (.bool (decide (x1.1 < 8))))], [(2, some (.arr 1 x1.2.length fun j => (.int .i64 (x1.2.getD j 0))))], 3⟩) ⟨rfl, rfl, rfl, rfl, trivial⟩ ⟨rfl, trivial⟩ (Nat.le_refl _)) ?_
    refine aw_seq ?_
    refine aw_cond rfl (fun hc => ?_) (fun hc => ?_)
    · replace H := ite_t hc H
      refine aw_skip ?_
      refine nx_seq ?_
      refine aw_seq ?_
      refine aw_jn (fun x6 : _root_.List Int => (⟨[(3, (.own 2)), (6, (e_a8_u32 p0)), (7, (.int .i64 x1.1))], [(2, some (.arr 1 x6.length fun j => (.int .i64 (x6.getD j 0))))], 4⟩ : St)) H (fun x6 H => ?_) (fun j3 H => ?_)
      · refine nx_seq ?_
        refine aw_region1 (es := [_, _]) ⟨Step.plain rfl (does_bin .add 3 3 (.tmp 7) (.const (.int .i64 1)) .i64 x1.1 1 (.int .i64 (IntKind.i64.wrap (x1.1 + 1))) trivial (fun _ => rfl) (bin_add _ _ _ _)), ⟨⟨rfl, trivial⟩, trivial, rfl⟩, rfl,
          Step.plain rfl (does_move (.tmp 17) (.int .i64 (IntKind.i64.wrap (x1.1 + 1))) trivial), ⟨⟨rfl, trivial⟩, trivial, rfl⟩, rfl, rfl⟩ ?_
        exact nx_loop ((IntKind.i64.wrap (x1.1 + 1)), x6) H (cov_of (fun i => match i with | 2 => 2 | k => k) ⟨⟨_, rfl, ⟨rfl, Nat.le_of_ble_eq_true rfl⟩⟩, ⟨_, rfl, .inl ⟨rfl, (d_a8_u32 _).plain⟩⟩, ⟨_, rfl, ⟨rfl, trivial⟩⟩, trivial⟩ ⟨⟨Nat.le_of_ble_eq_true rfl, _, _, rfl, rfl, ⟨rfl, rfl, fun _ => ⟨rfl, trivial⟩⟩⟩, trivial⟩ rfl)
      · refine aw_block ?_
        obtain ⟨h4, H⟩ := ib_of H
        refine aw_region (es := [_, _, _, _]) ⟨Step.plain rfl (does_move (.tmp 7) (.int .i64 x1.1) trivial), ⟨⟨rfl, trivial⟩, trivial, rfl⟩, rfl,
          Step.plain rfl (does_index 32 8 22 1 6 false (fun j => (.int .u32 (p0 j))) (.tmp 7) .i64 x1.1 ua32 ty22 rfl trivial h4.1 h4.2), ⟨⟨rfl, rfl, trivial⟩, trivial, rfl⟩, rfl,
          Step.plain rfl (does_assign (.tmp 9) (.int .i64 x1.1) trivial), ⟨⟨rfl, trivial⟩, trivial, rfl⟩, rfl,
          Step.plain rfl (does_assign (.tmp 10) (.int .u32 (p0 x1.1.toNat)) trivial), ⟨⟨rfl, trivial⟩, trivial, rfl⟩, rfl, rfl⟩ ?_
        refine aw_cov (cov_prune (s1 := ⟨[(3, (.own 2)), (6, (e_a8_u32 p0)), (7, (.int .i64 x1.1)), (4, (.int .i64 x1.1)), (5, (.int .u32 (p0 x1.1.toNat)))], [(2, some (.arr 1 x1.2.length fun j => (.int .i64 (x1.2.getD j 0))))], 3⟩) ⟨rfl, rfl, rfl, rfl, rfl, trivial⟩ ⟨rfl, trivial⟩ (Nat.le_refl _)) ?_
        refine aw_region (es := [_, _]) ⟨Step.plain rfl (does_move (.tmp 5) (.int .u32 (p0 x1.1.toNat)) trivial), ⟨⟨rfl, trivial⟩, trivial, rfl⟩, rfl,
          Step.plain rfl (does_bin .neq 22 22 (.tmp 11) (.const (.int .u32 0)) .u32 (p0 x1.1.toNat) 0 (.bool ((p0 x1.1.toNat) != 0)) trivial (fun _ => rfl) (bin_neq _ _ _ _)), ⟨⟨rfl, trivial⟩, trivial, rfl⟩, rfl, rfl⟩ ?_
        refine aw_cov (cov_prune (s1 := ⟨[(3, (.own 2)), (6, (e_a8_u32 p0)), (7, (.int .i64 x1.1)), (4, (.int .i64 x1.1)), (12, (.bool ((p0 x1.1.toNat) != 0)))], [(2, some (.arr 1 x1.2.length fun j => (.int .i64 (x1.2.getD j 0))))], 3⟩) ⟨rfl, rfl, rfl, rfl, rfl, trivial⟩ ⟨rfl, trivial⟩ (Nat.le_refl _)) ?_
        refine aw_cond rfl (fun hc => ?_) (fun hc => ?_)
        · replace H := ite_t hc H
          obtain ⟨h5, H⟩ := fit_of H
          refine aw_region1 (es := [_, _, _, _, _]) ⟨Step.plain rfl (does_move (.tmp 3) (.own 2) trivial), ⟨⟨rfl, trivial⟩, trivial, rfl⟩, rfl,
            Step.plain rfl (does_move (.tmp 4) (.int .i64 x1.1) trivial), ⟨⟨rfl, trivial⟩, trivial, rfl⟩, rfl,
            Step.plain rfl (does_buildSl 33 1 1 (.int .i64 0) (fun j => (.int .i64 (([x1.1] : _root_.List Int).getD j 0))) #[(0, (.tmp 14))] [(0, (.tmp 14))] [(0, (.int .i64 x1.1))] rfl so33 (by decide) ⟨⟨rfl, trivial⟩, trivial⟩ ⟨⟨Nat.le_of_ble_eq_true rfl, rfl, rfl⟩, trivial⟩ (fun j h => match j, h with | 0, _ => rfl | k + 1, h => absurd h (by omega))), ⟨⟨rfl, trivial⟩, trivial, rfl⟩, rfl,
            Step.plain rfl (does_appendL (fun z => V.int .i64 z) 0 x1.2 ([x1.1] : _root_.List Int) 33 1 8 2 3 13 15 ap33 h5), ⟨⟨rfl, rfl, trivial⟩, ⟨rfl, trivial⟩, rfl⟩, rfl,
            Step.plain rfl (does_assign (.tmp 16) (.own 3) trivial), ⟨⟨rfl, trivial⟩, trivial, rfl⟩, rfl, rfl⟩ ?_
          refine nx_blk ?_
          exact nx_join ((x1.2 ++ ([x1.1] : _root_.List Int))) H (cov_of (fun i => match i with | 2 => 3 | k => k) ⟨⟨_, rfl, ⟨rfl, Nat.le_of_ble_eq_true rfl⟩⟩, ⟨_, rfl, .inl ⟨rfl, (d_a8_u32 _).plain⟩⟩, ⟨_, rfl, ⟨rfl, trivial⟩⟩, trivial⟩ ⟨⟨Nat.le_of_ble_eq_true rfl, _, _, rfl, rfl, ⟨rfl, rfl, fun _ => ⟨rfl, trivial⟩⟩⟩, trivial⟩ rfl)
        · replace H := ite_f hc H
          refine aw_skip ?_
          refine nx_blk ?_
          exact nx_join (x1.2) H (cov_of (fun i => match i with | 2 => 2 | k => k) ⟨⟨_, rfl, ⟨rfl, Nat.le_of_ble_eq_true rfl⟩⟩, ⟨_, rfl, .inl ⟨rfl, (d_a8_u32 _).plain⟩⟩, ⟨_, rfl, ⟨rfl, trivial⟩⟩, trivial⟩ ⟨⟨Nat.le_of_ble_eq_true rfl, _, _, rfl, rfl, ⟨rfl, rfl, fun _ => ⟨rfl, trivial⟩⟩⟩, trivial⟩ rfl)
    · replace H := ite_f hc H
      refine aw_exit ?_
      refine ex_then ?_
      refine ex_then ?_
      refine ex_here ?_
      exact nx_ljoin (x1.2) H hsn2 (cov_prune ⟨rfl, trivial⟩ ⟨rfl, trivial⟩ (Nat.le_of_ble_eq_true rfl))

theorem ident_Least_spec (p0 : (Nat → Int)) (r : Int × Bool) (H : ident_Least p0 = some r) : FSpec Try.prog 12 [(e_a8_u32 p0)] (resV [(.int .i64 r.1), (.bool r.2)]) := by
  refine spec_of (fn := Try.f12) (args := [(e_a8_u32 p0)]) Try.func12 rfl (Nat.le_of_ble_eq_true rfl) ?_
  rintro ⟨G, w0, W, S, Sp⟩ hG
  cases hG
  unfold ident_Least at H
  refine aw_region (es := [_, _, _]) ⟨Step.plain rfl (does_box 32 (.tmp 0) 0 (e_a8_u32 p0) trivial rfl), ⟨⟨rfl, trivial⟩, trivial, rfl⟩, rfl,
    Step.plain rfl (does_assign (.const (.int .i64 0)) (.int .i64 0) (fun _ => rfl)), ⟨trivial, trivial, rfl⟩, rfl,
    Step.plain rfl (does_assign (.const (.bool false)) (.bool false) (fun _ => rfl)), ⟨trivial, trivial, rfl⟩, rfl, rfl⟩ ?_
  refine aw_cov (cov_prune (s1 := ⟨[(1, (.ptr 0 0 []))], [(0, some (.var (e_a8_u32 p0)))], 1⟩) ⟨rfl, trivial⟩ ⟨rfl, trivial⟩ (Nat.le_refl _)) ?_
  obtain ⟨v1, h2, H⟩ := bnd H
  refine aw_region (es := [_, _, _]) ⟨Step.plain rfl (does_load 32 1 0 0 [] (.var (e_a8_u32 p0)) (e_a8_u32 p0) trivial rfl rfl ty32), ⟨⟨rfl, trivial⟩, ⟨rfl, trivial⟩, rfl⟩, rfl,
    Step.plain rfl (does_call 11 0 (fun _ => .any) (.func 11) [(.tmp 5)] [(e_a8_u32 p0)] [] false [(e_a8_u32 p0)] (e_s_i64 v1) _ _ rfl fo11 rfl ⟨trivial, trivial⟩ ⟨.data _ (d_a8_u32 p0), trivial⟩ (ident_List_spec p0 _ h2) (d_s_i64 v1)), ⟨⟨rfl, trivial⟩, trivial, rfl⟩, rfl,
    Step.plain rfl (does_assign (.tmp 6) (e_s_i64 v1) trivial), ⟨⟨rfl, trivial⟩, trivial, rfl⟩, rfl, rfl⟩ ?_
  refine aw_cov (cov_prune (s1 := ⟨[(4, (e_s_i64 v1))], [], 1⟩) ⟨rfl, trivial⟩ trivial (Nat.le_refl _)) ?_
  refine aw_seq ?_
  refine aw_region (es := [_, _, _]) ⟨Step.plain rfl (does_move (.tmp 4) (e_s_i64 v1) trivial), ⟨⟨rfl, trivial⟩, trivial, rfl⟩, rfl,
    Step.plain rfl (does_lens 33 1 v1.length 7 (fun j => (.int .i64 (v1.getD j 0))) el33), ⟨⟨rfl, trivial⟩, trivial, rfl⟩, rfl,
    Step.plain rfl (does_bin .eql 3 3 (.tmp 8) (.const (.int .i64 0)) .i64 (v1.length : Int) 0 (.bool ((v1.length : Int) == 0)) trivial (fun _ => rfl) (bin_eql _ _ _ _)), ⟨⟨rfl, trivial⟩, trivial, rfl⟩, rfl, rfl⟩ ?_
  refine aw_cov (cov_prune (s1 := ⟨[(4, (e_s_i64 v1)), (9, (.bool ((v1.length : Int) == 0)))], [], 1⟩) ⟨rfl, rfl, trivial⟩ trivial (Nat.le_refl _)) ?_
  refine aw_cond rfl (fun hc => ?_) (fun hc => ?_)
  · replace H := ite_t hc H
    refine aw_region (es := [_, _]) ⟨Step.plain rfl (does_assign (.const (.int .i64 0)) (.int .i64 0) (fun _ => rfl)), ⟨trivial, trivial, rfl⟩, rfl,
      Step.plain rfl (does_assign (.const (.bool false)) (.bool false) (fun _ => rfl)), ⟨trivial, trivial, rfl⟩, rfl, rfl⟩ ?_
    refine aw_cov (cov_prune (s1 := ⟨[(2, (.int .i64 0)), (3, (.bool false))], [], 1⟩) ⟨rfl, rfl, trivial⟩ trivial (Nat.le_refl _)) ?_
    refine aw_ret ?_
    refine rt_then ?_
    exact fun a w hr => ⟨_, [(.int .i64 0), (.bool false)], hr, ⟨⟨_, rfl, .data _ trivial⟩, ⟨_, rfl, .data _ trivial⟩, trivial⟩, by decide, by cases H; rfl⟩
  · replace H := ite_f hc H
    refine aw_skip ?_
    refine nx_seq ?_
    obtain ⟨h3, H⟩ := ib_of H
    refine aw_region (es := [_, _, _, _, _]) ⟨Step.plain rfl (does_move (.tmp 4) (e_s_i64 v1) trivial), ⟨⟨rfl, trivial⟩, trivial, rfl⟩, rfl,
      Step.plain rfl (does_indexAddrs 33 1 v1.length 10 (fun j => (.int .i64 (v1.getD j 0))) (.const (.int .i64 0)) .i64 0 el33 (fun _ => rfl) h3.1 h3.2), ⟨⟨rfl, trivial⟩, trivial, rfl⟩, rfl,
      Step.plain rfl (does_loadc 3 11 (.int .i64 (v1.getD 0 0)) ty3), ⟨⟨rfl, trivial⟩, trivial, rfl⟩, rfl,
      Step.plain rfl (does_assign (.tmp 12) (.int .i64 (v1.getD 0 0)) trivial), ⟨⟨rfl, trivial⟩, trivial, rfl⟩, rfl,
      Step.plain rfl (does_assign (.const (.bool true)) (.bool true) (fun _ => rfl)), ⟨trivial, trivial, rfl⟩, rfl, rfl⟩ ?_
    refine aw_cov (cov_prune (s1 := ⟨[(2, (.int .i64 (v1.getD 0 0))), (3, (.bool true))], [], 1⟩) ⟨rfl, rfl, trivial⟩ trivial (Nat.le_refl _)) ?_
    refine aw_ret ?_
    exact fun a w hr => ⟨_, [(.int .i64 (v1.getD 0 0)), (.bool true)], hr, ⟨⟨_, rfl, .data _ trivial⟩, ⟨_, rfl, .data _ trivial⟩, trivial⟩, by decide, by cases H; rfl⟩

theorem ident_Highest_spec (p0 : (_root_.List api_Id)) (r : api_Id) (H : ident_Highest p0 = some r) : FSpec Try.prog 10 [(e_s_api_Id p0)] (e_api_Id r) := by
  refine spec_of (fn := Try.f10) (args := [(e_s_api_Id p0)]) Try.func10 rfl (Nat.le_of_ble_eq_true rfl) ?_
  rintro ⟨G, w0, W, S, Sp⟩ hG
  cases hG
  unfold ident_Highest at H
  refine aw_region (es := [_]) ⟨Step.plain rfl (does_alloc 24 0 (e_api_Id z_api_Id) zr24), ⟨trivial, trivial, rfl⟩, rfl, rfl⟩ ?_
  refine aw_cov (cov_prune (s1 := ⟨[(0, (e_s_api_Id p0)), (2, (.ptr 0 0 []))], [(0, some (.var (e_api_Id z_api_Id)))], 1⟩) ⟨rfl, rfl, trivial⟩ ⟨rfl, trivial⟩ (Nat.le_refl _)) ?_
  refine aw_region (es := [_]) ⟨Step.plain rfl (does_alloc 24 1 (e_api_Id z_api_Id) zr24), ⟨trivial, trivial, rfl⟩, rfl, rfl⟩ ?_
  refine aw_cov (cov_prune (s1 := ⟨[(0, (e_s_api_Id p0)), (2, (.ptr 0 0 [])), (3, (.ptr 1 0 []))], [(0, some (.var (e_api_Id z_api_Id))), (1, some (.var (e_api_Id z_api_Id)))], 2⟩) ⟨rfl, rfl, rfl, trivial⟩ ⟨rfl, rfl, trivial⟩ (Nat.le_refl _)) ?_
  refine aw_seq ?_
  refine aw_region (es := [_, _, _]) ⟨Step.plain rfl (does_move (.tmp 0) (e_s_api_Id p0) trivial), ⟨⟨rfl, trivial⟩, trivial, rfl⟩, rfl,
    Step.plain rfl (does_lens 28 3 p0.length 6 (fun j => (e_api_Id (p0.getD j z_api_Id))) el28), ⟨⟨rfl, trivial⟩, trivial, rfl⟩, rfl,
    Step.plain rfl (does_move (.const (.int .i64 0)) (.int .i64 0) (fun _ => rfl)), ⟨trivial, trivial, rfl⟩, rfl, rfl⟩ ?_
  refine aw_cov (cov_prune (s1 := ⟨[(2, (.ptr 0 0 [])), (3, (.ptr 1 0 [])), (6, (e_s_api_Id p0)), (7, (.int .i64 (p0.length : Int))), (8, (.int .i64 0))], [(0, some (.var (e_api_Id z_api_Id))), (1, some (.var (e_api_Id z_api_Id)))], 2⟩) ⟨rfl, rfl, rfl, rfl, rfl, trivial⟩ ⟨rfl, rfl, trivial⟩ (Nat.le_refl _)) ?_
  obtain ⟨wn2, hwn2, Hrn2⟩ := bnd H
  refine aw_meet (fun y8 : api_Id => (⟨[(2, (.ptr 0 0 [])), (3, (.ptr 1 0 []))], [(0, some (.var (e_api_Id z_api_Id))), (1, some (.var (e_api_Id y8)))], 2⟩ : St)) (fun y8 => Fl.nx y8 = wn2) (fun y8 hy => ?_) (aw_block (aw_runs (fun x1 : Int × api_Id => (⟨[(2, (.ptr 0 0 [])), (3, (.ptr 1 0 [])), (6, (e_s_api_Id p0)), (7, (.int .i64 (p0.length : Int))), (8, (.int .i64 x1.1))], [(0, some (.var (e_api_Id z_api_Id))), (1, some (.var (e_api_Id x1.2)))], 2⟩ : St)) hwn2 (cov_prune ⟨rfl, rfl, rfl, rfl, rfl, trivial⟩ ⟨rfl, rfl, trivial⟩ (Nat.le_of_ble_eq_true rfl)) (fun x1 st H hsn2 => ?_)))
  · have H := nx_of hy Hrn2
    refine nx_seq ?_
    refine aw_region (es := [_, _]) ⟨Step.plain rfl (does_load 24 3 1 0 [] (.var (e_api_Id y8)) (e_api_Id y8) trivial rfl rfl ty24), ⟨⟨rfl, trivial⟩, ⟨rfl, trivial⟩, rfl⟩, rfl,
      Step.plain rfl (does_store 24 2 (.tmp 18) 0 0 [] (.var (e_api_Id z_api_Id)) (.var (e_api_Id y8)) (e_api_Id y8) true trivial rfl trivial rfl rfl rfl ty24), ⟨⟨rfl, rfl, trivial⟩, ⟨rfl, trivial⟩, rfl⟩, rfl, rfl⟩ ?_
    refine aw_cov (cov_prune (s1 := ⟨[(2, (.ptr 0 0 []))], [(0, some (.var (e_api_Id y8)))], 2⟩) ⟨rfl, trivial⟩ ⟨rfl, trivial⟩ (Nat.le_refl _)) ?_
    refine aw_ret ?_
    exact fun a w hr => ⟨_, [(e_api_Id y8)], hr, ⟨⟨0, _, rfl, rfl, .data _ (d_api_Id y8), ty24⟩, trivial⟩, by decide, by cases H; rfl⟩
  · refine aw_region (es := [_]) ⟨Step.plain rfl (does_bin .lss 3 3 (.tmp 8) (.tmp 7) .i64 x1.1 (p0.length : Int) (.bool (decide (x1.1 < (p0.length : Int)))) trivial trivial (bin_lss _ _ _ _)), ⟨⟨rfl, rfl, trivial⟩, trivial, rfl⟩, rfl, rfl⟩ ?_
    refine aw_cov (cov_prune (s1 := ⟨[(2, (.ptr 0 0 [])), (3, (.ptr 1 0 [])), (6, (e_s_api_Id p0)), (7, (.int .i64 (p0.length : Int))), (8, (.int .i64 x1.1)), (9, (.bool (decide (x1.1 < (p0.length : Int)))))], [(0, some (.var (e_api_Id z_api_Id))), (1, some (.var (e_api_Id x1.2)))], 2⟩) ⟨rfl, rfl, rfl, rfl, rfl, rfl, trivial⟩ ⟨rfl, rfl, trivial⟩ (Nat.le_refl _)) ?_
    refine aw_seq ?_
    refine aw_cond rfl (fun hc => ?_) (fun hc => ?_)
    · replace H := ite_t hc H
      refine aw_skip ?_
      refine nx_seq ?_
      refine aw_seq ?_
      refine aw_jn (fun x7 : api_Id => (⟨[(2, (.ptr 0 0 [])), (3, (.ptr 1 0 [])), (6, (e_s_api_Id p0)), (7, (.int .i64 (p0.length : Int))), (8, (.int .i64 x1.1))], [(0, some (.var (e_api_Id z_api_Id))), (1, some (.var (e_api_Id x7)))], 3⟩ : St)) H (fun x7 H => ?_) (fun j3 H => ?_)
      · refine nx_seq ?_
        refine aw_region1 (es := [_, _]) ⟨Step.plain rfl (does_bin .add 3 3 (.tmp 8) (.const (.int .i64 1)) .i64 x1.1 1 (.int .i64 (IntKind.i64.wrap (x1.1 + 1))) trivial (fun _ => rfl) (bin_add _ _ _ _)), ⟨⟨rfl, trivial⟩, trivial, rfl⟩, rfl,
          Step.plain rfl (does_move (.tmp 17) (.int .i64 (IntKind.i64.wrap (x1.1 + 1))) trivial), ⟨⟨rfl, trivial⟩, trivial, rfl⟩, rfl, rfl⟩ ?_
        exact nx_loop ((IntKind.i64.wrap (x1.1 + 1)), x7) H (cov_of (fun i => match i with | 0 => 0 | 1 => 1 | k => k) ⟨⟨_, rfl, ⟨rfl, Nat.le_of_ble_eq_true rfl⟩⟩, ⟨_, rfl, ⟨rfl, Nat.le_of_ble_eq_true rfl⟩⟩, ⟨_, rfl, ⟨rfl, (d_s_api_Id _).plain⟩⟩, ⟨_, rfl, ⟨rfl, trivial⟩⟩, ⟨_, rfl, ⟨rfl, trivial⟩⟩, trivial⟩ ⟨⟨Nat.le_of_ble_eq_true rfl, _, _, rfl, rfl, .inl ⟨rfl, (d_api_Id _).plain⟩⟩, ⟨Nat.le_of_ble_eq_true rfl, _, _, rfl, rfl, .inl ⟨rfl, (d_api_Id _).plain⟩⟩, trivial⟩ rfl)
      · refine aw_block ?_
        obtain ⟨h4, H⟩ := ib_of H
        refine aw_region (es := [_, _, _, _]) ⟨Step.plain rfl (does_indexAddrs 28 3 p0.length 6 (fun j => (e_api_Id (p0.getD j z_api_Id))) (.tmp 8) .i64 x1.1 el28 trivial h4.1 h4.2), ⟨⟨rfl, rfl, trivial⟩, trivial, rfl⟩, rfl,
          Step.plain rfl (does_loadc 24 10 (e_api_Id (p0.getD x1.1.toNat z_api_Id)) ty24), ⟨⟨rfl, trivial⟩, trivial, rfl⟩, rfl,
          Step.plain rfl (does_alloc 24 2 (e_api_Id z_api_Id) zr24), ⟨trivial, trivial, rfl⟩, rfl,
          Step.plain rfl (does_store 24 5 (.tmp 11) 2 0 [] (.var (e_api_Id z_api_Id)) (.var (e_api_Id (p0.getD x1.1.toNat z_api_Id))) (e_api_Id (p0.getD x1.1.toNat z_api_Id)) true trivial rfl trivial rfl rfl rfl ty24), ⟨⟨rfl, rfl, trivial⟩, ⟨rfl, trivial⟩, rfl⟩, rfl, rfl⟩ ?_
        refine aw_cov (cov_prune (s1 := ⟨[(2, (.ptr 0 0 [])), (3, (.ptr 1 0 [])), (6, (e_s_api_Id p0)), (7, (.int .i64 (p0.length : Int))), (8, (.int .i64 x1.1)), (5, (.ptr 2 0 []))], [(0, some (.var (e_api_Id z_api_Id))), (1, some (.var (e_api_Id x1.2))), (2, some (.var (e_api_Id (p0.getD x1.1.toNat z_api_Id))))], 3⟩) ⟨rfl, rfl, rfl, rfl, rfl, rfl, trivial⟩ ⟨rfl, rfl, rfl, trivial⟩ (Nat.le_refl _)) ?_
        obtain ⟨v5, h6, H⟩ := bnd H
        refine aw_region (es := [_, _, _, _]) ⟨Step.plain rfl (does_load 24 5 2 0 [] (.var (e_api_Id (p0.getD x1.1.toNat z_api_Id))) (e_api_Id (p0.getD x1.1.toNat z_api_Id)) trivial rfl rfl ty24), ⟨⟨rfl, trivial⟩, ⟨rfl, trivial⟩, rfl⟩, rfl,
          Step.plain rfl (does_load 24 3 1 0 [] (.var (e_api_Id x1.2)) (e_api_Id x1.2) trivial rfl rfl ty24), ⟨⟨rfl, trivial⟩, ⟨rfl, trivial⟩, rfl⟩, rfl,
          Step.plain rfl (does_call 8 0 (fun _ => .any) (.func 8) [(.tmp 12), (.tmp 13)] [(e_api_Id (p0.getD x1.1.toNat z_api_Id)), (e_api_Id x1.2)] [] true [(e_api_Id (p0.getD x1.1.toNat z_api_Id)), (e_api_Id x1.2)] (.int .i64 v5) _ _ rfl fo8 rfl ⟨trivial, trivial, trivial⟩ ⟨.data _ (d_api_Id (p0.getD x1.1.toNat z_api_Id)), .data _ (d_api_Id x1.2), trivial⟩ (ident_Compare_spec (p0.getD x1.1.toNat z_api_Id) x1.2 _ h6) trivial), ⟨⟨rfl, rfl, trivial⟩, trivial, rfl⟩, rfl,
          Step.plain rfl (does_bin .gtr 3 3 (.tmp 14) (.const (.int .i64 0)) .i64 v5 0 (.bool (decide (v5 > 0))) trivial (fun _ => rfl) (bin_gtr _ _ _ _)), ⟨⟨rfl, trivial⟩, trivial, rfl⟩, rfl, rfl⟩ ?_
        refine aw_cov (cov_prune (s1 := ⟨[(2, (.ptr 0 0 [])), (3, (.ptr 1 0 [])), (6, (e_s_api_Id p0)), (7, (.int .i64 (p0.length : Int))), (8, (.int .i64 x1.1)), (5, (.ptr 2 0 [])), (15, (.bool (decide (v5 > 0))))], [(0, some (.var (e_api_Id z_api_Id))), (1, some (.var (e_api_Id x1.2))), (2, some (.var (e_api_Id (p0.getD x1.1.toNat z_api_Id))))], 3⟩) ⟨rfl, rfl, rfl, rfl, rfl, rfl, rfl, trivial⟩ ⟨rfl, rfl, rfl, trivial⟩ (Nat.le_refl _)) ?_
        refine aw_cond rfl (fun hc => ?_) (fun hc => ?_)
        · replace H := ite_t hc H
          refine aw_region1 (es := [_, _]) ⟨Step.plain rfl (does_load 24 5 2 0 [] (.var (e_api_Id (p0.getD x1.1.toNat z_api_Id))) (e_api_Id (p0.getD x1.1.toNat z_api_Id)) trivial rfl rfl ty24), ⟨⟨rfl, trivial⟩, ⟨rfl, trivial⟩, rfl⟩, rfl,
            Step.plain rfl (does_store 24 3 (.tmp 16) 1 0 [] (.var (e_api_Id x1.2)) (.var (e_api_Id (p0.getD x1.1.toNat z_api_Id))) (e_api_Id (p0.getD x1.1.toNat z_api_Id)) true trivial rfl trivial rfl rfl rfl ty24), ⟨⟨rfl, rfl, trivial⟩, ⟨rfl, trivial⟩, rfl⟩, rfl, rfl⟩ ?_
          refine nx_blk ?_
          exact nx_join (p0.getD x1.1.toNat z_api_Id) H (cov_prune ⟨rfl, rfl, rfl, rfl, rfl, trivial⟩ ⟨rfl, rfl, trivial⟩ (Nat.le_of_ble_eq_true rfl))
        · replace H := ite_f hc H
          refine aw_skip ?_
          refine nx_blk ?_
          exact nx_join (x1.2) H (cov_prune ⟨rfl, rfl, rfl, rfl, rfl, trivial⟩ ⟨rfl, rfl, trivial⟩ (Nat.le_of_ble_eq_true rfl))
    · replace H := ite_f hc H
      refine aw_exit ?_
      refine ex_then ?_
      refine ex_then ?_
      refine ex_here ?_
      exact nx_ljoin (x1.2) H hsn2 (cov_prune ⟨rfl, rfl, trivial⟩ ⟨rfl, rfl, trivial⟩ (Nat.le_of_ble_eq_true rfl))

theorem ident_Many_spec (p0 : (Nat → Int)) (r : Int) (H : ident_Many p0 = some r) : FSpec Try.prog 13 [(e_a8_u32 p0)] (.int .i64 r) := by
  refine spec_of (fn := Try.f13) (args := [(e_a8_u32 p0)]) Try.func13 rfl (Nat.le_of_ble_eq_true rfl) ?_
  rintro ⟨G, w0, W, S, Sp⟩ hG
  cases hG
  unfold ident_Many at H
  refine aw_region (es := [_, _]) ⟨Step.plain rfl (does_box 32 (.tmp 0) 0 (e_a8_u32 p0) trivial rfl), ⟨⟨rfl, trivial⟩, trivial, rfl⟩, rfl,
    Step.plain rfl (does_assign (.const (.int .i64 0)) (.int .i64 0) (fun _ => rfl)), ⟨trivial, trivial, rfl⟩, rfl, rfl⟩ ?_
  refine aw_cov (cov_prune (s1 := ⟨[(1, (.ptr 0 0 []))], [(0, some (.var (e_a8_u32 p0)))], 1⟩) ⟨rfl, trivial⟩ ⟨rfl, trivial⟩ (Nat.le_refl _)) ?_
  obtain ⟨v1, h2, H⟩ := bnd H
  refine aw_region (es := [_, _, _, _]) ⟨Step.plain rfl (does_load 32 1 0 0 [] (.var (e_a8_u32 p0)) (e_a8_u32 p0) trivial rfl rfl ty32), ⟨⟨rfl, trivial⟩, ⟨rfl, trivial⟩, rfl⟩, rfl,
    Step.plain rfl (does_call 11 0 (fun _ => .any) (.func 11) [(.tmp 3)] [(e_a8_u32 p0)] [] false [(e_a8_u32 p0)] (e_s_i64 v1) _ _ rfl fo11 rfl ⟨trivial, trivial⟩ ⟨.data _ (d_a8_u32 p0), trivial⟩ (ident_List_spec p0 _ h2) (d_s_i64 v1)), ⟨⟨rfl, trivial⟩, trivial, rfl⟩, rfl,
    Step.plain rfl (does_lens 33 1 v1.length 4 (fun j => (.int .i64 (v1.getD j 0))) el33), ⟨⟨rfl, trivial⟩, trivial, rfl⟩, rfl,
    Step.plain rfl (does_assign (.tmp 5) (.int .i64 (v1.length : Int)) trivial), ⟨⟨rfl, trivial⟩, trivial, rfl⟩, rfl, rfl⟩ ?_
  refine aw_cov (cov_prune (s1 := ⟨[(2, (.int .i64 (v1.length : Int)))], [], 1⟩) ⟨rfl, trivial⟩ trivial (Nat.le_refl _)) ?_
  refine aw_ret ?_
  exact fun a w hr => ⟨_, [(.int .i64 (v1.length : Int))], hr, ⟨⟨_, rfl, .data _ trivial⟩, trivial⟩, by decide, by cases H; rfl⟩

theorem ident_Has_spec (p0 : (Nat → Int)) (p1 : Int) (p2 : Int) (r : Bool) (H : ident_Has p0 p1 p2 = some r) : FSpec Try.prog 14 [(e_a8_u32 p0), (.int .i64 p1), (.int .u32 p2)] (.bool r) := by
  refine spec_of (fn := Try.f14) (args := [(e_a8_u32 p0), (.int .i64 p1), (.int .u32 p2)]) Try.func14 rfl (Nat.le_of_ble_eq_true rfl) ?_
  rintro ⟨G, w0, W, S, Sp⟩ hG
  cases hG
  unfold ident_Has at H
  refine aw_region (es := [_, _]) ⟨Step.plain rfl (does_box 32 (.tmp 0) 0 (e_a8_u32 p0) trivial rfl), ⟨⟨rfl, trivial⟩, trivial, rfl⟩, rfl,
    Step.plain rfl (does_assign (.const (.bool false)) (.bool false) (fun _ => rfl)), ⟨trivial, trivial, rfl⟩, rfl, rfl⟩ ?_
  refine aw_cov (cov_prune (s1 := ⟨[(1, (.int .i64 p1)), (2, (.int .u32 p2)), (3, (.ptr 0 0 []))], [(0, some (.var (e_a8_u32 p0)))], 1⟩) ⟨rfl, rfl, rfl, trivial⟩ ⟨rfl, trivial⟩ (Nat.le_refl _)) ?_
  obtain ⟨h1, H⟩ := ibg_of H
  refine aw_region (es := [_, _, _, _, _, _, _, _, _, _, _, _, _, _, _, _, _, _]) ⟨Step.plain rfl (does_move (.tmp 1) (.int .i64 p1) trivial), ⟨⟨rfl, trivial⟩, trivial, rfl⟩, rfl,
    Step.plain rfl (does_bin .geq 3 3 (.tmp 7) (.const (.int .i64 0)) .i64 p1 0 (.bool (decide (p1 ≥ 0))) trivial (fun _ => rfl) (bin_geq _ _ _ _)), ⟨⟨rfl, trivial⟩, trivial, rfl⟩, rfl,
    Step.plain rfl (does_move (.tmp 8) (.bool (decide (p1 ≥ 0))) trivial), ⟨⟨rfl, trivial⟩, trivial, rfl⟩, rfl,
    Step.guarded rfl rfl rfl rfl (fun hc => does_move (.tmp 1) (.int .i64 p1) trivial), ⟨⟨rfl, rfl, trivial⟩, trivial, rfl⟩, rfl,
    Step.guarded rfl rfl rfl rfl (fun hc => Does.strip (n' := [(10, (.opt (decide (p1 ≥ 0)) (.int .i64 p1)))]) (n := [(10, (.int .i64 p1))]) ⟨(.opt _ _ hc), trivial⟩ (does_bin .lss 3 3 (.tmp 10) (.const (.int .i64 8)) .i64 p1 8 (.bool (decide (p1 < 8))) trivial (fun _ => rfl) (bin_lss _ _ _ _))), ⟨⟨rfl, rfl, trivial⟩, trivial, rfl⟩, rfl,
    Step.plain rfl (does_and 9 11 (decide (p1 ≥ 0)) (decide (p1 < 8))), ⟨⟨rfl, rfl, trivial⟩, trivial, rfl⟩, rfl,
    Step.plain rfl (does_move (.tmp 12) (.bool ((decide (p1 ≥ 0)) && (decide (p1 < 8)))) trivial), ⟨⟨rfl, trivial⟩, trivial, rfl⟩, rfl,
    Step.guarded rfl rfl rfl rfl (fun hc => does_move (.tmp 2) (.int .u32 p2) trivial), ⟨⟨rfl, rfl, trivial⟩, trivial, rfl⟩, rfl,
    Step.guarded rfl rfl rfl rfl (fun hc => Does.strip (n' := [(14, (.opt ((decide (p1 ≥ 0)) && (decide (p1 < 8))) (.int .u32 p2)))]) (n := [(14, (.int .u32 p2))]) ⟨(.opt _ _ hc), trivial⟩ (does_bin .neq 22 22 (.tmp 14) (.const (.int .u32 0)) .u32 p2 0 (.bool (p2 != 0)) trivial (fun _ => rfl) (bin_neq _ _ _ _))), ⟨⟨rfl, rfl, trivial⟩, trivial, rfl⟩, rfl,
    Step.plain rfl (does_and 13 15 ((decide (p1 ≥ 0)) && (decide (p1 < 8))) (p2 != 0)), ⟨⟨rfl, rfl, trivial⟩, trivial, rfl⟩, rfl,
    Step.plain rfl (does_move (.tmp 16) (.bool (((decide (p1 ≥ 0)) && (decide (p1 < 8))) && (p2 != 0))) trivial), ⟨⟨rfl, trivial⟩, trivial, rfl⟩, rfl,
    Step.guarded rfl rfl rfl rfl (fun hc => does_move (.tmp 1) (.int .i64 p1) trivial), ⟨⟨rfl, rfl, trivial⟩, trivial, rfl⟩, rfl,
    Step.guarded rfl rfl rfl rfl (fun hc => Does.strip (n' := [(3, (.ptr 0 0 [])), (18, (.opt (((decide (p1 ≥ 0)) && (decide (p1 < 8))) && (p2 != 0)) (.int .i64 p1)))]) (n := [(3, (.ptr 0 0 [])), (18, (.int .i64 p1))]) ⟨(.same _), (.opt _ _ hc), trivial⟩ (does_indexAddr 32 8 1 3 0 0 [] (.var (e_a8_u32 p0)) (.tmp 18) .i64 p1 el32 trivial (h1 hc).1 (h1 hc).2)), ⟨⟨rfl, rfl, rfl, trivial⟩, ⟨rfl, trivial⟩, rfl⟩, rfl,
    Step.guarded rfl rfl rfl rfl (fun hc => Does.strip (n' := [(19, (.opt (((decide (p1 ≥ 0)) && (decide (p1 < 8))) && (p2 != 0)) (.ptr 0 (0 + p1.toNat * 1) [p1.toNat])))]) (n := [(19, (.ptr 0 (0 + p1.toNat * 1) [p1.toNat]))]) ⟨(.opt _ _ hc), trivial⟩ (does_load 22 19 0 (0 + p1.toNat * 1) [p1.toNat] (.var (e_a8_u32 p0)) (.int .u32 (p0 p1.toNat)) ⟨rfl, (ixl (h1 hc)), trivial⟩ rfl rfl ty22)), ⟨⟨rfl, rfl, trivial⟩, ⟨rfl, trivial⟩, rfl⟩, rfl,
    Step.guarded rfl rfl rfl rfl (fun hc => does_move (.tmp 2) (.int .u32 p2) trivial), ⟨⟨rfl, rfl, trivial⟩, trivial, rfl⟩, rfl,
    Step.guarded rfl rfl rfl rfl (fun hc => Does.strip (n' := [(20, (.opt (((decide (p1 ≥ 0)) && (decide (p1 < 8))) && (p2 != 0)) (.int .u32 (p0 p1.toNat)))), (21, (.opt (((decide (p1 ≥ 0)) && (decide (p1 < 8))) && (p2 != 0)) (.int .u32 p2)))]) (n := [(20, (.int .u32 (p0 p1.toNat))), (21, (.int .u32 p2))]) ⟨(.opt _ _ hc), (.opt _ _ hc), trivial⟩ (does_bin .eql 22 22 (.tmp 20) (.tmp 21) .u32 (p0 p1.toNat) p2 (.bool ((p0 p1.toNat) == p2)) trivial trivial (bin_eql _ _ _ _))), ⟨⟨rfl, rfl, rfl, trivial⟩, trivial, rfl⟩, rfl,
    Step.plain rfl (does_and 17 22 (((decide (p1 ≥ 0)) && (decide (p1 < 8))) && (p2 != 0)) ((p0 p1.toNat) == p2)), ⟨⟨rfl, rfl, trivial⟩, trivial, rfl⟩, rfl,
    Step.plain rfl (does_assign (.tmp 23) (.bool ((((decide (p1 ≥ 0)) && (decide (p1 < 8))) && (p2 != 0)) && ((p0 p1.toNat) == p2))) trivial), ⟨⟨rfl, trivial⟩, trivial, rfl⟩, rfl, rfl⟩ ?_
  obtain ⟨v2, hv2, H⟩ := lt_of H
  refine aw_cov (cov_prune (s1 := ⟨[(6, (.bool v2))], [], 1⟩) ⟨(by subst hv2; rfl), trivial⟩ trivial (Nat.le_refl _)) ?_
  refine aw_ret ?_
  exact fun a w hr => ⟨_, [(.bool v2)], hr, ⟨⟨_, rfl, .data _ trivial⟩, trivial⟩, by decide, by cases H; rfl⟩

theorem congresslaw07_fixed_spec (r : Bool) (H : congresslaw07_fixed = some r) : FSpec Try.prog 9 [] (.bool r) := by
  refine spec_of (fn := Try.f9) (args := []) Try.func9 rfl (Nat.le_of_ble_eq_true rfl) ?_
  rintro ⟨G, w0, W, S, Sp⟩ hG
  cases hG
  unfold congresslaw07_fixed at H
  refine aw_region (es := [_]) ⟨Step.plain rfl (does_assign (.const (.bool false)) (.bool false) (fun _ => rfl)), ⟨trivial, trivial, rfl⟩, rfl, rfl⟩ ?_
  refine aw_cov (cov_prune (s1 := ⟨[], [], 0⟩) trivial trivial (Nat.le_refl _)) ?_
  refine aw_region (es := [_, _, _]) ⟨Step.plain rfl (does_buildT 24 #[(0, (.const (.int .u32 2))), (1, (.const (.int .u32 1))), (2, (.const (.int .u32 1)))] [(0, (.const (.int .u32 2))), (1, (.const (.int .u32 1))), (2, (.const (.int .u32 1)))] [(0, (.int .u32 2)), (1, (.int .u32 1)), (2, (.int .u32 1))] (.st [1, 1, 1]) (c_api_Id z_api_Id) (c_api_Id ({ Epoch := 2, Coord := 1, Inc := 1 } : api_Id)) rfl bo24 ⟨⟨rfl, (fun _ => rfl)⟩, ⟨rfl, (fun _ => rfl)⟩, ⟨rfl, (fun _ => rfl)⟩, trivial⟩ ⟨⟨Nat.le_of_ble_eq_true rfl, rfl, rfl⟩, ⟨Nat.le_of_ble_eq_true rfl, rfl, rfl⟩, ⟨Nat.le_of_ble_eq_true rfl, rfl, rfl⟩, trivial⟩ (by funext j; match j with | 0 => rfl | 1 => rfl | 2 => rfl | _ + 3 => rfl)), ⟨trivial, trivial, rfl⟩, rfl,
    Step.plain rfl (does_alloc 24 0 (e_api_Id z_api_Id) zr24), ⟨trivial, trivial, rfl⟩, rfl,
    Step.plain rfl (does_store 24 1 (.tmp 9) 0 0 [] (.var (e_api_Id z_api_Id)) (.var (e_api_Id ({ Epoch := 2, Coord := 1, Inc := 1 } : api_Id))) (e_api_Id ({ Epoch := 2, Coord := 1, Inc := 1 } : api_Id)) true trivial rfl trivial rfl rfl rfl ty24), ⟨⟨rfl, rfl, trivial⟩, ⟨rfl, trivial⟩, rfl⟩, rfl, rfl⟩ ?_
  refine aw_cov (cov_prune (s1 := ⟨[(1, (.ptr 0 0 []))], [(0, some (.var (e_api_Id ({ Epoch := 2, Coord := 1, Inc := 1 } : api_Id))))], 1⟩) ⟨rfl, trivial⟩ ⟨rfl, trivial⟩ (Nat.le_refl _)) ?_
  refine aw_region (es := [_, _, _]) ⟨Step.plain rfl (does_buildT 24 #[(0, (.const (.int .u32 1))), (1, (.const (.int .u32 7))), (2, (.const (.int .u32 9)))] [(0, (.const (.int .u32 1))), (1, (.const (.int .u32 7))), (2, (.const (.int .u32 9)))] [(0, (.int .u32 1)), (1, (.int .u32 7)), (2, (.int .u32 9))] (.st [1, 1, 1]) (c_api_Id z_api_Id) (c_api_Id ({ Epoch := 1, Coord := 7, Inc := 9 } : api_Id)) rfl bo24 ⟨⟨rfl, (fun _ => rfl)⟩, ⟨rfl, (fun _ => rfl)⟩, ⟨rfl, (fun _ => rfl)⟩, trivial⟩ ⟨⟨Nat.le_of_ble_eq_true rfl, rfl, rfl⟩, ⟨Nat.le_of_ble_eq_true rfl, rfl, rfl⟩, ⟨Nat.le_of_ble_eq_true rfl, rfl, rfl⟩, trivial⟩ (by funext j; match j with | 0 => rfl | 1 => rfl | 2 => rfl | _ + 3 => rfl)), ⟨trivial, trivial, rfl⟩, rfl,
    Step.plain rfl (does_alloc 24 1 (e_api_Id z_api_Id) zr24), ⟨trivial, trivial, rfl⟩, rfl,
    Step.plain rfl (does_store 24 2 (.tmp 10) 1 0 [] (.var (e_api_Id z_api_Id)) (.var (e_api_Id ({ Epoch := 1, Coord := 7, Inc := 9 } : api_Id))) (e_api_Id ({ Epoch := 1, Coord := 7, Inc := 9 } : api_Id)) true trivial rfl trivial rfl rfl rfl ty24), ⟨⟨rfl, rfl, trivial⟩, ⟨rfl, trivial⟩, rfl⟩, rfl, rfl⟩ ?_
  refine aw_cov (cov_prune (s1 := ⟨[(1, (.ptr 0 0 [])), (2, (.ptr 1 0 []))], [(0, some (.var (e_api_Id ({ Epoch := 2, Coord := 1, Inc := 1 } : api_Id)))), (1, some (.var (e_api_Id ({ Epoch := 1, Coord := 7, Inc := 9 } : api_Id))))], 2⟩) ⟨rfl, rfl, trivial⟩ ⟨rfl, rfl, trivial⟩ (Nat.le_refl _)) ?_
  refine aw_region (es := [_, _, _]) ⟨Step.plain rfl (does_buildT 24 #[(0, (.const (.int .u32 2))), (1, (.const (.int .u32 1))), (2, (.const (.int .u32 2)))] [(0, (.const (.int .u32 2))), (1, (.const (.int .u32 1))), (2, (.const (.int .u32 2)))] [(0, (.int .u32 2)), (1, (.int .u32 1)), (2, (.int .u32 2))] (.st [1, 1, 1]) (c_api_Id z_api_Id) (c_api_Id ({ Epoch := 2, Coord := 1, Inc := 2 } : api_Id)) rfl bo24 ⟨⟨rfl, (fun _ => rfl)⟩, ⟨rfl, (fun _ => rfl)⟩, ⟨rfl, (fun _ => rfl)⟩, trivial⟩ ⟨⟨Nat.le_of_ble_eq_true rfl, rfl, rfl⟩, ⟨Nat.le_of_ble_eq_true rfl, rfl, rfl⟩, ⟨Nat.le_of_ble_eq_true rfl, rfl, rfl⟩, trivial⟩ (by funext j; match j with | 0 => rfl | 1 => rfl | 2 => rfl | _ + 3 => rfl)), ⟨trivial, trivial, rfl⟩, rfl,
    Step.plain rfl (does_alloc 24 2 (e_api_Id z_api_Id) zr24), ⟨trivial, trivial, rfl⟩, rfl,
    Step.plain rfl (does_store 24 3 (.tmp 11) 2 0 [] (.var (e_api_Id z_api_Id)) (.var (e_api_Id ({ Epoch := 2, Coord := 1, Inc := 2 } : api_Id))) (e_api_Id ({ Epoch := 2, Coord := 1, Inc := 2 } : api_Id)) true trivial rfl trivial rfl rfl rfl ty24), ⟨⟨rfl, rfl, trivial⟩, ⟨rfl, trivial⟩, rfl⟩, rfl, rfl⟩ ?_
  refine aw_cov (cov_prune (s1 := ⟨[(1, (.ptr 0 0 [])), (2, (.ptr 1 0 [])), (3, (.ptr 2 0 []))], [(0, some (.var (e_api_Id ({ Epoch := 2, Coord := 1, Inc := 1 } : api_Id)))), (1, some (.var (e_api_Id ({ Epoch := 1, Coord := 7, Inc := 9 } : api_Id)))), (2, some (.var (e_api_Id ({ Epoch := 2, Coord := 1, Inc := 2 } : api_Id))))], 3⟩) ⟨rfl, rfl, rfl, trivial⟩ ⟨rfl, rfl, rfl, trivial⟩ (Nat.le_refl _)) ?_
  refine aw_region (es := [_, _, _]) ⟨Step.plain rfl (does_buildT 32 #[(0, (.const (.int .u32 0))), (1, (.const (.int .u32 3))), (2, (.const (.int .u32 0))), (3, (.const (.int .u32 4)))] [(0, (.const (.int .u32 0))), (1, (.const (.int .u32 3))), (2, (.const (.int .u32 0))), (3, (.const (.int .u32 4)))] [(0, (.int .u32 0)), (1, (.int .u32 3)), (2, (.int .u32 0)), (3, (.int .u32 4))] (.ar 8 1) (fun j => (.int .u32 ((fun _ => 0) j))) (fun j => (.int .u32 ((aset (fun _ => 0) [(0, 0), (1, 3), (2, 0), (3, 4)]) j))) rfl bo32 ⟨⟨rfl, (fun _ => rfl)⟩, ⟨rfl, (fun _ => rfl)⟩, ⟨rfl, (fun _ => rfl)⟩, ⟨rfl, (fun _ => rfl)⟩, trivial⟩ ⟨⟨Nat.le_of_ble_eq_true rfl, rfl, rfl⟩, ⟨Nat.le_of_ble_eq_true rfl, rfl, rfl⟩, ⟨Nat.le_of_ble_eq_true rfl, rfl, rfl⟩, ⟨Nat.le_of_ble_eq_true rfl, rfl, rfl⟩, trivial⟩ (setAll_map (fun z => V.int .u32 z) [(0, 0), (1, 3), (2, 0), (3, 4)] _)), ⟨trivial, trivial, rfl⟩, rfl,
    Step.plain rfl (does_alloc 32 3 (e_a8_u32 (fun _ => 0)) zr32), ⟨trivial, trivial, rfl⟩, rfl,
    Step.plain rfl (does_store 32 4 (.tmp 12) 3 0 [] (.var (e_a8_u32 (fun _ => 0))) (.var (e_a8_u32 (aset (fun _ => 0) [(0, 0), (1, 3), (2, 0), (3, 4)]))) (e_a8_u32 (aset (fun _ => 0) [(0, 0), (1, 3), (2, 0), (3, 4)])) true trivial rfl trivial rfl rfl rfl ty32), ⟨⟨rfl, rfl, trivial⟩, ⟨rfl, trivial⟩, rfl⟩, rfl, rfl⟩ ?_
  refine aw_cov (cov_prune (s1 := ⟨[(1, (.ptr 0 0 [])), (2, (.ptr 1 0 [])), (3, (.ptr 2 0 [])), (4, (.ptr 3 0 []))], [(0, some (.var (e_api_Id ({ Epoch := 2, Coord := 1, Inc := 1 } : api_Id)))), (1, some (.var (e_api_Id ({ Epoch := 1, Coord := 7, Inc := 9 } : api_Id)))), (2, some (.var (e_api_Id ({ Epoch := 2, Coord := 1, Inc := 2 } : api_Id)))), (3, some (.var (e_a8_u32 (aset (fun _ => 0) [(0, 0), (1, 3), (2, 0), (3, 4)]))))], 4⟩) ⟨rfl, rfl, rfl, rfl, trivial⟩ ⟨rfl, rfl, rfl, rfl, trivial⟩ (Nat.le_refl _)) ?_
  obtain ⟨v1, h2, H⟩ := bnd H
  refine aw_region (es := [_, _, _, _, _, _, _]) ⟨Step.plain rfl (does_load 32 4 3 0 [] (.var (e_a8_u32 (aset (fun _ => 0) [(0, 0), (1, 3), (2, 0), (3, 4)]))) (e_a8_u32 (aset (fun _ => 0) [(0, 0), (1, 3), (2, 0), (3, 4)])) trivial rfl rfl ty32), ⟨⟨rfl, trivial⟩, ⟨rfl, trivial⟩, rfl⟩, rfl,
    Step.plain rfl (does_call 12 0 (fun _ => .any) (.func 12) [(.tmp 14)] [(e_a8_u32 (aset (fun _ => 0) [(0, 0), (1, 3), (2, 0), (3, 4)]))] [] true [(e_a8_u32 (aset (fun _ => 0) [(0, 0), (1, 3), (2, 0), (3, 4)]))] (resV [(.int .i64 v1.1), (.bool v1.2)]) _ _ rfl fo12 rfl ⟨trivial, trivial⟩ ⟨.data _ (d_a8_u32 (aset (fun _ => 0) [(0, 0), (1, 3), (2, 0), (3, 4)])), trivial⟩ (ident_Least_spec (aset (fun _ => 0) [(0, 0), (1, 3), (2, 0), (3, 4)]) _ h2) (res_flat2 trivial trivial)), ⟨⟨rfl, trivial⟩, trivial, rfl⟩, rfl,
    Step.plain rfl (does_move (.tmp 15) (resV [(.int .i64 v1.1), (.bool v1.2)]) trivial), ⟨⟨rfl, trivial⟩, trivial, rfl⟩, rfl,
    Step.plain rfl (does_extract 13 0 2 (fun j => [(.int .i64 v1.1), (.bool v1.2)].getD j (.bool false)) (Nat.le_of_ble_eq_true rfl)), ⟨⟨rfl, trivial⟩, trivial, rfl⟩, rfl,
    Step.plain rfl (does_extract 13 1 2 (fun j => [(.int .i64 v1.1), (.bool v1.2)].getD j (.bool false)) (Nat.le_of_ble_eq_true rfl)), ⟨⟨rfl, trivial⟩, trivial, rfl⟩, rfl,
    Step.plain rfl (does_assign (.tmp 16) (.int .i64 v1.1) trivial), ⟨⟨rfl, trivial⟩, trivial, rfl⟩, rfl,
    Step.plain rfl (does_assign (.tmp 17) (.bool v1.2) trivial), ⟨⟨rfl, trivial⟩, trivial, rfl⟩, rfl, rfl⟩ ?_
  refine aw_cov (cov_prune (s1 := ⟨[(1, (.ptr 0 0 [])), (2, (.ptr 1 0 [])), (3, (.ptr 2 0 [])), (4, (.ptr 3 0 [])), (5, (.int .i64 v1.1)), (6, (.bool v1.2))], [(0, some (.var (e_api_Id ({ Epoch := 2, Coord := 1, Inc := 1 } : api_Id)))), (1, some (.var (e_api_Id ({ Epoch := 1, Coord := 7, Inc := 9 } : api_Id)))), (2, some (.var (e_api_Id ({ Epoch := 2, Coord := 1, Inc := 2 } : api_Id)))), (3, some (.var (e_a8_u32 (aset (fun _ => 0) [(0, 0), (1, 3), (2, 0), (3, 4)]))))], 4⟩) ⟨rfl, rfl, rfl, rfl, rfl, rfl, trivial⟩ ⟨rfl, rfl, rfl, rfl, trivial⟩ (Nat.le_refl _)) ?_
  obtain ⟨v3, h4, H⟩ := bnd H
  refine aw_region (es := [_, _, _, _, _, _, _]) ⟨Step.plain rfl (does_buildT 32 #[] [] [] (.ar 8 1) (fun j => (.int .u32 ((fun _ => 0) j))) (fun j => (.int .u32 ((aset (fun _ => 0) []) j))) rfl bo32 trivial trivial (setAll_map (fun z => V.int .u32 z) [] _)), ⟨trivial, trivial, rfl⟩, rfl,
    Step.plain rfl (does_call 12 0 (fun _ => .any) (.func 12) [(.tmp 19)] [(e_a8_u32 (aset (fun _ => 0) []))] [] true [(e_a8_u32 (aset (fun _ => 0) []))] (resV [(.int .i64 v3.1), (.bool v3.2)]) _ _ rfl fo12 rfl ⟨trivial, trivial⟩ ⟨.data _ (d_a8_u32 (aset (fun _ => 0) [])), trivial⟩ (ident_Least_spec (aset (fun _ => 0) []) _ h4) (res_flat2 trivial trivial)), ⟨⟨rfl, trivial⟩, trivial, rfl⟩, rfl,
    Step.plain rfl (does_move (.tmp 20) (resV [(.int .i64 v3.1), (.bool v3.2)]) trivial), ⟨⟨rfl, trivial⟩, trivial, rfl⟩, rfl,
    Step.plain rfl (does_extract 18 0 2 (fun j => [(.int .i64 v3.1), (.bool v3.2)].getD j (.bool false)) (Nat.le_of_ble_eq_true rfl)), ⟨⟨rfl, trivial⟩, trivial, rfl⟩, rfl,
    Step.plain rfl (does_extract 18 1 2 (fun j => [(.int .i64 v3.1), (.bool v3.2)].getD j (.bool false)) (Nat.le_of_ble_eq_true rfl)), ⟨⟨rfl, trivial⟩, trivial, rfl⟩, rfl,
    Step.plain rfl (does_assign (.tmp 21) (.int .i64 v3.1) trivial), ⟨⟨rfl, trivial⟩, trivial, rfl⟩, rfl,
    Step.plain rfl (does_assign (.tmp 22) (.bool v3.2) trivial), ⟨⟨rfl, trivial⟩, trivial, rfl⟩, rfl, rfl⟩ ?_
  refine aw_cov (cov_prune (s1 := ⟨[(1, (.ptr 0 0 [])), (2, (.ptr 1 0 [])), (3, (.ptr 2 0 [])), (4, (.ptr 3 0 [])), (5, (.int .i64 v1.1)), (6, (.bool v1.2)), (8, (.bool v3.2))], [(0, some (.var (e_api_Id ({ Epoch := 2, Coord := 1, Inc := 1 } : api_Id)))), (1, some (.var (e_api_Id ({ Epoch := 1, Coord := 7, Inc := 9 } : api_Id)))), (2, some (.var (e_api_Id ({ Epoch := 2, Coord := 1, Inc := 2 } : api_Id)))), (3, some (.var (e_a8_u32 (aset (fun _ => 0) [(0, 0), (1, 3), (2, 0), (3, 4)]))))], 4⟩) ⟨rfl, rfl, rfl, rfl, rfl, rfl, rfl, trivial⟩ ⟨rfl, rfl, rfl, rfl, trivial⟩ (Nat.le_refl _)) ?_
  obtain ⟨v5, h6, H⟩ := bnd H
  obtain ⟨v7, h8, H⟩ := whn_of H
  obtain ⟨v9, h10, H⟩ := whn_of H
  obtain ⟨v11, h12, H⟩ := whn_of H
  obtain ⟨v13, h14, H⟩ := whn_of H
  obtain ⟨v15, h16, H⟩ := whn_of H
  refine aw_draw (es := [_, _, _, _, _, _, _, _, _, _, _, _, _, _, _, _, _, _, _, _, _, _, _, _, _, _, _, _, _, _, _, _, _, _, _, _, _, _, _, _, _, _, _, _, _]) (mixed) ⟨Step.plain rfl (does_load 24 1 0 0 [] (.var (e_api_Id ({ Epoch := 2, Coord := 1, Inc := 1 } : api_Id))) (e_api_Id ({ Epoch := 2, Coord := 1, Inc := 1 } : api_Id)) trivial rfl rfl ty24), ⟨⟨rfl, trivial⟩, ⟨rfl, trivial⟩, rfl⟩, rfl,
    Step.plain rfl (does_load 24 2 1 0 [] (.var (e_api_Id ({ Epoch := 1, Coord := 7, Inc := 9 } : api_Id))) (e_api_Id ({ Epoch := 1, Coord := 7, Inc := 9 } : api_Id)) trivial rfl rfl ty24), ⟨⟨rfl, trivial⟩, ⟨rfl, trivial⟩, rfl⟩, rfl,
    Step.plain rfl (does_call 8 0 (fun _ => .any) (.func 8) [(.tmp 23), (.tmp 24)] [(e_api_Id ({ Epoch := 2, Coord := 1, Inc := 1 } : api_Id)), (e_api_Id ({ Epoch := 1, Coord := 7, Inc := 9 } : api_Id))] [] true [(e_api_Id ({ Epoch := 2, Coord := 1, Inc := 1 } : api_Id)), (e_api_Id ({ Epoch := 1, Coord := 7, Inc := 9 } : api_Id))] (.int .i64 v5) _ _ rfl fo8 rfl ⟨trivial, trivial, trivial⟩ ⟨.data _ (d_api_Id ({ Epoch := 2, Coord := 1, Inc := 1 } : api_Id)), .data _ (d_api_Id ({ Epoch := 1, Coord := 7, Inc := 9 } : api_Id)), trivial⟩ (ident_Compare_spec ({ Epoch := 2, Coord := 1, Inc := 1 } : api_Id) ({ Epoch := 1, Coord := 7, Inc := 9 } : api_Id) _ h6) trivial), ⟨⟨rfl, rfl, trivial⟩, trivial, rfl⟩, rfl,
    Step.plain rfl (does_bin .eql 3 3 (.tmp 25) (.const (.int .i64 1)) .i64 v5 1 (.bool (v5 == 1)) trivial (fun _ => rfl) (bin_eql _ _ _ _)), ⟨⟨rfl, trivial⟩, trivial, rfl⟩, rfl,
    Step.plain rfl (does_move (.tmp 26) (.bool (v5 == 1)) trivial), ⟨⟨rfl, trivial⟩, trivial, rfl⟩, rfl,
    Step.guarded rfl rfl rfl rfl (fun hc => does_load 24 1 0 0 [] (.var (e_api_Id ({ Epoch := 2, Coord := 1, Inc := 1 } : api_Id))) (e_api_Id ({ Epoch := 2, Coord := 1, Inc := 1 } : api_Id)) trivial rfl rfl ty24), ⟨⟨rfl, rfl, trivial⟩, ⟨rfl, trivial⟩, rfl⟩, rfl,
    Step.guarded rfl rfl rfl rfl (fun hc => does_load 24 3 2 0 [] (.var (e_api_Id ({ Epoch := 2, Coord := 1, Inc := 2 } : api_Id))) (e_api_Id ({ Epoch := 2, Coord := 1, Inc := 2 } : api_Id)) trivial rfl rfl ty24), ⟨⟨rfl, rfl, trivial⟩, ⟨rfl, trivial⟩, rfl⟩, rfl,
    Step.guarded rfl rfl rfl rfl (fun hc => Does.strip (n' := [(28, (.opt (v5 == 1) (e_api_Id ({ Epoch := 2, Coord := 1, Inc := 1 } : api_Id)))), (29, (.opt (v5 == 1) (e_api_Id ({ Epoch := 2, Coord := 1, Inc := 2 } : api_Id))))]) (n := [(28, (e_api_Id ({ Epoch := 2, Coord := 1, Inc := 1 } : api_Id))), (29, (e_api_Id ({ Epoch := 2, Coord := 1, Inc := 2 } : api_Id)))]) ⟨(.opt _ _ hc), (.opt _ _ hc), trivial⟩ (does_call 8 0 (fun _ => .any) (.func 8) [(.tmp 28), (.tmp 29)] [(e_api_Id ({ Epoch := 2, Coord := 1, Inc := 1 } : api_Id)), (e_api_Id ({ Epoch := 2, Coord := 1, Inc := 2 } : api_Id))] [] true [(e_api_Id ({ Epoch := 2, Coord := 1, Inc := 1 } : api_Id)), (e_api_Id ({ Epoch := 2, Coord := 1, Inc := 2 } : api_Id))] (.int .i64 v7) _ _ rfl fo8 rfl ⟨trivial, trivial, trivial⟩ ⟨.data _ (d_api_Id ({ Epoch := 2, Coord := 1, Inc := 1 } : api_Id)), .data _ (d_api_Id ({ Epoch := 2, Coord := 1, Inc := 2 } : api_Id)), trivial⟩ (ident_Compare_spec ({ Epoch := 2, Coord := 1, Inc := 1 } : api_Id) ({ Epoch := 2, Coord := 1, Inc := 2 } : api_Id) _ (h8 hc)) trivial)), ⟨⟨rfl, rfl, rfl, trivial⟩, trivial, rfl⟩, rfl,
    Step.guarded rfl rfl rfl rfl (fun hc => Does.strip (n' := [(30, (.opt (v5 == 1) (.int .i64 v7)))]) (n := [(30, (.int .i64 v7))]) ⟨(.opt _ _ hc), trivial⟩ (does_bin .eql 3 3 (.tmp 30) (.const (.int .i64 (-1))) .i64 v7 (-1) (.bool (v7 == (-1))) trivial (fun _ => rfl) (bin_eql _ _ _ _))), ⟨⟨rfl, rfl, trivial⟩, trivial, rfl⟩, rfl,
    Step.plain rfl (does_and 27 31 (v5 == 1) (v7 == (-1))), ⟨⟨rfl, rfl, trivial⟩, trivial, rfl⟩, rfl,
    Step.plain rfl (does_move (.tmp 32) (.bool ((v5 == 1) && (v7 == (-1)))) trivial), ⟨⟨rfl, trivial⟩, trivial, rfl⟩, rfl,
    Step.guarded rfl rfl rfl rfl (fun hc => does_load 24 1 0 0 [] (.var (e_api_Id ({ Epoch := 2, Coord := 1, Inc := 1 } : api_Id))) (e_api_Id ({ Epoch := 2, Coord := 1, Inc := 1 } : api_Id)) trivial rfl rfl ty24), ⟨⟨rfl, rfl, trivial⟩, ⟨rfl, trivial⟩, rfl⟩, rfl,
    Step.guarded rfl rfl rfl rfl (fun hc => does_load 24 2 1 0 [] (.var (e_api_Id ({ Epoch := 1, Coord := 7, Inc := 9 } : api_Id))) (e_api_Id ({ Epoch := 1, Coord := 7, Inc := 9 } : api_Id)) trivial rfl rfl ty24), ⟨⟨rfl, rfl, trivial⟩, ⟨rfl, trivial⟩, rfl⟩, rfl,
    Step.guarded rfl rfl rfl rfl (fun hc => does_load 24 3 2 0 [] (.var (e_api_Id ({ Epoch := 2, Coord := 1, Inc := 2 } : api_Id))) (e_api_Id ({ Epoch := 2, Coord := 1, Inc := 2 } : api_Id)) trivial rfl rfl ty24), ⟨⟨rfl, rfl, trivial⟩, ⟨rfl, trivial⟩, rfl⟩, rfl,
    Step.guarded rfl rfl rfl rfl (fun hc => Does.strip (n' := [(34, (.opt ((v5 == 1) && (v7 == (-1))) (e_api_Id ({ Epoch := 2, Coord := 1, Inc := 1 } : api_Id)))), (35, (.opt ((v5 == 1) && (v7 == (-1))) (e_api_Id ({ Epoch := 1, Coord := 7, Inc := 9 } : api_Id)))), (36, (.opt ((v5 == 1) && (v7 == (-1))) (e_api_Id ({ Epoch := 2, Coord := 1, Inc := 2 } : api_Id))))]) (n := [(34, (e_api_Id ({ Epoch := 2, Coord := 1, Inc := 1 } : api_Id))), (35, (e_api_Id ({ Epoch := 1, Coord := 7, Inc := 9 } : api_Id))), (36, (e_api_Id ({ Epoch := 2, Coord := 1, Inc := 2 } : api_Id)))]) ⟨(.opt _ _ hc), (.opt _ _ hc), (.opt _ _ hc), trivial⟩ (does_buildSl 28 3 3 (e_api_Id z_api_Id) (fun j => (e_api_Id (([({ Epoch := 2, Coord := 1, Inc := 1 } : api_Id), ({ Epoch := 1, Coord := 7, Inc := 9 } : api_Id), ({ Epoch := 2, Coord := 1, Inc := 2 } : api_Id)] : _root_.List api_Id).getD j z_api_Id))) #[(0, (.tmp 34)), (1, (.tmp 35)), (2, (.tmp 36))] [(0, (.tmp 34)), (1, (.tmp 35)), (2, (.tmp 36))] [(0, (e_api_Id ({ Epoch := 2, Coord := 1, Inc := 1 } : api_Id))), (1, (e_api_Id ({ Epoch := 1, Coord := 7, Inc := 9 } : api_Id))), (2, (e_api_Id ({ Epoch := 2, Coord := 1, Inc := 2 } : api_Id)))] rfl so28 (by decide) ⟨⟨rfl, trivial⟩, ⟨rfl, trivial⟩, ⟨rfl, trivial⟩, trivial⟩ ⟨⟨Nat.le_of_ble_eq_true rfl, rfl, rfl⟩, ⟨Nat.le_of_ble_eq_true rfl, rfl, rfl⟩, ⟨Nat.le_of_ble_eq_true rfl, rfl, rfl⟩, trivial⟩ (fun j h => match j, h with | 0, _ => rfl | 1, _ => rfl | 2, _ => rfl | k + 3, h => absurd h (by omega)))), ⟨⟨rfl, rfl, rfl, rfl, trivial⟩, trivial, rfl⟩, rfl,
    Step.guarded rfl rfl rfl rfl (fun hc => Does.strip (n' := [(37, (.opt ((v5 == 1) && (v7 == (-1))) (e_s_api_Id ([({ Epoch := 2, Coord := 1, Inc := 1 } : api_Id), ({ Epoch := 1, Coord := 7, Inc := 9 } : api_Id), ({ Epoch := 2, Coord := 1, Inc := 2 } : api_Id)] : _root_.List api_Id))))]) (n := [(37, (e_s_api_Id ([({ Epoch := 2, Coord := 1, Inc := 1 } : api_Id), ({ Epoch := 1, Coord := 7, Inc := 9 } : api_Id), ({ Epoch := 2, Coord := 1, Inc := 2 } : api_Id)] : _root_.List api_Id)))]) ⟨(.opt _ _ hc), trivial⟩ (does_call 10 0 (fun _ => .any) (.func 10) [(.tmp 37)] [(e_s_api_Id ([({ Epoch := 2, Coord := 1, Inc := 1 } : api_Id), ({ Epoch := 1, Coord := 7, Inc := 9 } : api_Id), ({ Epoch := 2, Coord := 1, Inc := 2 } : api_Id)] : _root_.List api_Id))] [] true [(e_s_api_Id ([({ Epoch := 2, Coord := 1, Inc := 1 } : api_Id), ({ Epoch := 1, Coord := 7, Inc := 9 } : api_Id), ({ Epoch := 2, Coord := 1, Inc := 2 } : api_Id)] : _root_.List api_Id))] (e_api_Id v9) _ _ rfl fo10 rfl ⟨trivial, trivial⟩ ⟨.data _ (d_s_api_Id ([({ Epoch := 2, Coord := 1, Inc := 1 } : api_Id), ({ Epoch := 1, Coord := 7, Inc := 9 } : api_Id), ({ Epoch := 2, Coord := 1, Inc := 2 } : api_Id)] : _root_.List api_Id)), trivial⟩ (ident_Highest_spec ([({ Epoch := 2, Coord := 1, Inc := 1 } : api_Id), ({ Epoch := 1, Coord := 7, Inc := 9 } : api_Id), ({ Epoch := 2, Coord := 1, Inc := 2 } : api_Id)] : _root_.List api_Id) _ (h10 hc)) (f_api_Id v9))), ⟨⟨rfl, rfl, trivial⟩, trivial, rfl⟩, rfl,
    Step.guarded rfl rfl rfl rfl (fun hc => does_load 24 3 2 0 [] (.var (e_api_Id ({ Epoch := 2, Coord := 1, Inc := 2 } : api_Id))) (e_api_Id ({ Epoch := 2, Coord := 1, Inc := 2 } : api_Id)) trivial rfl rfl ty24), ⟨⟨rfl, rfl, trivial⟩, ⟨rfl, trivial⟩, rfl⟩, rfl,
    Step.guarded rfl rfl rfl rfl (fun hc => Does.strip (n' := [(38, (.opt ((v5 == 1) && (v7 == (-1))) (e_api_Id v9))), (39, (.opt ((v5 == 1) && (v7 == (-1))) (e_api_Id ({ Epoch := 2, Coord := 1, Inc := 2 } : api_Id))))]) (n := [(38, (e_api_Id v9)), (39, (e_api_Id ({ Epoch := 2, Coord := 1, Inc := 2 } : api_Id)))]) ⟨(.opt _ _ hc), (.opt _ _ hc), trivial⟩ (does_eqT false 24 24 (.tmp 38) (.tmp 39) (e_api_Id v9) (e_api_Id ({ Epoch := 2, Coord := 1, Inc := 2 } : api_Id)) (e_api_Id z_api_Id) (b_api_Id v9 ({ Epoch := 2, Coord := 1, Inc := 2 } : api_Id)) rfl rfl trivial trivial eg24 sh24 (al_api_Id _ _) (al_api_Id _ _) (q_api_Id _ _))), ⟨⟨rfl, rfl, rfl, trivial⟩, trivial, rfl⟩, rfl,
    Step.plain rfl (does_and 33 40 ((v5 == 1) && (v7 == (-1))) (b_api_Id v9 ({ Epoch := 2, Coord := 1, Inc := 2 } : api_Id))), ⟨⟨rfl, rfl, trivial⟩, trivial, rfl⟩, rfl,
    Step.plain rfl (does_move (.tmp 41) (.bool (((v5 == 1) && (v7 == (-1))) && (b_api_Id v9 ({ Epoch := 2, Coord := 1, Inc := 2 } : api_Id)))) trivial), ⟨⟨rfl, trivial⟩, trivial, rfl⟩, rfl,
    Step.guarded rfl rfl rfl rfl (fun hc => does_move (.tmp 5) (.int .i64 v1.1) trivial), ⟨⟨rfl, rfl, trivial⟩, trivial, rfl⟩, rfl,
    Step.guarded rfl rfl rfl rfl (fun hc => Does.strip (n' := [(43, (.opt (((v5 == 1) && (v7 == (-1))) && (b_api_Id v9 ({ Epoch := 2, Coord := 1, Inc := 2 } : api_Id))) (.int .i64 v1.1)))]) (n := [(43, (.int .i64 v1.1))]) ⟨(.opt _ _ hc), trivial⟩ (does_bin .eql 3 3 (.tmp 43) (.const (.int .i64 1)) .i64 v1.1 1 (.bool (v1.1 == 1)) trivial (fun _ => rfl) (bin_eql _ _ _ _))), ⟨⟨rfl, rfl, trivial⟩, trivial, rfl⟩, rfl,
    Step.plain rfl (does_and 42 44 (((v5 == 1) && (v7 == (-1))) && (b_api_Id v9 ({ Epoch := 2, Coord := 1, Inc := 2 } : api_Id))) (v1.1 == 1)), ⟨⟨rfl, rfl, trivial⟩, trivial, rfl⟩, rfl,
    Step.plain rfl (does_move (.tmp 45) (.bool ((((v5 == 1) && (v7 == (-1))) && (b_api_Id v9 ({ Epoch := 2, Coord := 1, Inc := 2 } : api_Id))) && (v1.1 == 1))) trivial), ⟨⟨rfl, trivial⟩, trivial, rfl⟩, rfl,
    Step.guarded rfl rfl rfl rfl (fun hc => does_move (.tmp 6) (.bool v1.2) trivial), ⟨⟨rfl, rfl, trivial⟩, trivial, rfl⟩, rfl,
    Step.plain rfl (does_and 46 47 ((((v5 == 1) && (v7 == (-1))) && (b_api_Id v9 ({ Epoch := 2, Coord := 1, Inc := 2 } : api_Id))) && (v1.1 == 1)) v1.2), ⟨⟨rfl, rfl, trivial⟩, trivial, rfl⟩, rfl,
    Step.plain rfl (does_move (.tmp 48) (.bool (((((v5 == 1) && (v7 == (-1))) && (b_api_Id v9 ({ Epoch := 2, Coord := 1, Inc := 2 } : api_Id))) && (v1.1 == 1)) && v1.2)) trivial), ⟨⟨rfl, trivial⟩, trivial, rfl⟩, rfl,
    Step.guarded rfl rfl rfl rfl (fun hc => does_move (.tmp 8) (.bool v3.2) trivial), ⟨⟨rfl, rfl, trivial⟩, trivial, rfl⟩, rfl,
    Step.guarded rfl rfl rfl rfl (fun hc => Does.strip (n' := [(50, (.opt (((((v5 == 1) && (v7 == (-1))) && (b_api_Id v9 ({ Epoch := 2, Coord := 1, Inc := 2 } : api_Id))) && (v1.1 == 1)) && v1.2) (.bool v3.2)))]) (n := [(50, (.bool v3.2))]) ⟨(.opt _ _ hc), trivial⟩ (does_not 4 (.tmp 50) v3.2 trivial)), ⟨⟨rfl, rfl, trivial⟩, trivial, rfl⟩, rfl,
    Step.plain rfl (does_and 49 51 (((((v5 == 1) && (v7 == (-1))) && (b_api_Id v9 ({ Epoch := 2, Coord := 1, Inc := 2 } : api_Id))) && (v1.1 == 1)) && v1.2) (!v3.2)), ⟨⟨rfl, rfl, trivial⟩, trivial, rfl⟩, rfl,
    Step.plain rfl (does_move (.tmp 52) (.bool ((((((v5 == 1) && (v7 == (-1))) && (b_api_Id v9 ({ Epoch := 2, Coord := 1, Inc := 2 } : api_Id))) && (v1.1 == 1)) && v1.2) && (!v3.2))) trivial), ⟨⟨rfl, trivial⟩, trivial, rfl⟩, rfl,
    Step.guarded rfl rfl rfl rfl (fun hc => does_load 32 4 3 0 [] (.var (e_a8_u32 (aset (fun _ => 0) [(0, 0), (1, 3), (2, 0), (3, 4)]))) (e_a8_u32 (aset (fun _ => 0) [(0, 0), (1, 3), (2, 0), (3, 4)])) trivial rfl rfl ty32), ⟨⟨rfl, rfl, trivial⟩, ⟨rfl, trivial⟩, rfl⟩, rfl,
    Step.guarded rfl rfl rfl rfl (fun hc => Does.strip (n' := [(54, (.opt ((((((v5 == 1) && (v7 == (-1))) && (b_api_Id v9 ({ Epoch := 2, Coord := 1, Inc := 2 } : api_Id))) && (v1.1 == 1)) && v1.2) && (!v3.2)) (e_a8_u32 (aset (fun _ => 0) [(0, 0), (1, 3), (2, 0), (3, 4)]))))]) (n := [(54, (e_a8_u32 (aset (fun _ => 0) [(0, 0), (1, 3), (2, 0), (3, 4)])))]) ⟨(.opt _ _ hc), trivial⟩ (does_call 13 0 (fun _ => .any) (.func 13) [(.tmp 54)] [(e_a8_u32 (aset (fun _ => 0) [(0, 0), (1, 3), (2, 0), (3, 4)]))] [] true [(e_a8_u32 (aset (fun _ => 0) [(0, 0), (1, 3), (2, 0), (3, 4)]))] (.int .i64 v11) _ _ rfl fo13 rfl ⟨trivial, trivial⟩ ⟨.data _ (d_a8_u32 (aset (fun _ => 0) [(0, 0), (1, 3), (2, 0), (3, 4)])), trivial⟩ (ident_Many_spec (aset (fun _ => 0) [(0, 0), (1, 3), (2, 0), (3, 4)]) _ (h12 hc)) trivial)), ⟨⟨rfl, rfl, trivial⟩, trivial, rfl⟩, rfl,
    Step.guarded rfl rfl rfl rfl (fun hc => Does.strip (n' := [(55, (.opt ((((((v5 == 1) && (v7 == (-1))) && (b_api_Id v9 ({ Epoch := 2, Coord := 1, Inc := 2 } : api_Id))) && (v1.1 == 1)) && v1.2) && (!v3.2)) (.int .i64 v11)))]) (n := [(55, (.int .i64 v11))]) ⟨(.opt _ _ hc), trivial⟩ (does_bin .eql 3 3 (.tmp 55) (.const (.int .i64 2)) .i64 v11 2 (.bool (v11 == 2)) trivial (fun _ => rfl) (bin_eql _ _ _ _))), ⟨⟨rfl, rfl, trivial⟩, trivial, rfl⟩, rfl,
    Step.plain rfl (does_and 53 56 ((((((v5 == 1) && (v7 == (-1))) && (b_api_Id v9 ({ Epoch := 2, Coord := 1, Inc := 2 } : api_Id))) && (v1.1 == 1)) && v1.2) && (!v3.2)) (v11 == 2)), ⟨⟨rfl, rfl, trivial⟩, trivial, rfl⟩, rfl,
    Step.plain rfl (does_move (.tmp 57) (.bool (((((((v5 == 1) && (v7 == (-1))) && (b_api_Id v9 ({ Epoch := 2, Coord := 1, Inc := 2 } : api_Id))) && (v1.1 == 1)) && v1.2) && (!v3.2)) && (v11 == 2))) trivial), ⟨⟨rfl, trivial⟩, trivial, rfl⟩, rfl,
    Step.guarded rfl rfl rfl rfl (fun hc => does_load 32 4 3 0 [] (.var (e_a8_u32 (aset (fun _ => 0) [(0, 0), (1, 3), (2, 0), (3, 4)]))) (e_a8_u32 (aset (fun _ => 0) [(0, 0), (1, 3), (2, 0), (3, 4)])) trivial rfl rfl ty32), ⟨⟨rfl, rfl, trivial⟩, ⟨rfl, trivial⟩, rfl⟩, rfl,
    Step.guarded rfl rfl rfl rfl (fun hc => Does.strip (n' := [(59, (.opt (((((((v5 == 1) && (v7 == (-1))) && (b_api_Id v9 ({ Epoch := 2, Coord := 1, Inc := 2 } : api_Id))) && (v1.1 == 1)) && v1.2) && (!v3.2)) && (v11 == 2)) (e_a8_u32 (aset (fun _ => 0) [(0, 0), (1, 3), (2, 0), (3, 4)]))))]) (n := [(59, (e_a8_u32 (aset (fun _ => 0) [(0, 0), (1, 3), (2, 0), (3, 4)])))]) ⟨(.opt _ _ hc), trivial⟩ (does_call 14 0 (fun _ => .any) (.func 14) [(.tmp 59), (.const (.int .i64 3)), (.const (.int .u32 4))] [(e_a8_u32 (aset (fun _ => 0) [(0, 0), (1, 3), (2, 0), (3, 4)])), (.int .i64 3), (.int .u32 4)] [] true [(e_a8_u32 (aset (fun _ => 0) [(0, 0), (1, 3), (2, 0), (3, 4)])), (.int .i64 3), (.int .u32 4)] (.bool v13) _ _ rfl fo14 rfl ⟨trivial, (fun _ => rfl), (fun _ => rfl), trivial⟩ ⟨.data _ (d_a8_u32 (aset (fun _ => 0) [(0, 0), (1, 3), (2, 0), (3, 4)])), .data _ trivial, .data _ trivial, trivial⟩ (ident_Has_spec (aset (fun _ => 0) [(0, 0), (1, 3), (2, 0), (3, 4)]) 3 4 _ (h14 hc)) trivial)), ⟨⟨rfl, rfl, trivial⟩, trivial, rfl⟩, rfl,
    Step.plain rfl (does_and 58 60 (((((((v5 == 1) && (v7 == (-1))) && (b_api_Id v9 ({ Epoch := 2, Coord := 1, Inc := 2 } : api_Id))) && (v1.1 == 1)) && v1.2) && (!v3.2)) && (v11 == 2)) v13), ⟨⟨rfl, rfl, trivial⟩, trivial, rfl⟩, rfl,
    Step.plain rfl (does_move (.tmp 61) (.bool ((((((((v5 == 1) && (v7 == (-1))) && (b_api_Id v9 ({ Epoch := 2, Coord := 1, Inc := 2 } : api_Id))) && (v1.1 == 1)) && v1.2) && (!v3.2)) && (v11 == 2)) && v13)) trivial), ⟨⟨rfl, trivial⟩, trivial, rfl⟩, rfl,
    Step.guarded rfl rfl rfl rfl (fun hc => does_load 32 4 3 0 [] (.var (e_a8_u32 (aset (fun _ => 0) [(0, 0), (1, 3), (2, 0), (3, 4)]))) (e_a8_u32 (aset (fun _ => 0) [(0, 0), (1, 3), (2, 0), (3, 4)])) trivial rfl rfl ty32), ⟨⟨rfl, rfl, trivial⟩, ⟨rfl, trivial⟩, rfl⟩, rfl,
    Step.guarded rfl rfl rfl rfl (fun hc => Does.strip (n' := [(63, (.opt ((((((((v5 == 1) && (v7 == (-1))) && (b_api_Id v9 ({ Epoch := 2, Coord := 1, Inc := 2 } : api_Id))) && (v1.1 == 1)) && v1.2) && (!v3.2)) && (v11 == 2)) && v13) (e_a8_u32 (aset (fun _ => 0) [(0, 0), (1, 3), (2, 0), (3, 4)]))))]) (n := [(63, (e_a8_u32 (aset (fun _ => 0) [(0, 0), (1, 3), (2, 0), (3, 4)])))]) ⟨(.opt _ _ hc), trivial⟩ (does_call 14 0 (fun _ => .any) (.func 14) [(.tmp 63), (.const (.int .i64 0)), (.const (.int .u32 0))] [(e_a8_u32 (aset (fun _ => 0) [(0, 0), (1, 3), (2, 0), (3, 4)])), (.int .i64 0), (.int .u32 0)] [] true [(e_a8_u32 (aset (fun _ => 0) [(0, 0), (1, 3), (2, 0), (3, 4)])), (.int .i64 0), (.int .u32 0)] (.bool v15) _ _ rfl fo14 rfl ⟨trivial, (fun _ => rfl), (fun _ => rfl), trivial⟩ ⟨.data _ (d_a8_u32 (aset (fun _ => 0) [(0, 0), (1, 3), (2, 0), (3, 4)])), .data _ trivial, .data _ trivial, trivial⟩ (ident_Has_spec (aset (fun _ => 0) [(0, 0), (1, 3), (2, 0), (3, 4)]) 0 0 _ (h16 hc)) trivial)), ⟨⟨rfl, rfl, trivial⟩, trivial, rfl⟩, rfl,
    Step.guarded rfl rfl rfl rfl (fun hc => Does.strip (n' := [(64, (.opt ((((((((v5 == 1) && (v7 == (-1))) && (b_api_Id v9 ({ Epoch := 2, Coord := 1, Inc := 2 } : api_Id))) && (v1.1 == 1)) && v1.2) && (!v3.2)) && (v11 == 2)) && v13) (.bool v15)))]) (n := [(64, (.bool v15))]) ⟨(.opt _ _ hc), trivial⟩ (does_not 4 (.tmp 64) v15 trivial)), ⟨⟨rfl, rfl, trivial⟩, trivial, rfl⟩, rfl,
    Step.plain rfl (does_and 62 65 ((((((((v5 == 1) && (v7 == (-1))) && (b_api_Id v9 ({ Epoch := 2, Coord := 1, Inc := 2 } : api_Id))) && (v1.1 == 1)) && v1.2) && (!v3.2)) && (v11 == 2)) && v13) (!v15)), ⟨⟨rfl, rfl, trivial⟩, trivial, rfl⟩, rfl,
    Step.plain rfl (does_assign (.tmp 66) (.bool (((((((((v5 == 1) && (v7 == (-1))) && (b_api_Id v9 ({ Epoch := 2, Coord := 1, Inc := 2 } : api_Id))) && (v1.1 == 1)) && v1.2) && (!v3.2)) && (v11 == 2)) && v13) && (!v15))) trivial), ⟨⟨rfl, trivial⟩, trivial, rfl⟩, rfl, rfl⟩ rfl ?_
  obtain ⟨v17, hv17, H⟩ := lt_of H
  refine aw_cov (cov_prune (s1 := ⟨[(0, (.bool v17))], [], 4⟩) ⟨(by subst hv17; rfl), trivial⟩ trivial (Nat.le_refl _)) ?_
  refine aw_ret ?_
  exact fun a w hr => ⟨_, [(.bool v17)], hr, ⟨⟨_, rfl, .data _ trivial⟩, trivial⟩, by decide, by cases H; rfl⟩

theorem congresslaw07_IdentOrder_spec (p0 : api_Id) (p1 : api_Id) (p2 : api_Id) (r : Bool) (H : congresslaw07_IdentOrder p0 p1 p2 = some r) : FSpec Try.prog 3 [(e_api_Id p0), (e_api_Id p1), (e_api_Id p2)] (.bool r) := by
  refine spec_of (fn := Try.f3) (args := [(e_api_Id p0), (e_api_Id p1), (e_api_Id p2)]) Try.func3 rfl (Nat.le_of_ble_eq_true rfl) ?_
  rintro ⟨G, w0, W, S, Sp⟩ hG
  cases hG
  unfold congresslaw07_IdentOrder at H
  refine aw_region (es := [_, _, _, _]) ⟨Step.plain rfl (does_box 24 (.tmp 0) 0 (e_api_Id p0) trivial rfl), ⟨⟨rfl, trivial⟩, trivial, rfl⟩, rfl,
    Step.plain rfl (does_box 24 (.tmp 1) 1 (e_api_Id p1) trivial rfl), ⟨⟨rfl, trivial⟩, trivial, rfl⟩, rfl,
    Step.plain rfl (does_box 24 (.tmp 2) 2 (e_api_Id p2) trivial rfl), ⟨⟨rfl, trivial⟩, trivial, rfl⟩, rfl,
    Step.plain rfl (does_assign (.const (.bool false)) (.bool false) (fun _ => rfl)), ⟨trivial, trivial, rfl⟩, rfl, rfl⟩ ?_
  refine aw_cov (cov_prune (s1 := ⟨[(3, (.ptr 0 0 [])), (4, (.ptr 1 0 [])), (5, (.ptr 2 0 []))], [(0, some (.var (e_api_Id p0))), (1, some (.var (e_api_Id p1))), (2, some (.var (e_api_Id p2)))], 3⟩) ⟨rfl, rfl, rfl, trivial⟩ ⟨rfl, rfl, rfl, trivial⟩ (Nat.le_refl _)) ?_
  obtain ⟨v1, h2, H⟩ := bnd H
  obtain ⟨v3, h4, H⟩ := bnd H
  obtain ⟨v5, h6, H⟩ := bnd H
  refine aw_draw (es := [_, _, _, _, _, _, _, _, _, _, _, _]) (mixed) ⟨Step.plain rfl (does_load 24 3 0 0 [] (.var (e_api_Id p0)) (e_api_Id p0) trivial rfl rfl ty24), ⟨⟨rfl, trivial⟩, ⟨rfl, trivial⟩, rfl⟩, rfl,
    Step.plain rfl (does_load 24 4 1 0 [] (.var (e_api_Id p1)) (e_api_Id p1) trivial rfl rfl ty24), ⟨⟨rfl, trivial⟩, ⟨rfl, trivial⟩, rfl⟩, rfl,
    Step.plain rfl (does_call 8 0 (fun _ => .any) (.func 8) [(.tmp 10), (.tmp 11)] [(e_api_Id p0), (e_api_Id p1)] [] true [(e_api_Id p0), (e_api_Id p1)] (.int .i64 v1) _ _ rfl fo8 rfl ⟨trivial, trivial, trivial⟩ ⟨.data _ (d_api_Id p0), .data _ (d_api_Id p1), trivial⟩ (ident_Compare_spec p0 p1 _ h2) trivial), ⟨⟨rfl, rfl, trivial⟩, trivial, rfl⟩, rfl,
    Step.plain rfl (does_load 24 4 1 0 [] (.var (e_api_Id p1)) (e_api_Id p1) trivial rfl rfl ty24), ⟨⟨rfl, trivial⟩, ⟨rfl, trivial⟩, rfl⟩, rfl,
    Step.plain rfl (does_load 24 5 2 0 [] (.var (e_api_Id p2)) (e_api_Id p2) trivial rfl rfl ty24), ⟨⟨rfl, trivial⟩, ⟨rfl, trivial⟩, rfl⟩, rfl,
    Step.plain rfl (does_call 8 0 (fun _ => .any) (.func 8) [(.tmp 13), (.tmp 14)] [(e_api_Id p1), (e_api_Id p2)] [] true [(e_api_Id p1), (e_api_Id p2)] (.int .i64 v3) _ _ rfl fo8 rfl ⟨trivial, trivial, trivial⟩ ⟨.data _ (d_api_Id p1), .data _ (d_api_Id p2), trivial⟩ (ident_Compare_spec p1 p2 _ h4) trivial), ⟨⟨rfl, rfl, trivial⟩, trivial, rfl⟩, rfl,
    Step.plain rfl (does_load 24 3 0 0 [] (.var (e_api_Id p0)) (e_api_Id p0) trivial rfl rfl ty24), ⟨⟨rfl, trivial⟩, ⟨rfl, trivial⟩, rfl⟩, rfl,
    Step.plain rfl (does_load 24 5 2 0 [] (.var (e_api_Id p2)) (e_api_Id p2) trivial rfl rfl ty24), ⟨⟨rfl, trivial⟩, ⟨rfl, trivial⟩, rfl⟩, rfl,
    Step.plain rfl (does_call 8 0 (fun _ => .any) (.func 8) [(.tmp 16), (.tmp 17)] [(e_api_Id p0), (e_api_Id p2)] [] true [(e_api_Id p0), (e_api_Id p2)] (.int .i64 v5) _ _ rfl fo8 rfl ⟨trivial, trivial, trivial⟩ ⟨.data _ (d_api_Id p0), .data _ (d_api_Id p2), trivial⟩ (ident_Compare_spec p0 p2 _ h6) trivial), ⟨⟨rfl, rfl, trivial⟩, trivial, rfl⟩, rfl,
    Step.plain rfl (does_assign (.tmp 12) (.int .i64 v1) trivial), ⟨⟨rfl, trivial⟩, trivial, rfl⟩, rfl,
    Step.plain rfl (does_assign (.tmp 15) (.int .i64 v3) trivial), ⟨⟨rfl, trivial⟩, trivial, rfl⟩, rfl,
    Step.plain rfl (does_assign (.tmp 18) (.int .i64 v5) trivial), ⟨⟨rfl, trivial⟩, trivial, rfl⟩, rfl, rfl⟩ rfl ?_
  refine aw_cov (cov_prune (s1 := ⟨[(3, (.ptr 0 0 [])), (4, (.ptr 1 0 [])), (7, (.int .i64 v1)), (8, (.int .i64 v3)), (9, (.int .i64 v5))], [(0, some (.var (e_api_Id p0))), (1, some (.var (e_api_Id p1)))], 3⟩) ⟨rfl, rfl, rfl, rfl, rfl, trivial⟩ ⟨rfl, rfl, trivial⟩ (Nat.le_refl _)) ?_
  refine aw_seq ?_
  obtain ⟨v7, h8, H⟩ := bnd H
  obtain ⟨v9, h10, H⟩ := whn_of H
  obtain ⟨v11, h12, H⟩ := whn_of H
  refine aw_region (es := [_, _, _, _, _, _, _, _, _, _, _, _, _, _, _, _, _, _, _, _, _, _, _, _, _, _, _, _, _, _, _, _]) ⟨Step.plain rfl (does_call 9 0 (fun _ => .any) (.func 9) [] [] [] true [] (.bool v7) _ _ rfl fo9 rfl trivial trivial (congresslaw07_fixed_spec _ h8) trivial), ⟨trivial, trivial, rfl⟩, rfl,
    Step.plain rfl (does_not 4 (.tmp 19) v7 trivial), ⟨⟨rfl, trivial⟩, trivial, rfl⟩, rfl,
    Step.plain rfl (does_move (.tmp 20) (.bool (!v7)) trivial), ⟨⟨rfl, trivial⟩, trivial, rfl⟩, rfl,
    Step.guarded rfl rfl rfl rfl (fun hc => does_move (.tmp 7) (.int .i64 v1) trivial), ⟨⟨rfl, rfl, trivial⟩, trivial, rfl⟩, rfl,
    Step.guarded rfl rfl rfl rfl (fun hc => does_load 24 4 1 0 [] (.var (e_api_Id p1)) (e_api_Id p1) trivial rfl rfl ty24), ⟨⟨rfl, rfl, trivial⟩, ⟨rfl, trivial⟩, rfl⟩, rfl,
    Step.guarded rfl rfl rfl rfl (fun hc => does_load 24 3 0 0 [] (.var (e_api_Id p0)) (e_api_Id p0) trivial rfl rfl ty24), ⟨⟨rfl, rfl, trivial⟩, ⟨rfl, trivial⟩, rfl⟩, rfl,
    Step.guarded rfl rfl rfl rfl (fun hc => Does.strip (n' := [(23, (.opt (!(!v7)) (e_api_Id p1))), (24, (.opt (!(!v7)) (e_api_Id p0)))]) (n := [(23, (e_api_Id p1)), (24, (e_api_Id p0))]) ⟨(.opt _ _ hc), (.opt _ _ hc), trivial⟩ (does_call 8 0 (fun _ => .any) (.func 8) [(.tmp 23), (.tmp 24)] [(e_api_Id p1), (e_api_Id p0)] [] true [(e_api_Id p1), (e_api_Id p0)] (.int .i64 v9) _ _ rfl fo8 rfl ⟨trivial, trivial, trivial⟩ ⟨.data _ (d_api_Id p1), .data _ (d_api_Id p0), trivial⟩ (ident_Compare_spec p1 p0 _ (h10 hc)) trivial)), ⟨⟨rfl, rfl, rfl, trivial⟩, trivial, rfl⟩, rfl,
    Step.guarded rfl rfl rfl rfl (fun hc => Does.strip (n' := [(25, (.opt (!(!v7)) (.int .i64 v9)))]) (n := [(25, (.int .i64 v9))]) ⟨(.opt _ _ hc), trivial⟩ (does_neg 3 (.tmp 25) .i64 v9 trivial)), ⟨⟨rfl, rfl, trivial⟩, trivial, rfl⟩, rfl,
    Step.guarded rfl rfl rfl rfl (fun hc => Does.strip (n' := [(22, (.opt (!(!v7)) (.int .i64 v1))), (26, (.opt (!(!v7)) (.int .i64 (IntKind.i64.wrap (0 - v9)))))]) (n := [(22, (.int .i64 v1)), (26, (.int .i64 (IntKind.i64.wrap (0 - v9))))]) ⟨(.opt _ _ hc), (.opt _ _ hc), trivial⟩ (does_bin .neq 3 3 (.tmp 22) (.tmp 26) .i64 v1 (IntKind.i64.wrap (0 - v9)) (.bool (v1 != (IntKind.i64.wrap (0 - v9)))) trivial trivial (bin_neq _ _ _ _))), ⟨⟨rfl, rfl, rfl, trivial⟩, trivial, rfl⟩, rfl,
    Step.plain rfl (does_or 21 27 (!v7) (v1 != (IntKind.i64.wrap (0 - v9)))), ⟨⟨rfl, rfl, trivial⟩, trivial, rfl⟩, rfl,
    Step.plain rfl (does_move (.tmp 28) (.bool ((!v7) || (v1 != (IntKind.i64.wrap (0 - v9))))) trivial), ⟨⟨rfl, trivial⟩, trivial, rfl⟩, rfl,
    Step.guarded rfl rfl rfl rfl (fun hc => does_move (.tmp 7) (.int .i64 v1) trivial), ⟨⟨rfl, rfl, trivial⟩, trivial, rfl⟩, rfl,
    Step.guarded rfl rfl rfl rfl (fun hc => Does.strip (n' := [(30, (.opt (!((!v7) || (v1 != (IntKind.i64.wrap (0 - v9))))) (.int .i64 v1)))]) (n := [(30, (.int .i64 v1))]) ⟨(.opt _ _ hc), trivial⟩ (does_bin .eql 3 3 (.tmp 30) (.const (.int .i64 0)) .i64 v1 0 (.bool (v1 == 0)) trivial (fun _ => rfl) (bin_eql _ _ _ _))), ⟨⟨rfl, rfl, trivial⟩, trivial, rfl⟩, rfl,
    Step.guarded rfl rfl rfl rfl (fun hc => does_load 24 3 0 0 [] (.var (e_api_Id p0)) (e_api_Id p0) trivial rfl rfl ty24), ⟨⟨rfl, rfl, trivial⟩, ⟨rfl, trivial⟩, rfl⟩, rfl,
    Step.guarded rfl rfl rfl rfl (fun hc => does_load 24 4 1 0 [] (.var (e_api_Id p1)) (e_api_Id p1) trivial rfl rfl ty24), ⟨⟨rfl, rfl, trivial⟩, ⟨rfl, trivial⟩, rfl⟩, rfl,
    Step.guarded rfl rfl rfl rfl (fun hc => Does.strip (n' := [(32, (.opt (!((!v7) || (v1 != (IntKind.i64.wrap (0 - v9))))) (e_api_Id p0))), (33, (.opt (!((!v7) || (v1 != (IntKind.i64.wrap (0 - v9))))) (e_api_Id p1)))]) (n := [(32, (e_api_Id p0)), (33, (e_api_Id p1))]) ⟨(.opt _ _ hc), (.opt _ _ hc), trivial⟩ (does_eqT false 24 24 (.tmp 32) (.tmp 33) (e_api_Id p0) (e_api_Id p1) (e_api_Id z_api_Id) (b_api_Id p0 p1) rfl rfl trivial trivial eg24 sh24 (al_api_Id _ _) (al_api_Id _ _) (q_api_Id _ _))), ⟨⟨rfl, rfl, rfl, trivial⟩, trivial, rfl⟩, rfl,
    Step.guarded rfl rfl rfl rfl (fun hc => Does.strip (n' := [(31, (.opt (!((!v7) || (v1 != (IntKind.i64.wrap (0 - v9))))) (.bool (v1 == 0)))), (34, (.opt (!((!v7) || (v1 != (IntKind.i64.wrap (0 - v9))))) (.bool (b_api_Id p0 p1))))]) (n := [(31, (.bool (v1 == 0))), (34, (.bool (b_api_Id p0 p1)))]) ⟨(.opt _ _ hc), (.opt _ _ hc), trivial⟩ (does_eqBool true 4 4 (.tmp 31) (.tmp 34) (v1 == 0) (b_api_Id p0 p1) trivial trivial rfl)), ⟨⟨rfl, rfl, rfl, trivial⟩, trivial, rfl⟩, rfl,
    Step.plain rfl (does_or 29 35 ((!v7) || (v1 != (IntKind.i64.wrap (0 - v9)))) ((v1 == 0) != (b_api_Id p0 p1))), ⟨⟨rfl, rfl, trivial⟩, trivial, rfl⟩, rfl,
    Step.plain rfl (does_move (.tmp 36) (.bool (((!v7) || (v1 != (IntKind.i64.wrap (0 - v9)))) || ((v1 == 0) != (b_api_Id p0 p1)))) trivial), ⟨⟨rfl, trivial⟩, trivial, rfl⟩, rfl,
    Step.guarded rfl rfl rfl rfl (fun hc => does_load 24 3 0 0 [] (.var (e_api_Id p0)) (e_api_Id p0) trivial rfl rfl ty24), ⟨⟨rfl, rfl, trivial⟩, ⟨rfl, trivial⟩, rfl⟩, rfl,
    Step.guarded rfl rfl rfl rfl (fun hc => does_load 24 3 0 0 [] (.var (e_api_Id p0)) (e_api_Id p0) trivial rfl rfl ty24), ⟨⟨rfl, rfl, trivial⟩, ⟨rfl, trivial⟩, rfl⟩, rfl,
    Step.guarded rfl rfl rfl rfl (fun hc => Does.strip (n' := [(38, (.opt (!(((!v7) || (v1 != (IntKind.i64.wrap (0 - v9)))) || ((v1 == 0) != (b_api_Id p0 p1)))) (e_api_Id p0))), (39, (.opt (!(((!v7) || (v1 != (IntKind.i64.wrap (0 - v9)))) || ((v1 == 0) != (b_api_Id p0 p1)))) (e_api_Id p0)))]) (n := [(38, (e_api_Id p0)), (39, (e_api_Id p0))]) ⟨(.opt _ _ hc), (.opt _ _ hc), trivial⟩ (does_call 8 0 (fun _ => .any) (.func 8) [(.tmp 38), (.tmp 39)] [(e_api_Id p0), (e_api_Id p0)] [] true [(e_api_Id p0), (e_api_Id p0)] (.int .i64 v11) _ _ rfl fo8 rfl ⟨trivial, trivial, trivial⟩ ⟨.data _ (d_api_Id p0), .data _ (d_api_Id p0), trivial⟩ (ident_Compare_spec p0 p0 _ (h12 hc)) trivial)), ⟨⟨rfl, rfl, rfl, trivial⟩, trivial, rfl⟩, rfl,
    Step.guarded rfl rfl rfl rfl (fun hc => Does.strip (n' := [(40, (.opt (!(((!v7) || (v1 != (IntKind.i64.wrap (0 - v9)))) || ((v1 == 0) != (b_api_Id p0 p1)))) (.int .i64 v11)))]) (n := [(40, (.int .i64 v11))]) ⟨(.opt _ _ hc), trivial⟩ (does_bin .neq 3 3 (.tmp 40) (.const (.int .i64 0)) .i64 v11 0 (.bool (v11 != 0)) trivial (fun _ => rfl) (bin_neq _ _ _ _))), ⟨⟨rfl, rfl, trivial⟩, trivial, rfl⟩, rfl,
    Step.plain rfl (does_or 37 41 (((!v7) || (v1 != (IntKind.i64.wrap (0 - v9)))) || ((v1 == 0) != (b_api_Id p0 p1))) (v11 != 0)), ⟨⟨rfl, rfl, trivial⟩, trivial, rfl⟩, rfl,
    Step.plain rfl (does_move (.tmp 42) (.bool ((((!v7) || (v1 != (IntKind.i64.wrap (0 - v9)))) || ((v1 == 0) != (b_api_Id p0 p1))) || (v11 != 0))) trivial), ⟨⟨rfl, trivial⟩, trivial, rfl⟩, rfl,
    Step.guarded rfl rfl rfl rfl (fun hc => does_move (.tmp 7) (.int .i64 v1) trivial), ⟨⟨rfl, rfl, trivial⟩, trivial, rfl⟩, rfl,
    Step.guarded rfl rfl rfl rfl (fun hc => Does.strip (n' := [(44, (.opt (!((((!v7) || (v1 != (IntKind.i64.wrap (0 - v9)))) || ((v1 == 0) != (b_api_Id p0 p1))) || (v11 != 0))) (.int .i64 v1)))]) (n := [(44, (.int .i64 v1))]) ⟨(.opt _ _ hc), trivial⟩ (does_bin .lss 3 3 (.tmp 44) (.const (.int .i64 (-1))) .i64 v1 (-1) (.bool (decide (v1 < (-1)))) trivial (fun _ => rfl) (bin_lss _ _ _ _))), ⟨⟨rfl, rfl, trivial⟩, trivial, rfl⟩, rfl,
    Step.plain rfl (does_or 43 45 ((((!v7) || (v1 != (IntKind.i64.wrap (0 - v9)))) || ((v1 == 0) != (b_api_Id p0 p1))) || (v11 != 0)) (decide (v1 < (-1)))), ⟨⟨rfl, rfl, trivial⟩, trivial, rfl⟩, rfl,
    Step.plain rfl (does_move (.tmp 46) (.bool (((((!v7) || (v1 != (IntKind.i64.wrap (0 - v9)))) || ((v1 == 0) != (b_api_Id p0 p1))) || (v11 != 0)) || (decide (v1 < (-1))))) trivial), ⟨⟨rfl, trivial⟩, trivial, rfl⟩, rfl,
    Step.guarded rfl rfl rfl rfl (fun hc => does_move (.tmp 7) (.int .i64 v1) trivial), ⟨⟨rfl, rfl, trivial⟩, trivial, rfl⟩, rfl,
    Step.guarded rfl rfl rfl rfl (fun hc => Does.strip (n' := [(48, (.opt (!(((((!v7) || (v1 != (IntKind.i64.wrap (0 - v9)))) || ((v1 == 0) != (b_api_Id p0 p1))) || (v11 != 0)) || (decide (v1 < (-1))))) (.int .i64 v1)))]) (n := [(48, (.int .i64 v1))]) ⟨(.opt _ _ hc), trivial⟩ (does_bin .gtr 3 3 (.tmp 48) (.const (.int .i64 1)) .i64 v1 1 (.bool (decide (v1 > 1))) trivial (fun _ => rfl) (bin_gtr _ _ _ _))), ⟨⟨rfl, rfl, trivial⟩, trivial, rfl⟩, rfl,
    Step.plain rfl (does_or 47 49 (((((!v7) || (v1 != (IntKind.i64.wrap (0 - v9)))) || ((v1 == 0) != (b_api_Id p0 p1))) || (v11 != 0)) || (decide (v1 < (-1)))) (decide (v1 > 1))), ⟨⟨rfl, rfl, trivial⟩, trivial, rfl⟩, rfl, rfl⟩ ?_
  obtain ⟨v13, hv13, H⟩ := lt_of H
  refine aw_cov (cov_prune (s1 := ⟨[(7, (.int .i64 v1)), (8, (.int .i64 v3)), (9, (.int .i64 v5)), (50, (.bool v13))], [], 3⟩) ⟨rfl, rfl, rfl, (by subst hv13; rfl), trivial⟩ trivial (Nat.le_refl _)) ?_
  refine aw_cond rfl (fun hc => ?_) (fun hc => ?_)
  · replace H := ite_t hc H
    refine aw_region (es := [_]) ⟨Step.plain rfl (does_assign (.const (.bool false)) (.bool false) (fun _ => rfl)), ⟨trivial, trivial, rfl⟩, rfl, rfl⟩ ?_
    refine aw_cov (cov_prune (s1 := ⟨[(6, (.bool false))], [], 3⟩) ⟨rfl, trivial⟩ trivial (Nat.le_refl _)) ?_
    refine aw_ret ?_
    refine rt_then ?_
    exact fun a w hr => ⟨_, [(.bool false)], hr, ⟨⟨_, rfl, .data _ trivial⟩, trivial⟩, by decide, by cases H; rfl⟩
  · replace H := ite_f hc H
    refine aw_skip ?_
    refine nx_seq ?_
    refine aw_region (es := [_, _, _, _, _, _, _, _, _, _, _, _, _, _, _, _, _, _, _, _, _, _, _, _, _, _, _, _, _, _, _, _, _, _, _]) ⟨Step.plain rfl (does_move (.tmp 7) (.int .i64 v1) trivial), ⟨⟨rfl, trivial⟩, trivial, rfl⟩, rfl,
      Step.plain rfl (does_bin .gtr 3 3 (.tmp 51) (.const (.int .i64 0)) .i64 v1 0 (.bool (decide (v1 > 0))) trivial (fun _ => rfl) (bin_gtr _ _ _ _)), ⟨⟨rfl, trivial⟩, trivial, rfl⟩, rfl,
      Step.plain rfl (does_move (.tmp 52) (.bool (decide (v1 > 0))) trivial), ⟨⟨rfl, trivial⟩, trivial, rfl⟩, rfl,
      Step.guarded rfl rfl rfl rfl (fun hc => does_move (.tmp 8) (.int .i64 v3) trivial), ⟨⟨rfl, rfl, trivial⟩, trivial, rfl⟩, rfl,
      Step.guarded rfl rfl rfl rfl (fun hc => Does.strip (n' := [(54, (.opt (!(decide (v1 > 0))) (.int .i64 v3)))]) (n := [(54, (.int .i64 v3))]) ⟨(.opt _ _ hc), trivial⟩ (does_bin .gtr 3 3 (.tmp 54) (.const (.int .i64 0)) .i64 v3 0 (.bool (decide (v3 > 0))) trivial (fun _ => rfl) (bin_gtr _ _ _ _))), ⟨⟨rfl, rfl, trivial⟩, trivial, rfl⟩, rfl,
      Step.plain rfl (does_or 53 55 (decide (v1 > 0)) (decide (v3 > 0))), ⟨⟨rfl, rfl, trivial⟩, trivial, rfl⟩, rfl,
      Step.plain rfl (does_move (.tmp 56) (.bool ((decide (v1 > 0)) || (decide (v3 > 0)))) trivial), ⟨⟨rfl, trivial⟩, trivial, rfl⟩, rfl,
      Step.guarded rfl rfl rfl rfl (fun hc => does_move (.tmp 9) (.int .i64 v5) trivial), ⟨⟨rfl, rfl, trivial⟩, trivial, rfl⟩, rfl,
      Step.guarded rfl rfl rfl rfl (fun hc => Does.strip (n' := [(58, (.opt (!((decide (v1 > 0)) || (decide (v3 > 0)))) (.int .i64 v5)))]) (n := [(58, (.int .i64 v5))]) ⟨(.opt _ _ hc), trivial⟩ (does_bin .leq 3 3 (.tmp 58) (.const (.int .i64 0)) .i64 v5 0 (.bool (decide (v5 ≤ 0))) trivial (fun _ => rfl) (bin_leq _ _ _ _))), ⟨⟨rfl, rfl, trivial⟩, trivial, rfl⟩, rfl,
      Step.guarded rfl rfl rfl rfl (fun hc => Does.strip (n' := [(59, (.opt (!((decide (v1 > 0)) || (decide (v3 > 0)))) (.bool (decide (v5 ≤ 0)))))]) (n := [(59, (.bool (decide (v5 ≤ 0))))]) ⟨(.opt _ _ hc), trivial⟩ (does_move (.tmp 59) (.bool (decide (v5 ≤ 0))) trivial)), ⟨⟨rfl, rfl, trivial⟩, trivial, rfl⟩, rfl,
      Step.guarded rfl rfl rfl rfl (fun hc => does_move (.tmp 9) (.int .i64 v5) trivial), ⟨⟨rfl, rfl, trivial⟩, trivial, rfl⟩, rfl,
      Step.guarded rfl rfl rfl rfl (fun hc => Does.strip (n' := [(61, (.opt ((!((decide (v1 > 0)) || (decide (v3 > 0)))) && (decide (v5 ≤ 0))) (.int .i64 v5)))]) (n := [(61, (.int .i64 v5))]) ⟨(.opt _ _ hc), trivial⟩ (does_bin .lss 3 3 (.tmp 61) (.const (.int .i64 0)) .i64 v5 0 (.bool (decide (v5 < 0))) trivial (fun _ => rfl) (bin_lss _ _ _ _))), ⟨⟨rfl, rfl, trivial⟩, trivial, rfl⟩, rfl,
      Step.guarded rfl rfl rfl rfl (fun hc => Does.strip (n' := [(62, (.opt ((!((decide (v1 > 0)) || (decide (v3 > 0)))) && (decide (v5 ≤ 0))) (.bool (decide (v5 < 0)))))]) (n := [(62, (.bool (decide (v5 < 0))))]) ⟨(.opt _ _ hc), trivial⟩ (does_move (.tmp 62) (.bool (decide (v5 < 0))) trivial)), ⟨⟨rfl, rfl, trivial⟩, trivial, rfl⟩, rfl,
      Step.guarded rfl rfl rfl rfl (fun hc => does_move (.tmp 7) (.int .i64 v1) trivial), ⟨⟨rfl, rfl, trivial⟩, trivial, rfl⟩, rfl,
      Step.guarded rfl rfl rfl rfl (fun hc => Does.strip (n' := [(64, (.opt (((!((decide (v1 > 0)) || (decide (v3 > 0)))) && (decide (v5 ≤ 0))) && (!(decide (v5 < 0)))) (.int .i64 v1)))]) (n := [(64, (.int .i64 v1))]) ⟨(.opt _ _ hc), trivial⟩ (does_bin .eql 3 3 (.tmp 64) (.const (.int .i64 0)) .i64 v1 0 (.bool (v1 == 0)) trivial (fun _ => rfl) (bin_eql _ _ _ _))), ⟨⟨rfl, rfl, trivial⟩, trivial, rfl⟩, rfl,
      Step.guarded rfl rfl rfl rfl (fun hc => Does.strip (n' := [(65, (.opt (((!((decide (v1 > 0)) || (decide (v3 > 0)))) && (decide (v5 ≤ 0))) && (!(decide (v5 < 0)))) (.bool (v1 == 0))))]) (n := [(65, (.bool (v1 == 0)))]) ⟨(.opt _ _ hc), trivial⟩ (does_move (.tmp 65) (.bool (v1 == 0)) trivial)), ⟨⟨rfl, rfl, trivial⟩, trivial, rfl⟩, rfl,
      Step.guarded rfl rfl rfl rfl (fun hc => does_move (.tmp 8) (.int .i64 v3) trivial), ⟨⟨rfl, rfl, trivial⟩, trivial, rfl⟩, rfl,
      Step.guarded rfl rfl rfl rfl (fun hc => Does.strip (n' := [(67, (.opt ((((!((decide (v1 > 0)) || (decide (v3 > 0)))) && (decide (v5 ≤ 0))) && (!(decide (v5 < 0)))) && (v1 == 0)) (.int .i64 v3)))]) (n := [(67, (.int .i64 v3))]) ⟨(.opt _ _ hc), trivial⟩ (does_bin .eql 3 3 (.tmp 67) (.const (.int .i64 0)) .i64 v3 0 (.bool (v3 == 0)) trivial (fun _ => rfl) (bin_eql _ _ _ _))), ⟨⟨rfl, rfl, trivial⟩, trivial, rfl⟩, rfl,
      Step.guarded rfl rfl rfl rfl (fun hc => Does.strip (n' := [(66, (.opt (((!((decide (v1 > 0)) || (decide (v3 > 0)))) && (decide (v5 ≤ 0))) && (!(decide (v5 < 0)))) (.bool (v1 == 0)))), (68, (.opt ((((!((decide (v1 > 0)) || (decide (v3 > 0)))) && (decide (v5 ≤ 0))) && (!(decide (v5 < 0)))) && (v1 == 0)) (.bool (v3 == 0))))]) (n := [(66, (.bool (v1 == 0))), (68, (.opt (v1 == 0) (.bool (v3 == 0))))]) ⟨(.opt _ _ hc), (.half _ _ hc), trivial⟩ (does_and 66 68 (v1 == 0) (v3 == 0))), ⟨⟨rfl, rfl, rfl, trivial⟩, trivial, rfl⟩, rfl,
      Step.guarded rfl rfl rfl rfl (fun hc => Does.strip (n' := [(63, (.opt ((!((decide (v1 > 0)) || (decide (v3 > 0)))) && (decide (v5 ≤ 0))) (.bool (decide (v5 < 0))))), (69, (.opt (((!((decide (v1 > 0)) || (decide (v3 > 0)))) && (decide (v5 ≤ 0))) && (!(decide (v5 < 0)))) (.bool ((v1 == 0) && (v3 == 0)))))]) (n := [(63, (.bool (decide (v5 < 0)))), (69, (.opt (!(decide (v5 < 0))) (.bool ((v1 == 0) && (v3 == 0)))))]) ⟨(.opt _ _ hc), (.half _ _ hc), trivial⟩ (does_or 63 69 (decide (v5 < 0)) ((v1 == 0) && (v3 == 0)))), ⟨⟨rfl, rfl, rfl, trivial⟩, trivial, rfl⟩, rfl,
      Step.guarded rfl rfl rfl rfl (fun hc => Does.strip (n' := [(60, (.opt (!((decide (v1 > 0)) || (decide (v3 > 0)))) (.bool (decide (v5 ≤ 0))))), (70, (.opt ((!((decide (v1 > 0)) || (decide (v3 > 0)))) && (decide (v5 ≤ 0))) (.bool ((decide (v5 < 0)) || ((v1 == 0) && (v3 == 0))))))]) (n := [(60, (.bool (decide (v5 ≤ 0)))), (70, (.opt (decide (v5 ≤ 0)) (.bool ((decide (v5 < 0)) || ((v1 == 0) && (v3 == 0))))))]) ⟨(.opt _ _ hc), (.half _ _ hc), trivial⟩ (does_and 60 70 (decide (v5 ≤ 0)) ((decide (v5 < 0)) || ((v1 == 0) && (v3 == 0))))), ⟨⟨rfl, rfl, rfl, trivial⟩, trivial, rfl⟩, rfl,
      Step.plain rfl (does_or 57 71 ((decide (v1 > 0)) || (decide (v3 > 0))) ((decide (v5 ≤ 0)) && ((decide (v5 < 0)) || ((v1 == 0) && (v3 == 0))))), ⟨⟨rfl, rfl, trivial⟩, trivial, rfl⟩, rfl,
      Step.plain rfl (does_move (.tmp 72) (.bool (((decide (v1 > 0)) || (decide (v3 > 0))) || ((decide (v5 ≤ 0)) && ((decide (v5 < 0)) || ((v1 == 0) && (v3 == 0)))))) trivial), ⟨⟨rfl, trivial⟩, trivial, rfl⟩, rfl,
      Step.guarded rfl rfl rfl rfl (fun hc => does_move (.tmp 7) (.int .i64 v1) trivial), ⟨⟨rfl, rfl, trivial⟩, trivial, rfl⟩, rfl,
      Step.guarded rfl rfl rfl rfl (fun hc => Does.strip (n' := [(74, (.opt (((decide (v1 > 0)) || (decide (v3 > 0))) || ((decide (v5 ≤ 0)) && ((decide (v5 < 0)) || ((v1 == 0) && (v3 == 0))))) (.int .i64 v1)))]) (n := [(74, (.int .i64 v1))]) ⟨(.opt _ _ hc), trivial⟩ (does_bin .lss 3 3 (.tmp 74) (.const (.int .i64 0)) .i64 v1 0 (.bool (decide (v1 < 0))) trivial (fun _ => rfl) (bin_lss _ _ _ _))), ⟨⟨rfl, rfl, trivial⟩, trivial, rfl⟩, rfl,
      Step.guarded rfl rfl rfl rfl (fun hc => Does.strip (n' := [(75, (.opt (((decide (v1 > 0)) || (decide (v3 > 0))) || ((decide (v5 ≤ 0)) && ((decide (v5 < 0)) || ((v1 == 0) && (v3 == 0))))) (.bool (decide (v1 < 0)))))]) (n := [(75, (.bool (decide (v1 < 0))))]) ⟨(.opt _ _ hc), trivial⟩ (does_move (.tmp 75) (.bool (decide (v1 < 0))) trivial)), ⟨⟨rfl, rfl, trivial⟩, trivial, rfl⟩, rfl,
      Step.guarded rfl rfl rfl rfl (fun hc => does_move (.tmp 8) (.int .i64 v3) trivial), ⟨⟨rfl, rfl, trivial⟩, trivial, rfl⟩, rfl,
      Step.guarded rfl rfl rfl rfl (fun hc => Does.strip (n' := [(77, (.opt ((((decide (v1 > 0)) || (decide (v3 > 0))) || ((decide (v5 ≤ 0)) && ((decide (v5 < 0)) || ((v1 == 0) && (v3 == 0))))) && (!(decide (v1 < 0)))) (.int .i64 v3)))]) (n := [(77, (.int .i64 v3))]) ⟨(.opt _ _ hc), trivial⟩ (does_bin .lss 3 3 (.tmp 77) (.const (.int .i64 0)) .i64 v3 0 (.bool (decide (v3 < 0))) trivial (fun _ => rfl) (bin_lss _ _ _ _))), ⟨⟨rfl, rfl, trivial⟩, trivial, rfl⟩, rfl,
      Step.guarded rfl rfl rfl rfl (fun hc => Does.strip (n' := [(76, (.opt (((decide (v1 > 0)) || (decide (v3 > 0))) || ((decide (v5 ≤ 0)) && ((decide (v5 < 0)) || ((v1 == 0) && (v3 == 0))))) (.bool (decide (v1 < 0))))), (78, (.opt ((((decide (v1 > 0)) || (decide (v3 > 0))) || ((decide (v5 ≤ 0)) && ((decide (v5 < 0)) || ((v1 == 0) && (v3 == 0))))) && (!(decide (v1 < 0)))) (.bool (decide (v3 < 0)))))]) (n := [(76, (.bool (decide (v1 < 0)))), (78, (.opt (!(decide (v1 < 0))) (.bool (decide (v3 < 0)))))]) ⟨(.opt _ _ hc), (.half _ _ hc), trivial⟩ (does_or 76 78 (decide (v1 < 0)) (decide (v3 < 0)))), ⟨⟨rfl, rfl, rfl, trivial⟩, trivial, rfl⟩, rfl,
      Step.guarded rfl rfl rfl rfl (fun hc => Does.strip (n' := [(79, (.opt (((decide (v1 > 0)) || (decide (v3 > 0))) || ((decide (v5 ≤ 0)) && ((decide (v5 < 0)) || ((v1 == 0) && (v3 == 0))))) (.bool ((decide (v1 < 0)) || (decide (v3 < 0))))))]) (n := [(79, (.bool ((decide (v1 < 0)) || (decide (v3 < 0)))))]) ⟨(.opt _ _ hc), trivial⟩ (does_move (.tmp 79) (.bool ((decide (v1 < 0)) || (decide (v3 < 0)))) trivial)), ⟨⟨rfl, rfl, trivial⟩, trivial, rfl⟩, rfl,
      Step.guarded rfl rfl rfl rfl (fun hc => does_move (.tmp 9) (.int .i64 v5) trivial), ⟨⟨rfl, rfl, trivial⟩, trivial, rfl⟩, rfl,
      Step.guarded rfl rfl rfl rfl (fun hc => Does.strip (n' := [(81, (.opt ((((decide (v1 > 0)) || (decide (v3 > 0))) || ((decide (v5 ≤ 0)) && ((decide (v5 < 0)) || ((v1 == 0) && (v3 == 0))))) && (!((decide (v1 < 0)) || (decide (v3 < 0))))) (.int .i64 v5)))]) (n := [(81, (.int .i64 v5))]) ⟨(.opt _ _ hc), trivial⟩ (does_bin .geq 3 3 (.tmp 81) (.const (.int .i64 0)) .i64 v5 0 (.bool (decide (v5 ≥ 0))) trivial (fun _ => rfl) (bin_geq _ _ _ _))), ⟨⟨rfl, rfl, trivial⟩, trivial, rfl⟩, rfl,
      Step.guarded rfl rfl rfl rfl (fun hc => Does.strip (n' := [(80, (.opt (((decide (v1 > 0)) || (decide (v3 > 0))) || ((decide (v5 ≤ 0)) && ((decide (v5 < 0)) || ((v1 == 0) && (v3 == 0))))) (.bool ((decide (v1 < 0)) || (decide (v3 < 0)))))), (82, (.opt ((((decide (v1 > 0)) || (decide (v3 > 0))) || ((decide (v5 ≤ 0)) && ((decide (v5 < 0)) || ((v1 == 0) && (v3 == 0))))) && (!((decide (v1 < 0)) || (decide (v3 < 0))))) (.bool (decide (v5 ≥ 0)))))]) (n := [(80, (.bool ((decide (v1 < 0)) || (decide (v3 < 0))))), (82, (.opt (!((decide (v1 < 0)) || (decide (v3 < 0)))) (.bool (decide (v5 ≥ 0)))))]) ⟨(.opt _ _ hc), (.half _ _ hc), trivial⟩ (does_or 80 82 ((decide (v1 < 0)) || (decide (v3 < 0))) (decide (v5 ≥ 0)))), ⟨⟨rfl, rfl, rfl, trivial⟩, trivial, rfl⟩, rfl,
      Step.plain rfl (does_and 73 83 (((decide (v1 > 0)) || (decide (v3 > 0))) || ((decide (v5 ≤ 0)) && ((decide (v5 < 0)) || ((v1 == 0) && (v3 == 0))))) (((decide (v1 < 0)) || (decide (v3 < 0))) || (decide (v5 ≥ 0)))), ⟨⟨rfl, rfl, trivial⟩, trivial, rfl⟩, rfl,
      Step.plain rfl (does_assign (.tmp 84) (.bool ((((decide (v1 > 0)) || (decide (v3 > 0))) || ((decide (v5 ≤ 0)) && ((decide (v5 < 0)) || ((v1 == 0) && (v3 == 0))))) && (((decide (v1 < 0)) || (decide (v3 < 0))) || (decide (v5 ≥ 0))))) trivial), ⟨⟨rfl, trivial⟩, trivial, rfl⟩, rfl, rfl⟩ ?_
    obtain ⟨v14, hv14, H⟩ := lt_of H
    refine aw_cov (cov_prune (s1 := ⟨[(6, (.bool v14))], [], 3⟩) ⟨(by subst hv14; rfl), trivial⟩ trivial (Nat.le_refl _)) ?_
    refine aw_ret ?_
    exact fun a w hr => ⟨_, [(.bool v14)], hr, ⟨⟨_, rfl, .data _ trivial⟩, trivial⟩, by decide, by cases H; rfl⟩
end Go.Proofs.Ythkgpbjgkchilaa
