/- Printed by gen.py. Conditions: none. -/
import Derived.Test.YtgcnlfchpjbhkaaSp2
import Derived.KernelRfl
set_option linter.unusedVariables false
set_option maxRecDepth 100000
namespace Go.Proofs.Ytgcnlfchpjbhkaa
open Go.Eng
theorem congressref09_May_spec (p0 : (Nat → Int)) (p1 : (Nat → Int)) (p2 : Int) (r : Bool) (H : congressref09_May p0 p1 p2 = some r) : FSpec Try.prog 14 [(e_a8_u32 p0), (e_a8_u32 p1), (.int .i64 p2)] (.bool r) := by
  refine spec_of (fn := Try.f14) (args := [(e_a8_u32 p0), (e_a8_u32 p1), (.int .i64 p2)]) Try.func14 rfl (Nat.le_of_ble_eq_true rfl) ?_
  rintro ⟨G, w0, W, S, Sp⟩ hG
  cases hG
  unfold congressref09_May at H
  refine aw_region (es := [_, _, _]) ⟨Step.plain rfl (does_box 24 (.tmp 0) 0 (e_a8_u32 p0) trivial rfl), ⟨⟨rfl, trivial⟩, trivial, rfl⟩, rfl,
    Step.plain rfl (does_box 25 (.tmp 1) 1 (e_a8_u32 p1) trivial rfl), ⟨⟨rfl, trivial⟩, trivial, rfl⟩, rfl,
    Step.plain rfl (does_assign (.const (.bool false)) (.bool false) (fun _ => rfl)), ⟨trivial, trivial, rfl⟩, rfl, rfl⟩ ?_
  refine aw_cov (cov_prune (s1 := ⟨[(2, (.int .i64 p2)), (3, (.ptr 0 0 [])), (4, (.ptr 1 0 []))], [(0, some (.var (e_a8_u32 p0))), (1, some (.var (e_a8_u32 p1)))], 2⟩) ⟨rfl, rfl, rfl, trivial⟩ ⟨rfl, rfl, trivial⟩ (Nat.le_refl _)) ?_
  obtain ⟨h1, H⟩ := ibg_of H
  obtain ⟨h2, H⟩ := ibg_of H
  obtain ⟨v3, h4, H⟩ := whn_of H
  refine aw_draw (es := [_, _, _, _, _, _, _, _, _, _, _, _, _, _, _, _, _, _, _, _, _, _]) (mixed) ⟨Step.plain rfl (does_move (.tmp 2) (.int .i64 p2) trivial), ⟨⟨rfl, trivial⟩, trivial, rfl⟩, rfl,
    Step.plain rfl (does_bin .geq 3 3 (.tmp 7) (.const (.int .i64 0)) .i64 p2 0 (.bool (decide (p2 ≥ 0))) trivial (fun _ => rfl) (bin_geq _ _ _ _)), ⟨⟨rfl, trivial⟩, trivial, rfl⟩, rfl,
    Step.plain rfl (does_move (.tmp 8) (.bool (decide (p2 ≥ 0))) trivial), ⟨⟨rfl, trivial⟩, trivial, rfl⟩, rfl,
    Step.guarded rfl rfl rfl rfl (fun hc => does_move (.tmp 2) (.int .i64 p2) trivial), ⟨⟨rfl, rfl, trivial⟩, trivial, rfl⟩, rfl,
    Step.guarded rfl rfl rfl rfl (fun hc => Does.strip (n' := [(10, (.opt (decide (p2 ≥ 0)) (.int .i64 p2)))]) (n := [(10, (.int .i64 p2))]) ⟨(.opt _ _ hc), trivial⟩ (does_bin .lss 3 3 (.tmp 10) (.const (.int .i64 8)) .i64 p2 8 (.bool (decide (p2 < 8))) trivial (fun _ => rfl) (bin_lss _ _ _ _))), ⟨⟨rfl, rfl, trivial⟩, trivial, rfl⟩, rfl,
    Step.plain rfl (does_and 9 11 (decide (p2 ≥ 0)) (decide (p2 < 8))), ⟨⟨rfl, rfl, trivial⟩, trivial, rfl⟩, rfl,
    Step.plain rfl (does_move (.tmp 12) (.bool ((decide (p2 ≥ 0)) && (decide (p2 < 8)))) trivial), ⟨⟨rfl, trivial⟩, trivial, rfl⟩, rfl,
    Step.guarded rfl rfl rfl rfl (fun hc => does_move (.tmp 2) (.int .i64 p2) trivial), ⟨⟨rfl, rfl, trivial⟩, trivial, rfl⟩, rfl,
    Step.guarded rfl rfl rfl rfl (fun hc => Does.strip (n' := [(4, (.ptr 1 0 [])), (14, (.opt ((decide (p2 ≥ 0)) && (decide (p2 < 8))) (.int .i64 p2)))]) (n := [(4, (.ptr 1 0 [])), (14, (.int .i64 p2))]) ⟨(.same _), (.opt _ _ hc), trivial⟩ (does_indexAddr 25 8 1 4 1 0 [] (.var (e_a8_u32 p1)) (.tmp 14) .i64 p2 el25 trivial (h1 hc).1 (h1 hc).2)), ⟨⟨rfl, rfl, rfl, trivial⟩, ⟨rfl, trivial⟩, rfl⟩, rfl,
    Step.guarded rfl rfl rfl rfl (fun hc => Does.strip (n' := [(15, (.opt ((decide (p2 ≥ 0)) && (decide (p2 < 8))) (.ptr 1 (0 + p2.toNat * 1) [p2.toNat])))]) (n := [(15, (.ptr 1 (0 + p2.toNat * 1) [p2.toNat]))]) ⟨(.opt _ _ hc), trivial⟩ (does_load 22 15 1 (0 + p2.toNat * 1) [p2.toNat] (.var (e_a8_u32 p1)) (.int .u32 (p1 p2.toNat)) ⟨rfl, (ixl (h1 hc)), trivial⟩ rfl rfl ty22)), ⟨⟨rfl, rfl, trivial⟩, ⟨rfl, trivial⟩, rfl⟩, rfl,
    Step.guarded rfl rfl rfl rfl (fun hc => Does.strip (n' := [(16, (.opt ((decide (p2 ≥ 0)) && (decide (p2 < 8))) (.int .u32 (p1 p2.toNat))))]) (n := [(16, (.int .u32 (p1 p2.toNat)))]) ⟨(.opt _ _ hc), trivial⟩ (does_bin .neq 22 22 (.tmp 16) (.const (.int .u32 0)) .u32 (p1 p2.toNat) 0 (.bool ((p1 p2.toNat) != 0)) trivial (fun _ => rfl) (bin_neq _ _ _ _))), ⟨⟨rfl, rfl, trivial⟩, trivial, rfl⟩, rfl,
    Step.plain rfl (does_and 13 17 ((decide (p2 ≥ 0)) && (decide (p2 < 8))) ((p1 p2.toNat) != 0)), ⟨⟨rfl, rfl, trivial⟩, trivial, rfl⟩, rfl,
    Step.plain rfl (does_move (.tmp 18) (.bool (((decide (p2 ≥ 0)) && (decide (p2 < 8))) && ((p1 p2.toNat) != 0))) trivial), ⟨⟨rfl, trivial⟩, trivial, rfl⟩, rfl,
    Step.guarded rfl rfl rfl rfl (fun hc => does_load 24 3 0 0 [] (.var (e_a8_u32 p0)) (e_a8_u32 p0) trivial rfl rfl ty24), ⟨⟨rfl, rfl, trivial⟩, ⟨rfl, trivial⟩, rfl⟩, rfl,
    Step.guarded rfl rfl rfl rfl (fun hc => does_load 25 4 1 0 [] (.var (e_a8_u32 p1)) (e_a8_u32 p1) trivial rfl rfl ty25), ⟨⟨rfl, rfl, trivial⟩, ⟨rfl, trivial⟩, rfl⟩, rfl,
    Step.guarded rfl rfl rfl rfl (fun hc => does_move (.tmp 2) (.int .i64 p2) trivial), ⟨⟨rfl, rfl, trivial⟩, trivial, rfl⟩, rfl,
    Step.guarded rfl rfl rfl rfl (fun hc => Does.strip (n' := [(3, (.ptr 0 0 [])), (22, (.opt (((decide (p2 ≥ 0)) && (decide (p2 < 8))) && ((p1 p2.toNat) != 0)) (.int .i64 p2)))]) (n := [(3, (.ptr 0 0 [])), (22, (.int .i64 p2))]) ⟨(.same _), (.opt _ _ hc), trivial⟩ (does_indexAddr 24 8 1 3 0 0 [] (.var (e_a8_u32 p0)) (.tmp 22) .i64 p2 el24 trivial (h2 hc).1 (h2 hc).2)), ⟨⟨rfl, rfl, rfl, trivial⟩, ⟨rfl, trivial⟩, rfl⟩, rfl,
    Step.guarded rfl rfl rfl rfl (fun hc => Does.strip (n' := [(23, (.opt (((decide (p2 ≥ 0)) && (decide (p2 < 8))) && ((p1 p2.toNat) != 0)) (.ptr 0 (0 + p2.toNat * 1) [p2.toNat])))]) (n := [(23, (.ptr 0 (0 + p2.toNat * 1) [p2.toNat]))]) ⟨(.opt _ _ hc), trivial⟩ (does_load 22 23 0 (0 + p2.toNat * 1) [p2.toNat] (.var (e_a8_u32 p0)) (.int .u32 (p0 p2.toNat)) ⟨rfl, (ixl (h2 hc)), trivial⟩ rfl rfl ty22)), ⟨⟨rfl, rfl, trivial⟩, ⟨rfl, trivial⟩, rfl⟩, rfl,
    Step.guarded rfl rfl rfl rfl (fun hc => Does.strip (n' := [(24, (.opt (((decide (p2 ≥ 0)) && (decide (p2 < 8))) && ((p1 p2.toNat) != 0)) (.int .u32 (p0 p2.toNat))))]) (n := [(24, (.int .u32 (p0 p2.toNat)))]) ⟨(.opt _ _ hc), trivial⟩ (does_convInt 22 48 (.tmp 24) .u32 .u64 (p0 p2.toNat) trivial rfl rfl)), ⟨⟨rfl, rfl, trivial⟩, trivial, rfl⟩, rfl,
    Step.guarded rfl rfl rfl rfl (fun hc => Does.strip (n' := [(20, (.opt (((decide (p2 ≥ 0)) && (decide (p2 < 8))) && ((p1 p2.toNat) != 0)) (e_a8_u32 p0))), (21, (.opt (((decide (p2 ≥ 0)) && (decide (p2 < 8))) && ((p1 p2.toNat) != 0)) (e_a8_u32 p1))), (25, (.opt (((decide (p2 ≥ 0)) && (decide (p2 < 8))) && ((p1 p2.toNat) != 0)) (.int .u64 (IntKind.u64.wrap (p0 p2.toNat)))))]) (n := [(20, (e_a8_u32 p0)), (21, (e_a8_u32 p1)), (25, (.int .u64 (IntKind.u64.wrap (p0 p2.toNat))))]) ⟨(.opt _ _ hc), (.opt _ _ hc), (.opt _ _ hc), trivial⟩ (does_call 21 0 (fun _ => .any) (.func 21) [(.tmp 20), (.tmp 21), (.tmp 25)] [(e_a8_u32 p0), (e_a8_u32 p1), (.int .u64 (IntKind.u64.wrap (p0 p2.toNat)))] [] true [(e_a8_u32 p0), (e_a8_u32 p1), (.int .u64 (IntKind.u64.wrap (p0 p2.toNat)))] (.bool v3) _ _ rfl fo21 rfl ⟨trivial, trivial, trivial, trivial⟩ ⟨.data _ (d_a8_u32 p0), .data _ (d_a8_u32 p1), .data _ trivial, trivial⟩ (congressref09_Full_spec p0 p1 (IntKind.u64.wrap (p0 p2.toNat)) _ (h4 hc)) trivial)), ⟨⟨rfl, rfl, rfl, rfl, trivial⟩, trivial, rfl⟩, rfl,
    Step.plain rfl (does_and 19 26 (((decide (p2 ≥ 0)) && (decide (p2 < 8))) && ((p1 p2.toNat) != 0)) v3), ⟨⟨rfl, rfl, trivial⟩, trivial, rfl⟩, rfl,
    Step.plain rfl (does_assign (.tmp 27) (.bool ((((decide (p2 ≥ 0)) && (decide (p2 < 8))) && ((p1 p2.toNat) != 0)) && v3)) trivial), ⟨⟨rfl, trivial⟩, trivial, rfl⟩, rfl, rfl⟩ rfl ?_
  obtain ⟨v5, hv5, H⟩ := lt_of H
  refine aw_cov (cov_prune (s1 := ⟨[(6, (.bool v5))], [], 2⟩) ⟨(by subst hv5; rfl), trivial⟩ trivial (Nat.le_refl _)) ?_
  refine aw_ret ?_
  exact fun a w hr => ⟨_, [(.bool v5)], hr, ⟨⟨_, rfl, .data _ trivial⟩, trivial⟩, by decide, by cases H; rfl⟩

theorem cmp_isNaN_uint32_spec (p0 : Int) (r : Bool) (H : cmp_isNaN_uint32 p0 = some r) : FSpec Try.prog 27 [(.int .u32 p0)] (.bool r) := by
  refine spec_of (fn := Try.f27) (args := [(.int .u32 p0)]) Try.func27 rfl (Nat.le_of_ble_eq_true rfl) ?_
  rintro ⟨G, w0, W, S, Sp⟩ hG
  cases hG
  unfold cmp_isNaN_uint32 at H
  refine aw_region (es := [_]) ⟨Step.plain rfl (does_assign (.const (.bool false)) (.bool false) (fun _ => rfl)), ⟨trivial, trivial, rfl⟩, rfl, rfl⟩ ?_
  refine aw_cov (cov_prune (s1 := ⟨[(0, (.int .u32 p0))], [], 0⟩) ⟨rfl, trivial⟩ trivial (Nat.le_refl _)) ?_
  refine aw_region (es := [_, _, _, _]) ⟨Step.plain rfl (does_move (.tmp 0) (.int .u32 p0) trivial), ⟨⟨rfl, trivial⟩, trivial, rfl⟩, rfl,
    Step.plain rfl (does_move (.tmp 0) (.int .u32 p0) trivial), ⟨⟨rfl, trivial⟩, trivial, rfl⟩, rfl,
    Step.plain rfl (does_bin .neq 22 22 (.tmp 3) (.tmp 4) .u32 p0 p0 (.bool (p0 != p0)) trivial trivial (bin_neq _ _ _ _)), ⟨⟨rfl, rfl, trivial⟩, trivial, rfl⟩, rfl,
    Step.plain rfl (does_assign (.tmp 5) (.bool (p0 != p0)) trivial), ⟨⟨rfl, trivial⟩, trivial, rfl⟩, rfl, rfl⟩ ?_
  refine aw_cov (cov_prune (s1 := ⟨[(2, (.bool (p0 != p0)))], [], 0⟩) ⟨rfl, trivial⟩ trivial (Nat.le_refl _)) ?_
  refine aw_ret ?_
  exact fun a w hr => ⟨_, [(.bool (p0 != p0))], hr, ⟨⟨_, rfl, .data _ trivial⟩, trivial⟩, by decide, by cases H; rfl⟩

theorem cmp_Compare_uint32_spec (p0 : Int) (p1 : Int) (r : Int) (H : cmp_Compare_uint32 p0 p1 = some r) : FSpec Try.prog 25 [(.int .u32 p0), (.int .u32 p1)] (.int .i64 r) := by
  refine spec_of (fn := Try.f25) (args := [(.int .u32 p0), (.int .u32 p1)]) Try.func25 rfl (Nat.le_of_ble_eq_true rfl) ?_
  rintro ⟨G, w0, W, S, Sp⟩ hG
  cases hG
  unfold cmp_Compare_uint32 at H
  refine aw_region (es := [_]) ⟨Step.plain rfl (does_assign (.const (.int .i64 0)) (.int .i64 0) (fun _ => rfl)), ⟨trivial, trivial, rfl⟩, rfl, rfl⟩ ?_
  refine aw_cov (cov_prune (s1 := ⟨[(0, (.int .u32 p0)), (1, (.int .u32 p1))], [], 0⟩) ⟨rfl, rfl, trivial⟩ trivial (Nat.le_refl _)) ?_
  obtain ⟨v1, h2, H⟩ := bnd H
  refine aw_region (es := [_, _, _]) ⟨Step.plain rfl (does_move (.tmp 0) (.int .u32 p0) trivial), ⟨⟨rfl, trivial⟩, trivial, rfl⟩, rfl,
    Step.plain rfl (does_call 27 0 (fun _ => .any) (.func 27) [(.tmp 7)] [(.int .u32 p0)] [] true [(.int .u32 p0)] (.bool v1) _ _ rfl fo27 rfl ⟨trivial, trivial⟩ ⟨.data _ trivial, trivial⟩ (cmp_isNaN_uint32_spec p0 _ h2) trivial), ⟨⟨rfl, trivial⟩, trivial, rfl⟩, rfl,
    Step.plain rfl (does_assign (.tmp 8) (.bool v1) trivial), ⟨⟨rfl, trivial⟩, trivial, rfl⟩, rfl, rfl⟩ ?_
  refine aw_cov (cov_prune (s1 := ⟨[(0, (.int .u32 p0)), (1, (.int .u32 p1)), (5, (.bool v1))], [], 0⟩) ⟨rfl, rfl, rfl, trivial⟩ trivial (Nat.le_refl _)) ?_
  obtain ⟨v3, h4, H⟩ := bnd H
  refine aw_region (es := [_, _, _]) ⟨Step.plain rfl (does_move (.tmp 1) (.int .u32 p1) trivial), ⟨⟨rfl, trivial⟩, trivial, rfl⟩, rfl,
    Step.plain rfl (does_call 27 0 (fun _ => .any) (.func 27) [(.tmp 9)] [(.int .u32 p1)] [] true [(.int .u32 p1)] (.bool v3) _ _ rfl fo27 rfl ⟨trivial, trivial⟩ ⟨.data _ trivial, trivial⟩ (cmp_isNaN_uint32_spec p1 _ h4) trivial), ⟨⟨rfl, trivial⟩, trivial, rfl⟩, rfl,
    Step.plain rfl (does_assign (.tmp 10) (.bool v3) trivial), ⟨⟨rfl, trivial⟩, trivial, rfl⟩, rfl, rfl⟩ ?_
  refine aw_cov (cov_prune (s1 := ⟨[(0, (.int .u32 p0)), (1, (.int .u32 p1)), (5, (.bool v1)), (6, (.bool v3))], [], 0⟩) ⟨rfl, rfl, rfl, rfl, trivial⟩ trivial (Nat.le_refl _)) ?_
  refine aw_seq ?_
  refine aw_region (es := [_]) ⟨Step.plain rfl (does_move (.tmp 5) (.bool v1) trivial), ⟨⟨rfl, trivial⟩, trivial, rfl⟩, rfl, rfl⟩ ?_
  refine aw_cov (cov_prune (s1 := ⟨[(0, (.int .u32 p0)), (1, (.int .u32 p1)), (6, (.bool v3)), (11, (.bool v1))], [], 0⟩) ⟨rfl, rfl, rfl, rfl, trivial⟩ trivial (Nat.le_refl _)) ?_
  refine aw_cond rfl (fun hc => ?_) (fun hc => ?_)
  · replace H := ite_t hc H
    refine aw_seq ?_
    refine aw_region (es := [_]) ⟨Step.plain rfl (does_move (.tmp 6) (.bool v3) trivial), ⟨⟨rfl, trivial⟩, trivial, rfl⟩, rfl, rfl⟩ ?_
    refine aw_cov (cov_prune (s1 := ⟨[(12, (.bool v3))], [], 0⟩) ⟨rfl, trivial⟩ trivial (Nat.le_refl _)) ?_
    refine aw_cond rfl (fun hc => ?_) (fun hc => ?_)
    · replace H := ite_t hc H
      refine aw_region (es := [_]) ⟨Step.plain rfl (does_assign (.const (.int .i64 0)) (.int .i64 0) (fun _ => rfl)), ⟨trivial, trivial, rfl⟩, rfl, rfl⟩ ?_
      refine aw_cov (cov_prune (s1 := ⟨[(4, (.int .i64 0))], [], 0⟩) ⟨rfl, trivial⟩ trivial (Nat.le_refl _)) ?_
      refine aw_ret ?_
      refine rt_then ?_
      refine rt_then ?_
      exact fun a w hr => ⟨_, [(.int .i64 0)], hr, ⟨⟨_, rfl, .data _ trivial⟩, trivial⟩, by decide, by cases H; rfl⟩
    · replace H := ite_f hc H
      refine aw_skip ?_
      refine nx_seq ?_
      refine aw_region (es := [_]) ⟨Step.plain rfl (does_assign (.const (.int .i64 (-1))) (.int .i64 (-1)) (fun _ => rfl)), ⟨trivial, trivial, rfl⟩, rfl, rfl⟩ ?_
      refine aw_cov (cov_prune (s1 := ⟨[(4, (.int .i64 (-1)))], [], 0⟩) ⟨rfl, trivial⟩ trivial (Nat.le_refl _)) ?_
      refine aw_ret ?_
      refine rt_then ?_
      exact fun a w hr => ⟨_, [(.int .i64 (-1))], hr, ⟨⟨_, rfl, .data _ trivial⟩, trivial⟩, by decide, by cases H; rfl⟩
  · replace H := ite_f hc H
    refine aw_skip ?_
    refine nx_seq ?_
    refine aw_seq ?_
    refine aw_region (es := [_]) ⟨Step.plain rfl (does_move (.tmp 6) (.bool v3) trivial), ⟨⟨rfl, trivial⟩, trivial, rfl⟩, rfl, rfl⟩ ?_
    refine aw_cov (cov_prune (s1 := ⟨[(0, (.int .u32 p0)), (1, (.int .u32 p1)), (13, (.bool v3))], [], 0⟩) ⟨rfl, rfl, rfl, trivial⟩ trivial (Nat.le_refl _)) ?_
    refine aw_cond rfl (fun hc => ?_) (fun hc => ?_)
    · replace H := ite_t hc H
      refine aw_region (es := [_]) ⟨Step.plain rfl (does_assign (.const (.int .i64 1)) (.int .i64 1) (fun _ => rfl)), ⟨trivial, trivial, rfl⟩, rfl, rfl⟩ ?_
      refine aw_cov (cov_prune (s1 := ⟨[(4, (.int .i64 1))], [], 0⟩) ⟨rfl, trivial⟩ trivial (Nat.le_refl _)) ?_
      refine aw_ret ?_
      refine rt_then ?_
      exact fun a w hr => ⟨_, [(.int .i64 1)], hr, ⟨⟨_, rfl, .data _ trivial⟩, trivial⟩, by decide, by cases H; rfl⟩
    · replace H := ite_f hc H
      refine aw_skip ?_
      refine nx_seq ?_
      refine aw_seq ?_
      refine aw_region (es := [_, _, _]) ⟨Step.plain rfl (does_move (.tmp 0) (.int .u32 p0) trivial), ⟨⟨rfl, trivial⟩, trivial, rfl⟩, rfl,
        Step.plain rfl (does_move (.tmp 1) (.int .u32 p1) trivial), ⟨⟨rfl, trivial⟩, trivial, rfl⟩, rfl,
        Step.plain rfl (does_bin .lss 22 22 (.tmp 14) (.tmp 15) .u32 p0 p1 (.bool (decide (p0 < p1))) trivial trivial (bin_lss _ _ _ _)), ⟨⟨rfl, rfl, trivial⟩, trivial, rfl⟩, rfl, rfl⟩ ?_
      refine aw_cov (cov_prune (s1 := ⟨[(0, (.int .u32 p0)), (1, (.int .u32 p1)), (16, (.bool (decide (p0 < p1))))], [], 0⟩) ⟨rfl, rfl, rfl, trivial⟩ trivial (Nat.le_refl _)) ?_
      refine aw_cond rfl (fun hc => ?_) (fun hc => ?_)
      · replace H := ite_t hc H
        refine aw_region (es := [_]) ⟨Step.plain rfl (does_assign (.const (.int .i64 (-1))) (.int .i64 (-1)) (fun _ => rfl)), ⟨trivial, trivial, rfl⟩, rfl, rfl⟩ ?_
        refine aw_cov (cov_prune (s1 := ⟨[(4, (.int .i64 (-1)))], [], 0⟩) ⟨rfl, trivial⟩ trivial (Nat.le_refl _)) ?_
        refine aw_ret ?_
        refine rt_then ?_
        exact fun a w hr => ⟨_, [(.int .i64 (-1))], hr, ⟨⟨_, rfl, .data _ trivial⟩, trivial⟩, by decide, by cases H; rfl⟩
      · replace H := ite_f hc H
        refine aw_skip ?_
        refine nx_seq ?_
        refine aw_seq ?_
        refine aw_region (es := [_, _, _]) ⟨Step.plain rfl (does_move (.tmp 0) (.int .u32 p0) trivial), ⟨⟨rfl, trivial⟩, trivial, rfl⟩, rfl,
          Step.plain rfl (does_move (.tmp 1) (.int .u32 p1) trivial), ⟨⟨rfl, trivial⟩, trivial, rfl⟩, rfl,
          Step.plain rfl (does_bin .gtr 22 22 (.tmp 17) (.tmp 18) .u32 p0 p1 (.bool (decide (p0 > p1))) trivial trivial (bin_gtr _ _ _ _)), ⟨⟨rfl, rfl, trivial⟩, trivial, rfl⟩, rfl, rfl⟩ ?_
        refine aw_cov (cov_prune (s1 := ⟨[(19, (.bool (decide (p0 > p1))))], [], 0⟩) ⟨rfl, trivial⟩ trivial (Nat.le_refl _)) ?_
        refine aw_cond rfl (fun hc => ?_) (fun hc => ?_)
        · replace H := ite_t hc H
          refine aw_region (es := [_]) ⟨Step.plain rfl (does_assign (.const (.int .i64 1)) (.int .i64 1) (fun _ => rfl)), ⟨trivial, trivial, rfl⟩, rfl, rfl⟩ ?_
          refine aw_cov (cov_prune (s1 := ⟨[(4, (.int .i64 1))], [], 0⟩) ⟨rfl, trivial⟩ trivial (Nat.le_refl _)) ?_
          refine aw_ret ?_
          refine rt_then ?_
          exact fun a w hr => ⟨_, [(.int .i64 1)], hr, ⟨⟨_, rfl, .data _ trivial⟩, trivial⟩, by decide, by cases H; rfl⟩
        · replace H := ite_f hc H
          refine aw_skip ?_
          refine nx_seq ?_
          refine aw_region (es := [_]) ⟨Step.plain rfl (does_assign (.const (.int .i64 0)) (.int .i64 0) (fun _ => rfl)), ⟨trivial, trivial, rfl⟩, rfl, rfl⟩ ?_
          refine aw_cov (cov_prune (s1 := ⟨[(4, (.int .i64 0))], [], 0⟩) ⟨rfl, trivial⟩ trivial (Nat.le_refl _)) ?_
          refine aw_ret ?_
          exact fun a w hr => ⟨_, [(.int .i64 0)], hr, ⟨⟨_, rfl, .data _ trivial⟩, trivial⟩, by decide, by cases H; rfl⟩

theorem cmp_isNaN_int_spec (p0 : Int) (r : Bool) (H : cmp_isNaN_int p0 = some r) : FSpec Try.prog 28 [(.int .i64 p0)] (.bool r) := by
  refine spec_of (fn := Try.f28) (args := [(.int .i64 p0)]) Try.func28 rfl (Nat.le_of_ble_eq_true rfl) ?_
  rintro ⟨G, w0, W, S, Sp⟩ hG
  cases hG
  unfold cmp_isNaN_int at H
  refine aw_region (es := [_]) ⟨Step.plain rfl (does_assign (.const (.bool false)) (.bool false) (fun _ => rfl)), ⟨trivial, trivial, rfl⟩, rfl, rfl⟩ ?_
  refine aw_cov (cov_prune (s1 := ⟨[(0, (.int .i64 p0))], [], 0⟩) ⟨rfl, trivial⟩ trivial (Nat.le_refl _)) ?_
  refine aw_region (es := [_, _, _, _]) ⟨Step.plain rfl (does_move (.tmp 0) (.int .i64 p0) trivial), ⟨⟨rfl, trivial⟩, trivial, rfl⟩, rfl,
    Step.plain rfl (does_move (.tmp 0) (.int .i64 p0) trivial), ⟨⟨rfl, trivial⟩, trivial, rfl⟩, rfl,
    Step.plain rfl (does_bin .neq 3 3 (.tmp 3) (.tmp 4) .i64 p0 p0 (.bool (p0 != p0)) trivial trivial (bin_neq _ _ _ _)), ⟨⟨rfl, rfl, trivial⟩, trivial, rfl⟩, rfl,
    Step.plain rfl (does_assign (.tmp 5) (.bool (p0 != p0)) trivial), ⟨⟨rfl, trivial⟩, trivial, rfl⟩, rfl, rfl⟩ ?_
  refine aw_cov (cov_prune (s1 := ⟨[(2, (.bool (p0 != p0)))], [], 0⟩) ⟨rfl, trivial⟩ trivial (Nat.le_refl _)) ?_
  refine aw_ret ?_
  exact fun a w hr => ⟨_, [(.bool (p0 != p0))], hr, ⟨⟨_, rfl, .data _ trivial⟩, trivial⟩, by decide, by cases H; rfl⟩

theorem cmp_Compare_int_spec (p0 : Int) (p1 : Int) (r : Int) (H : cmp_Compare_int p0 p1 = some r) : FSpec Try.prog 26 [(.int .i64 p0), (.int .i64 p1)] (.int .i64 r) := by
  refine spec_of (fn := Try.f26) (args := [(.int .i64 p0), (.int .i64 p1)]) Try.func26 rfl (Nat.le_of_ble_eq_true rfl) ?_
  rintro ⟨G, w0, W, S, Sp⟩ hG
  cases hG
  unfold cmp_Compare_int at H
  refine aw_region (es := [_]) ⟨Step.plain rfl (does_assign (.const (.int .i64 0)) (.int .i64 0) (fun _ => rfl)), ⟨trivial, trivial, rfl⟩, rfl, rfl⟩ ?_
  refine aw_cov (cov_prune (s1 := ⟨[(0, (.int .i64 p0)), (1, (.int .i64 p1))], [], 0⟩) ⟨rfl, rfl, trivial⟩ trivial (Nat.le_refl _)) ?_
  obtain ⟨v1, h2, H⟩ := bnd H
  refine aw_region (es := [_, _, _]) ⟨Step.plain rfl (does_move (.tmp 0) (.int .i64 p0) trivial), ⟨⟨rfl, trivial⟩, trivial, rfl⟩, rfl,
    Step.plain rfl (does_call 28 0 (fun _ => .any) (.func 28) [(.tmp 7)] [(.int .i64 p0)] [] true [(.int .i64 p0)] (.bool v1) _ _ rfl fo28 rfl ⟨trivial, trivial⟩ ⟨.data _ trivial, trivial⟩ (cmp_isNaN_int_spec p0 _ h2) trivial), ⟨⟨rfl, trivial⟩, trivial, rfl⟩, rfl,
    Step.plain rfl (does_assign (.tmp 8) (.bool v1) trivial), ⟨⟨rfl, trivial⟩, trivial, rfl⟩, rfl, rfl⟩ ?_
  refine aw_cov (cov_prune (s1 := ⟨[(0, (.int .i64 p0)), (1, (.int .i64 p1)), (5, (.bool v1))], [], 0⟩) ⟨rfl, rfl, rfl, trivial⟩ trivial (Nat.le_refl _)) ?_
  obtain ⟨v3, h4, H⟩ := bnd H
  refine aw_region (es := [_, _, _]) ⟨Step.plain rfl (does_move (.tmp 1) (.int .i64 p1) trivial), ⟨⟨rfl, trivial⟩, trivial, rfl⟩, rfl,
    Step.plain rfl (does_call 28 0 (fun _ => .any) (.func 28) [(.tmp 9)] [(.int .i64 p1)] [] true [(.int .i64 p1)] (.bool v3) _ _ rfl fo28 rfl ⟨trivial, trivial⟩ ⟨.data _ trivial, trivial⟩ (cmp_isNaN_int_spec p1 _ h4) trivial), ⟨⟨rfl, trivial⟩, trivial, rfl⟩, rfl,
    Step.plain rfl (does_assign (.tmp 10) (.bool v3) trivial), ⟨⟨rfl, trivial⟩, trivial, rfl⟩, rfl, rfl⟩ ?_
  refine aw_cov (cov_prune (s1 := ⟨[(0, (.int .i64 p0)), (1, (.int .i64 p1)), (5, (.bool v1)), (6, (.bool v3))], [], 0⟩) ⟨rfl, rfl, rfl, rfl, trivial⟩ trivial (Nat.le_refl _)) ?_
  refine aw_seq ?_
  refine aw_region (es := [_]) ⟨Step.plain rfl (does_move (.tmp 5) (.bool v1) trivial), ⟨⟨rfl, trivial⟩, trivial, rfl⟩, rfl, rfl⟩ ?_
  refine aw_cov (cov_prune (s1 := ⟨[(0, (.int .i64 p0)), (1, (.int .i64 p1)), (6, (.bool v3)), (11, (.bool v1))], [], 0⟩) ⟨rfl, rfl, rfl, rfl, trivial⟩ trivial (Nat.le_refl _)) ?_
  refine aw_cond rfl (fun hc => ?_) (fun hc => ?_)
  · replace H := ite_t hc H
    refine aw_seq ?_
    refine aw_region (es := [_]) ⟨Step.plain rfl (does_move (.tmp 6) (.bool v3) trivial), ⟨⟨rfl, trivial⟩, trivial, rfl⟩, rfl, rfl⟩ ?_
    refine aw_cov (cov_prune (s1 := ⟨[(12, (.bool v3))], [], 0⟩) ⟨rfl, trivial⟩ trivial (Nat.le_refl _)) ?_
    refine aw_cond rfl (fun hc => ?_) (fun hc => ?_)
    · replace H := ite_t hc H
      refine aw_region (es := [_]) ⟨Step.plain rfl (does_assign (.const (.int .i64 0)) (.int .i64 0) (fun _ => rfl)), ⟨trivial, trivial, rfl⟩, rfl, rfl⟩ ?_
      refine aw_cov (cov_prune (s1 := ⟨[(4, (.int .i64 0))], [], 0⟩) ⟨rfl, trivial⟩ trivial (Nat.le_refl _)) ?_
      refine aw_ret ?_
      refine rt_then ?_
      refine rt_then ?_
      exact fun a w hr => ⟨_, [(.int .i64 0)], hr, ⟨⟨_, rfl, .data _ trivial⟩, trivial⟩, by decide, by cases H; rfl⟩
    · replace H := ite_f hc H
      refine aw_skip ?_
      refine nx_seq ?_
      refine aw_region (es := [_]) ⟨Step.plain rfl (does_assign (.const (.int .i64 (-1))) (.int .i64 (-1)) (fun _ => rfl)), ⟨trivial, trivial, rfl⟩, rfl, rfl⟩ ?_
      refine aw_cov (cov_prune (s1 := ⟨[(4, (.int .i64 (-1)))], [], 0⟩) ⟨rfl, trivial⟩ trivial (Nat.le_refl _)) ?_
      refine aw_ret ?_
      refine rt_then ?_
      exact fun a w hr => ⟨_, [(.int .i64 (-1))], hr, ⟨⟨_, rfl, .data _ trivial⟩, trivial⟩, by decide, by cases H; rfl⟩
  · replace H := ite_f hc H
    refine aw_skip ?_
    refine nx_seq ?_
    refine aw_seq ?_
    refine aw_region (es := [_]) ⟨Step.plain rfl (does_move (.tmp 6) (.bool v3) trivial), ⟨⟨rfl, trivial⟩, trivial, rfl⟩, rfl, rfl⟩ ?_
    refine aw_cov (cov_prune (s1 := ⟨[(0, (.int .i64 p0)), (1, (.int .i64 p1)), (13, (.bool v3))], [], 0⟩) ⟨rfl, rfl, rfl, trivial⟩ trivial (Nat.le_refl _)) ?_
    refine aw_cond rfl (fun hc => ?_) (fun hc => ?_)
    · replace H := ite_t hc H
      refine aw_region (es := [_]) ⟨Step.plain rfl (does_assign (.const (.int .i64 1)) (.int .i64 1) (fun _ => rfl)), ⟨trivial, trivial, rfl⟩, rfl, rfl⟩ ?_
      refine aw_cov (cov_prune (s1 := ⟨[(4, (.int .i64 1))], [], 0⟩) ⟨rfl, trivial⟩ trivial (Nat.le_refl _)) ?_
      refine aw_ret ?_
      refine rt_then ?_
      exact fun a w hr => ⟨_, [(.int .i64 1)], hr, ⟨⟨_, rfl, .data _ trivial⟩, trivial⟩, by decide, by cases H; rfl⟩
    · replace H := ite_f hc H
      refine aw_skip ?_
      refine nx_seq ?_
      refine aw_seq ?_
      refine aw_region (es := [_, _, _]) ⟨Step.plain rfl (does_move (.tmp 0) (.int .i64 p0) trivial), ⟨⟨rfl, trivial⟩, trivial, rfl⟩, rfl,
        Step.plain rfl (does_move (.tmp 1) (.int .i64 p1) trivial), ⟨⟨rfl, trivial⟩, trivial, rfl⟩, rfl,
        Step.plain rfl (does_bin .lss 3 3 (.tmp 14) (.tmp 15) .i64 p0 p1 (.bool (decide (p0 < p1))) trivial trivial (bin_lss _ _ _ _)), ⟨⟨rfl, rfl, trivial⟩, trivial, rfl⟩, rfl, rfl⟩ ?_
      refine aw_cov (cov_prune (s1 := ⟨[(0, (.int .i64 p0)), (1, (.int .i64 p1)), (16, (.bool (decide (p0 < p1))))], [], 0⟩) ⟨rfl, rfl, rfl, trivial⟩ trivial (Nat.le_refl _)) ?_
      refine aw_cond rfl (fun hc => ?_) (fun hc => ?_)
      · replace H := ite_t hc H
        refine aw_region (es := [_]) ⟨Step.plain rfl (does_assign (.const (.int .i64 (-1))) (.int .i64 (-1)) (fun _ => rfl)), ⟨trivial, trivial, rfl⟩, rfl, rfl⟩ ?_
        refine aw_cov (cov_prune (s1 := ⟨[(4, (.int .i64 (-1)))], [], 0⟩) ⟨rfl, trivial⟩ trivial (Nat.le_refl _)) ?_
        refine aw_ret ?_
        refine rt_then ?_
        exact fun a w hr => ⟨_, [(.int .i64 (-1))], hr, ⟨⟨_, rfl, .data _ trivial⟩, trivial⟩, by decide, by cases H; rfl⟩
      · replace H := ite_f hc H
        refine aw_skip ?_
        refine nx_seq ?_
        refine aw_seq ?_
        refine aw_region (es := [_, _, _]) ⟨Step.plain rfl (does_move (.tmp 0) (.int .i64 p0) trivial), ⟨⟨rfl, trivial⟩, trivial, rfl⟩, rfl,
          Step.plain rfl (does_move (.tmp 1) (.int .i64 p1) trivial), ⟨⟨rfl, trivial⟩, trivial, rfl⟩, rfl,
          Step.plain rfl (does_bin .gtr 3 3 (.tmp 17) (.tmp 18) .i64 p0 p1 (.bool (decide (p0 > p1))) trivial trivial (bin_gtr _ _ _ _)), ⟨⟨rfl, rfl, trivial⟩, trivial, rfl⟩, rfl, rfl⟩ ?_
        refine aw_cov (cov_prune (s1 := ⟨[(19, (.bool (decide (p0 > p1))))], [], 0⟩) ⟨rfl, trivial⟩ trivial (Nat.le_refl _)) ?_
        refine aw_cond rfl (fun hc => ?_) (fun hc => ?_)
        · replace H := ite_t hc H
          refine aw_region (es := [_]) ⟨Step.plain rfl (does_assign (.const (.int .i64 1)) (.int .i64 1) (fun _ => rfl)), ⟨trivial, trivial, rfl⟩, rfl, rfl⟩ ?_
          refine aw_cov (cov_prune (s1 := ⟨[(4, (.int .i64 1))], [], 0⟩) ⟨rfl, trivial⟩ trivial (Nat.le_refl _)) ?_
          refine aw_ret ?_
          refine rt_then ?_
          exact fun a w hr => ⟨_, [(.int .i64 1)], hr, ⟨⟨_, rfl, .data _ trivial⟩, trivial⟩, by decide, by cases H; rfl⟩
        · replace H := ite_f hc H
          refine aw_skip ?_
          refine nx_seq ?_
          refine aw_region (es := [_]) ⟨Step.plain rfl (does_assign (.const (.int .i64 0)) (.int .i64 0) (fun _ => rfl)), ⟨trivial, trivial, rfl⟩, rfl, rfl⟩ ?_
          refine aw_cov (cov_prune (s1 := ⟨[(4, (.int .i64 0))], [], 0⟩) ⟨rfl, trivial⟩ trivial (Nat.le_refl _)) ?_
          refine aw_ret ?_
          exact fun a w hr => ⟨_, [(.int .i64 0)], hr, ⟨⟨_, rfl, .data _ trivial⟩, trivial⟩, by decide, by cases H; rfl⟩

theorem cmp_Or_int_spec (p0 : (_root_.List Int)) (r : Int) (H : cmp_Or_int p0 = some r) : FSpec Try.prog 24 [(e_s_i64 p0)] (.int .i64 r) := by
  refine spec_of (fn := Try.f24) (args := [(e_s_i64 p0)]) Try.func24 rfl (Nat.le_of_ble_eq_true rfl) ?_
  rintro ⟨G, w0, W, S, Sp⟩ hG
  cases hG
  unfold cmp_Or_int at H
  refine aw_region (es := [_]) ⟨Step.plain rfl (does_assign (.const (.int .i64 0)) (.int .i64 0) (fun _ => rfl)), ⟨trivial, trivial, rfl⟩, rfl, rfl⟩ ?_
  refine aw_cov (cov_prune (s1 := ⟨[(0, (e_s_i64 p0))], [], 0⟩) ⟨rfl, trivial⟩ trivial (Nat.le_refl _)) ?_
  refine aw_region (es := [_]) ⟨Step.plain rfl (does_assign (.const (.int .i64 0)) (.int .i64 0) (fun _ => rfl)), ⟨trivial, trivial, rfl⟩, rfl, rfl⟩ ?_
  refine aw_cov (cov_prune (s1 := ⟨[(0, (e_s_i64 p0)), (3, (.int .i64 0))], [], 0⟩) ⟨rfl, rfl, trivial⟩ trivial (Nat.le_refl _)) ?_
  refine aw_seq ?_
  refine aw_region (es := [_, _, _]) ⟨Step.plain rfl (does_move (.tmp 0) (e_s_i64 p0) trivial), ⟨⟨rfl, trivial⟩, trivial, rfl⟩, rfl,
    Step.plain rfl (does_lens 50 1 p0.length 6 (fun j => (.int .i64 (p0.getD j 0))) el50), ⟨⟨rfl, trivial⟩, trivial, rfl⟩, rfl,
    Step.plain rfl (does_move (.const (.int .i64 0)) (.int .i64 0) (fun _ => rfl)), ⟨trivial, trivial, rfl⟩, rfl, rfl⟩ ?_
  refine aw_cov (cov_prune (s1 := ⟨[(3, (.int .i64 0)), (6, (e_s_i64 p0)), (7, (.int .i64 (p0.length : Int))), (8, (.int .i64 0))], [], 0⟩) ⟨rfl, rfl, rfl, rfl, trivial⟩ trivial (Nat.le_refl _)) ?_
  obtain ⟨wn2, hwn2, Hrn2⟩ := bnd H
  refine aw_meet (fun y4 : Unit => (⟨[(3, (.int .i64 0))], [], 0⟩ : St)) (fun y4 => Fl.nx y4 = wn2) (fun y4 hy => ?_) (aw_block (aw_runs (fun x1 : Int => (⟨[(3, (.int .i64 0)), (6, (e_s_i64 p0)), (7, (.int .i64 (p0.length : Int))), (8, (.int .i64 x1))], [], 0⟩ : St)) hwn2 (cov_prune ⟨rfl, rfl, rfl, rfl, trivial⟩ trivial (Nat.le_of_ble_eq_true rfl)) (fun x1 st H hsn2 => ?_)))
  · have H := nx_of hy Hrn2
    refine nx_seq ?_
    refine aw_region (es := [_, _]) ⟨Step.plain rfl (does_move (.tmp 3) (.int .i64 0) trivial), ⟨⟨rfl, trivial⟩, trivial, rfl⟩, rfl,
      Step.plain rfl (does_assign (.tmp 17) (.int .i64 0) trivial), ⟨⟨rfl, trivial⟩, trivial, rfl⟩, rfl, rfl⟩ ?_
    refine aw_cov (cov_prune (s1 := ⟨[(2, (.int .i64 0))], [], 0⟩) ⟨rfl, trivial⟩ trivial (Nat.le_refl _)) ?_
    refine aw_ret ?_
    exact fun a w hr => ⟨_, [(.int .i64 0)], hr, ⟨⟨_, rfl, .data _ trivial⟩, trivial⟩, by decide, by cases H; rfl⟩
  · refine aw_region (es := [_]) ⟨Step.plain rfl (does_bin .lss 3 3 (.tmp 8) (.tmp 7) .i64 x1 (p0.length : Int) (.bool (decide (x1 < (p0.length : Int)))) trivial trivial (bin_lss _ _ _ _)), ⟨⟨rfl, rfl, trivial⟩, trivial, rfl⟩, rfl, rfl⟩ ?_
    refine aw_cov (cov_prune (s1 := ⟨[(3, (.int .i64 0)), (6, (e_s_i64 p0)), (7, (.int .i64 (p0.length : Int))), (8, (.int .i64 x1)), (9, (.bool (decide (x1 < (p0.length : Int)))))], [], 0⟩) ⟨rfl, rfl, rfl, rfl, rfl, trivial⟩ trivial (Nat.le_refl _)) ?_
    refine aw_seq ?_
    refine aw_cond rfl (fun hc => ?_) (fun hc => ?_)
    · replace H := ite_t hc H
      refine aw_skip ?_
      refine nx_seq ?_
      refine aw_seq ?_
      refine aw_block ?_
      obtain ⟨h3, H⟩ := ib_of H
      refine aw_region (es := [_, _, _]) ⟨Step.plain rfl (does_indexAddrs 50 1 p0.length 6 (fun j => (.int .i64 (p0.getD j 0))) (.tmp 8) .i64 x1 el50 trivial h3.1 h3.2), ⟨⟨rfl, rfl, trivial⟩, trivial, rfl⟩, rfl,
        Step.plain rfl (does_loadc 3 10 (.int .i64 (p0.getD x1.toNat 0)) ty3), ⟨⟨rfl, trivial⟩, trivial, rfl⟩, rfl,
        Step.plain rfl (does_assign (.tmp 11) (.int .i64 (p0.getD x1.toNat 0)) trivial), ⟨⟨rfl, trivial⟩, trivial, rfl⟩, rfl, rfl⟩ ?_
      refine aw_cov (cov_prune (s1 := ⟨[(3, (.int .i64 0)), (6, (e_s_i64 p0)), (7, (.int .i64 (p0.length : Int))), (8, (.int .i64 x1)), (5, (.int .i64 (p0.getD x1.toNat 0)))], [], 0⟩) ⟨rfl, rfl, rfl, rfl, rfl, trivial⟩ trivial (Nat.le_refl _)) ?_
      refine aw_region (es := [_, _, _]) ⟨Step.plain rfl (does_move (.tmp 5) (.int .i64 (p0.getD x1.toNat 0)) trivial), ⟨⟨rfl, trivial⟩, trivial, rfl⟩, rfl,
        Step.plain rfl (does_move (.tmp 3) (.int .i64 0) trivial), ⟨⟨rfl, trivial⟩, trivial, rfl⟩, rfl,
        Step.plain rfl (does_bin .neq 3 3 (.tmp 12) (.tmp 13) .i64 (p0.getD x1.toNat 0) 0 (.bool ((p0.getD x1.toNat 0) != 0)) trivial trivial (bin_neq _ _ _ _)), ⟨⟨rfl, rfl, trivial⟩, trivial, rfl⟩, rfl, rfl⟩ ?_
      refine aw_cov (cov_prune (s1 := ⟨[(3, (.int .i64 0)), (6, (e_s_i64 p0)), (7, (.int .i64 (p0.length : Int))), (8, (.int .i64 x1)), (5, (.int .i64 (p0.getD x1.toNat 0))), (14, (.bool ((p0.getD x1.toNat 0) != 0)))], [], 0⟩) ⟨rfl, rfl, rfl, rfl, rfl, rfl, trivial⟩ trivial (Nat.le_refl _)) ?_
      refine aw_cond rfl (fun hc => ?_) (fun hc => ?_)
      · replace H := ite_t hc H
        refine aw_region (es := [_, _]) ⟨Step.plain rfl (does_move (.tmp 5) (.int .i64 (p0.getD x1.toNat 0)) trivial), ⟨⟨rfl, trivial⟩, trivial, rfl⟩, rfl,
          Step.plain rfl (does_assign (.tmp 15) (.int .i64 (p0.getD x1.toNat 0)) trivial), ⟨⟨rfl, trivial⟩, trivial, rfl⟩, rfl, rfl⟩ ?_
        refine aw_cov (cov_prune (s1 := ⟨[(2, (.int .i64 (p0.getD x1.toNat 0)))], [], 0⟩) ⟨rfl, trivial⟩ trivial (Nat.le_refl _)) ?_
        refine aw_ret ?_
        replace H := rt_of H hsn2 Hrn2
        refine rt_blk ?_
        refine rt_then ?_
        refine rt_then ?_
        refine rt_blk ?_
        refine rt_then ?_
        refine rt_then ?_
        exact fun a w hr => ⟨_, [(.int .i64 (p0.getD x1.toNat 0))], hr, ⟨⟨_, rfl, .data _ trivial⟩, trivial⟩, by decide, by cases H; rfl⟩
      · replace H := ite_f hc H
        refine aw_skip ?_
        refine nx_blk ?_
        refine nx_seq ?_
        refine aw_region1 (es := [_, _]) ⟨Step.plain rfl (does_bin .add 3 3 (.tmp 8) (.const (.int .i64 1)) .i64 x1 1 (.int .i64 (IntKind.i64.wrap (x1 + 1))) trivial (fun _ => rfl) (bin_add _ _ _ _)), ⟨⟨rfl, trivial⟩, trivial, rfl⟩, rfl,
          Step.plain rfl (does_move (.tmp 16) (.int .i64 (IntKind.i64.wrap (x1 + 1))) trivial), ⟨⟨rfl, trivial⟩, trivial, rfl⟩, rfl, rfl⟩ ?_
        exact nx_loop ((IntKind.i64.wrap (x1 + 1))) H (cov_prune ⟨rfl, rfl, rfl, rfl, trivial⟩ trivial (Nat.le_of_ble_eq_true rfl))
    · replace H := ite_f hc H
      refine aw_exit ?_
      refine ex_then ?_
      refine ex_then ?_
      refine ex_here ?_
      exact nx_ljoin () H hsn2 (cov_prune ⟨rfl, trivial⟩ trivial (Nat.le_of_ble_eq_true rfl))

theorem round_Before_spec (p0 : api_Place) (p1 : api_Place) (r : Bool) (H : round_Before p0 p1 = some r) : FSpec Try.prog 15 [(e_api_Place p0), (e_api_Place p1)] (.bool r) := by
  refine spec_of (fn := Try.f15) (args := [(e_api_Place p0), (e_api_Place p1)]) Try.func15 rfl (Nat.le_of_ble_eq_true rfl) ?_
  rintro ⟨G, w0, W, S, Sp⟩ hG
  cases hG
  unfold round_Before at H
  refine aw_region (es := [_, _, _]) ⟨Step.plain rfl (does_box 27 (.tmp 0) 0 (e_api_Place p0) trivial rfl), ⟨⟨rfl, trivial⟩, trivial, rfl⟩, rfl,
    Step.plain rfl (does_box 27 (.tmp 1) 1 (e_api_Place p1) trivial rfl), ⟨⟨rfl, trivial⟩, trivial, rfl⟩, rfl,
    Step.plain rfl (does_assign (.const (.bool false)) (.bool false) (fun _ => rfl)), ⟨trivial, trivial, rfl⟩, rfl, rfl⟩ ?_
  refine aw_cov (cov_prune (s1 := ⟨[(2, (.ptr 0 0 [])), (3, (.ptr 1 0 []))], [(0, some (.var (e_api_Place p0))), (1, some (.var (e_api_Place p1)))], 2⟩) ⟨rfl, rfl, trivial⟩ ⟨rfl, rfl, trivial⟩ (Nat.le_refl _)) ?_
  obtain ⟨v1, h2, H⟩ := bnd H
  obtain ⟨v3, h4, H⟩ := bnd H
  obtain ⟨v5, h6, H⟩ := bnd H
  obtain ⟨v7, h8, H⟩ := bnd H
  refine aw_draw (es := [_, _, _, _, _, _, _, _, _, _, _, _, _, _, _, _, _, _, _]) (mixed) ⟨Step.plain rfl (does_fieldAddr 27 0 0 2 0 0 [] (.var (e_api_Place p0)) fl27_0), ⟨⟨rfl, trivial⟩, ⟨rfl, trivial⟩, rfl⟩, rfl,
    Step.plain rfl (does_load 22 5 0 (0 + 0) [0] (.var (e_api_Place p0)) (.int .u32 p0.Round) ⟨rfl, Nat.le_of_ble_eq_true rfl, trivial⟩ rfl rfl ty22), ⟨⟨rfl, trivial⟩, ⟨rfl, trivial⟩, rfl⟩, rfl,
    Step.plain rfl (does_fieldAddr 27 0 0 3 1 0 [] (.var (e_api_Place p1)) fl27_0), ⟨⟨rfl, trivial⟩, ⟨rfl, trivial⟩, rfl⟩, rfl,
    Step.plain rfl (does_load 22 7 1 (0 + 0) [0] (.var (e_api_Place p1)) (.int .u32 p1.Round) ⟨rfl, Nat.le_of_ble_eq_true rfl, trivial⟩ rfl rfl ty22), ⟨⟨rfl, trivial⟩, ⟨rfl, trivial⟩, rfl⟩, rfl,
    Step.plain rfl (does_call 25 0 (fun _ => .any) (.func 25) [(.tmp 6), (.tmp 8)] [(.int .u32 p0.Round), (.int .u32 p1.Round)] [] true [(.int .u32 p0.Round), (.int .u32 p1.Round)] (.int .i64 v1) _ _ rfl fo25 rfl ⟨trivial, trivial, trivial⟩ ⟨.data _ trivial, .data _ trivial, trivial⟩ (cmp_Compare_uint32_spec p0.Round p1.Round _ h2) trivial), ⟨⟨rfl, rfl, trivial⟩, trivial, rfl⟩, rfl,
    Step.plain rfl (does_fieldAddr 27 1 1 2 0 0 [] (.var (e_api_Place p0)) fl27_1), ⟨⟨rfl, trivial⟩, ⟨rfl, trivial⟩, rfl⟩, rfl,
    Step.plain rfl (does_load 3 10 0 (0 + 1) [1] (.var (e_api_Place p0)) (.int .i64 p0.From) ⟨rfl, Nat.le_of_ble_eq_true rfl, trivial⟩ rfl rfl ty3), ⟨⟨rfl, trivial⟩, ⟨rfl, trivial⟩, rfl⟩, rfl,
    Step.plain rfl (does_fieldAddr 27 1 1 3 1 0 [] (.var (e_api_Place p1)) fl27_1), ⟨⟨rfl, trivial⟩, ⟨rfl, trivial⟩, rfl⟩, rfl,
    Step.plain rfl (does_load 3 12 1 (0 + 1) [1] (.var (e_api_Place p1)) (.int .i64 p1.From) ⟨rfl, Nat.le_of_ble_eq_true rfl, trivial⟩ rfl rfl ty3), ⟨⟨rfl, trivial⟩, ⟨rfl, trivial⟩, rfl⟩, rfl,
    Step.plain rfl (does_call 26 0 (fun _ => .any) (.func 26) [(.tmp 11), (.tmp 13)] [(.int .i64 p0.From), (.int .i64 p1.From)] [] true [(.int .i64 p0.From), (.int .i64 p1.From)] (.int .i64 v3) _ _ rfl fo26 rfl ⟨trivial, trivial, trivial⟩ ⟨.data _ trivial, .data _ trivial, trivial⟩ (cmp_Compare_int_spec p0.From p1.From _ h4) trivial), ⟨⟨rfl, rfl, trivial⟩, trivial, rfl⟩, rfl,
    Step.plain rfl (does_fieldAddr 27 2 2 2 0 0 [] (.var (e_api_Place p0)) fl27_2), ⟨⟨rfl, trivial⟩, ⟨rfl, trivial⟩, rfl⟩, rfl,
    Step.plain rfl (does_load 3 15 0 (0 + 2) [2] (.var (e_api_Place p0)) (.int .i64 p0.Slot) ⟨rfl, Nat.le_of_ble_eq_true rfl, trivial⟩ rfl rfl ty3), ⟨⟨rfl, trivial⟩, ⟨rfl, trivial⟩, rfl⟩, rfl,
    Step.plain rfl (does_fieldAddr 27 2 2 3 1 0 [] (.var (e_api_Place p1)) fl27_2), ⟨⟨rfl, trivial⟩, ⟨rfl, trivial⟩, rfl⟩, rfl,
    Step.plain rfl (does_load 3 17 1 (0 + 2) [2] (.var (e_api_Place p1)) (.int .i64 p1.Slot) ⟨rfl, Nat.le_of_ble_eq_true rfl, trivial⟩ rfl rfl ty3), ⟨⟨rfl, trivial⟩, ⟨rfl, trivial⟩, rfl⟩, rfl,
    Step.plain rfl (does_call 26 0 (fun _ => .any) (.func 26) [(.tmp 16), (.tmp 18)] [(.int .i64 p0.Slot), (.int .i64 p1.Slot)] [] true [(.int .i64 p0.Slot), (.int .i64 p1.Slot)] (.int .i64 v5) _ _ rfl fo26 rfl ⟨trivial, trivial, trivial⟩ ⟨.data _ trivial, .data _ trivial, trivial⟩ (cmp_Compare_int_spec p0.Slot p1.Slot _ h6) trivial), ⟨⟨rfl, rfl, trivial⟩, trivial, rfl⟩, rfl,
    Step.plain rfl (does_buildSl 50 3 1 (.int .i64 0) (fun j => (.int .i64 (([v1, v3, v5] : _root_.List Int).getD j 0))) #[(0, (.tmp 9)), (1, (.tmp 14)), (2, (.tmp 19))] [(0, (.tmp 9)), (1, (.tmp 14)), (2, (.tmp 19))] [(0, (.int .i64 v1)), (1, (.int .i64 v3)), (2, (.int .i64 v5))] rfl so50 (by decide) ⟨⟨rfl, trivial⟩, ⟨rfl, trivial⟩, ⟨rfl, trivial⟩, trivial⟩ ⟨⟨Nat.le_of_ble_eq_true rfl, rfl, rfl⟩, ⟨Nat.le_of_ble_eq_true rfl, rfl, rfl⟩, ⟨Nat.le_of_ble_eq_true rfl, rfl, rfl⟩, trivial⟩ (fun j h => match j, h with | 0, _ => rfl | 1, _ => rfl | 2, _ => rfl | k + 3, h => absurd h (by omega))), ⟨⟨rfl, rfl, rfl, trivial⟩, trivial, rfl⟩, rfl,
    Step.plain rfl (does_call 24 0 (fun _ => .any) (.func 24) [(.tmp 20)] [(e_s_i64 ([v1, v3, v5] : _root_.List Int))] [] true [(e_s_i64 ([v1, v3, v5] : _root_.List Int))] (.int .i64 v7) _ _ rfl fo24 rfl ⟨trivial, trivial⟩ ⟨.data _ (d_s_i64 ([v1, v3, v5] : _root_.List Int)), trivial⟩ (cmp_Or_int_spec ([v1, v3, v5] : _root_.List Int) _ h8) trivial), ⟨⟨rfl, trivial⟩, trivial, rfl⟩, rfl,
    Step.plain rfl (does_bin .lss 3 3 (.tmp 21) (.const (.int .i64 0)) .i64 v7 0 (.bool (decide (v7 < 0))) trivial (fun _ => rfl) (bin_lss _ _ _ _)), ⟨⟨rfl, trivial⟩, trivial, rfl⟩, rfl,
    Step.plain rfl (does_assign (.tmp 22) (.bool (decide (v7 < 0))) trivial), ⟨⟨rfl, trivial⟩, trivial, rfl⟩, rfl, rfl⟩ rfl ?_
  refine aw_cov (cov_prune (s1 := ⟨[(4, (.bool (decide (v7 < 0))))], [], 2⟩) ⟨rfl, trivial⟩ trivial (Nat.le_refl _)) ?_
  refine aw_ret ?_
  exact fun a w hr => ⟨_, [(.bool (decide (v7 < 0)))], hr, ⟨⟨_, rfl, .data _ trivial⟩, trivial⟩, by decide, by cases H; rfl⟩

theorem congressref09_Before_spec (p0 : api_Place) (p1 : api_Place) (r : Bool) (H : congressref09_Before p0 p1 = some r) : FSpec Try.prog 16 [(e_api_Place p0), (e_api_Place p1)] (.bool r) := by
  refine spec_of (fn := Try.f16) (args := [(e_api_Place p0), (e_api_Place p1)]) Try.func16 rfl (Nat.le_of_ble_eq_true rfl) ?_
  rintro ⟨G, w0, W, S, Sp⟩ hG
  cases hG
  unfold congressref09_Before at H
  refine aw_region (es := [_, _, _]) ⟨Step.plain rfl (does_box 27 (.tmp 0) 0 (e_api_Place p0) trivial rfl), ⟨⟨rfl, trivial⟩, trivial, rfl⟩, rfl,
    Step.plain rfl (does_box 27 (.tmp 1) 1 (e_api_Place p1) trivial rfl), ⟨⟨rfl, trivial⟩, trivial, rfl⟩, rfl,
    Step.plain rfl (does_assign (.const (.bool false)) (.bool false) (fun _ => rfl)), ⟨trivial, trivial, rfl⟩, rfl, rfl⟩ ?_
  refine aw_cov (cov_prune (s1 := ⟨[(2, (.ptr 0 0 [])), (3, (.ptr 1 0 []))], [(0, some (.var (e_api_Place p0))), (1, some (.var (e_api_Place p1)))], 2⟩) ⟨rfl, rfl, trivial⟩ ⟨rfl, rfl, trivial⟩ (Nat.le_refl _)) ?_
  refine aw_seq ?_
  refine aw_region (es := [_, _, _, _, _]) ⟨Step.plain rfl (does_fieldAddr 27 0 0 2 0 0 [] (.var (e_api_Place p0)) fl27_0), ⟨⟨rfl, trivial⟩, ⟨rfl, trivial⟩, rfl⟩, rfl,
    Step.plain rfl (does_load 22 5 0 (0 + 0) [0] (.var (e_api_Place p0)) (.int .u32 p0.Round) ⟨rfl, Nat.le_of_ble_eq_true rfl, trivial⟩ rfl rfl ty22), ⟨⟨rfl, trivial⟩, ⟨rfl, trivial⟩, rfl⟩, rfl,
    Step.plain rfl (does_fieldAddr 27 0 0 3 1 0 [] (.var (e_api_Place p1)) fl27_0), ⟨⟨rfl, trivial⟩, ⟨rfl, trivial⟩, rfl⟩, rfl,
    Step.plain rfl (does_load 22 7 1 (0 + 0) [0] (.var (e_api_Place p1)) (.int .u32 p1.Round) ⟨rfl, Nat.le_of_ble_eq_true rfl, trivial⟩ rfl rfl ty22), ⟨⟨rfl, trivial⟩, ⟨rfl, trivial⟩, rfl⟩, rfl,
    Step.plain rfl (does_bin .neq 22 22 (.tmp 6) (.tmp 8) .u32 p0.Round p1.Round (.bool (p0.Round != p1.Round)) trivial trivial (bin_neq _ _ _ _)), ⟨⟨rfl, rfl, trivial⟩, trivial, rfl⟩, rfl, rfl⟩ ?_
  refine aw_cov (cov_prune (s1 := ⟨[(2, (.ptr 0 0 [])), (3, (.ptr 1 0 [])), (9, (.bool (p0.Round != p1.Round)))], [(0, some (.var (e_api_Place p0))), (1, some (.var (e_api_Place p1)))], 2⟩) ⟨rfl, rfl, rfl, trivial⟩ ⟨rfl, rfl, trivial⟩ (Nat.le_refl _)) ?_
  refine aw_cond rfl (fun hc => ?_) (fun hc => ?_)
  · replace H := ite_t hc H
    refine aw_region (es := [_, _, _, _, _, _]) ⟨Step.plain rfl (does_fieldAddr 27 0 0 2 0 0 [] (.var (e_api_Place p0)) fl27_0), ⟨⟨rfl, trivial⟩, ⟨rfl, trivial⟩, rfl⟩, rfl,
      Step.plain rfl (does_load 22 10 0 (0 + 0) [0] (.var (e_api_Place p0)) (.int .u32 p0.Round) ⟨rfl, Nat.le_of_ble_eq_true rfl, trivial⟩ rfl rfl ty22), ⟨⟨rfl, trivial⟩, ⟨rfl, trivial⟩, rfl⟩, rfl,
      Step.plain rfl (does_fieldAddr 27 0 0 3 1 0 [] (.var (e_api_Place p1)) fl27_0), ⟨⟨rfl, trivial⟩, ⟨rfl, trivial⟩, rfl⟩, rfl,
      Step.plain rfl (does_load 22 12 1 (0 + 0) [0] (.var (e_api_Place p1)) (.int .u32 p1.Round) ⟨rfl, Nat.le_of_ble_eq_true rfl, trivial⟩ rfl rfl ty22), ⟨⟨rfl, trivial⟩, ⟨rfl, trivial⟩, rfl⟩, rfl,
      Step.plain rfl (does_bin .lss 22 22 (.tmp 11) (.tmp 13) .u32 p0.Round p1.Round (.bool (decide (p0.Round < p1.Round))) trivial trivial (bin_lss _ _ _ _)), ⟨⟨rfl, rfl, trivial⟩, trivial, rfl⟩, rfl,
      Step.plain rfl (does_assign (.tmp 14) (.bool (decide (p0.Round < p1.Round))) trivial), ⟨⟨rfl, trivial⟩, trivial, rfl⟩, rfl, rfl⟩ ?_
    refine aw_cov (cov_prune (s1 := ⟨[(4, (.bool (decide (p0.Round < p1.Round))))], [], 2⟩) ⟨rfl, trivial⟩ trivial (Nat.le_refl _)) ?_
    refine aw_ret ?_
    refine rt_then ?_
    exact fun a w hr => ⟨_, [(.bool (decide (p0.Round < p1.Round)))], hr, ⟨⟨_, rfl, .data _ trivial⟩, trivial⟩, by decide, by cases H; rfl⟩
  · replace H := ite_f hc H
    refine aw_skip ?_
    refine nx_seq ?_
    refine aw_seq ?_
    refine aw_region (es := [_, _, _, _, _]) ⟨Step.plain rfl (does_fieldAddr 27 1 1 2 0 0 [] (.var (e_api_Place p0)) fl27_1), ⟨⟨rfl, trivial⟩, ⟨rfl, trivial⟩, rfl⟩, rfl,
      Step.plain rfl (does_load 3 15 0 (0 + 1) [1] (.var (e_api_Place p0)) (.int .i64 p0.From) ⟨rfl, Nat.le_of_ble_eq_true rfl, trivial⟩ rfl rfl ty3), ⟨⟨rfl, trivial⟩, ⟨rfl, trivial⟩, rfl⟩, rfl,
      Step.plain rfl (does_fieldAddr 27 1 1 3 1 0 [] (.var (e_api_Place p1)) fl27_1), ⟨⟨rfl, trivial⟩, ⟨rfl, trivial⟩, rfl⟩, rfl,
      Step.plain rfl (does_load 3 17 1 (0 + 1) [1] (.var (e_api_Place p1)) (.int .i64 p1.From) ⟨rfl, Nat.le_of_ble_eq_true rfl, trivial⟩ rfl rfl ty3), ⟨⟨rfl, trivial⟩, ⟨rfl, trivial⟩, rfl⟩, rfl,
      Step.plain rfl (does_bin .neq 3 3 (.tmp 16) (.tmp 18) .i64 p0.From p1.From (.bool (p0.From != p1.From)) trivial trivial (bin_neq _ _ _ _)), ⟨⟨rfl, rfl, trivial⟩, trivial, rfl⟩, rfl, rfl⟩ ?_
    refine aw_cov (cov_prune (s1 := ⟨[(2, (.ptr 0 0 [])), (3, (.ptr 1 0 [])), (19, (.bool (p0.From != p1.From)))], [(0, some (.var (e_api_Place p0))), (1, some (.var (e_api_Place p1)))], 2⟩) ⟨rfl, rfl, rfl, trivial⟩ ⟨rfl, rfl, trivial⟩ (Nat.le_refl _)) ?_
    refine aw_cond rfl (fun hc => ?_) (fun hc => ?_)
    · replace H := ite_t hc H
      refine aw_region (es := [_, _, _, _, _, _]) ⟨Step.plain rfl (does_fieldAddr 27 1 1 2 0 0 [] (.var (e_api_Place p0)) fl27_1), ⟨⟨rfl, trivial⟩, ⟨rfl, trivial⟩, rfl⟩, rfl,
        Step.plain rfl (does_load 3 20 0 (0 + 1) [1] (.var (e_api_Place p0)) (.int .i64 p0.From) ⟨rfl, Nat.le_of_ble_eq_true rfl, trivial⟩ rfl rfl ty3), ⟨⟨rfl, trivial⟩, ⟨rfl, trivial⟩, rfl⟩, rfl,
        Step.plain rfl (does_fieldAddr 27 1 1 3 1 0 [] (.var (e_api_Place p1)) fl27_1), ⟨⟨rfl, trivial⟩, ⟨rfl, trivial⟩, rfl⟩, rfl,
        Step.plain rfl (does_load 3 22 1 (0 + 1) [1] (.var (e_api_Place p1)) (.int .i64 p1.From) ⟨rfl, Nat.le_of_ble_eq_true rfl, trivial⟩ rfl rfl ty3), ⟨⟨rfl, trivial⟩, ⟨rfl, trivial⟩, rfl⟩, rfl,
        Step.plain rfl (does_bin .lss 3 3 (.tmp 21) (.tmp 23) .i64 p0.From p1.From (.bool (decide (p0.From < p1.From))) trivial trivial (bin_lss _ _ _ _)), ⟨⟨rfl, rfl, trivial⟩, trivial, rfl⟩, rfl,
        Step.plain rfl (does_assign (.tmp 24) (.bool (decide (p0.From < p1.From))) trivial), ⟨⟨rfl, trivial⟩, trivial, rfl⟩, rfl, rfl⟩ ?_
      refine aw_cov (cov_prune (s1 := ⟨[(4, (.bool (decide (p0.From < p1.From))))], [], 2⟩) ⟨rfl, trivial⟩ trivial (Nat.le_refl _)) ?_
      refine aw_ret ?_
      refine rt_then ?_
      exact fun a w hr => ⟨_, [(.bool (decide (p0.From < p1.From)))], hr, ⟨⟨_, rfl, .data _ trivial⟩, trivial⟩, by decide, by cases H; rfl⟩
    · replace H := ite_f hc H
      refine aw_skip ?_
      refine nx_seq ?_
      refine aw_region (es := [_, _, _, _, _, _]) ⟨Step.plain rfl (does_fieldAddr 27 2 2 2 0 0 [] (.var (e_api_Place p0)) fl27_2), ⟨⟨rfl, trivial⟩, ⟨rfl, trivial⟩, rfl⟩, rfl,
        Step.plain rfl (does_load 3 25 0 (0 + 2) [2] (.var (e_api_Place p0)) (.int .i64 p0.Slot) ⟨rfl, Nat.le_of_ble_eq_true rfl, trivial⟩ rfl rfl ty3), ⟨⟨rfl, trivial⟩, ⟨rfl, trivial⟩, rfl⟩, rfl,
        Step.plain rfl (does_fieldAddr 27 2 2 3 1 0 [] (.var (e_api_Place p1)) fl27_2), ⟨⟨rfl, trivial⟩, ⟨rfl, trivial⟩, rfl⟩, rfl,
        Step.plain rfl (does_load 3 27 1 (0 + 2) [2] (.var (e_api_Place p1)) (.int .i64 p1.Slot) ⟨rfl, Nat.le_of_ble_eq_true rfl, trivial⟩ rfl rfl ty3), ⟨⟨rfl, trivial⟩, ⟨rfl, trivial⟩, rfl⟩, rfl,
        Step.plain rfl (does_bin .lss 3 3 (.tmp 26) (.tmp 28) .i64 p0.Slot p1.Slot (.bool (decide (p0.Slot < p1.Slot))) trivial trivial (bin_lss _ _ _ _)), ⟨⟨rfl, rfl, trivial⟩, trivial, rfl⟩, rfl,
        Step.plain rfl (does_assign (.tmp 29) (.bool (decide (p0.Slot < p1.Slot))) trivial), ⟨⟨rfl, trivial⟩, trivial, rfl⟩, rfl, rfl⟩ ?_
      refine aw_cov (cov_prune (s1 := ⟨[(4, (.bool (decide (p0.Slot < p1.Slot))))], [], 2⟩) ⟨rfl, trivial⟩ trivial (Nat.le_refl _)) ?_
      refine aw_ret ?_
      exact fun a w hr => ⟨_, [(.bool (decide (p0.Slot < p1.Slot)))], hr, ⟨⟨_, rfl, .data _ trivial⟩, trivial⟩, by decide, by cases H; rfl⟩

theorem congressref09_Position_spec (p0 : (Nat → Int)) (p1 : (Nat → Int)) (r : api_Place) (H : congressref09_Position p0 p1 = some r) : FSpec Try.prog 18 [(e_a8_u32 p0), (e_a8_u32 p1)] (e_api_Place r) := by
  refine spec_of (fn := Try.f18) (args := [(e_a8_u32 p0), (e_a8_u32 p1)]) Try.func18 rfl (Nat.le_of_ble_eq_true rfl) ?_
  rintro ⟨G, w0, W, S, Sp⟩ hG
  cases hG
  unfold congressref09_Position at H
  refine aw_region (es := [_, _, _]) ⟨Step.plain rfl (does_box 24 (.tmp 0) 0 (e_a8_u32 p0) trivial rfl), ⟨⟨rfl, trivial⟩, trivial, rfl⟩, rfl,
    Step.plain rfl (does_box 25 (.tmp 1) 1 (e_a8_u32 p1) trivial rfl), ⟨⟨rfl, trivial⟩, trivial, rfl⟩, rfl,
    Step.plain rfl (does_alloc 27 2 (e_api_Place z_api_Place) zr27), ⟨trivial, trivial, rfl⟩, rfl, rfl⟩ ?_
  refine aw_cov (cov_prune (s1 := ⟨[(2, (.ptr 0 0 [])), (3, (.ptr 1 0 [])), (4, (.ptr 2 0 []))], [(0, some (.var (e_a8_u32 p0))), (1, some (.var (e_a8_u32 p1))), (2, some (.var (e_api_Place z_api_Place)))], 3⟩) ⟨rfl, rfl, rfl, trivial⟩ ⟨rfl, rfl, rfl, trivial⟩ (Nat.le_refl _)) ?_
  obtain ⟨v1, h2, H⟩ := bnd H
  refine aw_region (es := [_, _, _, _, _, _, _, _]) ⟨Step.plain rfl (does_load 24 2 0 0 [] (.var (e_a8_u32 p0)) (e_a8_u32 p0) trivial rfl rfl ty24), ⟨⟨rfl, trivial⟩, ⟨rfl, trivial⟩, rfl⟩, rfl,
    Step.plain rfl (does_load 25 3 1 0 [] (.var (e_a8_u32 p1)) (e_a8_u32 p1) trivial rfl rfl ty25), ⟨⟨rfl, trivial⟩, ⟨rfl, trivial⟩, rfl⟩, rfl,
    Step.plain rfl (does_call 13 0 (fun _ => .any) (.func 13) [(.tmp 11), (.tmp 12)] [(e_a8_u32 p0), (e_a8_u32 p1)] [] true [(e_a8_u32 p0), (e_a8_u32 p1)] (resV [(.int .u32 v1.1), (.bool v1.2)]) _ _ rfl fo13 rfl ⟨trivial, trivial, trivial⟩ ⟨.data _ (d_a8_u32 p0), .data _ (d_a8_u32 p1), trivial⟩ (congressref09_Least_spec p0 p1 _ h2) (res_flat2 trivial trivial)), ⟨⟨rfl, rfl, trivial⟩, trivial, rfl⟩, rfl,
    Step.plain rfl (does_move (.tmp 13) (resV [(.int .u32 v1.1), (.bool v1.2)]) trivial), ⟨⟨rfl, trivial⟩, trivial, rfl⟩, rfl,
    Step.plain rfl (does_extract 10 0 2 (fun j => [(.int .u32 v1.1), (.bool v1.2)].getD j (.bool false)) (Nat.le_of_ble_eq_true rfl)), ⟨⟨rfl, trivial⟩, trivial, rfl⟩, rfl,
    Step.plain rfl (does_extract 10 1 2 (fun j => [(.int .u32 v1.1), (.bool v1.2)].getD j (.bool false)) (Nat.le_of_ble_eq_true rfl)), ⟨⟨rfl, trivial⟩, trivial, rfl⟩, rfl,
    Step.plain rfl (does_assign (.tmp 14) (.int .u32 v1.1) trivial), ⟨⟨rfl, trivial⟩, trivial, rfl⟩, rfl,
    Step.plain rfl (does_assign (.tmp 15) (.bool v1.2) trivial), ⟨⟨rfl, trivial⟩, trivial, rfl⟩, rfl, rfl⟩ ?_
  refine aw_cov (cov_prune (s1 := ⟨[(2, (.ptr 0 0 [])), (3, (.ptr 1 0 [])), (4, (.ptr 2 0 [])), (5, (.int .u32 v1.1)), (6, (.bool v1.2))], [(0, some (.var (e_a8_u32 p0))), (1, some (.var (e_a8_u32 p1))), (2, some (.var (e_api_Place z_api_Place)))], 3⟩) ⟨rfl, rfl, rfl, rfl, rfl, trivial⟩ ⟨rfl, rfl, rfl, trivial⟩ (Nat.le_refl _)) ?_
  refine aw_seq ?_
  refine aw_region (es := [_, _]) ⟨Step.plain rfl (does_move (.tmp 6) (.bool v1.2) trivial), ⟨⟨rfl, trivial⟩, trivial, rfl⟩, rfl,
    Step.plain rfl (does_not 4 (.tmp 16) v1.2 trivial), ⟨⟨rfl, trivial⟩, trivial, rfl⟩, rfl, rfl⟩ ?_
  refine aw_cov (cov_prune (s1 := ⟨[(2, (.ptr 0 0 [])), (3, (.ptr 1 0 [])), (4, (.ptr 2 0 [])), (5, (.int .u32 v1.1)), (17, (.bool (!v1.2)))], [(0, some (.var (e_a8_u32 p0))), (1, some (.var (e_a8_u32 p1))), (2, some (.var (e_api_Place z_api_Place)))], 3⟩) ⟨rfl, rfl, rfl, rfl, rfl, trivial⟩ ⟨rfl, rfl, rfl, trivial⟩ (Nat.le_refl _)) ?_
  refine aw_cond rfl (fun hc => ?_) (fun hc => ?_)
  · replace H := ite_t hc H
    refine aw_region (es := [_, _]) ⟨Step.plain rfl (does_buildT 27 #[] [] [] (.st [1, 1, 1]) (c_api_Place z_api_Place) (c_api_Place ({ Round := 0, From := 0, Slot := 0 } : api_Place)) rfl bo27 trivial trivial (by funext j; match j with | 0 => rfl | 1 => rfl | 2 => rfl | _ + 3 => rfl)), ⟨trivial, trivial, rfl⟩, rfl,
      Step.plain rfl (does_store 27 4 (.tmp 18) 2 0 [] (.var (e_api_Place z_api_Place)) (.var (e_api_Place ({ Round := 0, From := 0, Slot := 0 } : api_Place))) (e_api_Place ({ Round := 0, From := 0, Slot := 0 } : api_Place)) true trivial rfl trivial rfl rfl rfl ty27), ⟨⟨rfl, rfl, trivial⟩, ⟨rfl, trivial⟩, rfl⟩, rfl, rfl⟩ ?_
    refine aw_cov (cov_prune (s1 := ⟨[(4, (.ptr 2 0 []))], [(2, some (.var (e_api_Place ({ Round := 0, From := 0, Slot := 0 } : api_Place))))], 3⟩) ⟨rfl, trivial⟩ ⟨rfl, trivial⟩ (Nat.le_refl _)) ?_
    refine aw_ret ?_
    refine rt_then ?_
    exact fun a w hr => ⟨_, [(e_api_Place ({ Round := 0, From := 0, Slot := 0 } : api_Place))], hr, ⟨⟨2, _, rfl, rfl, .data _ (d_api_Place ({ Round := 0, From := 0, Slot := 0 } : api_Place)), ty27⟩, trivial⟩, by decide, by cases H; rfl⟩
  · replace H := ite_f hc H
    refine aw_skip ?_
    refine nx_seq ?_
    refine aw_region (es := [_, _]) ⟨Step.plain rfl (does_move (.tmp 5) (.int .u32 v1.1) trivial), ⟨⟨rfl, trivial⟩, trivial, rfl⟩, rfl,
      Step.plain rfl (does_assign (.tmp 19) (.int .u32 v1.1) trivial), ⟨⟨rfl, trivial⟩, trivial, rfl⟩, rfl, rfl⟩ ?_
    refine aw_cov (cov_prune (s1 := ⟨[(2, (.ptr 0 0 [])), (3, (.ptr 1 0 [])), (4, (.ptr 2 0 [])), (5, (.int .u32 v1.1)), (7, (.int .u32 v1.1))], [(0, some (.var (e_a8_u32 p0))), (1, some (.var (e_a8_u32 p1))), (2, some (.var (e_api_Place z_api_Place)))], 3⟩) ⟨rfl, rfl, rfl, rfl, rfl, trivial⟩ ⟨rfl, rfl, rfl, trivial⟩ (Nat.le_refl _)) ?_
    refine aw_seq ?_
    refine aw_region (es := [_, _, _]) ⟨Step.plain rfl (does_move (.tmp 5) (.int .u32 v1.1) trivial), ⟨⟨rfl, trivial⟩, trivial, rfl⟩, rfl,
      Step.plain rfl (does_bin .add 22 22 (.tmp 20) (.const (.int .u32 1)) .u32 v1.1 1 (.int .u32 (IntKind.u32.wrap (v1.1 + 1))) trivial (fun _ => rfl) (bin_add _ _ _ _)), ⟨⟨rfl, trivial⟩, trivial, rfl⟩, rfl,
      Step.plain rfl (does_bin .neq 22 22 (.tmp 21) (.const (.int .u32 0)) .u32 (IntKind.u32.wrap (v1.1 + 1)) 0 (.bool ((IntKind.u32.wrap (v1.1 + 1)) != 0)) trivial (fun _ => rfl) (bin_neq _ _ _ _)), ⟨⟨rfl, trivial⟩, trivial, rfl⟩, rfl, rfl⟩ ?_
    refine aw_cov (cov_prune (s1 := ⟨[(2, (.ptr 0 0 [])), (3, (.ptr 1 0 [])), (4, (.ptr 2 0 [])), (5, (.int .u32 v1.1)), (7, (.int .u32 v1.1)), (22, (.bool ((IntKind.u32.wrap (v1.1 + 1)) != 0)))], [(0, some (.var (e_a8_u32 p0))), (1, some (.var (e_a8_u32 p1))), (2, some (.var (e_api_Place z_api_Place)))], 3⟩) ⟨rfl, rfl, rfl, rfl, rfl, rfl, trivial⟩ ⟨rfl, rfl, rfl, trivial⟩ (Nat.le_refl _)) ?_
    refine aw_jn (fun x4 : Int => (⟨[(2, (.ptr 0 0 [])), (3, (.ptr 1 0 [])), (4, (.ptr 2 0 [])), (5, (.int .u32 v1.1)), (7, (.int .u32 x4))], [(0, some (.var (e_a8_u32 p0))), (1, some (.var (e_a8_u32 p1))), (2, some (.var (e_api_Place z_api_Place)))], 3⟩ : St)) H (fun x4 H => ?_) (fun j3 H => ?_)
    · refine nx_seq ?_
      obtain ⟨v5, h6, H⟩ := bnd H
      refine aw_region (es := [_, _, _]) ⟨Step.plain rfl (does_load 25 3 1 0 [] (.var (e_a8_u32 p1)) (e_a8_u32 p1) trivial rfl rfl ty25), ⟨⟨rfl, trivial⟩, ⟨rfl, trivial⟩, rfl⟩, rfl,
        Step.plain rfl (does_call 23 0 (fun _ => .any) (.func 23) [(.tmp 25)] [(e_a8_u32 p1)] [] false [(e_a8_u32 p1)] (e_s_i64 v5) _ _ rfl fo23 rfl ⟨trivial, trivial⟩ ⟨.data _ (d_a8_u32 p1), trivial⟩ (congressref07_List_spec p1 _ h6) (d_s_i64 v5)), ⟨⟨rfl, trivial⟩, trivial, rfl⟩, rfl,
        Step.plain rfl (does_assign (.tmp 26) (e_s_i64 v5) trivial), ⟨⟨rfl, trivial⟩, trivial, rfl⟩, rfl, rfl⟩ ?_
      refine aw_cov (cov_prune (s1 := ⟨[(2, (.ptr 0 0 [])), (4, (.ptr 2 0 [])), (5, (.int .u32 v1.1)), (7, (.int .u32 x4)), (8, (e_s_i64 v5))], [(0, some (.var (e_a8_u32 p0))), (2, some (.var (e_api_Place z_api_Place)))], 3⟩) ⟨rfl, rfl, rfl, rfl, rfl, trivial⟩ ⟨rfl, rfl, trivial⟩ (Nat.le_refl _)) ?_
      refine aw_seq ?_
      refine aw_region (es := [_]) ⟨Step.plain rfl (does_assign (.const (.int .i64 0)) (.int .i64 0) (fun _ => rfl)), ⟨trivial, trivial, rfl⟩, rfl, rfl⟩ ?_
      refine aw_cov (cov_prune (s1 := ⟨[(2, (.ptr 0 0 [])), (4, (.ptr 2 0 [])), (5, (.int .u32 v1.1)), (7, (.int .u32 x4)), (8, (e_s_i64 v5)), (9, (.int .i64 0))], [(0, some (.var (e_a8_u32 p0))), (2, some (.var (e_api_Place z_api_Place)))], 3⟩) ⟨rfl, rfl, rfl, rfl, rfl, rfl, trivial⟩ ⟨rfl, rfl, trivial⟩ (Nat.le_refl _)) ?_
      obtain ⟨wn8, hwn8, Hrn8⟩ := bnd H
      refine aw_meet (fun y12 : Unit => (⟨[(4, (.ptr 2 0 []))], [(2, some (.var (e_api_Place z_api_Place)))], 3⟩ : St)) (fun y12 => Fl.nx y12 = wn8) (fun y12 hy => ?_) (aw_block (aw_runs (fun x7 : Int => (⟨[(2, (.ptr 0 0 [])), (4, (.ptr 2 0 [])), (5, (.int .u32 v1.1)), (7, (.int .u32 x4)), (8, (e_s_i64 v5)), (9, (.int .i64 x7))], [(0, some (.var (e_a8_u32 p0))), (2, some (.var (e_api_Place z_api_Place)))], 3⟩ : St)) hwn8 (cov_prune ⟨rfl, rfl, rfl, rfl, rfl, rfl, trivial⟩ ⟨rfl, rfl, trivial⟩ (Nat.le_of_ble_eq_true rfl)) (fun x7 st H hsn8 => ?_)))
      · have H := nx_of hy Hrn8
        refine nx_seq ?_
        refine aw_region (es := [_, _]) ⟨Step.plain rfl (does_buildT 27 #[] [] [] (.st [1, 1, 1]) (c_api_Place z_api_Place) (c_api_Place ({ Round := 0, From := 0, Slot := 0 } : api_Place)) rfl bo27 trivial trivial (by funext j; match j with | 0 => rfl | 1 => rfl | 2 => rfl | _ + 3 => rfl)), ⟨trivial, trivial, rfl⟩, rfl,
          Step.plain rfl (does_store 27 4 (.tmp 47) 2 0 [] (.var (e_api_Place z_api_Place)) (.var (e_api_Place ({ Round := 0, From := 0, Slot := 0 } : api_Place))) (e_api_Place ({ Round := 0, From := 0, Slot := 0 } : api_Place)) true trivial rfl trivial rfl rfl rfl ty27), ⟨⟨rfl, rfl, trivial⟩, ⟨rfl, trivial⟩, rfl⟩, rfl, rfl⟩ ?_
        refine aw_cov (cov_prune (s1 := ⟨[(4, (.ptr 2 0 []))], [(2, some (.var (e_api_Place ({ Round := 0, From := 0, Slot := 0 } : api_Place))))], 3⟩) ⟨rfl, trivial⟩ ⟨rfl, trivial⟩ (Nat.le_refl _)) ?_
        refine aw_ret ?_
        exact fun a w hr => ⟨_, [(e_api_Place ({ Round := 0, From := 0, Slot := 0 } : api_Place))], hr, ⟨⟨2, _, rfl, rfl, .data _ (d_api_Place ({ Round := 0, From := 0, Slot := 0 } : api_Place)), ty27⟩, trivial⟩, by decide, by cases H; rfl⟩
      · refine aw_seq ?_
        refine aw_region (es := [_, _, _, _]) ⟨Step.plain rfl (does_move (.tmp 9) (.int .i64 x7) trivial), ⟨⟨rfl, trivial⟩, trivial, rfl⟩, rfl,
          Step.plain rfl (does_move (.tmp 8) (e_s_i64 v5) trivial), ⟨⟨rfl, trivial⟩, trivial, rfl⟩, rfl,
          Step.plain rfl (does_lens 50 1 v5.length 28 (fun j => (.int .i64 (v5.getD j 0))) el50), ⟨⟨rfl, trivial⟩, trivial, rfl⟩, rfl,
          Step.plain rfl (does_bin .lss 3 3 (.tmp 27) (.tmp 29) .i64 x7 (v5.length : Int) (.bool (decide (x7 < (v5.length : Int)))) trivial trivial (bin_lss _ _ _ _)), ⟨⟨rfl, rfl, trivial⟩, trivial, rfl⟩, rfl, rfl⟩ ?_
        refine aw_cov (cov_prune (s1 := ⟨[(2, (.ptr 0 0 [])), (4, (.ptr 2 0 [])), (5, (.int .u32 v1.1)), (7, (.int .u32 x4)), (8, (e_s_i64 v5)), (9, (.int .i64 x7)), (30, (.bool (decide (x7 < (v5.length : Int)))))], [(0, some (.var (e_a8_u32 p0))), (2, some (.var (e_api_Place z_api_Place)))], 3⟩) ⟨rfl, rfl, rfl, rfl, rfl, rfl, rfl, trivial⟩ ⟨rfl, rfl, trivial⟩ (Nat.le_refl _)) ?_
        refine aw_cond rfl (fun hc => ?_) (fun hc => ?_)
        · replace H := ite_t hc H
          refine aw_skip ?_
          refine nx_seq ?_
          refine aw_seq ?_
          refine aw_block ?_
          obtain ⟨h9, H⟩ := ib_of H
          obtain ⟨h10, H⟩ := ib_of H
          refine aw_region (es := [_, _, _, _, _, _, _, _]) ⟨Step.plain rfl (does_move (.tmp 8) (e_s_i64 v5) trivial), ⟨⟨rfl, trivial⟩, trivial, rfl⟩, rfl,
            Step.plain rfl (does_move (.tmp 9) (.int .i64 x7) trivial), ⟨⟨rfl, trivial⟩, trivial, rfl⟩, rfl,
            Step.plain rfl (does_indexAddrs 50 1 v5.length 33 (fun j => (.int .i64 (v5.getD j 0))) (.tmp 34) .i64 x7 el50 trivial h9.1 h9.2), ⟨⟨rfl, rfl, trivial⟩, trivial, rfl⟩, rfl,
            Step.plain rfl (does_loadc 3 35 (.int .i64 (v5.getD x7.toNat 0)) ty3), ⟨⟨rfl, trivial⟩, trivial, rfl⟩, rfl,
            Step.plain rfl (does_indexAddr 24 8 1 2 0 0 [] (.var (e_a8_u32 p0)) (.tmp 36) .i64 (v5.getD x7.toNat 0) el24 trivial h10.1 h10.2), ⟨⟨rfl, rfl, trivial⟩, ⟨rfl, trivial⟩, rfl⟩, rfl,
            Step.plain rfl (does_load 22 37 0 (0 + (v5.getD x7.toNat 0).toNat * 1) [(v5.getD x7.toNat 0).toNat] (.var (e_a8_u32 p0)) (.int .u32 (p0 ((v5.getD x7.toNat 0).toNat))) ⟨rfl, (ixl h10), trivial⟩ rfl rfl ty22), ⟨⟨rfl, trivial⟩, ⟨rfl, trivial⟩, rfl⟩, rfl,
            Step.plain rfl (does_move (.tmp 5) (.int .u32 v1.1) trivial), ⟨⟨rfl, trivial⟩, trivial, rfl⟩, rfl,
            Step.plain rfl (does_bin .eql 22 22 (.tmp 38) (.tmp 39) .u32 (p0 ((v5.getD x7.toNat 0).toNat)) v1.1 (.bool ((p0 ((v5.getD x7.toNat 0).toNat)) == v1.1)) trivial trivial (bin_eql _ _ _ _)), ⟨⟨rfl, rfl, trivial⟩, trivial, rfl⟩, rfl, rfl⟩ ?_
          refine aw_cov (cov_prune (s1 := ⟨[(2, (.ptr 0 0 [])), (4, (.ptr 2 0 [])), (5, (.int .u32 v1.1)), (7, (.int .u32 x4)), (8, (e_s_i64 v5)), (9, (.int .i64 x7)), (40, (.bool ((p0 ((v5.getD x7.toNat 0).toNat)) == v1.1)))], [(0, some (.var (e_a8_u32 p0))), (2, some (.var (e_api_Place z_api_Place)))], 3⟩) ⟨rfl, rfl, rfl, rfl, rfl, rfl, rfl, trivial⟩ ⟨rfl, rfl, trivial⟩ (Nat.le_refl _)) ?_
          refine aw_cond rfl (fun hc => ?_) (fun hc => ?_)
          · replace H := ite_t hc H
            obtain ⟨h11, H⟩ := ib_of H
            refine aw_region (es := [_, _, _, _, _, _, _]) ⟨Step.plain rfl (does_move (.tmp 7) (.int .u32 x4) trivial), ⟨⟨rfl, trivial⟩, trivial, rfl⟩, rfl,
              Step.plain rfl (does_move (.tmp 8) (e_s_i64 v5) trivial), ⟨⟨rfl, trivial⟩, trivial, rfl⟩, rfl,
              Step.plain rfl (does_move (.tmp 9) (.int .i64 x7) trivial), ⟨⟨rfl, trivial⟩, trivial, rfl⟩, rfl,
              Step.plain rfl (does_indexAddrs 50 1 v5.length 42 (fun j => (.int .i64 (v5.getD j 0))) (.tmp 43) .i64 x7 el50 trivial h11.1 h11.2), ⟨⟨rfl, rfl, trivial⟩, trivial, rfl⟩, rfl,
              Step.plain rfl (does_loadc 3 44 (.int .i64 (v5.getD x7.toNat 0)) ty3), ⟨⟨rfl, trivial⟩, trivial, rfl⟩, rfl,
              Step.plain rfl (does_buildT 27 #[(0, (.tmp 41)), (1, (.tmp 45))] [(0, (.tmp 41)), (1, (.tmp 45))] [(0, (.int .u32 x4)), (1, (.int .i64 (v5.getD x7.toNat 0)))] (.st [1, 1, 1]) (c_api_Place z_api_Place) (c_api_Place ({ Round := x4, From := v5.getD x7.toNat 0, Slot := 0 } : api_Place)) rfl bo27 ⟨⟨rfl, trivial⟩, ⟨rfl, trivial⟩, trivial⟩ ⟨⟨Nat.le_of_ble_eq_true rfl, rfl, rfl⟩, ⟨Nat.le_of_ble_eq_true rfl, rfl, rfl⟩, trivial⟩ (by funext j; match j with | 0 => rfl | 1 => rfl | 2 => rfl | _ + 3 => rfl)), ⟨⟨rfl, rfl, trivial⟩, trivial, rfl⟩, rfl,
              Step.plain rfl (does_store 27 4 (.tmp 46) 2 0 [] (.var (e_api_Place z_api_Place)) (.var (e_api_Place ({ Round := x4, From := v5.getD x7.toNat 0, Slot := 0 } : api_Place))) (e_api_Place ({ Round := x4, From := v5.getD x7.toNat 0, Slot := 0 } : api_Place)) true trivial rfl trivial rfl rfl rfl ty27), ⟨⟨rfl, rfl, trivial⟩, ⟨rfl, trivial⟩, rfl⟩, rfl, rfl⟩ ?_
            refine aw_cov (cov_prune (s1 := ⟨[(4, (.ptr 2 0 []))], [(2, some (.var (e_api_Place ({ Round := x4, From := v5.getD x7.toNat 0, Slot := 0 } : api_Place))))], 3⟩) ⟨rfl, trivial⟩ ⟨rfl, trivial⟩ (Nat.le_refl _)) ?_
            refine aw_ret ?_
            replace H := rt_of H hsn8 Hrn8
            refine rt_blk ?_
            refine rt_then ?_
            refine rt_then ?_
            refine rt_blk ?_
            refine rt_then ?_
            refine rt_then ?_
            exact fun a w hr => ⟨_, [(e_api_Place ({ Round := x4, From := v5.getD x7.toNat 0, Slot := 0 } : api_Place))], hr, ⟨⟨2, _, rfl, rfl, .data _ (d_api_Place ({ Round := x4, From := v5.getD x7.toNat 0, Slot := 0 } : api_Place)), ty27⟩, trivial⟩, by decide, by cases H; rfl⟩
          · replace H := ite_f hc H
            refine aw_skip ?_
            refine nx_blk ?_
            refine nx_seq ?_
            refine aw_region1 (es := [_, _, _]) ⟨Step.plain rfl (does_move (.tmp 9) (.int .i64 x7) trivial), ⟨⟨rfl, trivial⟩, trivial, rfl⟩, rfl,
              Step.plain rfl (does_bin .add 3 3 (.tmp 31) (.const (.int .i64 1)) .i64 x7 1 (.int .i64 (IntKind.i64.wrap (x7 + 1))) trivial (fun _ => rfl) (bin_add _ _ _ _)), ⟨⟨rfl, trivial⟩, trivial, rfl⟩, rfl,
              Step.plain rfl (does_assign (.tmp 32) (.int .i64 (IntKind.i64.wrap (x7 + 1))) trivial), ⟨⟨rfl, trivial⟩, trivial, rfl⟩, rfl, rfl⟩ ?_
            exact nx_loop ((IntKind.i64.wrap (x7 + 1))) H (cov_prune ⟨rfl, rfl, rfl, rfl, rfl, rfl, trivial⟩ ⟨rfl, rfl, trivial⟩ (Nat.le_of_ble_eq_true rfl))
        · replace H := ite_f hc H
          refine aw_exit ?_
          refine ex_then ?_
          refine ex_then ?_
          refine ex_here ?_
          exact nx_ljoin () H hsn8 (cov_prune ⟨rfl, trivial⟩ ⟨rfl, trivial⟩ (Nat.le_of_ble_eq_true rfl))
    · refine aw_cond rfl (fun hc => ?_) (fun hc => ?_)
      · replace H := ite_t hc H
        refine aw_region1 (es := [_, _, _]) ⟨Step.plain rfl (does_move (.tmp 5) (.int .u32 v1.1) trivial), ⟨⟨rfl, trivial⟩, trivial, rfl⟩, rfl,
          Step.plain rfl (does_bin .add 22 22 (.tmp 23) (.const (.int .u32 1)) .u32 v1.1 1 (.int .u32 (IntKind.u32.wrap (v1.1 + 1))) trivial (fun _ => rfl) (bin_add _ _ _ _)), ⟨⟨rfl, trivial⟩, trivial, rfl⟩, rfl,
          Step.plain rfl (does_assign (.tmp 24) (.int .u32 (IntKind.u32.wrap (v1.1 + 1))) trivial), ⟨⟨rfl, trivial⟩, trivial, rfl⟩, rfl, rfl⟩ ?_
        exact nx_join ((IntKind.u32.wrap (v1.1 + 1))) H (cov_prune ⟨rfl, rfl, rfl, rfl, rfl, trivial⟩ ⟨rfl, rfl, rfl, trivial⟩ (Nat.le_of_ble_eq_true rfl))
      · replace H := ite_f hc H
        refine aw_skip ?_
        exact nx_join (v1.1) H (cov_prune ⟨rfl, rfl, rfl, rfl, rfl, trivial⟩ ⟨rfl, rfl, rfl, trivial⟩ (Nat.le_of_ble_eq_true rfl))

theorem congresslaw09_RoundTells_spec (p0 : (Nat → Int)) (p1 : (Nat → Int)) (p2 : congresslaw09_Two) (r : Bool) (H : congresslaw09_RoundTells p0 p1 p2 = some r) : FSpec Try.prog 5 [(e_a8_u32 p0), (e_a8_u32 p1), (e_congresslaw09_Two p2)] (.bool r) := by
  refine spec_of (fn := Try.f5) (args := [(e_a8_u32 p0), (e_a8_u32 p1), (e_congresslaw09_Two p2)]) Try.func5 rfl (Nat.le_of_ble_eq_true rfl) ?_
  rintro ⟨G, w0, W, S, Sp⟩ hG
  cases hG
  unfold congresslaw09_RoundTells at H
  refine aw_region (es := [_, _, _, _]) ⟨Step.plain rfl (does_box 24 (.tmp 0) 0 (e_a8_u32 p0) trivial rfl), ⟨⟨rfl, trivial⟩, trivial, rfl⟩, rfl,
    Step.plain rfl (does_box 25 (.tmp 1) 1 (e_a8_u32 p1) trivial rfl), ⟨⟨rfl, trivial⟩, trivial, rfl⟩, rfl,
    Step.plain rfl (does_box 37 (.tmp 2) 2 (e_congresslaw09_Two p2) trivial rfl), ⟨⟨rfl, trivial⟩, trivial, rfl⟩, rfl,
    Step.plain rfl (does_assign (.const (.bool false)) (.bool false) (fun _ => rfl)), ⟨trivial, trivial, rfl⟩, rfl, rfl⟩ ?_
  refine aw_cov (cov_prune (s1 := ⟨[(3, (.ptr 0 0 [])), (4, (.ptr 1 0 [])), (5, (.ptr 2 0 []))], [(0, some (.var (e_a8_u32 p0))), (1, some (.var (e_a8_u32 p1))), (2, some (.var (e_congresslaw09_Two p2)))], 3⟩) ⟨rfl, rfl, rfl, trivial⟩ ⟨rfl, rfl, rfl, trivial⟩ (Nat.le_refl _)) ?_
  obtain ⟨v1, h2, H⟩ := bnd H
  refine aw_region (es := [_, _, _, _, _, _, _, _]) ⟨Step.plain rfl (does_load 24 3 0 0 [] (.var (e_a8_u32 p0)) (e_a8_u32 p0) trivial rfl rfl ty24), ⟨⟨rfl, trivial⟩, ⟨rfl, trivial⟩, rfl⟩, rfl,
    Step.plain rfl (does_load 25 4 1 0 [] (.var (e_a8_u32 p1)) (e_a8_u32 p1) trivial rfl rfl ty25), ⟨⟨rfl, trivial⟩, ⟨rfl, trivial⟩, rfl⟩, rfl,
    Step.plain rfl (does_call 11 0 (fun _ => .any) (.func 11) [(.tmp 12), (.tmp 13)] [(e_a8_u32 p0), (e_a8_u32 p1)] [] true [(e_a8_u32 p0), (e_a8_u32 p1)] (resV [(.int .u32 v1.1), (.bool v1.2)]) _ _ rfl fo11 rfl ⟨trivial, trivial, trivial⟩ ⟨.data _ (d_a8_u32 p0), .data _ (d_a8_u32 p1), trivial⟩ (round_Least_spec p0 p1 _ h2) (res_flat2 trivial trivial)), ⟨⟨rfl, rfl, trivial⟩, trivial, rfl⟩, rfl,
    Step.plain rfl (does_move (.tmp 14) (resV [(.int .u32 v1.1), (.bool v1.2)]) trivial), ⟨⟨rfl, trivial⟩, trivial, rfl⟩, rfl,
    Step.plain rfl (does_extract 11 0 2 (fun j => [(.int .u32 v1.1), (.bool v1.2)].getD j (.bool false)) (Nat.le_of_ble_eq_true rfl)), ⟨⟨rfl, trivial⟩, trivial, rfl⟩, rfl,
    Step.plain rfl (does_extract 11 1 2 (fun j => [(.int .u32 v1.1), (.bool v1.2)].getD j (.bool false)) (Nat.le_of_ble_eq_true rfl)), ⟨⟨rfl, trivial⟩, trivial, rfl⟩, rfl,
    Step.plain rfl (does_assign (.tmp 15) (.int .u32 v1.1) trivial), ⟨⟨rfl, trivial⟩, trivial, rfl⟩, rfl,
    Step.plain rfl (does_assign (.tmp 16) (.bool v1.2) trivial), ⟨⟨rfl, trivial⟩, trivial, rfl⟩, rfl, rfl⟩ ?_
  refine aw_cov (cov_prune (s1 := ⟨[(3, (.ptr 0 0 [])), (4, (.ptr 1 0 [])), (5, (.ptr 2 0 [])), (7, (.int .u32 v1.1)), (8, (.bool v1.2))], [(0, some (.var (e_a8_u32 p0))), (1, some (.var (e_a8_u32 p1))), (2, some (.var (e_congresslaw09_Two p2)))], 3⟩) ⟨rfl, rfl, rfl, rfl, rfl, trivial⟩ ⟨rfl, rfl, rfl, trivial⟩ (Nat.le_refl _)) ?_
  obtain ⟨v3, h4, H⟩ := bnd H
  refine aw_region (es := [_, _, _, _, _, _, _, _]) ⟨Step.plain rfl (does_load 24 3 0 0 [] (.var (e_a8_u32 p0)) (e_a8_u32 p0) trivial rfl rfl ty24), ⟨⟨rfl, trivial⟩, ⟨rfl, trivial⟩, rfl⟩, rfl,
    Step.plain rfl (does_load 25 4 1 0 [] (.var (e_a8_u32 p1)) (e_a8_u32 p1) trivial rfl rfl ty25), ⟨⟨rfl, trivial⟩, ⟨rfl, trivial⟩, rfl⟩, rfl,
    Step.plain rfl (does_call 13 0 (fun _ => .any) (.func 13) [(.tmp 18), (.tmp 19)] [(e_a8_u32 p0), (e_a8_u32 p1)] [] true [(e_a8_u32 p0), (e_a8_u32 p1)] (resV [(.int .u32 v3.1), (.bool v3.2)]) _ _ rfl fo13 rfl ⟨trivial, trivial, trivial⟩ ⟨.data _ (d_a8_u32 p0), .data _ (d_a8_u32 p1), trivial⟩ (congressref09_Least_spec p0 p1 _ h4) (res_flat2 trivial trivial)), ⟨⟨rfl, rfl, trivial⟩, trivial, rfl⟩, rfl,
    Step.plain rfl (does_move (.tmp 20) (resV [(.int .u32 v3.1), (.bool v3.2)]) trivial), ⟨⟨rfl, trivial⟩, trivial, rfl⟩, rfl,
    Step.plain rfl (does_extract 17 0 2 (fun j => [(.int .u32 v3.1), (.bool v3.2)].getD j (.bool false)) (Nat.le_of_ble_eq_true rfl)), ⟨⟨rfl, trivial⟩, trivial, rfl⟩, rfl,
    Step.plain rfl (does_extract 17 1 2 (fun j => [(.int .u32 v3.1), (.bool v3.2)].getD j (.bool false)) (Nat.le_of_ble_eq_true rfl)), ⟨⟨rfl, trivial⟩, trivial, rfl⟩, rfl,
    Step.plain rfl (does_assign (.tmp 21) (.int .u32 v3.1) trivial), ⟨⟨rfl, trivial⟩, trivial, rfl⟩, rfl,
    Step.plain rfl (does_assign (.tmp 22) (.bool v3.2) trivial), ⟨⟨rfl, trivial⟩, trivial, rfl⟩, rfl, rfl⟩ ?_
  refine aw_cov (cov_prune (s1 := ⟨[(3, (.ptr 0 0 [])), (4, (.ptr 1 0 [])), (5, (.ptr 2 0 [])), (7, (.int .u32 v1.1)), (8, (.bool v1.2)), (9, (.int .u32 v3.1)), (10, (.bool v3.2))], [(0, some (.var (e_a8_u32 p0))), (1, some (.var (e_a8_u32 p1))), (2, some (.var (e_congresslaw09_Two p2)))], 3⟩) ⟨rfl, rfl, rfl, rfl, rfl, rfl, rfl, trivial⟩ ⟨rfl, rfl, rfl, trivial⟩ (Nat.le_refl _)) ?_
  obtain ⟨v5, h6, H⟩ := bnd H
  obtain ⟨v7, h8, H⟩ := whn_of H
  obtain ⟨v9, h10, H⟩ := whn_of H
  obtain ⟨v11, h12, H⟩ := whn_of H
  obtain ⟨v13, h14, H⟩ := whn_of H
  obtain ⟨v15, h16, H⟩ := whn_of H
  obtain ⟨v17, h18, H⟩ := whn_of H
  refine aw_draw (es := [_, _, _, _, _, _, _, _, _, _, _, _, _, _, _, _, _, _, _, _, _, _, _, _, _, _, _, _, _, _, _, _, _, _, _, _, _, _, _, _, _, _, _, _, _, _, _, _, _]) (mixed) ⟨Step.plain rfl (does_call 10 0 (fun _ => .any) (.func 10) [] [] [] true [] (.bool v5) _ _ rfl fo10 rfl trivial trivial (congresslaw09_fixed_spec _ h6) trivial), ⟨trivial, trivial, rfl⟩, rfl,
    Step.plain rfl (does_move (.tmp 23) (.bool v5) trivial), ⟨⟨rfl, trivial⟩, trivial, rfl⟩, rfl,
    Step.guarded rfl rfl rfl rfl (fun hc => does_move (.tmp 7) (.int .u32 v1.1) trivial), ⟨⟨rfl, rfl, trivial⟩, trivial, rfl⟩, rfl,
    Step.guarded rfl rfl rfl rfl (fun hc => does_move (.tmp 9) (.int .u32 v3.1) trivial), ⟨⟨rfl, rfl, trivial⟩, trivial, rfl⟩, rfl,
    Step.guarded rfl rfl rfl rfl (fun hc => Does.strip (n' := [(25, (.opt v5 (.int .u32 v1.1))), (26, (.opt v5 (.int .u32 v3.1)))]) (n := [(25, (.int .u32 v1.1)), (26, (.int .u32 v3.1))]) ⟨(.opt _ _ hc), (.opt _ _ hc), trivial⟩ (does_bin .eql 22 22 (.tmp 25) (.tmp 26) .u32 v1.1 v3.1 (.bool (v1.1 == v3.1)) trivial trivial (bin_eql _ _ _ _))), ⟨⟨rfl, rfl, rfl, trivial⟩, trivial, rfl⟩, rfl,
    Step.plain rfl (does_and 24 27 v5 (v1.1 == v3.1)), ⟨⟨rfl, rfl, trivial⟩, trivial, rfl⟩, rfl,
    Step.plain rfl (does_move (.tmp 28) (.bool (v5 && (v1.1 == v3.1))) trivial), ⟨⟨rfl, trivial⟩, trivial, rfl⟩, rfl,
    Step.guarded rfl rfl rfl rfl (fun hc => does_move (.tmp 8) (.bool v1.2) trivial), ⟨⟨rfl, rfl, trivial⟩, trivial, rfl⟩, rfl,
    Step.guarded rfl rfl rfl rfl (fun hc => does_move (.tmp 10) (.bool v3.2) trivial), ⟨⟨rfl, rfl, trivial⟩, trivial, rfl⟩, rfl,
    Step.guarded rfl rfl rfl rfl (fun hc => Does.strip (n' := [(30, (.opt (v5 && (v1.1 == v3.1)) (.bool v1.2))), (31, (.opt (v5 && (v1.1 == v3.1)) (.bool v3.2)))]) (n := [(30, (.bool v1.2)), (31, (.bool v3.2))]) ⟨(.opt _ _ hc), (.opt _ _ hc), trivial⟩ (does_eqBool false 4 4 (.tmp 30) (.tmp 31) v1.2 v3.2 trivial trivial rfl)), ⟨⟨rfl, rfl, rfl, trivial⟩, trivial, rfl⟩, rfl,
    Step.plain rfl (does_and 29 32 (v5 && (v1.1 == v3.1)) (v1.2 == v3.2)), ⟨⟨rfl, rfl, trivial⟩, trivial, rfl⟩, rfl,
    Step.plain rfl (does_move (.tmp 33) (.bool ((v5 && (v1.1 == v3.1)) && (v1.2 == v3.2))) trivial), ⟨⟨rfl, trivial⟩, trivial, rfl⟩, rfl,
    Step.guarded rfl rfl rfl rfl (fun hc => does_load 24 3 0 0 [] (.var (e_a8_u32 p0)) (e_a8_u32 p0) trivial rfl rfl ty24), ⟨⟨rfl, rfl, trivial⟩, ⟨rfl, trivial⟩, rfl⟩, rfl,
    Step.guarded rfl rfl rfl rfl (fun hc => does_load 25 4 1 0 [] (.var (e_a8_u32 p1)) (e_a8_u32 p1) trivial rfl rfl ty25), ⟨⟨rfl, rfl, trivial⟩, ⟨rfl, trivial⟩, rfl⟩, rfl,
    Step.guarded rfl rfl rfl rfl (fun hc => does_fieldAddr 37 0 0 5 2 0 [] (.var (e_congresslaw09_Two p2)) fl37_0), ⟨⟨rfl, rfl, trivial⟩, ⟨rfl, trivial⟩, rfl⟩, rfl,
    Step.guarded rfl rfl rfl rfl (fun hc => Does.strip (n' := [(37, (.opt ((v5 && (v1.1 == v3.1)) && (v1.2 == v3.2)) (.ptr 2 (0 + 0) [0])))]) (n := [(37, (.ptr 2 (0 + 0) [0]))]) ⟨(.opt _ _ hc), trivial⟩ (does_fieldAddr 27 1 1 37 2 (0 + 0) [0] (.var (e_congresslaw09_Two p2)) fl27_1)), ⟨⟨rfl, rfl, trivial⟩, ⟨rfl, trivial⟩, rfl⟩, rfl,
    Step.guarded rfl rfl rfl rfl (fun hc => Does.strip (n' := [(38, (.opt ((v5 && (v1.1 == v3.1)) && (v1.2 == v3.2)) (.ptr 2 ((0 + 0) + 1) [0, 1])))]) (n := [(38, (.ptr 2 ((0 + 0) + 1) [0, 1]))]) ⟨(.opt _ _ hc), trivial⟩ (does_load 3 38 2 ((0 + 0) + 1) [0, 1] (.var (e_congresslaw09_Two p2)) (.int .i64 p2.A.From) ⟨rfl, Nat.le_of_ble_eq_true rfl, ⟨rfl, Nat.le_of_ble_eq_true rfl, trivial⟩⟩ rfl rfl ty3)), ⟨⟨rfl, rfl, trivial⟩, ⟨rfl, trivial⟩, rfl⟩, rfl,
    Step.guarded rfl rfl rfl rfl (fun hc => Does.strip (n' := [(35, (.opt ((v5 && (v1.1 == v3.1)) && (v1.2 == v3.2)) (e_a8_u32 p0))), (36, (.opt ((v5 && (v1.1 == v3.1)) && (v1.2 == v3.2)) (e_a8_u32 p1))), (39, (.opt ((v5 && (v1.1 == v3.1)) && (v1.2 == v3.2)) (.int .i64 p2.A.From)))]) (n := [(35, (e_a8_u32 p0)), (36, (e_a8_u32 p1)), (39, (.int .i64 p2.A.From))]) ⟨(.opt _ _ hc), (.opt _ _ hc), (.opt _ _ hc), trivial⟩ (does_call 12 0 (fun _ => .any) (.func 12) [(.tmp 35), (.tmp 36), (.tmp 39)] [(e_a8_u32 p0), (e_a8_u32 p1), (.int .i64 p2.A.From)] [] true [(e_a8_u32 p0), (e_a8_u32 p1), (.int .i64 p2.A.From)] (.bool v7) _ _ rfl fo12 rfl ⟨trivial, trivial, trivial, trivial⟩ ⟨.data _ (d_a8_u32 p0), .data _ (d_a8_u32 p1), .data _ trivial, trivial⟩ (round_May_spec p0 p1 p2.A.From _ (h8 hc)) trivial)), ⟨⟨rfl, rfl, rfl, rfl, trivial⟩, trivial, rfl⟩, rfl,
    Step.guarded rfl rfl rfl rfl (fun hc => does_load 24 3 0 0 [] (.var (e_a8_u32 p0)) (e_a8_u32 p0) trivial rfl rfl ty24), ⟨⟨rfl, rfl, trivial⟩, ⟨rfl, trivial⟩, rfl⟩, rfl,
    Step.guarded rfl rfl rfl rfl (fun hc => does_load 25 4 1 0 [] (.var (e_a8_u32 p1)) (e_a8_u32 p1) trivial rfl rfl ty25), ⟨⟨rfl, rfl, trivial⟩, ⟨rfl, trivial⟩, rfl⟩, rfl,
    Step.guarded rfl rfl rfl rfl (fun hc => does_fieldAddr 37 0 0 5 2 0 [] (.var (e_congresslaw09_Two p2)) fl37_0), ⟨⟨rfl, rfl, trivial⟩, ⟨rfl, trivial⟩, rfl⟩, rfl,
    Step.guarded rfl rfl rfl rfl (fun hc => Does.strip (n' := [(43, (.opt ((v5 && (v1.1 == v3.1)) && (v1.2 == v3.2)) (.ptr 2 (0 + 0) [0])))]) (n := [(43, (.ptr 2 (0 + 0) [0]))]) ⟨(.opt _ _ hc), trivial⟩ (does_fieldAddr 27 1 1 43 2 (0 + 0) [0] (.var (e_congresslaw09_Two p2)) fl27_1)), ⟨⟨rfl, rfl, trivial⟩, ⟨rfl, trivial⟩, rfl⟩, rfl,
    Step.guarded rfl rfl rfl rfl (fun hc => Does.strip (n' := [(44, (.opt ((v5 && (v1.1 == v3.1)) && (v1.2 == v3.2)) (.ptr 2 ((0 + 0) + 1) [0, 1])))]) (n := [(44, (.ptr 2 ((0 + 0) + 1) [0, 1]))]) ⟨(.opt _ _ hc), trivial⟩ (does_load 3 44 2 ((0 + 0) + 1) [0, 1] (.var (e_congresslaw09_Two p2)) (.int .i64 p2.A.From) ⟨rfl, Nat.le_of_ble_eq_true rfl, ⟨rfl, Nat.le_of_ble_eq_true rfl, trivial⟩⟩ rfl rfl ty3)), ⟨⟨rfl, rfl, trivial⟩, ⟨rfl, trivial⟩, rfl⟩, rfl,
    Step.guarded rfl rfl rfl rfl (fun hc => Does.strip (n' := [(41, (.opt ((v5 && (v1.1 == v3.1)) && (v1.2 == v3.2)) (e_a8_u32 p0))), (42, (.opt ((v5 && (v1.1 == v3.1)) && (v1.2 == v3.2)) (e_a8_u32 p1))), (45, (.opt ((v5 && (v1.1 == v3.1)) && (v1.2 == v3.2)) (.int .i64 p2.A.From)))]) (n := [(41, (e_a8_u32 p0)), (42, (e_a8_u32 p1)), (45, (.int .i64 p2.A.From))]) ⟨(.opt _ _ hc), (.opt _ _ hc), (.opt _ _ hc), trivial⟩ (does_call 14 0 (fun _ => .any) (.func 14) [(.tmp 41), (.tmp 42), (.tmp 45)] [(e_a8_u32 p0), (e_a8_u32 p1), (.int .i64 p2.A.From)] [] true [(e_a8_u32 p0), (e_a8_u32 p1), (.int .i64 p2.A.From)] (.bool v9) _ _ rfl fo14 rfl ⟨trivial, trivial, trivial, trivial⟩ ⟨.data _ (d_a8_u32 p0), .data _ (d_a8_u32 p1), .data _ trivial, trivial⟩ (congressref09_May_spec p0 p1 p2.A.From _ (h10 hc)) trivial)), ⟨⟨rfl, rfl, rfl, rfl, trivial⟩, trivial, rfl⟩, rfl,
    Step.guarded rfl rfl rfl rfl (fun hc => Does.strip (n' := [(40, (.opt ((v5 && (v1.1 == v3.1)) && (v1.2 == v3.2)) (.bool v7))), (46, (.opt ((v5 && (v1.1 == v3.1)) && (v1.2 == v3.2)) (.bool v9)))]) (n := [(40, (.bool v7)), (46, (.bool v9))]) ⟨(.opt _ _ hc), (.opt _ _ hc), trivial⟩ (does_eqBool false 4 4 (.tmp 40) (.tmp 46) v7 v9 trivial trivial rfl)), ⟨⟨rfl, rfl, rfl, trivial⟩, trivial, rfl⟩, rfl,
    Step.plain rfl (does_and 34 47 ((v5 && (v1.1 == v3.1)) && (v1.2 == v3.2)) (v7 == v9)), ⟨⟨rfl, rfl, trivial⟩, trivial, rfl⟩, rfl,
    Step.plain rfl (does_move (.tmp 48) (.bool (((v5 && (v1.1 == v3.1)) && (v1.2 == v3.2)) && (v7 == v9))) trivial), ⟨⟨rfl, trivial⟩, trivial, rfl⟩, rfl,
    Step.guarded rfl rfl rfl rfl (fun hc => does_fieldAddr 37 0 0 5 2 0 [] (.var (e_congresslaw09_Two p2)) fl37_0), ⟨⟨rfl, rfl, trivial⟩, ⟨rfl, trivial⟩, rfl⟩, rfl,
    Step.guarded rfl rfl rfl rfl (fun hc => Does.strip (n' := [(50, (.opt (((v5 && (v1.1 == v3.1)) && (v1.2 == v3.2)) && (v7 == v9)) (.ptr 2 (0 + 0) [0])))]) (n := [(50, (.ptr 2 (0 + 0) [0]))]) ⟨(.opt _ _ hc), trivial⟩ (does_load 27 50 2 (0 + 0) [0] (.var (e_congresslaw09_Two p2)) (e_api_Place p2.A) ⟨rfl, Nat.le_of_ble_eq_true rfl, trivial⟩ rfl rfl ty27)), ⟨⟨rfl, rfl, trivial⟩, ⟨rfl, trivial⟩, rfl⟩, rfl,
    Step.guarded rfl rfl rfl rfl (fun hc => does_fieldAddr 37 1 3 5 2 0 [] (.var (e_congresslaw09_Two p2)) fl37_1), ⟨⟨rfl, rfl, trivial⟩, ⟨rfl, trivial⟩, rfl⟩, rfl,
    Step.guarded rfl rfl rfl rfl (fun hc => Does.strip (n' := [(52, (.opt (((v5 && (v1.1 == v3.1)) && (v1.2 == v3.2)) && (v7 == v9)) (.ptr 2 (0 + 3) [1])))]) (n := [(52, (.ptr 2 (0 + 3) [1]))]) ⟨(.opt _ _ hc), trivial⟩ (does_load 27 52 2 (0 + 3) [1] (.var (e_congresslaw09_Two p2)) (e_api_Place p2.B) ⟨rfl, Nat.le_of_ble_eq_true rfl, trivial⟩ rfl rfl ty27)), ⟨⟨rfl, rfl, trivial⟩, ⟨rfl, trivial⟩, rfl⟩, rfl,
    Step.guarded rfl rfl rfl rfl (fun hc => Does.strip (n' := [(51, (.opt (((v5 && (v1.1 == v3.1)) && (v1.2 == v3.2)) && (v7 == v9)) (e_api_Place p2.A))), (53, (.opt (((v5 && (v1.1 == v3.1)) && (v1.2 == v3.2)) && (v7 == v9)) (e_api_Place p2.B)))]) (n := [(51, (e_api_Place p2.A)), (53, (e_api_Place p2.B))]) ⟨(.opt _ _ hc), (.opt _ _ hc), trivial⟩ (does_call 15 0 (fun _ => .any) (.func 15) [(.tmp 51), (.tmp 53)] [(e_api_Place p2.A), (e_api_Place p2.B)] [] true [(e_api_Place p2.A), (e_api_Place p2.B)] (.bool v11) _ _ rfl fo15 rfl ⟨trivial, trivial, trivial⟩ ⟨.data _ (d_api_Place p2.A), .data _ (d_api_Place p2.B), trivial⟩ (round_Before_spec p2.A p2.B _ (h12 hc)) trivial)), ⟨⟨rfl, rfl, rfl, trivial⟩, trivial, rfl⟩, rfl,
    Step.guarded rfl rfl rfl rfl (fun hc => does_fieldAddr 37 0 0 5 2 0 [] (.var (e_congresslaw09_Two p2)) fl37_0), ⟨⟨rfl, rfl, trivial⟩, ⟨rfl, trivial⟩, rfl⟩, rfl,
    Step.guarded rfl rfl rfl rfl (fun hc => Does.strip (n' := [(55, (.opt (((v5 && (v1.1 == v3.1)) && (v1.2 == v3.2)) && (v7 == v9)) (.ptr 2 (0 + 0) [0])))]) (n := [(55, (.ptr 2 (0 + 0) [0]))]) ⟨(.opt _ _ hc), trivial⟩ (does_load 27 55 2 (0 + 0) [0] (.var (e_congresslaw09_Two p2)) (e_api_Place p2.A) ⟨rfl, Nat.le_of_ble_eq_true rfl, trivial⟩ rfl rfl ty27)), ⟨⟨rfl, rfl, trivial⟩, ⟨rfl, trivial⟩, rfl⟩, rfl,
    Step.guarded rfl rfl rfl rfl (fun hc => does_fieldAddr 37 1 3 5 2 0 [] (.var (e_congresslaw09_Two p2)) fl37_1), ⟨⟨rfl, rfl, trivial⟩, ⟨rfl, trivial⟩, rfl⟩, rfl,
    Step.guarded rfl rfl rfl rfl (fun hc => Does.strip (n' := [(57, (.opt (((v5 && (v1.1 == v3.1)) && (v1.2 == v3.2)) && (v7 == v9)) (.ptr 2 (0 + 3) [1])))]) (n := [(57, (.ptr 2 (0 + 3) [1]))]) ⟨(.opt _ _ hc), trivial⟩ (does_load 27 57 2 (0 + 3) [1] (.var (e_congresslaw09_Two p2)) (e_api_Place p2.B) ⟨rfl, Nat.le_of_ble_eq_true rfl, trivial⟩ rfl rfl ty27)), ⟨⟨rfl, rfl, trivial⟩, ⟨rfl, trivial⟩, rfl⟩, rfl,
    Step.guarded rfl rfl rfl rfl (fun hc => Does.strip (n' := [(56, (.opt (((v5 && (v1.1 == v3.1)) && (v1.2 == v3.2)) && (v7 == v9)) (e_api_Place p2.A))), (58, (.opt (((v5 && (v1.1 == v3.1)) && (v1.2 == v3.2)) && (v7 == v9)) (e_api_Place p2.B)))]) (n := [(56, (e_api_Place p2.A)), (58, (e_api_Place p2.B))]) ⟨(.opt _ _ hc), (.opt _ _ hc), trivial⟩ (does_call 16 0 (fun _ => .any) (.func 16) [(.tmp 56), (.tmp 58)] [(e_api_Place p2.A), (e_api_Place p2.B)] [] true [(e_api_Place p2.A), (e_api_Place p2.B)] (.bool v13) _ _ rfl fo16 rfl ⟨trivial, trivial, trivial⟩ ⟨.data _ (d_api_Place p2.A), .data _ (d_api_Place p2.B), trivial⟩ (congressref09_Before_spec p2.A p2.B _ (h14 hc)) trivial)), ⟨⟨rfl, rfl, rfl, trivial⟩, trivial, rfl⟩, rfl,
    Step.guarded rfl rfl rfl rfl (fun hc => Does.strip (n' := [(54, (.opt (((v5 && (v1.1 == v3.1)) && (v1.2 == v3.2)) && (v7 == v9)) (.bool v11))), (59, (.opt (((v5 && (v1.1 == v3.1)) && (v1.2 == v3.2)) && (v7 == v9)) (.bool v13)))]) (n := [(54, (.bool v11)), (59, (.bool v13))]) ⟨(.opt _ _ hc), (.opt _ _ hc), trivial⟩ (does_eqBool false 4 4 (.tmp 54) (.tmp 59) v11 v13 trivial trivial rfl)), ⟨⟨rfl, rfl, rfl, trivial⟩, trivial, rfl⟩, rfl,
    Step.plain rfl (does_and 49 60 (((v5 && (v1.1 == v3.1)) && (v1.2 == v3.2)) && (v7 == v9)) (v11 == v13)), ⟨⟨rfl, rfl, trivial⟩, trivial, rfl⟩, rfl,
    Step.plain rfl (does_move (.tmp 61) (.bool ((((v5 && (v1.1 == v3.1)) && (v1.2 == v3.2)) && (v7 == v9)) && (v11 == v13))) trivial), ⟨⟨rfl, trivial⟩, trivial, rfl⟩, rfl,
    Step.guarded rfl rfl rfl rfl (fun hc => does_load 24 3 0 0 [] (.var (e_a8_u32 p0)) (e_a8_u32 p0) trivial rfl rfl ty24), ⟨⟨rfl, rfl, trivial⟩, ⟨rfl, trivial⟩, rfl⟩, rfl,
    Step.guarded rfl rfl rfl rfl (fun hc => does_load 25 4 1 0 [] (.var (e_a8_u32 p1)) (e_a8_u32 p1) trivial rfl rfl ty25), ⟨⟨rfl, rfl, trivial⟩, ⟨rfl, trivial⟩, rfl⟩, rfl,
    Step.guarded rfl rfl rfl rfl (fun hc => Does.strip (n' := [(63, (.opt ((((v5 && (v1.1 == v3.1)) && (v1.2 == v3.2)) && (v7 == v9)) && (v11 == v13)) (e_a8_u32 p0))), (64, (.opt ((((v5 && (v1.1 == v3.1)) && (v1.2 == v3.2)) && (v7 == v9)) && (v11 == v13)) (e_a8_u32 p1)))]) (n := [(63, (e_a8_u32 p0)), (64, (e_a8_u32 p1))]) ⟨(.opt _ _ hc), (.opt _ _ hc), trivial⟩ (does_call 17 0 (fun _ => .any) (.func 17) [(.tmp 63), (.tmp 64)] [(e_a8_u32 p0), (e_a8_u32 p1)] [] true [(e_a8_u32 p0), (e_a8_u32 p1)] (e_api_Place v15) _ _ rfl fo17 rfl ⟨trivial, trivial, trivial⟩ ⟨.data _ (d_a8_u32 p0), .data _ (d_a8_u32 p1), trivial⟩ (round_Position_spec p0 p1 _ (h16 hc)) (f_api_Place v15))), ⟨⟨rfl, rfl, rfl, trivial⟩, trivial, rfl⟩, rfl,
    Step.guarded rfl rfl rfl rfl (fun hc => does_load 24 3 0 0 [] (.var (e_a8_u32 p0)) (e_a8_u32 p0) trivial rfl rfl ty24), ⟨⟨rfl, rfl, trivial⟩, ⟨rfl, trivial⟩, rfl⟩, rfl,
    Step.guarded rfl rfl rfl rfl (fun hc => does_load 25 4 1 0 [] (.var (e_a8_u32 p1)) (e_a8_u32 p1) trivial rfl rfl ty25), ⟨⟨rfl, rfl, trivial⟩, ⟨rfl, trivial⟩, rfl⟩, rfl,
    Step.guarded rfl rfl rfl rfl (fun hc => Does.strip (n' := [(66, (.opt ((((v5 && (v1.1 == v3.1)) && (v1.2 == v3.2)) && (v7 == v9)) && (v11 == v13)) (e_a8_u32 p0))), (67, (.opt ((((v5 && (v1.1 == v3.1)) && (v1.2 == v3.2)) && (v7 == v9)) && (v11 == v13)) (e_a8_u32 p1)))]) (n := [(66, (e_a8_u32 p0)), (67, (e_a8_u32 p1))]) ⟨(.opt _ _ hc), (.opt _ _ hc), trivial⟩ (does_call 18 0 (fun _ => .any) (.func 18) [(.tmp 66), (.tmp 67)] [(e_a8_u32 p0), (e_a8_u32 p1)] [] true [(e_a8_u32 p0), (e_a8_u32 p1)] (e_api_Place v17) _ _ rfl fo18 rfl ⟨trivial, trivial, trivial⟩ ⟨.data _ (d_a8_u32 p0), .data _ (d_a8_u32 p1), trivial⟩ (congressref09_Position_spec p0 p1 _ (h18 hc)) (f_api_Place v17))), ⟨⟨rfl, rfl, rfl, trivial⟩, trivial, rfl⟩, rfl,
    Step.guarded rfl rfl rfl rfl (fun hc => Does.strip (n' := [(65, (.opt ((((v5 && (v1.1 == v3.1)) && (v1.2 == v3.2)) && (v7 == v9)) && (v11 == v13)) (e_api_Place v15))), (68, (.opt ((((v5 && (v1.1 == v3.1)) && (v1.2 == v3.2)) && (v7 == v9)) && (v11 == v13)) (e_api_Place v17)))]) (n := [(65, (e_api_Place v15)), (68, (e_api_Place v17))]) ⟨(.opt _ _ hc), (.opt _ _ hc), trivial⟩ (does_eqT false 27 27 (.tmp 65) (.tmp 68) (e_api_Place v15) (e_api_Place v17) (e_api_Place z_api_Place) (b_api_Place v15 v17) rfl rfl trivial trivial eg27 sh27 (al_api_Place _ _) (al_api_Place _ _) (q_api_Place _ _))), ⟨⟨rfl, rfl, rfl, trivial⟩, trivial, rfl⟩, rfl,
    Step.plain rfl (does_and 62 69 ((((v5 && (v1.1 == v3.1)) && (v1.2 == v3.2)) && (v7 == v9)) && (v11 == v13)) (b_api_Place v15 v17)), ⟨⟨rfl, rfl, trivial⟩, trivial, rfl⟩, rfl,
    Step.plain rfl (does_assign (.tmp 70) (.bool (((((v5 && (v1.1 == v3.1)) && (v1.2 == v3.2)) && (v7 == v9)) && (v11 == v13)) && (b_api_Place v15 v17))) trivial), ⟨⟨rfl, trivial⟩, trivial, rfl⟩, rfl, rfl⟩ rfl ?_
  obtain ⟨v19, hv19, H⟩ := lt_of H
  refine aw_cov (cov_prune (s1 := ⟨[(6, (.bool v19))], [], 3⟩) ⟨(by subst hv19; rfl), trivial⟩ trivial (Nat.le_refl _)) ?_
  refine aw_ret ?_
  exact fun a w hr => ⟨_, [(.bool v19)], hr, ⟨⟨_, rfl, .data _ trivial⟩, trivial⟩, by decide, by cases H; rfl⟩

theorem congresslaw09_RoundRises_spec (p0 : (Nat → Int)) (p1 : (Nat → Int)) (p2 : congresslaw09_More) (r : Bool) (H : congresslaw09_RoundRises p0 p1 p2 = some r) : FSpec Try.prog 6 [(e_a8_u32 p0), (e_a8_u32 p1), (e_congresslaw09_More p2)] (.bool r) := by
  refine spec_of (fn := Try.f6) (args := [(e_a8_u32 p0), (e_a8_u32 p1), (e_congresslaw09_More p2)]) Try.func6 rfl (Nat.le_of_ble_eq_true rfl) ?_
  rintro ⟨G, w0, W, S, Sp⟩ hG
  cases hG
  unfold congresslaw09_RoundRises at H
  refine aw_region (es := [_, _, _, _]) ⟨Step.plain rfl (does_box 24 (.tmp 0) 0 (e_a8_u32 p0) trivial rfl), ⟨⟨rfl, trivial⟩, trivial, rfl⟩, rfl,
    Step.plain rfl (does_box 25 (.tmp 1) 1 (e_a8_u32 p1) trivial rfl), ⟨⟨rfl, trivial⟩, trivial, rfl⟩, rfl,
    Step.plain rfl (does_box 42 (.tmp 2) 2 (e_congresslaw09_More p2) trivial rfl), ⟨⟨rfl, trivial⟩, trivial, rfl⟩, rfl,
    Step.plain rfl (does_assign (.const (.bool false)) (.bool false) (fun _ => rfl)), ⟨trivial, trivial, rfl⟩, rfl, rfl⟩ ?_
  refine aw_cov (cov_prune (s1 := ⟨[(3, (.ptr 0 0 [])), (4, (.ptr 1 0 [])), (5, (.ptr 2 0 []))], [(0, some (.var (e_a8_u32 p0))), (1, some (.var (e_a8_u32 p1))), (2, some (.var (e_congresslaw09_More p2)))], 3⟩) ⟨rfl, rfl, rfl, trivial⟩ ⟨rfl, rfl, rfl, trivial⟩ (Nat.le_refl _)) ?_
  refine aw_region (es := [_, _, _]) ⟨Step.plain rfl (does_load 24 3 0 0 [] (.var (e_a8_u32 p0)) (e_a8_u32 p0) trivial rfl rfl ty24), ⟨⟨rfl, trivial⟩, ⟨rfl, trivial⟩, rfl⟩, rfl,
    Step.plain rfl (does_alloc 24 3 (e_a8_u32 (fun _ => 0)) zr24), ⟨trivial, trivial, rfl⟩, rfl,
    Step.plain rfl (does_store 24 7 (.tmp 11) 3 0 [] (.var (e_a8_u32 (fun _ => 0))) (.var (e_a8_u32 p0)) (e_a8_u32 p0) true trivial rfl trivial rfl rfl rfl ty24), ⟨⟨rfl, rfl, trivial⟩, ⟨rfl, trivial⟩, rfl⟩, rfl, rfl⟩ ?_
  refine aw_cov (cov_prune (s1 := ⟨[(3, (.ptr 0 0 [])), (4, (.ptr 1 0 [])), (5, (.ptr 2 0 [])), (7, (.ptr 3 0 []))], [(0, some (.var (e_a8_u32 p0))), (1, some (.var (e_a8_u32 p1))), (2, some (.var (e_congresslaw09_More p2))), (3, some (.var (e_a8_u32 p0)))], 4⟩) ⟨rfl, rfl, rfl, rfl, trivial⟩ ⟨rfl, rfl, rfl, rfl, trivial⟩ (Nat.le_refl _)) ?_
  refine aw_region (es := [_]) ⟨Step.plain rfl (does_assign (.const (.bool false)) (.bool false) (fun _ => rfl)), ⟨trivial, trivial, rfl⟩, rfl, rfl⟩ ?_
  refine aw_cov (cov_prune (s1 := ⟨[(3, (.ptr 0 0 [])), (4, (.ptr 1 0 [])), (5, (.ptr 2 0 [])), (7, (.ptr 3 0 [])), (8, (.bool false))], [(0, some (.var (e_a8_u32 p0))), (1, some (.var (e_a8_u32 p1))), (2, some (.var (e_congresslaw09_More p2))), (3, some (.var (e_a8_u32 p0)))], 4⟩) ⟨rfl, rfl, rfl, rfl, rfl, trivial⟩ ⟨rfl, rfl, rfl, rfl, trivial⟩ (Nat.le_refl _)) ?_
  refine aw_seq ?_
  refine aw_region (es := [_]) ⟨Step.plain rfl (does_assign (.const (.int .i64 0)) (.int .i64 0) (fun _ => rfl)), ⟨trivial, trivial, rfl⟩, rfl, rfl⟩ ?_
  refine aw_cov (cov_prune (s1 := ⟨[(3, (.ptr 0 0 [])), (4, (.ptr 1 0 [])), (5, (.ptr 2 0 [])), (7, (.ptr 3 0 [])), (8, (.bool false)), (9, (.int .i64 0))], [(0, some (.var (e_a8_u32 p0))), (1, some (.var (e_a8_u32 p1))), (2, some (.var (e_congresslaw09_More p2))), (3, some (.var (e_a8_u32 p0)))], 4⟩) ⟨rfl, rfl, rfl, rfl, rfl, rfl, trivial⟩ ⟨rfl, rfl, rfl, rfl, trivial⟩ (Nat.le_refl _)) ?_
  obtain ⟨wn2, hwn2, Hrn2⟩ := bnd H
  refine aw_meet (fun y8 : Bool × (Nat → Int) => (⟨[(3, (.ptr 0 0 [])), (4, (.ptr 1 0 [])), (5, (.ptr 2 0 [])), (7, (.ptr 3 0 [])), (8, (.bool y8.1))], [(0, some (.var (e_a8_u32 p0))), (1, some (.var (e_a8_u32 p1))), (2, some (.var (e_congresslaw09_More p2))), (3, some (.var (e_a8_u32 y8.2)))], 4⟩ : St)) (fun y8 => Fl.nx y8 = wn2) (fun y8 hy => ?_) (aw_block (aw_runs (fun x1 : Bool × Int × (Nat → Int) => (⟨[(3, (.ptr 0 0 [])), (4, (.ptr 1 0 [])), (5, (.ptr 2 0 [])), (7, (.ptr 3 0 [])), (8, (.bool x1.1)), (9, (.int .i64 x1.2.1))], [(0, some (.var (e_a8_u32 p0))), (1, some (.var (e_a8_u32 p1))), (2, some (.var (e_congresslaw09_More p2))), (3, some (.var (e_a8_u32 x1.2.2)))], 4⟩ : St)) hwn2 (cov_prune ⟨rfl, rfl, rfl, rfl, rfl, rfl, trivial⟩ ⟨rfl, rfl, rfl, rfl, trivial⟩ (Nat.le_of_ble_eq_true rfl)) (fun x1 st H hsn2 => ?_)))
  · have H := nx_of hy Hrn2
    refine nx_seq ?_
    refine aw_seq ?_
    refine aw_region (es := [_]) ⟨Step.plain rfl (does_assign (.const (.int .i64 0)) (.int .i64 0) (fun _ => rfl)), ⟨trivial, trivial, rfl⟩, rfl, rfl⟩ ?_
    refine aw_cov (cov_prune (s1 := ⟨[(3, (.ptr 0 0 [])), (4, (.ptr 1 0 [])), (5, (.ptr 2 0 [])), (7, (.ptr 3 0 [])), (8, (.bool y8.1)), (10, (.int .i64 0))], [(0, some (.var (e_a8_u32 p0))), (1, some (.var (e_a8_u32 p1))), (2, some (.var (e_congresslaw09_More p2))), (3, some (.var (e_a8_u32 y8.2)))], 4⟩) ⟨rfl, rfl, rfl, rfl, rfl, rfl, trivial⟩ ⟨rfl, rfl, rfl, rfl, trivial⟩ (Nat.le_refl _)) ?_
    obtain ⟨wn10, hwn10, Hrn10⟩ := bnd H
    refine aw_meet (fun y15 : Unit => (⟨[(3, (.ptr 0 0 [])), (4, (.ptr 1 0 [])), (7, (.ptr 3 0 [])), (8, (.bool y8.1))], [(0, some (.var (e_a8_u32 p0))), (1, some (.var (e_a8_u32 p1))), (3, some (.var (e_a8_u32 y8.2)))], 4⟩ : St)) (fun y15 => Fl.nx y15 = wn10) (fun y15 hy => ?_) (aw_block (aw_runs (fun x9 : Int => (⟨[(3, (.ptr 0 0 [])), (4, (.ptr 1 0 [])), (5, (.ptr 2 0 [])), (7, (.ptr 3 0 [])), (8, (.bool y8.1)), (10, (.int .i64 x9))], [(0, some (.var (e_a8_u32 p0))), (1, some (.var (e_a8_u32 p1))), (2, some (.var (e_congresslaw09_More p2))), (3, some (.var (e_a8_u32 y8.2)))], 4⟩ : St)) hwn10 (cov_prune ⟨rfl, rfl, rfl, rfl, rfl, rfl, trivial⟩ ⟨rfl, rfl, rfl, rfl, trivial⟩ (Nat.le_of_ble_eq_true rfl)) (fun x9 st H hsn10 => ?_)))
    · have H := nx_of hy Hrn10
      refine nx_seq ?_
      obtain ⟨v16, h17, H⟩ := bnd H
      obtain ⟨v18, h19, H⟩ := whn_of H
      obtain ⟨v20, h21, H⟩ := whn_of H
      obtain ⟨v22, h23, H⟩ := whn_of H
      refine aw_draw (es := [_, _, _, _, _, _, _, _, _, _, _, _, _, _, _]) (mixed) ⟨Step.plain rfl (does_call 10 0 (fun _ => .any) (.func 10) [] [] [] true [] (.bool v16) _ _ rfl fo10 rfl trivial trivial (congresslaw09_fixed_spec _ h17) trivial), ⟨trivial, trivial, rfl⟩, rfl,
        Step.plain rfl (does_move (.tmp 52) (.bool v16) trivial), ⟨⟨rfl, trivial⟩, trivial, rfl⟩, rfl,
        Step.guarded rfl rfl rfl rfl (fun hc => does_move (.tmp 8) (.bool y8.1) trivial), ⟨⟨rfl, rfl, trivial⟩, trivial, rfl⟩, rfl,
        Step.guarded rfl rfl rfl rfl (fun hc => Does.strip (n' := [(54, (.opt v16 (.bool y8.1)))]) (n := [(54, (.bool y8.1))]) ⟨(.opt _ _ hc), trivial⟩ (does_move (.tmp 54) (.bool y8.1) trivial)), ⟨⟨rfl, rfl, trivial⟩, trivial, rfl⟩, rfl,
        Step.guarded rfl rfl rfl rfl (fun hc => does_load 24 7 3 0 [] (.var (e_a8_u32 y8.2)) (e_a8_u32 y8.2) trivial rfl rfl ty24), ⟨⟨rfl, rfl, trivial⟩, ⟨rfl, trivial⟩, rfl⟩, rfl,
        Step.guarded rfl rfl rfl rfl (fun hc => does_load 25 4 1 0 [] (.var (e_a8_u32 p1)) (e_a8_u32 p1) trivial rfl rfl ty25), ⟨⟨rfl, rfl, trivial⟩, ⟨rfl, trivial⟩, rfl⟩, rfl,
        Step.guarded rfl rfl rfl rfl (fun hc => Does.strip (n' := [(56, (.opt (v16 && (!y8.1)) (e_a8_u32 y8.2))), (57, (.opt (v16 && (!y8.1)) (e_a8_u32 p1)))]) (n := [(56, (e_a8_u32 y8.2)), (57, (e_a8_u32 p1))]) ⟨(.opt _ _ hc), (.opt _ _ hc), trivial⟩ (does_call 17 0 (fun _ => .any) (.func 17) [(.tmp 56), (.tmp 57)] [(e_a8_u32 y8.2), (e_a8_u32 p1)] [] true [(e_a8_u32 y8.2), (e_a8_u32 p1)] (e_api_Place v18) _ _ rfl fo17 rfl ⟨trivial, trivial, trivial⟩ ⟨.data _ (d_a8_u32 y8.2), .data _ (d_a8_u32 p1), trivial⟩ (round_Position_spec y8.2 p1 _ (h19 hc)) (f_api_Place v18))), ⟨⟨rfl, rfl, rfl, trivial⟩, trivial, rfl⟩, rfl,
        Step.guarded rfl rfl rfl rfl (fun hc => does_load 24 3 0 0 [] (.var (e_a8_u32 p0)) (e_a8_u32 p0) trivial rfl rfl ty24), ⟨⟨rfl, rfl, trivial⟩, ⟨rfl, trivial⟩, rfl⟩, rfl,
        Step.guarded rfl rfl rfl rfl (fun hc => does_load 25 4 1 0 [] (.var (e_a8_u32 p1)) (e_a8_u32 p1) trivial rfl rfl ty25), ⟨⟨rfl, rfl, trivial⟩, ⟨rfl, trivial⟩, rfl⟩, rfl,
        Step.guarded rfl rfl rfl rfl (fun hc => Does.strip (n' := [(59, (.opt (v16 && (!y8.1)) (e_a8_u32 p0))), (60, (.opt (v16 && (!y8.1)) (e_a8_u32 p1)))]) (n := [(59, (e_a8_u32 p0)), (60, (e_a8_u32 p1))]) ⟨(.opt _ _ hc), (.opt _ _ hc), trivial⟩ (does_call 17 0 (fun _ => .any) (.func 17) [(.tmp 59), (.tmp 60)] [(e_a8_u32 p0), (e_a8_u32 p1)] [] true [(e_a8_u32 p0), (e_a8_u32 p1)] (e_api_Place v20) _ _ rfl fo17 rfl ⟨trivial, trivial, trivial⟩ ⟨.data _ (d_a8_u32 p0), .data _ (d_a8_u32 p1), trivial⟩ (round_Position_spec p0 p1 _ (h21 hc)) (f_api_Place v20))), ⟨⟨rfl, rfl, rfl, trivial⟩, trivial, rfl⟩, rfl,
        Step.guarded rfl rfl rfl rfl (fun hc => Does.strip (n' := [(58, (.opt (v16 && (!y8.1)) (e_api_Place v18))), (61, (.opt (v16 && (!y8.1)) (e_api_Place v20)))]) (n := [(58, (e_api_Place v18)), (61, (e_api_Place v20))]) ⟨(.opt _ _ hc), (.opt _ _ hc), trivial⟩ (does_call 15 0 (fun _ => .any) (.func 15) [(.tmp 58), (.tmp 61)] [(e_api_Place v18), (e_api_Place v20)] [] true [(e_api_Place v18), (e_api_Place v20)] (.bool v22) _ _ rfl fo15 rfl ⟨trivial, trivial, trivial⟩ ⟨.data _ (d_api_Place v18), .data _ (d_api_Place v20), trivial⟩ (round_Before_spec v18 v20 _ (h23 hc)) trivial)), ⟨⟨rfl, rfl, rfl, trivial⟩, trivial, rfl⟩, rfl,
        Step.guarded rfl rfl rfl rfl (fun hc => Does.strip (n' := [(62, (.opt (v16 && (!y8.1)) (.bool v22)))]) (n := [(62, (.bool v22))]) ⟨(.opt _ _ hc), trivial⟩ (does_not 4 (.tmp 62) v22 trivial)), ⟨⟨rfl, rfl, trivial⟩, trivial, rfl⟩, rfl,
        Step.guarded rfl rfl rfl rfl (fun hc => Does.strip (n' := [(55, (.opt v16 (.bool y8.1))), (63, (.opt (v16 && (!y8.1)) (.bool (!v22))))]) (n := [(55, (.bool y8.1)), (63, (.opt (!y8.1) (.bool (!v22))))]) ⟨(.opt _ _ hc), (.half _ _ hc), trivial⟩ (does_or 55 63 y8.1 (!v22))), ⟨⟨rfl, rfl, rfl, trivial⟩, trivial, rfl⟩, rfl,
        Step.plain rfl (does_and 53 64 v16 (y8.1 || (!v22))), ⟨⟨rfl, rfl, trivial⟩, trivial, rfl⟩, rfl,
        Step.plain rfl (does_assign (.tmp 65) (.bool (v16 && (y8.1 || (!v22)))) trivial), ⟨⟨rfl, trivial⟩, trivial, rfl⟩, rfl, rfl⟩ rfl ?_
      refine aw_cov (cov_prune (s1 := ⟨[(6, (.bool (v16 && (y8.1 || (!v22)))))], [], 4⟩) ⟨rfl, trivial⟩ trivial (Nat.le_refl _)) ?_
      refine aw_ret ?_
      exact fun a w hr => ⟨_, [(.bool (v16 && (y8.1 || (!v22))))], hr, ⟨⟨_, rfl, .data _ trivial⟩, trivial⟩, by decide, by cases H; rfl⟩
    · refine aw_seq ?_
      refine aw_region (es := [_, _]) ⟨Step.plain rfl (does_move (.tmp 10) (.int .i64 x9) trivial), ⟨⟨rfl, trivial⟩, trivial, rfl⟩, rfl,
        Step.plain rfl (does_bin .lss 3 3 (.tmp 33) (.const (.int .i64 4)) .i64 x9 4 (.bool (decide (x9 < 4))) trivial (fun _ => rfl) (bin_lss _ _ _ _)), ⟨⟨rfl, trivial⟩, trivial, rfl⟩, rfl, rfl⟩ ?_
      refine aw_cov (cov_prune (s1 := ⟨[(3, (.ptr 0 0 [])), (4, (.ptr 1 0 [])), (5, (.ptr 2 0 [])), (7, (.ptr 3 0 [])), (8, (.bool y8.1)), (10, (.int .i64 x9)), (34, (.bool (decide (x9 < 4))))], [(0, some (.var (e_a8_u32 p0))), (1, some (.var (e_a8_u32 p1))), (2, some (.var (e_congresslaw09_More p2))), (3, some (.var (e_a8_u32 y8.2)))], 4⟩) ⟨rfl, rfl, rfl, rfl, rfl, rfl, rfl, trivial⟩ ⟨rfl, rfl, rfl, rfl, trivial⟩ (Nat.le_refl _)) ?_
      refine aw_cond rfl (fun hc => ?_) (fun hc => ?_)
      · replace H := ite_t hc H
        refine aw_skip ?_
        refine nx_seq ?_
        refine aw_seq ?_
        refine aw_block ?_
        obtain ⟨v11, h12, H⟩ := bnd H
        obtain ⟨v13, h14, H⟩ := whn_of H
        refine aw_region (es := [_, _, _, _, _, _, _, _, _, _, _, _, _, _, _]) ⟨Step.plain rfl (does_load 24 3 0 0 [] (.var (e_a8_u32 p0)) (e_a8_u32 p0) trivial rfl rfl ty24), ⟨⟨rfl, trivial⟩, ⟨rfl, trivial⟩, rfl⟩, rfl,
          Step.plain rfl (does_load 25 4 1 0 [] (.var (e_a8_u32 p1)) (e_a8_u32 p1) trivial rfl rfl ty25), ⟨⟨rfl, trivial⟩, ⟨rfl, trivial⟩, rfl⟩, rfl,
          Step.plain rfl (does_fieldAddr 42 1 8 5 2 0 [] (.var (e_congresslaw09_More p2)) fl42_1), ⟨⟨rfl, trivial⟩, ⟨rfl, trivial⟩, rfl⟩, rfl,
          Step.plain rfl (does_load 27 39 2 (0 + 8) [1] (.var (e_congresslaw09_More p2)) (e_api_Place p2.P) ⟨rfl, Nat.le_of_ble_eq_true rfl, trivial⟩ rfl rfl ty27), ⟨⟨rfl, trivial⟩, ⟨rfl, trivial⟩, rfl⟩, rfl,
          Step.plain rfl (does_move (.tmp 10) (.int .i64 x9) trivial), ⟨⟨rfl, trivial⟩, trivial, rfl⟩, rfl,
          Step.plain rfl (does_call 8 0 (fun _ => .any) (.func 8) [(.tmp 37), (.tmp 38), (.tmp 40), (.tmp 41)] [(e_a8_u32 p0), (e_a8_u32 p1), (e_api_Place p2.P), (.int .i64 x9)] [] true [(e_a8_u32 p0), (e_a8_u32 p1), (e_api_Place p2.P), (.int .i64 x9)] (.bool v11) _ _ rfl fo8 rfl ⟨trivial, trivial, trivial, trivial, trivial⟩ ⟨.data _ (d_a8_u32 p0), .data _ (d_a8_u32 p1), .data _ (d_api_Place p2.P), .data _ trivial, trivial⟩ (round_Service_spec p0 p1 p2.P x9 _ h12) trivial), ⟨⟨rfl, rfl, rfl, rfl, trivial⟩, trivial, rfl⟩, rfl,
          Step.plain rfl (does_move (.tmp 42) (.bool v11) trivial), ⟨⟨rfl, trivial⟩, trivial, rfl⟩, rfl,
          Step.guarded rfl rfl rfl rfl (fun hc => does_load 24 7 3 0 [] (.var (e_a8_u32 y8.2)) (e_a8_u32 y8.2) trivial rfl rfl ty24), ⟨⟨rfl, rfl, trivial⟩, ⟨rfl, trivial⟩, rfl⟩, rfl,
          Step.guarded rfl rfl rfl rfl (fun hc => does_load 25 4 1 0 [] (.var (e_a8_u32 p1)) (e_a8_u32 p1) trivial rfl rfl ty25), ⟨⟨rfl, rfl, trivial⟩, ⟨rfl, trivial⟩, rfl⟩, rfl,
          Step.guarded rfl rfl rfl rfl (fun hc => does_fieldAddr 42 1 8 5 2 0 [] (.var (e_congresslaw09_More p2)) fl42_1), ⟨⟨rfl, rfl, trivial⟩, ⟨rfl, trivial⟩, rfl⟩, rfl,
          Step.guarded rfl rfl rfl rfl (fun hc => Does.strip (n' := [(46, (.opt v11 (.ptr 2 (0 + 8) [1])))]) (n := [(46, (.ptr 2 (0 + 8) [1]))]) ⟨(.opt _ _ hc), trivial⟩ (does_load 27 46 2 (0 + 8) [1] (.var (e_congresslaw09_More p2)) (e_api_Place p2.P) ⟨rfl, Nat.le_of_ble_eq_true rfl, trivial⟩ rfl rfl ty27)), ⟨⟨rfl, rfl, trivial⟩, ⟨rfl, trivial⟩, rfl⟩, rfl,
          Step.guarded rfl rfl rfl rfl (fun hc => does_move (.tmp 10) (.int .i64 x9) trivial), ⟨⟨rfl, rfl, trivial⟩, trivial, rfl⟩, rfl,
          Step.guarded rfl rfl rfl rfl (fun hc => Does.strip (n' := [(44, (.opt v11 (e_a8_u32 y8.2))), (45, (.opt v11 (e_a8_u32 p1))), (47, (.opt v11 (e_api_Place p2.P))), (48, (.opt v11 (.int .i64 x9)))]) (n := [(44, (e_a8_u32 y8.2)), (45, (e_a8_u32 p1)), (47, (e_api_Place p2.P)), (48, (.int .i64 x9))]) ⟨(.opt _ _ hc), (.opt _ _ hc), (.opt _ _ hc), (.opt _ _ hc), trivial⟩ (does_call 8 0 (fun _ => .any) (.func 8) [(.tmp 44), (.tmp 45), (.tmp 47), (.tmp 48)] [(e_a8_u32 y8.2), (e_a8_u32 p1), (e_api_Place p2.P), (.int .i64 x9)] [] true [(e_a8_u32 y8.2), (e_a8_u32 p1), (e_api_Place p2.P), (.int .i64 x9)] (.bool v13) _ _ rfl fo8 rfl ⟨trivial, trivial, trivial, trivial, trivial⟩ ⟨.data _ (d_a8_u32 y8.2), .data _ (d_a8_u32 p1), .data _ (d_api_Place p2.P), .data _ trivial, trivial⟩ (round_Service_spec y8.2 p1 p2.P x9 _ (h14 hc)) trivial)), ⟨⟨rfl, rfl, rfl, rfl, rfl, trivial⟩, trivial, rfl⟩, rfl,
          Step.guarded rfl rfl rfl rfl (fun hc => Does.strip (n' := [(49, (.opt v11 (.bool v13)))]) (n := [(49, (.bool v13))]) ⟨(.opt _ _ hc), trivial⟩ (does_not 4 (.tmp 49) v13 trivial)), ⟨⟨rfl, rfl, trivial⟩, trivial, rfl⟩, rfl,
          Step.plain rfl (does_and 43 50 v11 (!v13)), ⟨⟨rfl, rfl, trivial⟩, trivial, rfl⟩, rfl, rfl⟩ ?_
        refine aw_cov (cov_prune (s1 := ⟨[(3, (.ptr 0 0 [])), (4, (.ptr 1 0 [])), (5, (.ptr 2 0 [])), (7, (.ptr 3 0 [])), (8, (.bool y8.1)), (10, (.int .i64 x9)), (51, (.bool (v11 && (!v13))))], [(0, some (.var (e_a8_u32 p0))), (1, some (.var (e_a8_u32 p1))), (2, some (.var (e_congresslaw09_More p2))), (3, some (.var (e_a8_u32 y8.2)))], 4⟩) ⟨rfl, rfl, rfl, rfl, rfl, rfl, rfl, trivial⟩ ⟨rfl, rfl, rfl, rfl, trivial⟩ (Nat.le_refl _)) ?_
        refine aw_cond rfl (fun hc => ?_) (fun hc => ?_)
        · replace H := ite_t hc H
          refine aw_region (es := [_]) ⟨Step.plain rfl (does_assign (.const (.bool false)) (.bool false) (fun _ => rfl)), ⟨trivial, trivial, rfl⟩, rfl, rfl⟩ ?_
          refine aw_cov (cov_prune (s1 := ⟨[(6, (.bool false))], [], 4⟩) ⟨rfl, trivial⟩ trivial (Nat.le_refl _)) ?_
          refine aw_ret ?_
          replace H := rt_of H hsn10 Hrn10
          refine rt_blk ?_
          refine rt_then ?_
          refine rt_then ?_
          refine rt_blk ?_
          refine rt_then ?_
          refine rt_then ?_
          exact fun a w hr => ⟨_, [(.bool false)], hr, ⟨⟨_, rfl, .data _ trivial⟩, trivial⟩, by decide, by cases H; rfl⟩
        · replace H := ite_f hc H
          refine aw_skip ?_
          refine nx_blk ?_
          refine nx_seq ?_
          refine aw_region1 (es := [_, _, _]) ⟨Step.plain rfl (does_move (.tmp 10) (.int .i64 x9) trivial), ⟨⟨rfl, trivial⟩, trivial, rfl⟩, rfl,
            Step.plain rfl (does_bin .add 3 3 (.tmp 35) (.const (.int .i64 1)) .i64 x9 1 (.int .i64 (IntKind.i64.wrap (x9 + 1))) trivial (fun _ => rfl) (bin_add _ _ _ _)), ⟨⟨rfl, trivial⟩, trivial, rfl⟩, rfl,
            Step.plain rfl (does_assign (.tmp 36) (.int .i64 (IntKind.i64.wrap (x9 + 1))) trivial), ⟨⟨rfl, trivial⟩, trivial, rfl⟩, rfl, rfl⟩ ?_
          exact nx_loop ((IntKind.i64.wrap (x9 + 1))) H (cov_prune ⟨rfl, rfl, rfl, rfl, rfl, rfl, trivial⟩ ⟨rfl, rfl, rfl, rfl, trivial⟩ (Nat.le_of_ble_eq_true rfl))
      · replace H := ite_f hc H
        refine aw_exit ?_
        refine ex_then ?_
        refine ex_then ?_
        refine ex_here ?_
        exact nx_ljoin () H hsn10 (cov_prune ⟨rfl, rfl, rfl, rfl, trivial⟩ ⟨rfl, rfl, rfl, trivial⟩ (Nat.le_of_ble_eq_true rfl))
  · refine aw_seq ?_
    refine aw_region (es := [_, _]) ⟨Step.plain rfl (does_move (.tmp 9) (.int .i64 x1.2.1) trivial), ⟨⟨rfl, trivial⟩, trivial, rfl⟩, rfl,
      Step.plain rfl (does_bin .lss 3 3 (.tmp 12) (.const (.int .i64 8)) .i64 x1.2.1 8 (.bool (decide (x1.2.1 < 8))) trivial (fun _ => rfl) (bin_lss _ _ _ _)), ⟨⟨rfl, trivial⟩, trivial, rfl⟩, rfl, rfl⟩ ?_
    refine aw_cov (cov_prune (s1 := ⟨[(3, (.ptr 0 0 [])), (4, (.ptr 1 0 [])), (5, (.ptr 2 0 [])), (7, (.ptr 3 0 [])), (8, (.bool x1.1)), (9, (.int .i64 x1.2.1)), (13, (.bool (decide (x1.2.1 < 8))))], [(0, some (.var (e_a8_u32 p0))), (1, some (.var (e_a8_u32 p1))), (2, some (.var (e_congresslaw09_More p2))), (3, some (.var (e_a8_u32 x1.2.2)))], 4⟩) ⟨rfl, rfl, rfl, rfl, rfl, rfl, rfl, trivial⟩ ⟨rfl, rfl, rfl, rfl, trivial⟩ (Nat.le_refl _)) ?_
    refine aw_cond rfl (fun hc => ?_) (fun hc => ?_)
    · replace H := ite_t hc H
      refine aw_skip ?_
      refine nx_seq ?_
      refine aw_seq ?_
      refine aw_block ?_
      obtain ⟨h3, H⟩ := ib_of H
      obtain ⟨h4, H⟩ := ib_of H
      obtain ⟨h5, H⟩ := ib_of H
      refine aw_draw (es := [_, _, _, _, _, _, _, _, _, _, _]) (mixed) ⟨Step.plain rfl (does_move (.tmp 9) (.int .i64 x1.2.1) trivial), ⟨⟨rfl, trivial⟩, trivial, rfl⟩, rfl,
        Step.plain rfl (does_move (.tmp 9) (.int .i64 x1.2.1) trivial), ⟨⟨rfl, trivial⟩, trivial, rfl⟩, rfl,
        Step.plain rfl (does_indexAddr 24 8 1 3 0 0 [] (.var (e_a8_u32 p0)) (.tmp 17) .i64 x1.2.1 el24 trivial h3.1 h3.2), ⟨⟨rfl, rfl, trivial⟩, ⟨rfl, trivial⟩, rfl⟩, rfl,
        Step.plain rfl (does_load 22 18 0 (0 + x1.2.1.toNat * 1) [x1.2.1.toNat] (.var (e_a8_u32 p0)) (.int .u32 (p0 x1.2.1.toNat)) ⟨rfl, (ixl h3), trivial⟩ rfl rfl ty22), ⟨⟨rfl, trivial⟩, ⟨rfl, trivial⟩, rfl⟩, rfl,
        Step.plain rfl (does_move (.tmp 9) (.int .i64 x1.2.1) trivial), ⟨⟨rfl, trivial⟩, trivial, rfl⟩, rfl,
        Step.plain rfl (does_fieldAddr 42 0 0 5 2 0 [] (.var (e_congresslaw09_More p2)) fl42_0), ⟨⟨rfl, trivial⟩, ⟨rfl, trivial⟩, rfl⟩, rfl,
        Step.plain rfl (does_indexAddr 24 8 1 21 2 (0 + 0) [0] (.var (e_congresslaw09_More p2)) (.tmp 20) .i64 x1.2.1 el24 trivial h4.1 h4.2), ⟨⟨rfl, rfl, trivial⟩, ⟨rfl, trivial⟩, rfl⟩, rfl,
        Step.plain rfl (does_load 22 22 2 ((0 + 0) + x1.2.1.toNat * 1) [0, x1.2.1.toNat] (.var (e_congresslaw09_More p2)) (.int .u32 (p2.D x1.2.1.toNat)) ⟨rfl, Nat.le_of_ble_eq_true rfl, ⟨rfl, (ixl h4), trivial⟩⟩ rfl rfl ty22), ⟨⟨rfl, trivial⟩, ⟨rfl, trivial⟩, rfl⟩, rfl,
        Step.plain rfl (does_max _ _ (.tmp 19) (.tmp 23) rfl .u32 (p0 x1.2.1.toNat) (p2.D x1.2.1.toNat) trivial trivial), ⟨⟨rfl, rfl, trivial⟩, trivial, rfl⟩, rfl,
        Step.plain rfl (does_indexAddr 24 8 1 7 3 0 [] (.var (e_a8_u32 x1.2.2)) (.tmp 16) .i64 x1.2.1 el24 trivial h5.1 h5.2), ⟨⟨rfl, rfl, trivial⟩, ⟨rfl, trivial⟩, rfl⟩, rfl,
        Step.plain rfl (does_store 22 25 (.tmp 24) 3 (0 + x1.2.1.toNat * 1) [x1.2.1.toNat] (.var (e_a8_u32 x1.2.2)) (.var (e_a8_u32 (aupd x1.2.2 x1.2.1.toNat (if (p0 x1.2.1.toNat) < (p2.D x1.2.1.toNat) then p2.D x1.2.1.toNat else p0 x1.2.1.toNat)))) (.int .u32 (if (p0 x1.2.1.toNat) < (p2.D x1.2.1.toNat) then p2.D x1.2.1.toNat else p0 x1.2.1.toNat)) false trivial rfl ⟨rfl, (ixl h5), trivial⟩ rfl rfl (congrArg Box.var (set_cons rfl (vupd_map (fun z => V.int .u32 z) _ _ _))) ty22), ⟨⟨rfl, rfl, trivial⟩, ⟨rfl, trivial⟩, rfl⟩, rfl, rfl⟩ rfl ?_
      obtain ⟨v6, hv6, H⟩ := lt_of H
      refine aw_cov (cov_prune (s1 := ⟨[(3, (.ptr 0 0 [])), (4, (.ptr 1 0 [])), (5, (.ptr 2 0 [])), (7, (.ptr 3 0 [])), (8, (.bool x1.1)), (9, (.int .i64 x1.2.1))], [(0, some (.var (e_a8_u32 p0))), (1, some (.var (e_a8_u32 p1))), (2, some (.var (e_congresslaw09_More p2))), (3, some (.var (e_a8_u32 v6)))], 4⟩) ⟨rfl, rfl, rfl, rfl, rfl, rfl, trivial⟩ ⟨rfl, rfl, rfl, (by subst hv6; rfl), trivial⟩ (Nat.le_refl _)) ?_
      obtain ⟨h7, H⟩ := ibg_of H
      refine aw_region1 (es := [_, _, _, _, _, _, _, _]) ⟨Step.plain rfl (does_move (.tmp 8) (.bool x1.1) trivial), ⟨⟨rfl, trivial⟩, trivial, rfl⟩, rfl,
        Step.plain rfl (does_move (.tmp 26) (.bool x1.1) trivial), ⟨⟨rfl, trivial⟩, trivial, rfl⟩, rfl,
        Step.guarded rfl rfl rfl rfl (fun hc => does_move (.tmp 9) (.int .i64 x1.2.1) trivial), ⟨⟨rfl, rfl, trivial⟩, trivial, rfl⟩, rfl,
        Step.guarded rfl rfl rfl rfl (fun hc => Does.strip (n' := [(7, (.ptr 3 0 [])), (28, (.opt (!x1.1) (.int .i64 x1.2.1)))]) (n := [(7, (.ptr 3 0 [])), (28, (.int .i64 x1.2.1))]) ⟨(.same _), (.opt _ _ hc), trivial⟩ (does_indexAddr 24 8 1 7 3 0 [] (.var (e_a8_u32 v6)) (.tmp 28) .i64 x1.2.1 el24 trivial (h7 hc).1 (h7 hc).2)), ⟨⟨rfl, rfl, rfl, trivial⟩, ⟨rfl, trivial⟩, rfl⟩, rfl,
        Step.guarded rfl rfl rfl rfl (fun hc => Does.strip (n' := [(29, (.opt (!x1.1) (.ptr 3 (0 + x1.2.1.toNat * 1) [x1.2.1.toNat])))]) (n := [(29, (.ptr 3 (0 + x1.2.1.toNat * 1) [x1.2.1.toNat]))]) ⟨(.opt _ _ hc), trivial⟩ (does_load 22 29 3 (0 + x1.2.1.toNat * 1) [x1.2.1.toNat] (.var (e_a8_u32 v6)) (.int .u32 (v6 x1.2.1.toNat)) ⟨rfl, (ixl (h7 hc)), trivial⟩ rfl rfl ty22)), ⟨⟨rfl, rfl, trivial⟩, ⟨rfl, trivial⟩, rfl⟩, rfl,
        Step.guarded rfl rfl rfl rfl (fun hc => Does.strip (n' := [(30, (.opt (!x1.1) (.int .u32 (v6 x1.2.1.toNat))))]) (n := [(30, (.int .u32 (v6 x1.2.1.toNat)))]) ⟨(.opt _ _ hc), trivial⟩ (does_bin .eql 22 22 (.tmp 30) (.const (.int .u32 4294967295)) .u32 (v6 x1.2.1.toNat) 4294967295 (.bool ((v6 x1.2.1.toNat) == 4294967295)) trivial (fun _ => rfl) (bin_eql _ _ _ _))), ⟨⟨rfl, rfl, trivial⟩, trivial, rfl⟩, rfl,
        Step.plain rfl (does_or 27 31 x1.1 ((v6 x1.2.1.toNat) == 4294967295)), ⟨⟨rfl, rfl, trivial⟩, trivial, rfl⟩, rfl,
        Step.plain rfl (does_assign (.tmp 32) (.bool (x1.1 || ((v6 x1.2.1.toNat) == 4294967295))) trivial), ⟨⟨rfl, trivial⟩, trivial, rfl⟩, rfl, rfl⟩ ?_
      refine nx_blk ?_
      refine nx_seq ?_
      refine aw_cov (cov_prune (s1 := ⟨[(3, (.ptr 0 0 [])), (4, (.ptr 1 0 [])), (5, (.ptr 2 0 [])), (7, (.ptr 3 0 [])), (9, (.int .i64 x1.2.1)), (8, (.bool (x1.1 || ((v6 x1.2.1.toNat) == 4294967295))))], [(0, some (.var (e_a8_u32 p0))), (1, some (.var (e_a8_u32 p1))), (2, some (.var (e_congresslaw09_More p2))), (3, some (.var (e_a8_u32 v6)))], 4⟩) ⟨rfl, rfl, rfl, rfl, rfl, rfl, trivial⟩ ⟨rfl, rfl, rfl, rfl, trivial⟩ (Nat.le_refl _)) ?_
      refine aw_region1 (es := [_, _, _]) ⟨Step.plain rfl (does_move (.tmp 9) (.int .i64 x1.2.1) trivial), ⟨⟨rfl, trivial⟩, trivial, rfl⟩, rfl,
        Step.plain rfl (does_bin .add 3 3 (.tmp 14) (.const (.int .i64 1)) .i64 x1.2.1 1 (.int .i64 (IntKind.i64.wrap (x1.2.1 + 1))) trivial (fun _ => rfl) (bin_add _ _ _ _)), ⟨⟨rfl, trivial⟩, trivial, rfl⟩, rfl,
        Step.plain rfl (does_assign (.tmp 15) (.int .i64 (IntKind.i64.wrap (x1.2.1 + 1))) trivial), ⟨⟨rfl, trivial⟩, trivial, rfl⟩, rfl, rfl⟩ ?_
      exact nx_loop ((x1.1 || ((v6 x1.2.1.toNat) == 4294967295)), (IntKind.i64.wrap (x1.2.1 + 1)), v6) H (cov_prune ⟨rfl, rfl, rfl, rfl, rfl, rfl, trivial⟩ ⟨rfl, rfl, rfl, rfl, trivial⟩ (Nat.le_of_ble_eq_true rfl))
    · replace H := ite_f hc H
      refine aw_exit ?_
      refine ex_then ?_
      refine ex_then ?_
      refine ex_here ?_
      exact nx_ljoin (x1.1, x1.2.2) H hsn2 (cov_prune ⟨rfl, rfl, rfl, rfl, rfl, trivial⟩ ⟨rfl, rfl, rfl, rfl, trivial⟩ (Nat.le_of_ble_eq_true rfl))
end Go.Proofs.Ytgcnlfchpjbhkaa
