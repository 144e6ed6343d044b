/- Printed by gen.py. Conditions: none. -/
import Derived.Test.YtckoficjcnaedaaSp1
import Derived.KernelRfl
set_option linter.unusedVariables false
set_option maxRecDepth 100000
namespace Go.Proofs.Ytckoficjcnaedaa
open Go.Eng
theorem congresslaw08_BeatWaits_spec (p0 : api_Beat) (p1 : congresslaw08_Heard) (p2 : Int) (r : Bool) (H : congresslaw08_BeatWaits p0 p1 p2 = some r) : FSpec Try.prog 4 [(e_api_Beat p0), (e_congresslaw08_Heard p1), (.int .u32 p2)] (.bool r) := by
  refine spec_of (fn := Try.f4) (args := [(e_api_Beat p0), (e_congresslaw08_Heard p1), (.int .u32 p2)]) Try.func4 rfl (Nat.le_of_ble_eq_true rfl) ?_
  rintro ⟨G, w0, W, S, Sp⟩ hG
  cases hG
  unfold congresslaw08_BeatWaits at H
  refine aw_region (es := [_, _, _]) ⟨Step.plain rfl (does_box 25 (.tmp 0) 0 (e_api_Beat p0) trivial rfl), ⟨⟨rfl, trivial⟩, trivial, rfl⟩, rfl,
    Step.plain rfl (does_box 27 (.tmp 1) 1 (e_congresslaw08_Heard p1) trivial rfl), ⟨⟨rfl, trivial⟩, trivial, rfl⟩, rfl,
    Step.plain rfl (does_assign (.const (.bool false)) (.bool false) (fun _ => rfl)), ⟨trivial, trivial, rfl⟩, rfl, rfl⟩ ?_
  refine aw_cov (cov_prune (s1 := ⟨[(2, (.int .u32 p2)), (3, (.ptr 0 0 [])), (4, (.ptr 1 0 []))], [(0, some (.var (e_api_Beat p0))), (1, some (.var (e_congresslaw08_Heard p1)))], 2⟩) ⟨rfl, rfl, rfl, trivial⟩ ⟨rfl, rfl, trivial⟩ (Nat.le_refl _)) ?_
  obtain ⟨v1, h2, H⟩ := bnd H
  refine aw_region (es := [_, _, _, _, _, _, _, _, _, _, _, _]) ⟨Step.plain rfl (does_load 25 3 0 0 [] (.var (e_api_Beat p0)) (e_api_Beat p0) trivial rfl rfl ty25), ⟨⟨rfl, trivial⟩, ⟨rfl, trivial⟩, rfl⟩, rfl,
    Step.plain rfl (does_fieldAddr 27 0 0 4 1 0 [] (.var (e_congresslaw08_Heard p1)) fl27_0), ⟨⟨rfl, trivial⟩, ⟨rfl, trivial⟩, rfl⟩, rfl,
    Step.plain rfl (does_load 3 16 1 (0 + 0) [0] (.var (e_congresslaw08_Heard p1)) (.int .i64 p1.From) ⟨rfl, Nat.le_of_ble_eq_true rfl, trivial⟩ rfl rfl ty3), ⟨⟨rfl, trivial⟩, ⟨rfl, trivial⟩, rfl⟩, rfl,
    Step.plain rfl (does_fieldAddr 27 1 1 4 1 0 [] (.var (e_congresslaw08_Heard p1)) fl27_1), ⟨⟨rfl, trivial⟩, ⟨rfl, trivial⟩, rfl⟩, rfl,
    Step.plain rfl (does_load 22 18 1 (0 + 1) [1] (.var (e_congresslaw08_Heard p1)) (.int .u32 p1.Inc) ⟨rfl, Nat.le_of_ble_eq_true rfl, trivial⟩ rfl rfl ty22), ⟨⟨rfl, trivial⟩, ⟨rfl, trivial⟩, rfl⟩, rfl,
    Step.plain rfl (does_call 7 0 (fun _ => .any) (.func 7) [(.tmp 15), (.tmp 17), (.tmp 19)] [(e_api_Beat p0), (.int .i64 p1.From), (.int .u32 p1.Inc)] [] true [(e_api_Beat p0), (.int .i64 p1.From), (.int .u32 p1.Inc)] (resV [(e_api_Beat v1.1), (.bool v1.2)]) _ _ rfl fo7 rfl ⟨trivial, trivial, trivial, trivial⟩ ⟨.data _ (d_api_Beat p0), .data _ trivial, .data _ trivial, trivial⟩ (beat_Hear_spec p0 p1.From p1.Inc _ h2) (res_flat2 (f_api_Beat v1.1) trivial)), ⟨⟨rfl, rfl, rfl, trivial⟩, trivial, rfl⟩, rfl,
    Step.plain rfl (does_move (.tmp 20) (resV [(e_api_Beat v1.1), (.bool v1.2)]) trivial), ⟨⟨rfl, trivial⟩, trivial, rfl⟩, rfl,
    Step.plain rfl (does_extract 14 0 2 (fun j => [(e_api_Beat v1.1), (.bool v1.2)].getD j (.bool false)) (Nat.le_of_ble_eq_true rfl)), ⟨⟨rfl, trivial⟩, trivial, rfl⟩, rfl,
    Step.plain rfl (does_extract 14 1 2 (fun j => [(e_api_Beat v1.1), (.bool v1.2)].getD j (.bool false)) (Nat.le_of_ble_eq_true rfl)), ⟨⟨rfl, trivial⟩, trivial, rfl⟩, rfl,
    Step.plain rfl (does_alloc 25 2 (e_api_Beat z_api_Beat) zr25), ⟨trivial, trivial, rfl⟩, rfl,
    Step.plain rfl (does_store 25 7 (.tmp 21) 2 0 [] (.var (e_api_Beat z_api_Beat)) (.var (e_api_Beat v1.1)) (e_api_Beat v1.1) true trivial rfl trivial rfl rfl rfl ty25), ⟨⟨rfl, rfl, trivial⟩, ⟨rfl, trivial⟩, rfl⟩, rfl,
    Step.plain rfl (does_assign (.tmp 22) (.bool v1.2) trivial), ⟨⟨rfl, trivial⟩, trivial, rfl⟩, rfl, rfl⟩ ?_
  refine aw_cov (cov_prune (s1 := ⟨[(2, (.int .u32 p2)), (3, (.ptr 0 0 [])), (4, (.ptr 1 0 [])), (7, (.ptr 2 0 [])), (8, (.bool v1.2))], [(0, some (.var (e_api_Beat p0))), (1, some (.var (e_congresslaw08_Heard p1))), (2, some (.var (e_api_Beat v1.1)))], 3⟩) ⟨rfl, rfl, rfl, rfl, rfl, trivial⟩ ⟨rfl, rfl, rfl, trivial⟩ (Nat.le_refl _)) ?_
  refine aw_seq ?_
  obtain ⟨v3, h4, H⟩ := bnd H
  refine aw_region (es := [_, _, _, _, _, _, _, _, _, _, _, _, _, _, _]) ⟨Step.plain rfl (does_call 9 0 (fun _ => .any) (.func 9) [] [] [] true [] (.bool v3) _ _ rfl fo9 rfl trivial trivial (congresslaw08_fixed_spec _ h4) trivial), ⟨trivial, trivial, rfl⟩, rfl,
    Step.plain rfl (does_not 4 (.tmp 23) v3 trivial), ⟨⟨rfl, trivial⟩, trivial, rfl⟩, rfl,
    Step.plain rfl (does_move (.tmp 24) (.bool (!v3)) trivial), ⟨⟨rfl, trivial⟩, trivial, rfl⟩, rfl,
    Step.guarded rfl rfl rfl rfl (fun hc => does_move (.tmp 8) (.bool v1.2) trivial), ⟨⟨rfl, rfl, trivial⟩, trivial, rfl⟩, rfl,
    Step.guarded rfl rfl rfl rfl (fun hc => Does.strip (n' := [(26, (.opt (!(!v3)) (.bool v1.2)))]) (n := [(26, (.bool v1.2))]) ⟨(.opt _ _ hc), trivial⟩ (does_not 4 (.tmp 26) v1.2 trivial)), ⟨⟨rfl, rfl, trivial⟩, trivial, rfl⟩, rfl,
    Step.plain rfl (does_or 25 27 (!v3) (!v1.2)), ⟨⟨rfl, rfl, trivial⟩, trivial, rfl⟩, rfl,
    Step.plain rfl (does_move (.tmp 28) (.bool ((!v3) || (!v1.2))) trivial), ⟨⟨rfl, trivial⟩, trivial, rfl⟩, rfl,
    Step.guarded rfl rfl rfl rfl (fun hc => does_move (.tmp 2) (.int .u32 p2) trivial), ⟨⟨rfl, rfl, trivial⟩, trivial, rfl⟩, rfl,
    Step.guarded rfl rfl rfl rfl (fun hc => Does.strip (n' := [(30, (.opt (!((!v3) || (!v1.2))) (.int .u32 p2)))]) (n := [(30, (.int .u32 p2))]) ⟨(.opt _ _ hc), trivial⟩ (does_bin .gtr 22 22 (.tmp 30) (.const (.int .u32 200)) .u32 p2 200 (.bool (decide (p2 > 200))) trivial (fun _ => rfl) (bin_gtr _ _ _ _))), ⟨⟨rfl, rfl, trivial⟩, trivial, rfl⟩, rfl,
    Step.plain rfl (does_or 29 31 ((!v3) || (!v1.2)) (decide (p2 > 200))), ⟨⟨rfl, rfl, trivial⟩, trivial, rfl⟩, rfl,
    Step.plain rfl (does_move (.tmp 32) (.bool (((!v3) || (!v1.2)) || (decide (p2 > 200)))) trivial), ⟨⟨rfl, trivial⟩, trivial, rfl⟩, rfl,
    Step.guarded rfl rfl rfl rfl (fun hc => does_fieldAddr 25 0 0 3 0 0 [] (.var (e_api_Beat p0)) fl25_0), ⟨⟨rfl, rfl, trivial⟩, ⟨rfl, trivial⟩, rfl⟩, rfl,
    Step.guarded rfl rfl rfl rfl (fun hc => Does.strip (n' := [(34, (.opt (!(((!v3) || (!v1.2)) || (decide (p2 > 200)))) (.ptr 0 (0 + 0) [0])))]) (n := [(34, (.ptr 0 (0 + 0) [0]))]) ⟨(.opt _ _ hc), trivial⟩ (does_load 22 34 0 (0 + 0) [0] (.var (e_api_Beat p0)) (.int .u32 p0.Now) ⟨rfl, Nat.le_of_ble_eq_true rfl, trivial⟩ rfl rfl ty22)), ⟨⟨rfl, rfl, trivial⟩, ⟨rfl, trivial⟩, rfl⟩, rfl,
    Step.guarded rfl rfl rfl rfl (fun hc => Does.strip (n' := [(35, (.opt (!(((!v3) || (!v1.2)) || (decide (p2 > 200)))) (.int .u32 p0.Now)))]) (n := [(35, (.int .u32 p0.Now))]) ⟨(.opt _ _ hc), trivial⟩ (does_bin .gtr 22 22 (.tmp 35) (.const (.int .u32 4000000000)) .u32 p0.Now 4000000000 (.bool (decide (p0.Now > 4000000000))) trivial (fun _ => rfl) (bin_gtr _ _ _ _))), ⟨⟨rfl, rfl, trivial⟩, trivial, rfl⟩, rfl,
    Step.plain rfl (does_or 33 36 (((!v3) || (!v1.2)) || (decide (p2 > 200))) (decide (p0.Now > 4000000000))), ⟨⟨rfl, rfl, trivial⟩, trivial, rfl⟩, rfl, rfl⟩ ?_
  obtain ⟨v5, hv5, H⟩ := lt_of H
  refine aw_cov (cov_prune (s1 := ⟨[(2, (.int .u32 p2)), (3, (.ptr 0 0 [])), (4, (.ptr 1 0 [])), (7, (.ptr 2 0 [])), (37, (.bool v5))], [(0, some (.var (e_api_Beat p0))), (1, some (.var (e_congresslaw08_Heard p1))), (2, some (.var (e_api_Beat v1.1)))], 3⟩) ⟨rfl, rfl, rfl, rfl, (by subst hv5; rfl), trivial⟩ ⟨rfl, rfl, rfl, trivial⟩ (Nat.le_refl _)) ?_
  refine aw_cond rfl (fun hc => ?_) (fun hc => ?_)
  · replace H := ite_t hc H
    obtain ⟨v6, h7, H⟩ := bnd H
    refine aw_region (es := [_, _]) ⟨Step.plain rfl (does_call 9 0 (fun _ => .any) (.func 9) [] [] [] true [] (.bool v6) _ _ rfl fo9 rfl trivial trivial (congresslaw08_fixed_spec _ h7) trivial), ⟨trivial, trivial, rfl⟩, rfl,
      Step.plain rfl (does_assign (.tmp 38) (.bool v6) trivial), ⟨⟨rfl, trivial⟩, trivial, rfl⟩, rfl, rfl⟩ ?_
    refine aw_cov (cov_prune (s1 := ⟨[(6, (.bool v6))], [], 3⟩) ⟨rfl, trivial⟩ trivial (Nat.le_refl _)) ?_
    refine aw_ret ?_
    refine rt_then ?_
    exact fun a w hr => ⟨_, [(.bool v6)], hr, ⟨⟨_, rfl, .data _ trivial⟩, trivial⟩, by decide, by cases H; rfl⟩
  · replace H := ite_f hc H
    refine aw_skip ?_
    refine nx_seq ?_
    obtain ⟨v8, h9, H⟩ := bnd H
    refine aw_region (es := [_, _, _, _, _]) ⟨Step.plain rfl (does_load 25 3 0 0 [] (.var (e_api_Beat p0)) (e_api_Beat p0) trivial rfl rfl ty25), ⟨⟨rfl, trivial⟩, ⟨rfl, trivial⟩, rfl⟩, rfl,
      Step.plain rfl (does_move (.tmp 2) (.int .u32 p2) trivial), ⟨⟨rfl, trivial⟩, trivial, rfl⟩, rfl,
      Step.plain rfl (does_call 12 0 (fun _ => .any) (.func 12) [(.tmp 39), (.const (.int .i64 (-1))), (.const (.int .u32 0)), (.tmp 40)] [(e_api_Beat p0), (.int .i64 (-1)), (.int .u32 0), (.int .u32 p2)] [] true [(e_api_Beat p0), (.int .i64 (-1)), (.int .u32 0), (.int .u32 p2)] (e_a8_u32 v8) _ _ rfl fo12 rfl ⟨trivial, (fun _ => rfl), (fun _ => rfl), trivial, trivial⟩ ⟨.data _ (d_api_Beat p0), .data _ trivial, .data _ trivial, .data _ trivial, trivial⟩ (beat_Reach_spec p0 (-1) 0 p2 _ h9) (f_a8_u32 v8)), ⟨⟨rfl, rfl, trivial⟩, trivial, rfl⟩, rfl,
      Step.plain rfl (does_alloc 32 3 (e_a8_u32 (fun _ => 0)) zr32), ⟨trivial, trivial, rfl⟩, rfl,
      Step.plain rfl (does_store 32 9 (.tmp 41) 3 0 [] (.var (e_a8_u32 (fun _ => 0))) (.var (e_a8_u32 v8)) (e_a8_u32 v8) true trivial rfl trivial rfl rfl rfl ty32), ⟨⟨rfl, rfl, trivial⟩, ⟨rfl, trivial⟩, rfl⟩, rfl, rfl⟩ ?_
    refine aw_cov (cov_prune (s1 := ⟨[(2, (.int .u32 p2)), (4, (.ptr 1 0 [])), (7, (.ptr 2 0 [])), (9, (.ptr 3 0 []))], [(1, some (.var (e_congresslaw08_Heard p1))), (2, some (.var (e_api_Beat v1.1))), (3, some (.var (e_a8_u32 v8)))], 4⟩) ⟨rfl, rfl, rfl, rfl, trivial⟩ ⟨rfl, rfl, rfl, trivial⟩ (Nat.le_refl _)) ?_
    obtain ⟨v10, h11, H⟩ := bnd H
    refine aw_region (es := [_, _, _, _, _]) ⟨Step.plain rfl (does_load 25 7 2 0 [] (.var (e_api_Beat v1.1)) (e_api_Beat v1.1) trivial rfl rfl ty25), ⟨⟨rfl, trivial⟩, ⟨rfl, trivial⟩, rfl⟩, rfl,
      Step.plain rfl (does_move (.tmp 2) (.int .u32 p2) trivial), ⟨⟨rfl, trivial⟩, trivial, rfl⟩, rfl,
      Step.plain rfl (does_call 12 0 (fun _ => .any) (.func 12) [(.tmp 42), (.const (.int .i64 (-1))), (.const (.int .u32 0)), (.tmp 43)] [(e_api_Beat v1.1), (.int .i64 (-1)), (.int .u32 0), (.int .u32 p2)] [] true [(e_api_Beat v1.1), (.int .i64 (-1)), (.int .u32 0), (.int .u32 p2)] (e_a8_u32 v10) _ _ rfl fo12 rfl ⟨trivial, (fun _ => rfl), (fun _ => rfl), trivial, trivial⟩ ⟨.data _ (d_api_Beat v1.1), .data _ trivial, .data _ trivial, .data _ trivial, trivial⟩ (beat_Reach_spec v1.1 (-1) 0 p2 _ h11) (f_a8_u32 v10)), ⟨⟨rfl, rfl, trivial⟩, trivial, rfl⟩, rfl,
      Step.plain rfl (does_alloc 32 4 (e_a8_u32 (fun _ => 0)) zr32), ⟨trivial, trivial, rfl⟩, rfl,
      Step.plain rfl (does_store 32 10 (.tmp 44) 4 0 [] (.var (e_a8_u32 (fun _ => 0))) (.var (e_a8_u32 v10)) (e_a8_u32 v10) true trivial rfl trivial rfl rfl rfl ty32), ⟨⟨rfl, rfl, trivial⟩, ⟨rfl, trivial⟩, rfl⟩, rfl, rfl⟩ ?_
    refine aw_cov (cov_prune (s1 := ⟨[(2, (.int .u32 p2)), (4, (.ptr 1 0 [])), (7, (.ptr 2 0 [])), (9, (.ptr 3 0 [])), (10, (.ptr 4 0 []))], [(1, some (.var (e_congresslaw08_Heard p1))), (2, some (.var (e_api_Beat v1.1))), (3, some (.var (e_a8_u32 v8))), (4, some (.var (e_a8_u32 v10)))], 5⟩) ⟨rfl, rfl, rfl, rfl, rfl, trivial⟩ ⟨rfl, rfl, rfl, rfl, trivial⟩ (Nat.le_refl _)) ?_
    refine aw_seq ?_
    refine aw_region (es := [_]) ⟨Step.plain rfl (does_assign (.const (.int .i64 0)) (.int .i64 0) (fun _ => rfl)), ⟨trivial, trivial, rfl⟩, rfl, rfl⟩ ?_
    refine aw_cov (cov_prune (s1 := ⟨[(2, (.int .u32 p2)), (4, (.ptr 1 0 [])), (7, (.ptr 2 0 [])), (9, (.ptr 3 0 [])), (10, (.ptr 4 0 [])), (11, (.int .i64 0))], [(1, some (.var (e_congresslaw08_Heard p1))), (2, some (.var (e_api_Beat v1.1))), (3, some (.var (e_a8_u32 v8))), (4, some (.var (e_a8_u32 v10)))], 5⟩) ⟨rfl, rfl, rfl, rfl, rfl, rfl, trivial⟩ ⟨rfl, rfl, rfl, rfl, trivial⟩ (Nat.le_refl _)) ?_
    obtain ⟨wn13, hwn13, Hrn13⟩ := bnd H
    refine aw_meet (fun y16 : Unit => (⟨[(2, (.int .u32 p2)), (4, (.ptr 1 0 [])), (7, (.ptr 2 0 []))], [(1, some (.var (e_congresslaw08_Heard p1))), (2, some (.var (e_api_Beat v1.1)))], 5⟩ : St)) (fun y16 => Fl.nx y16 = wn13) (fun y16 hy => ?_) (aw_block (aw_runs (fun x12 : Int => (⟨[(2, (.int .u32 p2)), (4, (.ptr 1 0 [])), (7, (.ptr 2 0 [])), (9, (.ptr 3 0 [])), (10, (.ptr 4 0 [])), (11, (.int .i64 x12))], [(1, some (.var (e_congresslaw08_Heard p1))), (2, some (.var (e_api_Beat v1.1))), (3, some (.var (e_a8_u32 v8))), (4, some (.var (e_a8_u32 v10)))], 5⟩ : St)) hwn13 (cov_prune ⟨rfl, rfl, rfl, rfl, rfl, rfl, trivial⟩ ⟨rfl, rfl, rfl, rfl, trivial⟩ (Nat.le_of_ble_eq_true rfl)) (fun x12 st H hsn13 => ?_)))
    · have H := nx_of hy Hrn13
      refine nx_seq ?_
      refine aw_seq ?_
      refine aw_region (es := [_]) ⟨Step.plain rfl (does_assign (.const (.int .u32 0)) (.int .u32 0) (fun _ => rfl)), ⟨trivial, trivial, rfl⟩, rfl, rfl⟩ ?_
      refine aw_cov (cov_prune (s1 := ⟨[(2, (.int .u32 p2)), (4, (.ptr 1 0 [])), (7, (.ptr 2 0 [])), (12, (.int .u32 0))], [(1, some (.var (e_congresslaw08_Heard p1))), (2, some (.var (e_api_Beat v1.1)))], 5⟩) ⟨rfl, rfl, rfl, rfl, trivial⟩ ⟨rfl, rfl, trivial⟩ (Nat.le_refl _)) ?_
      obtain ⟨wn18, hwn18, Hrn18⟩ := bnd H
      refine aw_meet (fun y26 : Unit => (⟨[], [], 5⟩ : St)) (fun y26 => Fl.nx y26 = wn18) (fun y26 hy => ?_) (aw_block (aw_runs (fun x17 : Int × api_Beat => (⟨[(2, (.int .u32 p2)), (4, (.ptr 1 0 [])), (7, (.ptr 2 0 [])), (12, (.int .u32 x17.1))], [(1, some (.var (e_congresslaw08_Heard p1))), (2, some (.var (e_api_Beat x17.2)))], 5⟩ : St)) hwn18 (cov_prune ⟨rfl, rfl, rfl, rfl, trivial⟩ ⟨rfl, rfl, trivial⟩ (Nat.le_of_ble_eq_true rfl)) (fun x17 st H hsn18 => ?_)))
      · have H := nx_of hy Hrn18
        refine nx_seq ?_
        refine aw_region (es := [_]) ⟨Step.plain rfl (does_assign (.const (.bool true)) (.bool true) (fun _ => rfl)), ⟨trivial, trivial, rfl⟩, rfl, rfl⟩ ?_
        refine aw_cov (cov_prune (s1 := ⟨[(6, (.bool true))], [], 5⟩) ⟨rfl, trivial⟩ trivial (Nat.le_refl _)) ?_
        refine aw_ret ?_
        exact fun a w hr => ⟨_, [(.bool true)], hr, ⟨⟨_, rfl, .data _ trivial⟩, trivial⟩, by decide, by cases H; rfl⟩
      · refine aw_seq ?_
        refine aw_region (es := [_, _, _, _]) ⟨Step.plain rfl (does_move (.tmp 12) (.int .u32 x17.1) trivial), ⟨⟨rfl, trivial⟩, trivial, rfl⟩, rfl,
          Step.plain rfl (does_move (.tmp 2) (.int .u32 p2) trivial), ⟨⟨rfl, trivial⟩, trivial, rfl⟩, rfl,
          Step.plain rfl (does_bin .add 22 22 (.tmp 63) (.const (.int .u32 2)) .u32 p2 2 (.int .u32 (IntKind.u32.wrap (p2 + 2))) trivial (fun _ => rfl) (bin_add _ _ _ _)), ⟨⟨rfl, trivial⟩, trivial, rfl⟩, rfl,
          Step.plain rfl (does_bin .leq 22 22 (.tmp 62) (.tmp 64) .u32 x17.1 (IntKind.u32.wrap (p2 + 2)) (.bool (decide (x17.1 ≤ (IntKind.u32.wrap (p2 + 2))))) trivial trivial (bin_leq _ _ _ _)), ⟨⟨rfl, rfl, trivial⟩, trivial, rfl⟩, rfl, rfl⟩ ?_
        refine aw_cov (cov_prune (s1 := ⟨[(2, (.int .u32 p2)), (4, (.ptr 1 0 [])), (7, (.ptr 2 0 [])), (12, (.int .u32 x17.1)), (65, (.bool (decide (x17.1 ≤ (IntKind.u32.wrap (p2 + 2))))))], [(1, some (.var (e_congresslaw08_Heard p1))), (2, some (.var (e_api_Beat x17.2)))], 5⟩) ⟨rfl, rfl, rfl, rfl, rfl, trivial⟩ ⟨rfl, rfl, trivial⟩ (Nat.le_refl _)) ?_
        refine aw_cond rfl (fun hc => ?_) (fun hc => ?_)
        · replace H := ite_t hc H
          refine aw_skip ?_
          refine nx_seq ?_
          refine aw_seq ?_
          refine aw_block ?_
          obtain ⟨v19, h20, H⟩ := bnd H
          refine aw_region (es := [_, _, _, _, _]) ⟨Step.plain rfl (does_load 25 7 2 0 [] (.var (e_api_Beat x17.2)) (e_api_Beat x17.2) trivial rfl rfl ty25), ⟨⟨rfl, trivial⟩, ⟨rfl, trivial⟩, rfl⟩, rfl,
            Step.plain rfl (does_move (.tmp 2) (.int .u32 p2) trivial), ⟨⟨rfl, trivial⟩, trivial, rfl⟩, rfl,
            Step.plain rfl (does_call 12 0 (fun _ => .any) (.func 12) [(.tmp 68), (.const (.int .i64 (-1))), (.const (.int .u32 0)), (.tmp 69)] [(e_api_Beat x17.2), (.int .i64 (-1)), (.int .u32 0), (.int .u32 p2)] [] true [(e_api_Beat x17.2), (.int .i64 (-1)), (.int .u32 0), (.int .u32 p2)] (e_a8_u32 v19) _ _ rfl fo12 rfl ⟨trivial, (fun _ => rfl), (fun _ => rfl), trivial, trivial⟩ ⟨.data _ (d_api_Beat x17.2), .data _ trivial, .data _ trivial, .data _ trivial, trivial⟩ (beat_Reach_spec x17.2 (-1) 0 p2 _ h20) (f_a8_u32 v19)), ⟨⟨rfl, rfl, trivial⟩, trivial, rfl⟩, rfl,
            Step.plain rfl (does_alloc 32 5 (e_a8_u32 (fun _ => 0)) zr32), ⟨trivial, trivial, rfl⟩, rfl,
            Step.plain rfl (does_store 32 13 (.tmp 70) 5 0 [] (.var (e_a8_u32 (fun _ => 0))) (.var (e_a8_u32 v19)) (e_a8_u32 v19) true trivial rfl trivial rfl rfl rfl ty32), ⟨⟨rfl, rfl, trivial⟩, ⟨rfl, trivial⟩, rfl⟩, rfl, rfl⟩ ?_
          refine aw_cov (cov_prune (s1 := ⟨[(2, (.int .u32 p2)), (4, (.ptr 1 0 [])), (7, (.ptr 2 0 [])), (12, (.int .u32 x17.1)), (13, (.ptr 5 0 []))], [(1, some (.var (e_congresslaw08_Heard p1))), (2, some (.var (e_api_Beat x17.2))), (5, some (.var (e_a8_u32 v19)))], 6⟩) ⟨rfl, rfl, rfl, rfl, rfl, trivial⟩ ⟨rfl, rfl, rfl, trivial⟩ (Nat.le_refl _)) ?_
          refine aw_seq ?_
          obtain ⟨h21, H⟩ := ibg_of H
          obtain ⟨h22, H⟩ := ibg_of H
          refine aw_draw (es := [_, _, _, _, _, _, _, _, _, _, _, _, _, _, _, _, _, _, _, _, _, _, _, _]) (mixed) ⟨Step.plain rfl (does_move (.tmp 12) (.int .u32 x17.1) trivial), ⟨⟨rfl, trivial⟩, trivial, rfl⟩, rfl,
            Step.plain rfl (does_move (.tmp 2) (.int .u32 p2) trivial), ⟨⟨rfl, trivial⟩, trivial, rfl⟩, rfl,
            Step.plain rfl (does_bin .leq 22 22 (.tmp 71) (.tmp 72) .u32 x17.1 p2 (.bool (decide (x17.1 ≤ p2))) trivial trivial (bin_leq _ _ _ _)), ⟨⟨rfl, rfl, trivial⟩, trivial, rfl⟩, rfl,
            Step.plain rfl (does_move (.tmp 73) (.bool (decide (x17.1 ≤ p2))) trivial), ⟨⟨rfl, trivial⟩, trivial, rfl⟩, rfl,
            Step.guarded rfl rfl rfl rfl (fun hc => does_fieldAddr 27 0 0 4 1 0 [] (.var (e_congresslaw08_Heard p1)) fl27_0), ⟨⟨rfl, rfl, trivial⟩, ⟨rfl, trivial⟩, rfl⟩, rfl,
            Step.guarded rfl rfl rfl rfl (fun hc => Does.strip (n' := [(75, (.opt (decide (x17.1 ≤ p2)) (.ptr 1 (0 + 0) [0])))]) (n := [(75, (.ptr 1 (0 + 0) [0]))]) ⟨(.opt _ _ hc), trivial⟩ (does_load 3 75 1 (0 + 0) [0] (.var (e_congresslaw08_Heard p1)) (.int .i64 p1.From) ⟨rfl, Nat.le_of_ble_eq_true rfl, trivial⟩ rfl rfl ty3)), ⟨⟨rfl, rfl, trivial⟩, ⟨rfl, trivial⟩, rfl⟩, rfl,
            Step.guarded rfl rfl rfl rfl (fun hc => Does.strip (n' := [(13, (.ptr 5 0 [])), (76, (.opt (decide (x17.1 ≤ p2)) (.int .i64 p1.From)))]) (n := [(13, (.ptr 5 0 [])), (76, (.int .i64 p1.From))]) ⟨(.same _), (.opt _ _ hc), trivial⟩ (does_indexAddr 32 8 1 13 5 0 [] (.var (e_a8_u32 v19)) (.tmp 76) .i64 p1.From el32 trivial (h21 hc).1 (h21 hc).2)), ⟨⟨rfl, rfl, rfl, trivial⟩, ⟨rfl, trivial⟩, rfl⟩, rfl,
            Step.guarded rfl rfl rfl rfl (fun hc => Does.strip (n' := [(77, (.opt (decide (x17.1 ≤ p2)) (.ptr 5 (0 + p1.From.toNat * 1) [p1.From.toNat])))]) (n := [(77, (.ptr 5 (0 + p1.From.toNat * 1) [p1.From.toNat]))]) ⟨(.opt _ _ hc), trivial⟩ (does_load 22 77 5 (0 + p1.From.toNat * 1) [p1.From.toNat] (.var (e_a8_u32 v19)) (.int .u32 (v19 p1.From.toNat)) ⟨rfl, (ixl (h21 hc)), trivial⟩ rfl rfl ty22)), ⟨⟨rfl, rfl, trivial⟩, ⟨rfl, trivial⟩, rfl⟩, rfl,
            Step.guarded rfl rfl rfl rfl (fun hc => does_fieldAddr 27 1 1 4 1 0 [] (.var (e_congresslaw08_Heard p1)) fl27_1), ⟨⟨rfl, rfl, trivial⟩, ⟨rfl, trivial⟩, rfl⟩, rfl,
            Step.guarded rfl rfl rfl rfl (fun hc => Does.strip (n' := [(79, (.opt (decide (x17.1 ≤ p2)) (.ptr 1 (0 + 1) [1])))]) (n := [(79, (.ptr 1 (0 + 1) [1]))]) ⟨(.opt _ _ hc), trivial⟩ (does_load 22 79 1 (0 + 1) [1] (.var (e_congresslaw08_Heard p1)) (.int .u32 p1.Inc) ⟨rfl, Nat.le_of_ble_eq_true rfl, trivial⟩ rfl rfl ty22)), ⟨⟨rfl, rfl, trivial⟩, ⟨rfl, trivial⟩, rfl⟩, rfl,
            Step.guarded rfl rfl rfl rfl (fun hc => Does.strip (n' := [(78, (.opt (decide (x17.1 ≤ p2)) (.int .u32 (v19 p1.From.toNat)))), (80, (.opt (decide (x17.1 ≤ p2)) (.int .u32 p1.Inc)))]) (n := [(78, (.int .u32 (v19 p1.From.toNat))), (80, (.int .u32 p1.Inc))]) ⟨(.opt _ _ hc), (.opt _ _ hc), trivial⟩ (does_bin .neq 22 22 (.tmp 78) (.tmp 80) .u32 (v19 p1.From.toNat) p1.Inc (.bool ((v19 p1.From.toNat) != p1.Inc)) trivial trivial (bin_neq _ _ _ _))), ⟨⟨rfl, rfl, rfl, trivial⟩, trivial, rfl⟩, rfl,
            Step.plain rfl (does_and 74 81 (decide (x17.1 ≤ p2)) ((v19 p1.From.toNat) != p1.Inc)), ⟨⟨rfl, rfl, trivial⟩, trivial, rfl⟩, rfl,
            Step.plain rfl (does_move (.tmp 82) (.bool ((decide (x17.1 ≤ p2)) && ((v19 p1.From.toNat) != p1.Inc))) trivial), ⟨⟨rfl, trivial⟩, trivial, rfl⟩, rfl,
            Step.guarded rfl rfl rfl rfl (fun hc => does_move (.tmp 12) (.int .u32 x17.1) trivial), ⟨⟨rfl, rfl, trivial⟩, trivial, rfl⟩, rfl,
            Step.guarded rfl rfl rfl rfl (fun hc => does_move (.tmp 2) (.int .u32 p2) trivial), ⟨⟨rfl, rfl, trivial⟩, trivial, rfl⟩, rfl,
            Step.guarded rfl rfl rfl rfl (fun hc => Does.strip (n' := [(84, (.opt (!((decide (x17.1 ≤ p2)) && ((v19 p1.From.toNat) != p1.Inc))) (.int .u32 x17.1))), (85, (.opt (!((decide (x17.1 ≤ p2)) && ((v19 p1.From.toNat) != p1.Inc))) (.int .u32 p2)))]) (n := [(84, (.int .u32 x17.1)), (85, (.int .u32 p2))]) ⟨(.opt _ _ hc), (.opt _ _ hc), trivial⟩ (does_bin .gtr 22 22 (.tmp 84) (.tmp 85) .u32 x17.1 p2 (.bool (decide (x17.1 > p2))) trivial trivial (bin_gtr _ _ _ _))), ⟨⟨rfl, rfl, rfl, trivial⟩, trivial, rfl⟩, rfl,
            Step.guarded rfl rfl rfl rfl (fun hc => Does.strip (n' := [(86, (.opt (!((decide (x17.1 ≤ p2)) && ((v19 p1.From.toNat) != p1.Inc))) (.bool (decide (x17.1 > p2)))))]) (n := [(86, (.bool (decide (x17.1 > p2))))]) ⟨(.opt _ _ hc), trivial⟩ (does_move (.tmp 86) (.bool (decide (x17.1 > p2))) trivial)), ⟨⟨rfl, rfl, trivial⟩, trivial, rfl⟩, rfl,
            Step.guarded rfl rfl rfl rfl (fun hc => does_fieldAddr 27 0 0 4 1 0 [] (.var (e_congresslaw08_Heard p1)) fl27_0), ⟨⟨rfl, rfl, trivial⟩, ⟨rfl, trivial⟩, rfl⟩, rfl,
            Step.guarded rfl rfl rfl rfl (fun hc => Does.strip (n' := [(88, (.opt ((!((decide (x17.1 ≤ p2)) && ((v19 p1.From.toNat) != p1.Inc))) && (decide (x17.1 > p2))) (.ptr 1 (0 + 0) [0])))]) (n := [(88, (.ptr 1 (0 + 0) [0]))]) ⟨(.opt _ _ hc), trivial⟩ (does_load 3 88 1 (0 + 0) [0] (.var (e_congresslaw08_Heard p1)) (.int .i64 p1.From) ⟨rfl, Nat.le_of_ble_eq_true rfl, trivial⟩ rfl rfl ty3)), ⟨⟨rfl, rfl, trivial⟩, ⟨rfl, trivial⟩, rfl⟩, rfl,
            Step.guarded rfl rfl rfl rfl (fun hc => Does.strip (n' := [(13, (.ptr 5 0 [])), (89, (.opt ((!((decide (x17.1 ≤ p2)) && ((v19 p1.From.toNat) != p1.Inc))) && (decide (x17.1 > p2))) (.int .i64 p1.From)))]) (n := [(13, (.ptr 5 0 [])), (89, (.int .i64 p1.From))]) ⟨(.same _), (.opt _ _ hc), trivial⟩ (does_indexAddr 32 8 1 13 5 0 [] (.var (e_a8_u32 v19)) (.tmp 89) .i64 p1.From el32 trivial (h22 hc).1 (h22 hc).2)), ⟨⟨rfl, rfl, rfl, trivial⟩, ⟨rfl, trivial⟩, rfl⟩, rfl,
            Step.guarded rfl rfl rfl rfl (fun hc => Does.strip (n' := [(90, (.opt ((!((decide (x17.1 ≤ p2)) && ((v19 p1.From.toNat) != p1.Inc))) && (decide (x17.1 > p2))) (.ptr 5 (0 + p1.From.toNat * 1) [p1.From.toNat])))]) (n := [(90, (.ptr 5 (0 + p1.From.toNat * 1) [p1.From.toNat]))]) ⟨(.opt _ _ hc), trivial⟩ (does_load 22 90 5 (0 + p1.From.toNat * 1) [p1.From.toNat] (.var (e_a8_u32 v19)) (.int .u32 (v19 p1.From.toNat)) ⟨rfl, (ixl (h22 hc)), trivial⟩ rfl rfl ty22)), ⟨⟨rfl, rfl, trivial⟩, ⟨rfl, trivial⟩, rfl⟩, rfl,
            Step.guarded rfl rfl rfl rfl (fun hc => Does.strip (n' := [(91, (.opt ((!((decide (x17.1 ≤ p2)) && ((v19 p1.From.toNat) != p1.Inc))) && (decide (x17.1 > p2))) (.int .u32 (v19 p1.From.toNat))))]) (n := [(91, (.int .u32 (v19 p1.From.toNat)))]) ⟨(.opt _ _ hc), trivial⟩ (does_bin .neq 22 22 (.tmp 91) (.const (.int .u32 0)) .u32 (v19 p1.From.toNat) 0 (.bool ((v19 p1.From.toNat) != 0)) trivial (fun _ => rfl) (bin_neq _ _ _ _))), ⟨⟨rfl, rfl, trivial⟩, trivial, rfl⟩, rfl,
            Step.guarded rfl rfl rfl rfl (fun hc => Does.strip (n' := [(87, (.opt (!((decide (x17.1 ≤ p2)) && ((v19 p1.From.toNat) != p1.Inc))) (.bool (decide (x17.1 > p2))))), (92, (.opt ((!((decide (x17.1 ≤ p2)) && ((v19 p1.From.toNat) != p1.Inc))) && (decide (x17.1 > p2))) (.bool ((v19 p1.From.toNat) != 0))))]) (n := [(87, (.bool (decide (x17.1 > p2)))), (92, (.opt (decide (x17.1 > p2)) (.bool ((v19 p1.From.toNat) != 0))))]) ⟨(.opt _ _ hc), (.half _ _ hc), trivial⟩ (does_and 87 92 (decide (x17.1 > p2)) ((v19 p1.From.toNat) != 0))), ⟨⟨rfl, rfl, rfl, trivial⟩, trivial, rfl⟩, rfl,
            Step.plain rfl (does_or 83 93 ((decide (x17.1 ≤ p2)) && ((v19 p1.From.toNat) != p1.Inc)) ((decide (x17.1 > p2)) && ((v19 p1.From.toNat) != 0))), ⟨⟨rfl, rfl, trivial⟩, trivial, rfl⟩, rfl, rfl⟩ rfl ?_
          obtain ⟨v23, hv23, H⟩ := lt_of H
          refine aw_cov (cov_prune (s1 := ⟨[(2, (.int .u32 p2)), (4, (.ptr 1 0 [])), (7, (.ptr 2 0 [])), (12, (.int .u32 x17.1)), (94, (.bool v23))], [(1, some (.var (e_congresslaw08_Heard p1))), (2, some (.var (e_api_Beat x17.2)))], 6⟩) ⟨rfl, rfl, rfl, rfl, (by subst hv23; rfl), trivial⟩ ⟨rfl, rfl, trivial⟩ (Nat.le_refl _)) ?_
          refine aw_cond rfl (fun hc => ?_) (fun hc => ?_)
          · replace H := ite_t hc H
            refine aw_region (es := [_]) ⟨Step.plain rfl (does_assign (.const (.bool false)) (.bool false) (fun _ => rfl)), ⟨trivial, trivial, rfl⟩, rfl, rfl⟩ ?_
            refine aw_cov (cov_prune (s1 := ⟨[(6, (.bool false))], [], 6⟩) ⟨rfl, trivial⟩ trivial (Nat.le_refl _)) ?_
            refine aw_ret ?_
            replace H := rt_of H hsn18 Hrn18
            refine rt_then ?_
            refine rt_blk ?_
            refine rt_then ?_
            refine rt_then ?_
            refine rt_blk ?_
            refine rt_then ?_
            refine rt_then ?_
            exact fun a w hr => ⟨_, [(.bool false)], hr, ⟨⟨_, rfl, .data _ trivial⟩, trivial⟩, by decide, by cases H; rfl⟩
          · replace H := ite_f hc H
            refine aw_skip ?_
            refine nx_seq ?_
            obtain ⟨v24, h25, H⟩ := bnd H
            refine aw_region1 (es := [_, _, _]) ⟨Step.plain rfl (does_load 25 7 2 0 [] (.var (e_api_Beat x17.2)) (e_api_Beat x17.2) trivial rfl rfl ty25), ⟨⟨rfl, trivial⟩, ⟨rfl, trivial⟩, rfl⟩, rfl,
              Step.plain rfl (does_call 10 0 (fun _ => .any) (.func 10) [(.tmp 95)] [(e_api_Beat x17.2)] [] true [(e_api_Beat x17.2)] (e_api_Beat v24) _ _ rfl fo10 rfl ⟨trivial, trivial⟩ ⟨.data _ (d_api_Beat x17.2), trivial⟩ (beat_Tick_spec x17.2 _ h25) (f_api_Beat v24)), ⟨⟨rfl, trivial⟩, trivial, rfl⟩, rfl,
              Step.plain rfl (does_store 25 7 (.tmp 96) 2 0 [] (.var (e_api_Beat x17.2)) (.var (e_api_Beat v24)) (e_api_Beat v24) true trivial rfl trivial rfl rfl rfl ty25), ⟨⟨rfl, rfl, trivial⟩, ⟨rfl, trivial⟩, rfl⟩, rfl, rfl⟩ ?_
            refine nx_blk ?_
            refine nx_seq ?_
            refine aw_cov (cov_prune (s1 := ⟨[(2, (.int .u32 p2)), (4, (.ptr 1 0 [])), (7, (.ptr 2 0 [])), (12, (.int .u32 x17.1))], [(1, some (.var (e_congresslaw08_Heard p1))), (2, some (.var (e_api_Beat v24)))], 6⟩) ⟨rfl, rfl, rfl, rfl, trivial⟩ ⟨rfl, rfl, trivial⟩ (Nat.le_refl _)) ?_
            refine aw_region1 (es := [_, _, _]) ⟨Step.plain rfl (does_move (.tmp 12) (.int .u32 x17.1) trivial), ⟨⟨rfl, trivial⟩, trivial, rfl⟩, rfl,
              Step.plain rfl (does_bin .add 22 22 (.tmp 66) (.const (.int .u32 1)) .u32 x17.1 1 (.int .u32 (IntKind.u32.wrap (x17.1 + 1))) trivial (fun _ => rfl) (bin_add _ _ _ _)), ⟨⟨rfl, trivial⟩, trivial, rfl⟩, rfl,
              Step.plain rfl (does_assign (.tmp 67) (.int .u32 (IntKind.u32.wrap (x17.1 + 1))) trivial), ⟨⟨rfl, trivial⟩, trivial, rfl⟩, rfl, rfl⟩ ?_
            exact nx_loop ((IntKind.u32.wrap (x17.1 + 1)), v24) H (cov_of (fun i => match i with | 1 => 1 | 2 => 2 | k => k) ⟨⟨_, rfl, ⟨rfl, trivial⟩⟩, ⟨_, rfl, ⟨rfl, Nat.le_of_ble_eq_true rfl⟩⟩, ⟨_, rfl, ⟨rfl, Nat.le_of_ble_eq_true rfl⟩⟩, ⟨_, rfl, ⟨rfl, trivial⟩⟩, trivial⟩ ⟨⟨Nat.le_of_ble_eq_true rfl, _, _, rfl, rfl, .inl ⟨rfl, (d_congresslaw08_Heard _).plain⟩⟩, ⟨Nat.le_of_ble_eq_true rfl, _, _, rfl, rfl, .inl ⟨rfl, (d_api_Beat _).plain⟩⟩, trivial⟩ rfl)
        · replace H := ite_f hc H
          refine aw_exit ?_
          refine ex_then ?_
          refine ex_then ?_
          refine ex_here ?_
          exact nx_ljoin () H hsn18 (cov_prune trivial trivial (Nat.le_of_ble_eq_true rfl))
    · refine aw_seq ?_
      refine aw_region (es := [_, _]) ⟨Step.plain rfl (does_move (.tmp 11) (.int .i64 x12) trivial), ⟨⟨rfl, trivial⟩, trivial, rfl⟩, rfl,
        Step.plain rfl (does_bin .lss 3 3 (.tmp 45) (.const (.int .i64 8)) .i64 x12 8 (.bool (decide (x12 < 8))) trivial (fun _ => rfl) (bin_lss _ _ _ _)), ⟨⟨rfl, trivial⟩, trivial, rfl⟩, rfl, rfl⟩ ?_
      refine aw_cov (cov_prune (s1 := ⟨[(2, (.int .u32 p2)), (4, (.ptr 1 0 [])), (7, (.ptr 2 0 [])), (9, (.ptr 3 0 [])), (10, (.ptr 4 0 [])), (11, (.int .i64 x12)), (46, (.bool (decide (x12 < 8))))], [(1, some (.var (e_congresslaw08_Heard p1))), (2, some (.var (e_api_Beat v1.1))), (3, some (.var (e_a8_u32 v8))), (4, some (.var (e_a8_u32 v10)))], 5⟩) ⟨rfl, rfl, rfl, rfl, rfl, rfl, rfl, trivial⟩ ⟨rfl, rfl, rfl, rfl, trivial⟩ (Nat.le_refl _)) ?_
      refine aw_cond rfl (fun hc => ?_) (fun hc => ?_)
      · replace H := ite_t hc H
        refine aw_skip ?_
        refine nx_seq ?_
        refine aw_seq ?_
        refine aw_block ?_
        obtain ⟨h14, H⟩ := ibg_of H
        obtain ⟨h15, H⟩ := ibg_of H
        refine aw_draw (es := [_, _, _, _, _, _, _, _, _, _, _, _, _]) (mixed) ⟨Step.plain rfl (does_move (.tmp 11) (.int .i64 x12) trivial), ⟨⟨rfl, trivial⟩, trivial, rfl⟩, rfl,
          Step.plain rfl (does_fieldAddr 27 0 0 4 1 0 [] (.var (e_congresslaw08_Heard p1)) fl27_0), ⟨⟨rfl, trivial⟩, ⟨rfl, trivial⟩, rfl⟩, rfl,
          Step.plain rfl (does_load 3 50 1 (0 + 0) [0] (.var (e_congresslaw08_Heard p1)) (.int .i64 p1.From) ⟨rfl, Nat.le_of_ble_eq_true rfl, trivial⟩ rfl rfl ty3), ⟨⟨rfl, trivial⟩, ⟨rfl, trivial⟩, rfl⟩, rfl,
          Step.plain rfl (does_bin .neq 3 3 (.tmp 49) (.tmp 51) .i64 x12 p1.From (.bool (x12 != p1.From)) trivial trivial (bin_neq _ _ _ _)), ⟨⟨rfl, rfl, trivial⟩, trivial, rfl⟩, rfl,
          Step.plain rfl (does_move (.tmp 52) (.bool (x12 != p1.From)) trivial), ⟨⟨rfl, trivial⟩, trivial, rfl⟩, rfl,
          Step.guarded rfl rfl rfl rfl (fun hc => does_move (.tmp 11) (.int .i64 x12) trivial), ⟨⟨rfl, rfl, trivial⟩, trivial, rfl⟩, rfl,
          Step.guarded rfl rfl rfl rfl (fun hc => Does.strip (n' := [(9, (.ptr 3 0 [])), (54, (.opt (x12 != p1.From) (.int .i64 x12)))]) (n := [(9, (.ptr 3 0 [])), (54, (.int .i64 x12))]) ⟨(.same _), (.opt _ _ hc), trivial⟩ (does_indexAddr 32 8 1 9 3 0 [] (.var (e_a8_u32 v8)) (.tmp 54) .i64 x12 el32 trivial (h14 hc).1 (h14 hc).2)), ⟨⟨rfl, rfl, rfl, trivial⟩, ⟨rfl, trivial⟩, rfl⟩, rfl,
          Step.guarded rfl rfl rfl rfl (fun hc => Does.strip (n' := [(55, (.opt (x12 != p1.From) (.ptr 3 (0 + x12.toNat * 1) [x12.toNat])))]) (n := [(55, (.ptr 3 (0 + x12.toNat * 1) [x12.toNat]))]) ⟨(.opt _ _ hc), trivial⟩ (does_load 22 55 3 (0 + x12.toNat * 1) [x12.toNat] (.var (e_a8_u32 v8)) (.int .u32 (v8 x12.toNat)) ⟨rfl, (ixl (h14 hc)), trivial⟩ rfl rfl ty22)), ⟨⟨rfl, rfl, trivial⟩, ⟨rfl, trivial⟩, rfl⟩, rfl,
          Step.guarded rfl rfl rfl rfl (fun hc => does_move (.tmp 11) (.int .i64 x12) trivial), ⟨⟨rfl, rfl, trivial⟩, trivial, rfl⟩, rfl,
          Step.guarded rfl rfl rfl rfl (fun hc => Does.strip (n' := [(10, (.ptr 4 0 [])), (57, (.opt (x12 != p1.From) (.int .i64 x12)))]) (n := [(10, (.ptr 4 0 [])), (57, (.int .i64 x12))]) ⟨(.same _), (.opt _ _ hc), trivial⟩ (does_indexAddr 32 8 1 10 4 0 [] (.var (e_a8_u32 v10)) (.tmp 57) .i64 x12 el32 trivial (h15 hc).1 (h15 hc).2)), ⟨⟨rfl, rfl, rfl, trivial⟩, ⟨rfl, trivial⟩, rfl⟩, rfl,
          Step.guarded rfl rfl rfl rfl (fun hc => Does.strip (n' := [(58, (.opt (x12 != p1.From) (.ptr 4 (0 + x12.toNat * 1) [x12.toNat])))]) (n := [(58, (.ptr 4 (0 + x12.toNat * 1) [x12.toNat]))]) ⟨(.opt _ _ hc), trivial⟩ (does_load 22 58 4 (0 + x12.toNat * 1) [x12.toNat] (.var (e_a8_u32 v10)) (.int .u32 (v10 x12.toNat)) ⟨rfl, (ixl (h15 hc)), trivial⟩ rfl rfl ty22)), ⟨⟨rfl, rfl, trivial⟩, ⟨rfl, trivial⟩, rfl⟩, rfl,
          Step.guarded rfl rfl rfl rfl (fun hc => Does.strip (n' := [(56, (.opt (x12 != p1.From) (.int .u32 (v8 x12.toNat)))), (59, (.opt (x12 != p1.From) (.int .u32 (v10 x12.toNat))))]) (n := [(56, (.int .u32 (v8 x12.toNat))), (59, (.int .u32 (v10 x12.toNat)))]) ⟨(.opt _ _ hc), (.opt _ _ hc), trivial⟩ (does_bin .neq 22 22 (.tmp 56) (.tmp 59) .u32 (v8 x12.toNat) (v10 x12.toNat) (.bool ((v8 x12.toNat) != (v10 x12.toNat))) trivial trivial (bin_neq _ _ _ _))), ⟨⟨rfl, rfl, rfl, trivial⟩, trivial, rfl⟩, rfl,
          Step.plain rfl (does_and 53 60 (x12 != p1.From) ((v8 x12.toNat) != (v10 x12.toNat))), ⟨⟨rfl, rfl, trivial⟩, trivial, rfl⟩, rfl, rfl⟩ rfl ?_
        refine aw_cov (cov_prune (s1 := ⟨[(2, (.int .u32 p2)), (4, (.ptr 1 0 [])), (7, (.ptr 2 0 [])), (9, (.ptr 3 0 [])), (10, (.ptr 4 0 [])), (11, (.int .i64 x12)), (61, (.bool ((x12 != p1.From) && ((v8 x12.toNat) != (v10 x12.toNat)))))], [(1, some (.var (e_congresslaw08_Heard p1))), (2, some (.var (e_api_Beat v1.1))), (3, some (.var (e_a8_u32 v8))), (4, some (.var (e_a8_u32 v10)))], 5⟩) ⟨rfl, rfl, rfl, rfl, rfl, rfl, rfl, trivial⟩ ⟨rfl, rfl, rfl, rfl, trivial⟩ (Nat.le_refl _)) ?_
        refine aw_cond rfl (fun hc => ?_) (fun hc => ?_)
        · replace H := ite_t hc H
          refine aw_region (es := [_]) ⟨Step.plain rfl (does_assign (.const (.bool false)) (.bool false) (fun _ => rfl)), ⟨trivial, trivial, rfl⟩, rfl, rfl⟩ ?_
          refine aw_cov (cov_prune (s1 := ⟨[(6, (.bool false))], [], 5⟩) ⟨rfl, trivial⟩ trivial (Nat.le_refl _)) ?_
          refine aw_ret ?_
          replace H := rt_of H hsn13 Hrn13
          refine rt_blk ?_
          refine rt_then ?_
          refine rt_then ?_
          refine rt_blk ?_
          refine rt_then ?_
          refine rt_then ?_
          exact fun a w hr => ⟨_, [(.bool false)], hr, ⟨⟨_, rfl, .data _ trivial⟩, trivial⟩, by decide, by cases H; rfl⟩
        · replace H := ite_f hc H
          refine aw_skip ?_
          refine nx_blk ?_
          refine nx_seq ?_
          refine aw_region1 (es := [_, _, _]) ⟨Step.plain rfl (does_move (.tmp 11) (.int .i64 x12) trivial), ⟨⟨rfl, trivial⟩, trivial, rfl⟩, rfl,
            Step.plain rfl (does_bin .add 3 3 (.tmp 47) (.const (.int .i64 1)) .i64 x12 1 (.int .i64 (IntKind.i64.wrap (x12 + 1))) trivial (fun _ => rfl) (bin_add _ _ _ _)), ⟨⟨rfl, trivial⟩, trivial, rfl⟩, rfl,
            Step.plain rfl (does_assign (.tmp 48) (.int .i64 (IntKind.i64.wrap (x12 + 1))) trivial), ⟨⟨rfl, trivial⟩, trivial, rfl⟩, rfl, rfl⟩ ?_
          exact nx_loop ((IntKind.i64.wrap (x12 + 1))) H (cov_prune ⟨rfl, rfl, rfl, rfl, rfl, rfl, trivial⟩ ⟨rfl, rfl, rfl, rfl, trivial⟩ (Nat.le_of_ble_eq_true rfl))
      · replace H := ite_f hc H
        refine aw_exit ?_
        refine ex_then ?_
        refine ex_then ?_
        refine ex_here ?_
        exact nx_ljoin () H hsn13 (cov_prune ⟨rfl, rfl, rfl, trivial⟩ ⟨rfl, rfl, trivial⟩ (Nat.le_of_ble_eq_true rfl))

theorem congresslaw08_BeatRises_spec (p0 : (_root_.List congresslaw08_Heard)) (r : Bool) (H : congresslaw08_BeatRises p0 = some r) : FSpec Try.prog 5 [(e_s_congresslaw08_Heard p0)] (.bool r) := by
  refine spec_of (fn := Try.f5) (args := [(e_s_congresslaw08_Heard p0)]) Try.func5 rfl (Nat.le_of_ble_eq_true rfl) ?_
  rintro ⟨G, w0, W, S, Sp⟩ hG
  cases hG
  unfold congresslaw08_BeatRises at H
  refine aw_region (es := [_]) ⟨Step.plain rfl (does_assign (.const (.bool false)) (.bool false) (fun _ => rfl)), ⟨trivial, trivial, rfl⟩, rfl, rfl⟩ ?_
  refine aw_cov (cov_prune (s1 := ⟨[(0, (e_s_congresslaw08_Heard p0))], [], 0⟩) ⟨rfl, trivial⟩ trivial (Nat.le_refl _)) ?_
  refine aw_region (es := [_, _, _]) ⟨Step.plain rfl (does_buildT 25 #[] [] [] (.st [1, 8, 8]) (c_api_Beat z_api_Beat) (c_api_Beat ({ Now := 0, Heard := (fun _ => 0), Inc := (fun _ => 0) } : api_Beat)) rfl bo25 trivial trivial (by funext j; match j with | 0 => rfl | 1 => rfl | 2 => rfl | _ + 3 => rfl)), ⟨trivial, trivial, rfl⟩, rfl,
    Step.plain rfl (does_alloc 25 0 (e_api_Beat z_api_Beat) zr25), ⟨trivial, trivial, rfl⟩, rfl,
    Step.plain rfl (does_store 25 3 (.tmp 9) 0 0 [] (.var (e_api_Beat z_api_Beat)) (.var (e_api_Beat ({ Now := 0, Heard := (fun _ => 0), Inc := (fun _ => 0) } : api_Beat))) (e_api_Beat ({ Now := 0, Heard := (fun _ => 0), Inc := (fun _ => 0) } : api_Beat)) true trivial rfl trivial rfl rfl rfl ty25), ⟨⟨rfl, rfl, trivial⟩, ⟨rfl, trivial⟩, rfl⟩, rfl, rfl⟩ ?_
  refine aw_cov (cov_prune (s1 := ⟨[(0, (e_s_congresslaw08_Heard p0)), (3, (.ptr 0 0 []))], [(0, some (.var (e_api_Beat ({ Now := 0, Heard := (fun _ => 0), Inc := (fun _ => 0) } : api_Beat))))], 1⟩) ⟨rfl, rfl, trivial⟩ ⟨rfl, trivial⟩ (Nat.le_refl _)) ?_
  refine aw_seq ?_
  refine aw_region (es := [_]) ⟨Step.plain rfl (does_assign (.const (.int .i64 0)) (.int .i64 0) (fun _ => rfl)), ⟨trivial, trivial, rfl⟩, rfl, rfl⟩ ?_
  refine aw_cov (cov_prune (s1 := ⟨[(0, (e_s_congresslaw08_Heard p0)), (3, (.ptr 0 0 [])), (4, (.int .i64 0))], [(0, some (.var (e_api_Beat ({ Now := 0, Heard := (fun _ => 0), Inc := (fun _ => 0) } : api_Beat))))], 1⟩) ⟨rfl, rfl, rfl, trivial⟩ ⟨rfl, trivial⟩ (Nat.le_refl _)) ?_
  obtain ⟨wn2, hwn2, Hrn2⟩ := bnd H
  refine aw_meet (fun y23 : Unit => (⟨[], [], 1⟩ : St)) (fun y23 => Fl.nx y23 = wn2) (fun y23 hy => ?_) (aw_block (aw_runs (fun x1 : Int × api_Beat => (⟨[(0, (e_s_congresslaw08_Heard p0)), (3, (.ptr 0 0 [])), (4, (.int .i64 x1.1))], [(0, some (.var (e_api_Beat x1.2)))], 1⟩ : St)) hwn2 (cov_prune ⟨rfl, rfl, rfl, trivial⟩ ⟨rfl, trivial⟩ (Nat.le_of_ble_eq_true rfl)) (fun x1 st H hsn2 => ?_)))
  · have H := nx_of hy Hrn2
    refine nx_seq ?_
    obtain ⟨v24, h25, H⟩ := bnd H
    refine aw_region (es := [_, _]) ⟨Step.plain rfl (does_call 9 0 (fun _ => .any) (.func 9) [] [] [] true [] (.bool v24) _ _ rfl fo9 rfl trivial trivial (congresslaw08_fixed_spec _ h25) trivial), ⟨trivial, trivial, rfl⟩, rfl,
      Step.plain rfl (does_assign (.tmp 103) (.bool v24) trivial), ⟨⟨rfl, trivial⟩, trivial, rfl⟩, rfl, rfl⟩ ?_
    refine aw_cov (cov_prune (s1 := ⟨[(2, (.bool v24))], [], 1⟩) ⟨rfl, trivial⟩ trivial (Nat.le_refl _)) ?_
    refine aw_ret ?_
    exact fun a w hr => ⟨_, [(.bool v24)], hr, ⟨⟨_, rfl, .data _ trivial⟩, trivial⟩, by decide, by cases H; rfl⟩
  · refine aw_seq ?_
    refine aw_region (es := [_, _, _, _, _, _, _, _]) ⟨Step.plain rfl (does_move (.tmp 4) (.int .i64 x1.1) trivial), ⟨⟨rfl, trivial⟩, trivial, rfl⟩, rfl,
      Step.plain rfl (does_move (.tmp 0) (e_s_congresslaw08_Heard p0) trivial), ⟨⟨rfl, trivial⟩, trivial, rfl⟩, rfl,
      Step.plain rfl (does_lens 35 2 p0.length 11 (fun j => (e_congresslaw08_Heard (p0.getD j z_congresslaw08_Heard))) el35), ⟨⟨rfl, trivial⟩, trivial, rfl⟩, rfl,
      Step.plain rfl (does_bin .lss 3 3 (.tmp 10) (.tmp 12) .i64 x1.1 (p0.length : Int) (.bool (decide (x1.1 < (p0.length : Int)))) trivial trivial (bin_lss _ _ _ _)), ⟨⟨rfl, rfl, trivial⟩, trivial, rfl⟩, rfl,
      Step.plain rfl (does_move (.tmp 13) (.bool (decide (x1.1 < (p0.length : Int)))) trivial), ⟨⟨rfl, trivial⟩, trivial, rfl⟩, rfl,
      Step.guarded rfl rfl rfl rfl (fun hc => does_move (.tmp 4) (.int .i64 x1.1) trivial), ⟨⟨rfl, rfl, trivial⟩, trivial, rfl⟩, rfl,
      Step.guarded rfl rfl rfl rfl (fun hc => Does.strip (n' := [(15, (.opt (decide (x1.1 < (p0.length : Int))) (.int .i64 x1.1)))]) (n := [(15, (.int .i64 x1.1))]) ⟨(.opt _ _ hc), trivial⟩ (does_bin .lss 3 3 (.tmp 15) (.const (.int .i64 300)) .i64 x1.1 300 (.bool (decide (x1.1 < 300))) trivial (fun _ => rfl) (bin_lss _ _ _ _))), ⟨⟨rfl, rfl, trivial⟩, trivial, rfl⟩, rfl,
      Step.plain rfl (does_and 14 16 (decide (x1.1 < (p0.length : Int))) (decide (x1.1 < 300))), ⟨⟨rfl, rfl, trivial⟩, trivial, rfl⟩, rfl, rfl⟩ ?_
    refine aw_cov (cov_prune (s1 := ⟨[(0, (e_s_congresslaw08_Heard p0)), (3, (.ptr 0 0 [])), (4, (.int .i64 x1.1)), (17, (.bool ((decide (x1.1 < (p0.length : Int))) && (decide (x1.1 < 300)))))], [(0, some (.var (e_api_Beat x1.2)))], 1⟩) ⟨rfl, rfl, rfl, rfl, trivial⟩ ⟨rfl, trivial⟩ (Nat.le_refl _)) ?_
    refine aw_cond rfl (fun hc => ?_) (fun hc => ?_)
    · replace H := ite_t hc H
      refine aw_skip ?_
      refine nx_seq ?_
      refine aw_seq ?_
      refine aw_block ?_
      obtain ⟨v3, h4, H⟩ := bnd H
      refine aw_region (es := [_, _, _, _]) ⟨Step.plain rfl (does_load 25 3 0 0 [] (.var (e_api_Beat x1.2)) (e_api_Beat x1.2) trivial rfl rfl ty25), ⟨⟨rfl, trivial⟩, ⟨rfl, trivial⟩, rfl⟩, rfl,
        Step.plain rfl (does_call 10 0 (fun _ => .any) (.func 10) [(.tmp 20)] [(e_api_Beat x1.2)] [] true [(e_api_Beat x1.2)] (e_api_Beat v3) _ _ rfl fo10 rfl ⟨trivial, trivial⟩ ⟨.data _ (d_api_Beat x1.2), trivial⟩ (beat_Tick_spec x1.2 _ h4) (f_api_Beat v3)), ⟨⟨rfl, trivial⟩, trivial, rfl⟩, rfl,
        Step.plain rfl (does_alloc 25 1 (e_api_Beat z_api_Beat) zr25), ⟨trivial, trivial, rfl⟩, rfl,
        Step.plain rfl (does_store 25 5 (.tmp 21) 1 0 [] (.var (e_api_Beat z_api_Beat)) (.var (e_api_Beat v3)) (e_api_Beat v3) true trivial rfl trivial rfl rfl rfl ty25), ⟨⟨rfl, rfl, trivial⟩, ⟨rfl, trivial⟩, rfl⟩, rfl, rfl⟩ ?_
      refine aw_cov (cov_prune (s1 := ⟨[(0, (e_s_congresslaw08_Heard p0)), (3, (.ptr 0 0 [])), (4, (.int .i64 x1.1)), (5, (.ptr 1 0 []))], [(0, some (.var (e_api_Beat x1.2))), (1, some (.var (e_api_Beat v3)))], 2⟩) ⟨rfl, rfl, rfl, rfl, trivial⟩ ⟨rfl, rfl, trivial⟩ (Nat.le_refl _)) ?_
      refine aw_seq ?_
      obtain ⟨h5, H⟩ := ib_of H
      refine aw_region (es := [_, _, _, _, _, _]) ⟨Step.plain rfl (does_move (.tmp 0) (e_s_congresslaw08_Heard p0) trivial), ⟨⟨rfl, trivial⟩, trivial, rfl⟩, rfl,
        Step.plain rfl (does_move (.tmp 4) (.int .i64 x1.1) trivial), ⟨⟨rfl, trivial⟩, trivial, rfl⟩, rfl,
        Step.plain rfl (does_indexAddrs 35 2 p0.length 22 (fun j => (e_congresslaw08_Heard (p0.getD j z_congresslaw08_Heard))) (.tmp 23) .i64 x1.1 el35 trivial h5.1 h5.2), ⟨⟨rfl, rfl, trivial⟩, trivial, rfl⟩, rfl,
        Step.plain rfl (does_fieldAddrc 27 0 0 24 (e_congresslaw08_Heard (p0.getD x1.1.toNat z_congresslaw08_Heard)) fl27_0 rfl (Nat.le_of_ble_eq_true rfl) rfl), ⟨⟨rfl, trivial⟩, trivial, rfl⟩, rfl,
        Step.plain rfl (does_loadc 3 25 (.int .i64 ((p0.getD x1.1.toNat z_congresslaw08_Heard).From)) ty3), ⟨⟨rfl, trivial⟩, trivial, rfl⟩, rfl,
        Step.plain rfl (does_bin .geq 3 3 (.tmp 26) (.const (.int .i64 0)) .i64 ((p0.getD x1.1.toNat z_congresslaw08_Heard).From) 0 (.bool (decide (((p0.getD x1.1.toNat z_congresslaw08_Heard).From) ≥ 0))) trivial (fun _ => rfl) (bin_geq _ _ _ _)), ⟨⟨rfl, trivial⟩, trivial, rfl⟩, rfl, rfl⟩ ?_
      refine aw_cov (cov_prune (s1 := ⟨[(0, (e_s_congresslaw08_Heard p0)), (3, (.ptr 0 0 [])), (4, (.int .i64 x1.1)), (5, (.ptr 1 0 [])), (27, (.bool (decide (((p0.getD x1.1.toNat z_congresslaw08_Heard).From) ≥ 0))))], [(0, some (.var (e_api_Beat x1.2))), (1, some (.var (e_api_Beat v3)))], 2⟩) ⟨rfl, rfl, rfl, rfl, rfl, trivial⟩ ⟨rfl, rfl, trivial⟩ (Nat.le_refl _)) ?_
      refine aw_jn (fun x11 : api_Beat => (⟨[(0, (e_s_congresslaw08_Heard p0)), (3, (.ptr 0 0 [])), (4, (.int .i64 x1.1)), (5, (.ptr 1 0 []))], [(0, some (.var (e_api_Beat x1.2))), (1, some (.var (e_api_Beat x11)))], 3⟩ : St)) H (fun x11 H => ?_) (fun j6 H => ?_)
      · refine nx_seq ?_
        refine aw_seq ?_
        refine aw_region (es := [_, _, _, _, _]) ⟨Step.plain rfl (does_fieldAddr 25 0 0 5 1 0 [] (.var (e_api_Beat x11)) fl25_0), ⟨⟨rfl, trivial⟩, ⟨rfl, trivial⟩, rfl⟩, rfl,
          Step.plain rfl (does_load 22 51 1 (0 + 0) [0] (.var (e_api_Beat x11)) (.int .u32 x11.Now) ⟨rfl, Nat.le_of_ble_eq_true rfl, trivial⟩ rfl rfl ty22), ⟨⟨rfl, trivial⟩, ⟨rfl, trivial⟩, rfl⟩, rfl,
          Step.plain rfl (does_fieldAddr 25 0 0 3 0 0 [] (.var (e_api_Beat x1.2)) fl25_0), ⟨⟨rfl, trivial⟩, ⟨rfl, trivial⟩, rfl⟩, rfl,
          Step.plain rfl (does_load 22 53 0 (0 + 0) [0] (.var (e_api_Beat x1.2)) (.int .u32 x1.2.Now) ⟨rfl, Nat.le_of_ble_eq_true rfl, trivial⟩ rfl rfl ty22), ⟨⟨rfl, trivial⟩, ⟨rfl, trivial⟩, rfl⟩, rfl,
          Step.plain rfl (does_bin .lss 22 22 (.tmp 52) (.tmp 54) .u32 x11.Now x1.2.Now (.bool (decide (x11.Now < x1.2.Now))) trivial trivial (bin_lss _ _ _ _)), ⟨⟨rfl, rfl, trivial⟩, trivial, rfl⟩, rfl, rfl⟩ ?_
        refine aw_cov (cov_prune (s1 := ⟨[(0, (e_s_congresslaw08_Heard p0)), (3, (.ptr 0 0 [])), (4, (.int .i64 x1.1)), (5, (.ptr 1 0 [])), (55, (.bool (decide (x11.Now < x1.2.Now))))], [(0, some (.var (e_api_Beat x1.2))), (1, some (.var (e_api_Beat x11)))], 3⟩) ⟨rfl, rfl, rfl, rfl, rfl, trivial⟩ ⟨rfl, rfl, trivial⟩ (Nat.le_refl _)) ?_
        refine aw_cond rfl (fun hc => ?_) (fun hc => ?_)
        · replace H := ite_t hc H
          refine aw_region (es := [_]) ⟨Step.plain rfl (does_assign (.const (.bool false)) (.bool false) (fun _ => rfl)), ⟨trivial, trivial, rfl⟩, rfl, rfl⟩ ?_
          refine aw_cov (cov_prune (s1 := ⟨[(2, (.bool false))], [], 3⟩) ⟨rfl, trivial⟩ trivial (Nat.le_refl _)) ?_
          refine aw_ret ?_
          replace H := rt_of H hsn2 Hrn2
          refine rt_then ?_
          refine rt_blk ?_
          refine rt_then ?_
          refine rt_then ?_
          refine rt_blk ?_
          refine rt_then ?_
          refine rt_then ?_
          exact fun a w hr => ⟨_, [(.bool false)], hr, ⟨⟨_, rfl, .data _ trivial⟩, trivial⟩, by decide, by cases H; rfl⟩
        · replace H := ite_f hc H
          refine aw_skip ?_
          refine nx_seq ?_
          refine aw_seq ?_
          refine aw_region (es := [_]) ⟨Step.plain rfl (does_assign (.const (.int .i64 0)) (.int .i64 0) (fun _ => rfl)), ⟨trivial, trivial, rfl⟩, rfl, rfl⟩ ?_
          refine aw_cov (cov_prune (s1 := ⟨[(0, (e_s_congresslaw08_Heard p0)), (3, (.ptr 0 0 [])), (4, (.int .i64 x1.1)), (5, (.ptr 1 0 [])), (8, (.int .i64 0))], [(0, some (.var (e_api_Beat x1.2))), (1, some (.var (e_api_Beat x11)))], 3⟩) ⟨rfl, rfl, rfl, rfl, rfl, trivial⟩ ⟨rfl, rfl, trivial⟩ (Nat.le_refl _)) ?_
          obtain ⟨wn13, hwn13, Hrn13⟩ := bnd H
          refine aw_meet (fun y22 : Unit => (⟨[(0, (e_s_congresslaw08_Heard p0)), (3, (.ptr 0 0 [])), (4, (.int .i64 x1.1)), (5, (.ptr 1 0 []))], [(0, some (.var (e_api_Beat x1.2))), (1, some (.var (e_api_Beat x11)))], 3⟩ : St)) (fun y22 => Fl.nx y22 = wn13) (fun y22 hy => ?_) (aw_block (aw_runs (fun x12 : Int => (⟨[(0, (e_s_congresslaw08_Heard p0)), (3, (.ptr 0 0 [])), (4, (.int .i64 x1.1)), (5, (.ptr 1 0 [])), (8, (.int .i64 x12))], [(0, some (.var (e_api_Beat x1.2))), (1, some (.var (e_api_Beat x11)))], 3⟩ : St)) hwn13 (cov_prune ⟨rfl, rfl, rfl, rfl, rfl, trivial⟩ ⟨rfl, rfl, trivial⟩ (Nat.le_of_ble_eq_true rfl)) (fun x12 st H hsn13 => ?_)))
          · have H := nx_of hy Hrn13
            refine nx_seq ?_
            refine aw_region1 (es := [_, _]) ⟨Step.plain rfl (does_load 25 5 1 0 [] (.var (e_api_Beat x11)) (e_api_Beat x11) trivial rfl rfl ty25), ⟨⟨rfl, trivial⟩, ⟨rfl, trivial⟩, rfl⟩, rfl,
              Step.plain rfl (does_store 25 3 (.tmp 102) 0 0 [] (.var (e_api_Beat x1.2)) (.var (e_api_Beat x11)) (e_api_Beat x11) true trivial rfl trivial rfl rfl rfl ty25), ⟨⟨rfl, rfl, trivial⟩, ⟨rfl, trivial⟩, rfl⟩, rfl, rfl⟩ ?_
            refine nx_blk ?_
            refine nx_seq ?_
            refine aw_cov (cov_prune (s1 := ⟨[(0, (e_s_congresslaw08_Heard p0)), (3, (.ptr 0 0 [])), (4, (.int .i64 x1.1))], [(0, some (.var (e_api_Beat x11)))], 3⟩) ⟨rfl, rfl, rfl, trivial⟩ ⟨rfl, trivial⟩ (Nat.le_refl _)) ?_
            refine aw_region1 (es := [_, _, _]) ⟨Step.plain rfl (does_move (.tmp 4) (.int .i64 x1.1) trivial), ⟨⟨rfl, trivial⟩, trivial, rfl⟩, rfl,
              Step.plain rfl (does_bin .add 3 3 (.tmp 18) (.const (.int .i64 1)) .i64 x1.1 1 (.int .i64 (IntKind.i64.wrap (x1.1 + 1))) trivial (fun _ => rfl) (bin_add _ _ _ _)), ⟨⟨rfl, trivial⟩, trivial, rfl⟩, rfl,
              Step.plain rfl (does_assign (.tmp 19) (.int .i64 (IntKind.i64.wrap (x1.1 + 1))) trivial), ⟨⟨rfl, trivial⟩, trivial, rfl⟩, rfl, rfl⟩ ?_
            exact nx_loop ((IntKind.i64.wrap (x1.1 + 1)), x11) H (cov_of (fun i => match i with | 0 => 0 | k => k) ⟨⟨_, rfl, ⟨rfl, (d_s_congresslaw08_Heard _).plain⟩⟩, ⟨_, rfl, ⟨rfl, Nat.le_of_ble_eq_true rfl⟩⟩, ⟨_, rfl, ⟨rfl, trivial⟩⟩, trivial⟩ ⟨⟨Nat.le_of_ble_eq_true rfl, _, _, rfl, rfl, .inl ⟨rfl, (d_api_Beat _).plain⟩⟩, trivial⟩ rfl)
          · refine aw_seq ?_
            refine aw_region (es := [_, _]) ⟨Step.plain rfl (does_move (.tmp 8) (.int .i64 x12) trivial), ⟨⟨rfl, trivial⟩, trivial, rfl⟩, rfl,
              Step.plain rfl (does_bin .lss 3 3 (.tmp 56) (.const (.int .i64 8)) .i64 x12 8 (.bool (decide (x12 < 8))) trivial (fun _ => rfl) (bin_lss _ _ _ _)), ⟨⟨rfl, trivial⟩, trivial, rfl⟩, rfl, rfl⟩ ?_
            refine aw_cov (cov_prune (s1 := ⟨[(0, (e_s_congresslaw08_Heard p0)), (3, (.ptr 0 0 [])), (4, (.int .i64 x1.1)), (5, (.ptr 1 0 [])), (8, (.int .i64 x12)), (57, (.bool (decide (x12 < 8))))], [(0, some (.var (e_api_Beat x1.2))), (1, some (.var (e_api_Beat x11)))], 3⟩) ⟨rfl, rfl, rfl, rfl, rfl, rfl, trivial⟩ ⟨rfl, rfl, trivial⟩ (Nat.le_refl _)) ?_
            refine aw_cond rfl (fun hc => ?_) (fun hc => ?_)
            · replace H := ite_t hc H
              refine aw_skip ?_
              refine nx_seq ?_
              refine aw_seq ?_
              refine aw_block ?_
              obtain ⟨h14, H⟩ := ib_of H
              obtain ⟨h15, H⟩ := ib_of H
              obtain ⟨h16, H⟩ := ibg_of H
              obtain ⟨h17, H⟩ := ibg_of H
              obtain ⟨h18, H⟩ := ibg_of H
              obtain ⟨h19, H⟩ := ibg_of H
              obtain ⟨h20, H⟩ := ibg_of H
              refine aw_draw (es := [_, _, _, _, _, _, _, _, _, _, _, _, _, _, _, _, _, _, _, _, _, _, _, _, _, _, _, _, _, _, _, _, _, _, _, _, _, _, _, _, _, _]) (mixed) ⟨Step.plain rfl (does_move (.tmp 8) (.int .i64 x12) trivial), ⟨⟨rfl, trivial⟩, trivial, rfl⟩, rfl,
                Step.plain rfl (does_fieldAddr 25 2 9 5 1 0 [] (.var (e_api_Beat x11)) fl25_2), ⟨⟨rfl, trivial⟩, ⟨rfl, trivial⟩, rfl⟩, rfl,
                Step.plain rfl (does_indexAddr 23 8 1 61 1 (0 + 9) [2] (.var (e_api_Beat x11)) (.tmp 60) .i64 x12 el23 trivial h14.1 h14.2), ⟨⟨rfl, rfl, trivial⟩, ⟨rfl, trivial⟩, rfl⟩, rfl,
                Step.plain rfl (does_load 22 62 1 ((0 + 9) + x12.toNat * 1) [2, x12.toNat] (.var (e_api_Beat x11)) (.int .u32 (x11.Inc x12.toNat)) ⟨rfl, Nat.le_of_ble_eq_true rfl, ⟨rfl, (ixl h14), trivial⟩⟩ rfl rfl ty22), ⟨⟨rfl, trivial⟩, ⟨rfl, trivial⟩, rfl⟩, rfl,
                Step.plain rfl (does_move (.tmp 8) (.int .i64 x12) trivial), ⟨⟨rfl, trivial⟩, trivial, rfl⟩, rfl,
                Step.plain rfl (does_fieldAddr 25 2 9 3 0 0 [] (.var (e_api_Beat x1.2)) fl25_2), ⟨⟨rfl, trivial⟩, ⟨rfl, trivial⟩, rfl⟩, rfl,
                Step.plain rfl (does_indexAddr 23 8 1 65 0 (0 + 9) [2] (.var (e_api_Beat x1.2)) (.tmp 64) .i64 x12 el23 trivial h15.1 h15.2), ⟨⟨rfl, rfl, trivial⟩, ⟨rfl, trivial⟩, rfl⟩, rfl,
                Step.plain rfl (does_load 22 66 0 ((0 + 9) + x12.toNat * 1) [2, x12.toNat] (.var (e_api_Beat x1.2)) (.int .u32 (x1.2.Inc x12.toNat)) ⟨rfl, Nat.le_of_ble_eq_true rfl, ⟨rfl, (ixl h15), trivial⟩⟩ rfl rfl ty22), ⟨⟨rfl, trivial⟩, ⟨rfl, trivial⟩, rfl⟩, rfl,
                Step.plain rfl (does_bin .lss 22 22 (.tmp 63) (.tmp 67) .u32 (x11.Inc x12.toNat) (x1.2.Inc x12.toNat) (.bool (decide ((x11.Inc x12.toNat) < (x1.2.Inc x12.toNat)))) trivial trivial (bin_lss _ _ _ _)), ⟨⟨rfl, rfl, trivial⟩, trivial, rfl⟩, rfl,
                Step.plain rfl (does_move (.tmp 68) (.bool (decide ((x11.Inc x12.toNat) < (x1.2.Inc x12.toNat)))) trivial), ⟨⟨rfl, trivial⟩, trivial, rfl⟩, rfl,
                Step.guarded rfl rfl rfl rfl (fun hc => does_move (.tmp 8) (.int .i64 x12) trivial), ⟨⟨rfl, rfl, trivial⟩, trivial, rfl⟩, rfl,
                Step.guarded rfl rfl rfl rfl (fun hc => does_fieldAddr 25 1 1 5 1 0 [] (.var (e_api_Beat x11)) fl25_1), ⟨⟨rfl, rfl, trivial⟩, ⟨rfl, trivial⟩, rfl⟩, rfl,
                Step.guarded rfl rfl rfl rfl (fun hc => Does.strip (n' := [(71, (.opt (!(decide ((x11.Inc x12.toNat) < (x1.2.Inc x12.toNat)))) (.ptr 1 (0 + 1) [1]))), (70, (.opt (!(decide ((x11.Inc x12.toNat) < (x1.2.Inc x12.toNat)))) (.int .i64 x12)))]) (n := [(71, (.ptr 1 (0 + 1) [1])), (70, (.int .i64 x12))]) ⟨(.opt _ _ hc), (.opt _ _ hc), trivial⟩ (does_indexAddr 23 8 1 71 1 (0 + 1) [1] (.var (e_api_Beat x11)) (.tmp 70) .i64 x12 el23 trivial (h16 hc).1 (h16 hc).2)), ⟨⟨rfl, rfl, rfl, trivial⟩, ⟨rfl, trivial⟩, rfl⟩, rfl,
                Step.guarded rfl rfl rfl rfl (fun hc => Does.strip (n' := [(72, (.opt (!(decide ((x11.Inc x12.toNat) < (x1.2.Inc x12.toNat)))) (.ptr 1 ((0 + 1) + x12.toNat * 1) [1, x12.toNat])))]) (n := [(72, (.ptr 1 ((0 + 1) + x12.toNat * 1) [1, x12.toNat]))]) ⟨(.opt _ _ hc), trivial⟩ (does_load 22 72 1 ((0 + 1) + x12.toNat * 1) [1, x12.toNat] (.var (e_api_Beat x11)) (.int .u32 (x11.Heard x12.toNat)) ⟨rfl, Nat.le_of_ble_eq_true rfl, ⟨rfl, (ixl (h16 hc)), trivial⟩⟩ rfl rfl ty22)), ⟨⟨rfl, rfl, trivial⟩, ⟨rfl, trivial⟩, rfl⟩, rfl,
                Step.guarded rfl rfl rfl rfl (fun hc => does_move (.tmp 8) (.int .i64 x12) trivial), ⟨⟨rfl, rfl, trivial⟩, trivial, rfl⟩, rfl,
                Step.guarded rfl rfl rfl rfl (fun hc => does_fieldAddr 25 1 1 3 0 0 [] (.var (e_api_Beat x1.2)) fl25_1), ⟨⟨rfl, rfl, trivial⟩, ⟨rfl, trivial⟩, rfl⟩, rfl,
                Step.guarded rfl rfl rfl rfl (fun hc => Does.strip (n' := [(75, (.opt (!(decide ((x11.Inc x12.toNat) < (x1.2.Inc x12.toNat)))) (.ptr 0 (0 + 1) [1]))), (74, (.opt (!(decide ((x11.Inc x12.toNat) < (x1.2.Inc x12.toNat)))) (.int .i64 x12)))]) (n := [(75, (.ptr 0 (0 + 1) [1])), (74, (.int .i64 x12))]) ⟨(.opt _ _ hc), (.opt _ _ hc), trivial⟩ (does_indexAddr 23 8 1 75 0 (0 + 1) [1] (.var (e_api_Beat x1.2)) (.tmp 74) .i64 x12 el23 trivial (h17 hc).1 (h17 hc).2)), ⟨⟨rfl, rfl, rfl, trivial⟩, ⟨rfl, trivial⟩, rfl⟩, rfl,
                Step.guarded rfl rfl rfl rfl (fun hc => Does.strip (n' := [(76, (.opt (!(decide ((x11.Inc x12.toNat) < (x1.2.Inc x12.toNat)))) (.ptr 0 ((0 + 1) + x12.toNat * 1) [1, x12.toNat])))]) (n := [(76, (.ptr 0 ((0 + 1) + x12.toNat * 1) [1, x12.toNat]))]) ⟨(.opt _ _ hc), trivial⟩ (does_load 22 76 0 ((0 + 1) + x12.toNat * 1) [1, x12.toNat] (.var (e_api_Beat x1.2)) (.int .u32 (x1.2.Heard x12.toNat)) ⟨rfl, Nat.le_of_ble_eq_true rfl, ⟨rfl, (ixl (h17 hc)), trivial⟩⟩ rfl rfl ty22)), ⟨⟨rfl, rfl, trivial⟩, ⟨rfl, trivial⟩, rfl⟩, rfl,
                Step.guarded rfl rfl rfl rfl (fun hc => Does.strip (n' := [(73, (.opt (!(decide ((x11.Inc x12.toNat) < (x1.2.Inc x12.toNat)))) (.int .u32 (x11.Heard x12.toNat)))), (77, (.opt (!(decide ((x11.Inc x12.toNat) < (x1.2.Inc x12.toNat)))) (.int .u32 (x1.2.Heard x12.toNat))))]) (n := [(73, (.int .u32 (x11.Heard x12.toNat))), (77, (.int .u32 (x1.2.Heard x12.toNat)))]) ⟨(.opt _ _ hc), (.opt _ _ hc), trivial⟩ (does_bin .lss 22 22 (.tmp 73) (.tmp 77) .u32 (x11.Heard x12.toNat) (x1.2.Heard x12.toNat) (.bool (decide ((x11.Heard x12.toNat) < (x1.2.Heard x12.toNat)))) trivial trivial (bin_lss _ _ _ _))), ⟨⟨rfl, rfl, rfl, trivial⟩, trivial, rfl⟩, rfl,
                Step.plain rfl (does_or 69 78 (decide ((x11.Inc x12.toNat) < (x1.2.Inc x12.toNat))) (decide ((x11.Heard x12.toNat) < (x1.2.Heard x12.toNat)))), ⟨⟨rfl, rfl, trivial⟩, trivial, rfl⟩, rfl,
                Step.plain rfl (does_move (.tmp 79) (.bool ((decide ((x11.Inc x12.toNat) < (x1.2.Inc x12.toNat))) || (decide ((x11.Heard x12.toNat) < (x1.2.Heard x12.toNat))))) trivial), ⟨⟨rfl, trivial⟩, trivial, rfl⟩, rfl,
                Step.guarded rfl rfl rfl rfl (fun hc => does_move (.tmp 8) (.int .i64 x12) trivial), ⟨⟨rfl, rfl, trivial⟩, trivial, rfl⟩, rfl,
                Step.guarded rfl rfl rfl rfl (fun hc => does_fieldAddr 25 1 1 5 1 0 [] (.var (e_api_Beat x11)) fl25_1), ⟨⟨rfl, rfl, trivial⟩, ⟨rfl, trivial⟩, rfl⟩, rfl,
                Step.guarded rfl rfl rfl rfl (fun hc => Does.strip (n' := [(82, (.opt (!((decide ((x11.Inc x12.toNat) < (x1.2.Inc x12.toNat))) || (decide ((x11.Heard x12.toNat) < (x1.2.Heard x12.toNat))))) (.ptr 1 (0 + 1) [1]))), (81, (.opt (!((decide ((x11.Inc x12.toNat) < (x1.2.Inc x12.toNat))) || (decide ((x11.Heard x12.toNat) < (x1.2.Heard x12.toNat))))) (.int .i64 x12)))]) (n := [(82, (.ptr 1 (0 + 1) [1])), (81, (.int .i64 x12))]) ⟨(.opt _ _ hc), (.opt _ _ hc), trivial⟩ (does_indexAddr 23 8 1 82 1 (0 + 1) [1] (.var (e_api_Beat x11)) (.tmp 81) .i64 x12 el23 trivial (h18 hc).1 (h18 hc).2)), ⟨⟨rfl, rfl, rfl, trivial⟩, ⟨rfl, trivial⟩, rfl⟩, rfl,
                Step.guarded rfl rfl rfl rfl (fun hc => Does.strip (n' := [(83, (.opt (!((decide ((x11.Inc x12.toNat) < (x1.2.Inc x12.toNat))) || (decide ((x11.Heard x12.toNat) < (x1.2.Heard x12.toNat))))) (.ptr 1 ((0 + 1) + x12.toNat * 1) [1, x12.toNat])))]) (n := [(83, (.ptr 1 ((0 + 1) + x12.toNat * 1) [1, x12.toNat]))]) ⟨(.opt _ _ hc), trivial⟩ (does_load 22 83 1 ((0 + 1) + x12.toNat * 1) [1, x12.toNat] (.var (e_api_Beat x11)) (.int .u32 (x11.Heard x12.toNat)) ⟨rfl, Nat.le_of_ble_eq_true rfl, ⟨rfl, (ixl (h18 hc)), trivial⟩⟩ rfl rfl ty22)), ⟨⟨rfl, rfl, trivial⟩, ⟨rfl, trivial⟩, rfl⟩, rfl,
                Step.guarded rfl rfl rfl rfl (fun hc => does_fieldAddr 25 0 0 5 1 0 [] (.var (e_api_Beat x11)) fl25_0), ⟨⟨rfl, rfl, trivial⟩, ⟨rfl, trivial⟩, rfl⟩, rfl,
                Step.guarded rfl rfl rfl rfl (fun hc => Does.strip (n' := [(85, (.opt (!((decide ((x11.Inc x12.toNat) < (x1.2.Inc x12.toNat))) || (decide ((x11.Heard x12.toNat) < (x1.2.Heard x12.toNat))))) (.ptr 1 (0 + 0) [0])))]) (n := [(85, (.ptr 1 (0 + 0) [0]))]) ⟨(.opt _ _ hc), trivial⟩ (does_load 22 85 1 (0 + 0) [0] (.var (e_api_Beat x11)) (.int .u32 x11.Now) ⟨rfl, Nat.le_of_ble_eq_true rfl, trivial⟩ rfl rfl ty22)), ⟨⟨rfl, rfl, trivial⟩, ⟨rfl, trivial⟩, rfl⟩, rfl,
                Step.guarded rfl rfl rfl rfl (fun hc => Does.strip (n' := [(84, (.opt (!((decide ((x11.Inc x12.toNat) < (x1.2.Inc x12.toNat))) || (decide ((x11.Heard x12.toNat) < (x1.2.Heard x12.toNat))))) (.int .u32 (x11.Heard x12.toNat)))), (86, (.opt (!((decide ((x11.Inc x12.toNat) < (x1.2.Inc x12.toNat))) || (decide ((x11.Heard x12.toNat) < (x1.2.Heard x12.toNat))))) (.int .u32 x11.Now)))]) (n := [(84, (.int .u32 (x11.Heard x12.toNat))), (86, (.int .u32 x11.Now))]) ⟨(.opt _ _ hc), (.opt _ _ hc), trivial⟩ (does_bin .gtr 22 22 (.tmp 84) (.tmp 86) .u32 (x11.Heard x12.toNat) x11.Now (.bool (decide ((x11.Heard x12.toNat) > x11.Now))) trivial trivial (bin_gtr _ _ _ _))), ⟨⟨rfl, rfl, rfl, trivial⟩, trivial, rfl⟩, rfl,
                Step.plain rfl (does_or 80 87 ((decide ((x11.Inc x12.toNat) < (x1.2.Inc x12.toNat))) || (decide ((x11.Heard x12.toNat) < (x1.2.Heard x12.toNat)))) (decide ((x11.Heard x12.toNat) > x11.Now))), ⟨⟨rfl, rfl, trivial⟩, trivial, rfl⟩, rfl,
                Step.plain rfl (does_move (.tmp 88) (.bool (((decide ((x11.Inc x12.toNat) < (x1.2.Inc x12.toNat))) || (decide ((x11.Heard x12.toNat) < (x1.2.Heard x12.toNat)))) || (decide ((x11.Heard x12.toNat) > x11.Now)))) trivial), ⟨⟨rfl, trivial⟩, trivial, rfl⟩, rfl,
                Step.guarded rfl rfl rfl rfl (fun hc => does_move (.tmp 8) (.int .i64 x12) trivial), ⟨⟨rfl, rfl, trivial⟩, trivial, rfl⟩, rfl,
                Step.guarded rfl rfl rfl rfl (fun hc => does_fieldAddr 25 1 1 5 1 0 [] (.var (e_api_Beat x11)) fl25_1), ⟨⟨rfl, rfl, trivial⟩, ⟨rfl, trivial⟩, rfl⟩, rfl,
                Step.guarded rfl rfl rfl rfl (fun hc => Does.strip (n' := [(91, (.opt (!(((decide ((x11.Inc x12.toNat) < (x1.2.Inc x12.toNat))) || (decide ((x11.Heard x12.toNat) < (x1.2.Heard x12.toNat)))) || (decide ((x11.Heard x12.toNat) > x11.Now)))) (.ptr 1 (0 + 1) [1]))), (90, (.opt (!(((decide ((x11.Inc x12.toNat) < (x1.2.Inc x12.toNat))) || (decide ((x11.Heard x12.toNat) < (x1.2.Heard x12.toNat)))) || (decide ((x11.Heard x12.toNat) > x11.Now)))) (.int .i64 x12)))]) (n := [(91, (.ptr 1 (0 + 1) [1])), (90, (.int .i64 x12))]) ⟨(.opt _ _ hc), (.opt _ _ hc), trivial⟩ (does_indexAddr 23 8 1 91 1 (0 + 1) [1] (.var (e_api_Beat x11)) (.tmp 90) .i64 x12 el23 trivial (h19 hc).1 (h19 hc).2)), ⟨⟨rfl, rfl, rfl, trivial⟩, ⟨rfl, trivial⟩, rfl⟩, rfl,
                Step.guarded rfl rfl rfl rfl (fun hc => Does.strip (n' := [(92, (.opt (!(((decide ((x11.Inc x12.toNat) < (x1.2.Inc x12.toNat))) || (decide ((x11.Heard x12.toNat) < (x1.2.Heard x12.toNat)))) || (decide ((x11.Heard x12.toNat) > x11.Now)))) (.ptr 1 ((0 + 1) + x12.toNat * 1) [1, x12.toNat])))]) (n := [(92, (.ptr 1 ((0 + 1) + x12.toNat * 1) [1, x12.toNat]))]) ⟨(.opt _ _ hc), trivial⟩ (does_load 22 92 1 ((0 + 1) + x12.toNat * 1) [1, x12.toNat] (.var (e_api_Beat x11)) (.int .u32 (x11.Heard x12.toNat)) ⟨rfl, Nat.le_of_ble_eq_true rfl, ⟨rfl, (ixl (h19 hc)), trivial⟩⟩ rfl rfl ty22)), ⟨⟨rfl, rfl, trivial⟩, ⟨rfl, trivial⟩, rfl⟩, rfl,
                Step.guarded rfl rfl rfl rfl (fun hc => Does.strip (n' := [(93, (.opt (!(((decide ((x11.Inc x12.toNat) < (x1.2.Inc x12.toNat))) || (decide ((x11.Heard x12.toNat) < (x1.2.Heard x12.toNat)))) || (decide ((x11.Heard x12.toNat) > x11.Now)))) (.int .u32 (x11.Heard x12.toNat))))]) (n := [(93, (.int .u32 (x11.Heard x12.toNat)))]) ⟨(.opt _ _ hc), trivial⟩ (does_bin .eql 22 22 (.tmp 93) (.const (.int .u32 0)) .u32 (x11.Heard x12.toNat) 0 (.bool ((x11.Heard x12.toNat) == 0)) trivial (fun _ => rfl) (bin_eql _ _ _ _))), ⟨⟨rfl, rfl, trivial⟩, trivial, rfl⟩, rfl,
                Step.guarded rfl rfl rfl rfl (fun hc => does_move (.tmp 8) (.int .i64 x12) trivial), ⟨⟨rfl, rfl, trivial⟩, trivial, rfl⟩, rfl,
                Step.guarded rfl rfl rfl rfl (fun hc => does_fieldAddr 25 2 9 5 1 0 [] (.var (e_api_Beat x11)) fl25_2), ⟨⟨rfl, rfl, trivial⟩, ⟨rfl, trivial⟩, rfl⟩, rfl,
                Step.guarded rfl rfl rfl rfl (fun hc => Does.strip (n' := [(96, (.opt (!(((decide ((x11.Inc x12.toNat) < (x1.2.Inc x12.toNat))) || (decide ((x11.Heard x12.toNat) < (x1.2.Heard x12.toNat)))) || (decide ((x11.Heard x12.toNat) > x11.Now)))) (.ptr 1 (0 + 9) [2]))), (95, (.opt (!(((decide ((x11.Inc x12.toNat) < (x1.2.Inc x12.toNat))) || (decide ((x11.Heard x12.toNat) < (x1.2.Heard x12.toNat)))) || (decide ((x11.Heard x12.toNat) > x11.Now)))) (.int .i64 x12)))]) (n := [(96, (.ptr 1 (0 + 9) [2])), (95, (.int .i64 x12))]) ⟨(.opt _ _ hc), (.opt _ _ hc), trivial⟩ (does_indexAddr 23 8 1 96 1 (0 + 9) [2] (.var (e_api_Beat x11)) (.tmp 95) .i64 x12 el23 trivial (h20 hc).1 (h20 hc).2)), ⟨⟨rfl, rfl, rfl, trivial⟩, ⟨rfl, trivial⟩, rfl⟩, rfl,
                Step.guarded rfl rfl rfl rfl (fun hc => Does.strip (n' := [(97, (.opt (!(((decide ((x11.Inc x12.toNat) < (x1.2.Inc x12.toNat))) || (decide ((x11.Heard x12.toNat) < (x1.2.Heard x12.toNat)))) || (decide ((x11.Heard x12.toNat) > x11.Now)))) (.ptr 1 ((0 + 9) + x12.toNat * 1) [2, x12.toNat])))]) (n := [(97, (.ptr 1 ((0 + 9) + x12.toNat * 1) [2, x12.toNat]))]) ⟨(.opt _ _ hc), trivial⟩ (does_load 22 97 1 ((0 + 9) + x12.toNat * 1) [2, x12.toNat] (.var (e_api_Beat x11)) (.int .u32 (x11.Inc x12.toNat)) ⟨rfl, Nat.le_of_ble_eq_true rfl, ⟨rfl, (ixl (h20 hc)), trivial⟩⟩ rfl rfl ty22)), ⟨⟨rfl, rfl, trivial⟩, ⟨rfl, trivial⟩, rfl⟩, rfl,
                Step.guarded rfl rfl rfl rfl (fun hc => Does.strip (n' := [(98, (.opt (!(((decide ((x11.Inc x12.toNat) < (x1.2.Inc x12.toNat))) || (decide ((x11.Heard x12.toNat) < (x1.2.Heard x12.toNat)))) || (decide ((x11.Heard x12.toNat) > x11.Now)))) (.int .u32 (x11.Inc x12.toNat))))]) (n := [(98, (.int .u32 (x11.Inc x12.toNat)))]) ⟨(.opt _ _ hc), trivial⟩ (does_bin .eql 22 22 (.tmp 98) (.const (.int .u32 0)) .u32 (x11.Inc x12.toNat) 0 (.bool ((x11.Inc x12.toNat) == 0)) trivial (fun _ => rfl) (bin_eql _ _ _ _))), ⟨⟨rfl, rfl, trivial⟩, trivial, rfl⟩, rfl,
                Step.guarded rfl rfl rfl rfl (fun hc => Does.strip (n' := [(94, (.opt (!(((decide ((x11.Inc x12.toNat) < (x1.2.Inc x12.toNat))) || (decide ((x11.Heard x12.toNat) < (x1.2.Heard x12.toNat)))) || (decide ((x11.Heard x12.toNat) > x11.Now)))) (.bool ((x11.Heard x12.toNat) == 0)))), (99, (.opt (!(((decide ((x11.Inc x12.toNat) < (x1.2.Inc x12.toNat))) || (decide ((x11.Heard x12.toNat) < (x1.2.Heard x12.toNat)))) || (decide ((x11.Heard x12.toNat) > x11.Now)))) (.bool ((x11.Inc x12.toNat) == 0))))]) (n := [(94, (.bool ((x11.Heard x12.toNat) == 0))), (99, (.bool ((x11.Inc x12.toNat) == 0)))]) ⟨(.opt _ _ hc), (.opt _ _ hc), trivial⟩ (does_eqBool true 4 4 (.tmp 94) (.tmp 99) ((x11.Heard x12.toNat) == 0) ((x11.Inc x12.toNat) == 0) trivial trivial rfl)), ⟨⟨rfl, rfl, rfl, trivial⟩, trivial, rfl⟩, rfl,
                Step.plain rfl (does_or 89 100 (((decide ((x11.Inc x12.toNat) < (x1.2.Inc x12.toNat))) || (decide ((x11.Heard x12.toNat) < (x1.2.Heard x12.toNat)))) || (decide ((x11.Heard x12.toNat) > x11.Now))) (((x11.Heard x12.toNat) == 0) != ((x11.Inc x12.toNat) == 0))), ⟨⟨rfl, rfl, trivial⟩, trivial, rfl⟩, rfl, rfl⟩ rfl ?_
              obtain ⟨v21, hv21, H⟩ := lt_of H
              refine aw_cov (cov_prune (s1 := ⟨[(0, (e_s_congresslaw08_Heard p0)), (3, (.ptr 0 0 [])), (4, (.int .i64 x1.1)), (5, (.ptr 1 0 [])), (8, (.int .i64 x12)), (101, (.bool v21))], [(0, some (.var (e_api_Beat x1.2))), (1, some (.var (e_api_Beat x11)))], 3⟩) ⟨rfl, rfl, rfl, rfl, rfl, (by subst hv21; rfl), trivial⟩ ⟨rfl, rfl, trivial⟩ (Nat.le_refl _)) ?_
              refine aw_cond rfl (fun hc => ?_) (fun hc => ?_)
              · replace H := ite_t hc H
                refine aw_region (es := [_]) ⟨Step.plain rfl (does_assign (.const (.bool false)) (.bool false) (fun _ => rfl)), ⟨trivial, trivial, rfl⟩, rfl, rfl⟩ ?_
                refine aw_cov (cov_prune (s1 := ⟨[(2, (.bool false))], [], 3⟩) ⟨rfl, trivial⟩ trivial (Nat.le_refl _)) ?_
                refine aw_ret ?_
                replace H := rt_of H hsn13 Hrn13
                replace H := rt_of H hsn2 Hrn2
                refine rt_blk ?_
                refine rt_then ?_
                refine rt_then ?_
                refine rt_blk ?_
                refine rt_then ?_
                refine rt_then ?_
                refine rt_blk ?_
                refine rt_then ?_
                refine rt_then ?_
                refine rt_blk ?_
                refine rt_then ?_
                refine rt_then ?_
                exact fun a w hr => ⟨_, [(.bool false)], hr, ⟨⟨_, rfl, .data _ trivial⟩, trivial⟩, by decide, by cases H; rfl⟩
              · replace H := ite_f hc H
                refine aw_skip ?_
                refine nx_blk ?_
                refine nx_seq ?_
                refine aw_region1 (es := [_, _, _]) ⟨Step.plain rfl (does_move (.tmp 8) (.int .i64 x12) trivial), ⟨⟨rfl, trivial⟩, trivial, rfl⟩, rfl,
                  Step.plain rfl (does_bin .add 3 3 (.tmp 58) (.const (.int .i64 1)) .i64 x12 1 (.int .i64 (IntKind.i64.wrap (x12 + 1))) trivial (fun _ => rfl) (bin_add _ _ _ _)), ⟨⟨rfl, trivial⟩, trivial, rfl⟩, rfl,
                  Step.plain rfl (does_assign (.tmp 59) (.int .i64 (IntKind.i64.wrap (x12 + 1))) trivial), ⟨⟨rfl, trivial⟩, trivial, rfl⟩, rfl, rfl⟩ ?_
                exact nx_loop ((IntKind.i64.wrap (x12 + 1))) H (cov_prune ⟨rfl, rfl, rfl, rfl, rfl, trivial⟩ ⟨rfl, rfl, trivial⟩ (Nat.le_of_ble_eq_true rfl))
            · replace H := ite_f hc H
              refine aw_exit ?_
              refine ex_then ?_
              refine ex_then ?_
              refine ex_here ?_
              exact nx_ljoin () H hsn13 (cov_prune ⟨rfl, rfl, rfl, rfl, trivial⟩ ⟨rfl, rfl, trivial⟩ (Nat.le_of_ble_eq_true rfl))
      · refine aw_cond rfl (fun hc => ?_) (fun hc => ?_)
        · replace H := ite_t hc H
          obtain ⟨h7, H⟩ := ib_of H
          obtain ⟨h8, H⟩ := ib_of H
          obtain ⟨v9, h10, H⟩ := bnd H
          refine aw_draw (es := [_, _, _, _, _, _, _, _, _, _, _, _, _, _, _, _, _, _]) (mixed) ⟨Step.plain rfl (does_load 25 3 0 0 [] (.var (e_api_Beat x1.2)) (e_api_Beat x1.2) trivial rfl rfl ty25), ⟨⟨rfl, trivial⟩, ⟨rfl, trivial⟩, rfl⟩, rfl,
            Step.plain rfl (does_move (.tmp 0) (e_s_congresslaw08_Heard p0) trivial), ⟨⟨rfl, trivial⟩, trivial, rfl⟩, rfl,
            Step.plain rfl (does_move (.tmp 4) (.int .i64 x1.1) trivial), ⟨⟨rfl, trivial⟩, trivial, rfl⟩, rfl,
            Step.plain rfl (does_indexAddrs 35 2 p0.length 30 (fun j => (e_congresslaw08_Heard (p0.getD j z_congresslaw08_Heard))) (.tmp 31) .i64 x1.1 el35 trivial h7.1 h7.2), ⟨⟨rfl, rfl, trivial⟩, trivial, rfl⟩, rfl,
            Step.plain rfl (does_fieldAddrc 27 0 0 32 (e_congresslaw08_Heard (p0.getD x1.1.toNat z_congresslaw08_Heard)) fl27_0 rfl (Nat.le_of_ble_eq_true rfl) rfl), ⟨⟨rfl, trivial⟩, trivial, rfl⟩, rfl,
            Step.plain rfl (does_loadc 3 33 (.int .i64 ((p0.getD x1.1.toNat z_congresslaw08_Heard).From)) ty3), ⟨⟨rfl, trivial⟩, trivial, rfl⟩, rfl,
            Step.plain rfl (does_move (.tmp 0) (e_s_congresslaw08_Heard p0) trivial), ⟨⟨rfl, trivial⟩, trivial, rfl⟩, rfl,
            Step.plain rfl (does_move (.tmp 4) (.int .i64 x1.1) trivial), ⟨⟨rfl, trivial⟩, trivial, rfl⟩, rfl,
            Step.plain rfl (does_indexAddrs 35 2 p0.length 35 (fun j => (e_congresslaw08_Heard (p0.getD j z_congresslaw08_Heard))) (.tmp 36) .i64 x1.1 el35 trivial h8.1 h8.2), ⟨⟨rfl, rfl, trivial⟩, trivial, rfl⟩, rfl,
            Step.plain rfl (does_fieldAddrc 27 1 1 37 (e_congresslaw08_Heard (p0.getD x1.1.toNat z_congresslaw08_Heard)) fl27_1 rfl (Nat.le_of_ble_eq_true rfl) rfl), ⟨⟨rfl, trivial⟩, trivial, rfl⟩, rfl,
            Step.plain rfl (does_loadc 22 38 (.int .u32 ((p0.getD x1.1.toNat z_congresslaw08_Heard).Inc)) ty22), ⟨⟨rfl, trivial⟩, trivial, rfl⟩, rfl,
            Step.plain rfl (does_call 7 0 (fun _ => .any) (.func 7) [(.tmp 29), (.tmp 34), (.tmp 39)] [(e_api_Beat x1.2), (.int .i64 ((p0.getD x1.1.toNat z_congresslaw08_Heard).From)), (.int .u32 ((p0.getD x1.1.toNat z_congresslaw08_Heard).Inc))] [] true [(e_api_Beat x1.2), (.int .i64 ((p0.getD x1.1.toNat z_congresslaw08_Heard).From)), (.int .u32 ((p0.getD x1.1.toNat z_congresslaw08_Heard).Inc))] (resV [(e_api_Beat v9.1), (.bool v9.2)]) _ _ rfl fo7 rfl ⟨trivial, trivial, trivial, trivial⟩ ⟨.data _ (d_api_Beat x1.2), .data _ trivial, .data _ trivial, trivial⟩ (beat_Hear_spec x1.2 ((p0.getD x1.1.toNat z_congresslaw08_Heard).From) ((p0.getD x1.1.toNat z_congresslaw08_Heard).Inc) _ h10) (res_flat2 (f_api_Beat v9.1) trivial)), ⟨⟨rfl, rfl, rfl, trivial⟩, trivial, rfl⟩, rfl,
            Step.plain rfl (does_move (.tmp 40) (resV [(e_api_Beat v9.1), (.bool v9.2)]) trivial), ⟨⟨rfl, trivial⟩, trivial, rfl⟩, rfl,
            Step.plain rfl (does_extract 28 0 2 (fun j => [(e_api_Beat v9.1), (.bool v9.2)].getD j (.bool false)) (Nat.le_of_ble_eq_true rfl)), ⟨⟨rfl, trivial⟩, trivial, rfl⟩, rfl,
            Step.plain rfl (does_extract 28 1 2 (fun j => [(e_api_Beat v9.1), (.bool v9.2)].getD j (.bool false)) (Nat.le_of_ble_eq_true rfl)), ⟨⟨rfl, trivial⟩, trivial, rfl⟩, rfl,
            Step.plain rfl (does_alloc 25 2 (e_api_Beat z_api_Beat) zr25), ⟨trivial, trivial, rfl⟩, rfl,
            Step.plain rfl (does_store 25 6 (.tmp 41) 2 0 [] (.var (e_api_Beat z_api_Beat)) (.var (e_api_Beat v9.1)) (e_api_Beat v9.1) true trivial rfl trivial rfl rfl rfl ty25), ⟨⟨rfl, rfl, trivial⟩, ⟨rfl, trivial⟩, rfl⟩, rfl,
            Step.plain rfl (does_assign (.tmp 42) (.bool v9.2) trivial), ⟨⟨rfl, trivial⟩, trivial, rfl⟩, rfl, rfl⟩ rfl ?_
          refine aw_cov (cov_prune (s1 := ⟨[(0, (e_s_congresslaw08_Heard p0)), (3, (.ptr 0 0 [])), (4, (.int .i64 x1.1)), (5, (.ptr 1 0 [])), (6, (.ptr 2 0 [])), (7, (.bool v9.2))], [(0, some (.var (e_api_Beat x1.2))), (1, some (.var (e_api_Beat v3))), (2, some (.var (e_api_Beat v9.1)))], 3⟩) ⟨rfl, rfl, rfl, rfl, rfl, rfl, trivial⟩ ⟨rfl, rfl, rfl, trivial⟩ (Nat.le_refl _)) ?_
          refine aw_seq ?_
          refine aw_region (es := [_, _, _, _, _, _, _]) ⟨Step.plain rfl (does_move (.tmp 7) (.bool v9.2) trivial), ⟨⟨rfl, trivial⟩, trivial, rfl⟩, rfl,
            Step.plain rfl (does_not 4 (.tmp 43) v9.2 trivial), ⟨⟨rfl, trivial⟩, trivial, rfl⟩, rfl,
            Step.plain rfl (does_move (.tmp 44) (.bool (!v9.2)) trivial), ⟨⟨rfl, trivial⟩, trivial, rfl⟩, rfl,
            Step.guarded rfl rfl rfl rfl (fun hc => does_load 25 6 2 0 [] (.var (e_api_Beat v9.1)) (e_api_Beat v9.1) trivial rfl rfl ty25), ⟨⟨rfl, rfl, trivial⟩, ⟨rfl, trivial⟩, rfl⟩, rfl,
            Step.guarded rfl rfl rfl rfl (fun hc => does_load 25 3 0 0 [] (.var (e_api_Beat x1.2)) (e_api_Beat x1.2) trivial rfl rfl ty25), ⟨⟨rfl, rfl, trivial⟩, ⟨rfl, trivial⟩, rfl⟩, rfl,
            Step.guarded rfl rfl rfl rfl (fun hc => Does.strip (n' := [(46, (.opt (!v9.2) (e_api_Beat v9.1))), (47, (.opt (!v9.2) (e_api_Beat x1.2)))]) (n := [(46, (e_api_Beat v9.1)), (47, (e_api_Beat x1.2))]) ⟨(.opt _ _ hc), (.opt _ _ hc), trivial⟩ (does_eqT true 25 25 (.tmp 46) (.tmp 47) (e_api_Beat v9.1) (e_api_Beat x1.2) (e_api_Beat z_api_Beat) (b_api_Beat v9.1 x1.2) rfl rfl trivial trivial eg25 sh25 (al_api_Beat _ _) (al_api_Beat _ _) (q_api_Beat _ _))), ⟨⟨rfl, rfl, rfl, trivial⟩, trivial, rfl⟩, rfl,
            Step.plain rfl (does_and 45 48 (!v9.2) (!(b_api_Beat v9.1 x1.2))), ⟨⟨rfl, rfl, trivial⟩, trivial, rfl⟩, rfl, rfl⟩ ?_
          refine aw_cov (cov_prune (s1 := ⟨[(0, (e_s_congresslaw08_Heard p0)), (3, (.ptr 0 0 [])), (4, (.int .i64 x1.1)), (5, (.ptr 1 0 [])), (6, (.ptr 2 0 [])), (49, (.bool ((!v9.2) && (!(b_api_Beat v9.1 x1.2)))))], [(0, some (.var (e_api_Beat x1.2))), (1, some (.var (e_api_Beat v3))), (2, some (.var (e_api_Beat v9.1)))], 3⟩) ⟨rfl, rfl, rfl, rfl, rfl, rfl, trivial⟩ ⟨rfl, rfl, rfl, trivial⟩ (Nat.le_refl _)) ?_
          refine aw_cond rfl (fun hc => ?_) (fun hc => ?_)
          · replace H := ite_t hc H
            refine aw_region (es := [_]) ⟨Step.plain rfl (does_assign (.const (.bool false)) (.bool false) (fun _ => rfl)), ⟨trivial, trivial, rfl⟩, rfl, rfl⟩ ?_
            refine aw_cov (cov_prune (s1 := ⟨[(2, (.bool false))], [], 3⟩) ⟨rfl, trivial⟩ trivial (Nat.le_refl _)) ?_
            refine aw_ret ?_
            replace H := rt_of H hsn2 Hrn2
            refine rt_then ?_
            refine rt_then ?_
            refine rt_then ?_
            refine rt_blk ?_
            refine rt_then ?_
            refine rt_then ?_
            refine rt_blk ?_
            refine rt_then ?_
            refine rt_then ?_
            exact fun a w hr => ⟨_, [(.bool false)], hr, ⟨⟨_, rfl, .data _ trivial⟩, trivial⟩, by decide, by cases H; rfl⟩
          · replace H := ite_f hc H
            refine aw_skip ?_
            refine nx_seq ?_
            refine aw_region1 (es := [_, _]) ⟨Step.plain rfl (does_load 25 6 2 0 [] (.var (e_api_Beat v9.1)) (e_api_Beat v9.1) trivial rfl rfl ty25), ⟨⟨rfl, trivial⟩, ⟨rfl, trivial⟩, rfl⟩, rfl,
              Step.plain rfl (does_store 25 5 (.tmp 50) 1 0 [] (.var (e_api_Beat v3)) (.var (e_api_Beat v9.1)) (e_api_Beat v9.1) true trivial rfl trivial rfl rfl rfl ty25), ⟨⟨rfl, rfl, trivial⟩, ⟨rfl, trivial⟩, rfl⟩, rfl, rfl⟩ ?_
            exact nx_join (v9.1) H (cov_prune ⟨rfl, rfl, rfl, rfl, trivial⟩ ⟨rfl, rfl, trivial⟩ (Nat.le_of_ble_eq_true rfl))
        · replace H := ite_f hc H
          refine aw_skip ?_
          exact nx_join (v3) H (cov_prune ⟨rfl, rfl, rfl, rfl, trivial⟩ ⟨rfl, rfl, trivial⟩ (Nat.le_of_ble_eq_true rfl))
    · replace H := ite_f hc H
      refine aw_exit ?_
      refine ex_then ?_
      refine ex_then ?_
      refine ex_here ?_
      exact nx_ljoin () H hsn2 (cov_prune trivial trivial (Nat.le_of_ble_eq_true rfl))

theorem congresslaw08_BeatApart_spec (p0 : api_Beat) (p1 : congresslaw08_Heard) (p2 : congresslaw08_Heard) (r : Bool) (H : congresslaw08_BeatApart p0 p1 p2 = some r) : FSpec Try.prog 6 [(e_api_Beat p0), (e_congresslaw08_Heard p1), (e_congresslaw08_Heard p2)] (.bool r) := by
  refine spec_of (fn := Try.f6) (args := [(e_api_Beat p0), (e_congresslaw08_Heard p1), (e_congresslaw08_Heard p2)]) Try.func6 rfl (Nat.le_of_ble_eq_true rfl) ?_
  rintro ⟨G, w0, W, S, Sp⟩ hG
  cases hG
  unfold congresslaw08_BeatApart at H
  refine aw_region (es := [_, _, _, _]) ⟨Step.plain rfl (does_box 25 (.tmp 0) 0 (e_api_Beat p0) trivial rfl), ⟨⟨rfl, trivial⟩, trivial, rfl⟩, rfl,
    Step.plain rfl (does_box 27 (.tmp 1) 1 (e_congresslaw08_Heard p1) trivial rfl), ⟨⟨rfl, trivial⟩, trivial, rfl⟩, rfl,
    Step.plain rfl (does_box 27 (.tmp 2) 2 (e_congresslaw08_Heard p2) trivial rfl), ⟨⟨rfl, trivial⟩, trivial, rfl⟩, rfl,
    Step.plain rfl (does_assign (.const (.bool false)) (.bool false) (fun _ => rfl)), ⟨trivial, trivial, rfl⟩, rfl, rfl⟩ ?_
  refine aw_cov (cov_prune (s1 := ⟨[(3, (.ptr 0 0 [])), (4, (.ptr 1 0 [])), (5, (.ptr 2 0 []))], [(0, some (.var (e_api_Beat p0))), (1, some (.var (e_congresslaw08_Heard p1))), (2, some (.var (e_congresslaw08_Heard p2)))], 3⟩) ⟨rfl, rfl, rfl, trivial⟩ ⟨rfl, rfl, rfl, trivial⟩ (Nat.le_refl _)) ?_
  obtain ⟨v1, h2, H⟩ := bnd H
  refine aw_region (es := [_, _, _, _, _, _, _, _, _, _, _, _]) ⟨Step.plain rfl (does_load 25 3 0 0 [] (.var (e_api_Beat p0)) (e_api_Beat p0) trivial rfl rfl ty25), ⟨⟨rfl, trivial⟩, ⟨rfl, trivial⟩, rfl⟩, rfl,
    Step.plain rfl (does_fieldAddr 27 0 0 4 1 0 [] (.var (e_congresslaw08_Heard p1)) fl27_0), ⟨⟨rfl, trivial⟩, ⟨rfl, trivial⟩, rfl⟩, rfl,
    Step.plain rfl (does_load 3 19 1 (0 + 0) [0] (.var (e_congresslaw08_Heard p1)) (.int .i64 p1.From) ⟨rfl, Nat.le_of_ble_eq_true rfl, trivial⟩ rfl rfl ty3), ⟨⟨rfl, trivial⟩, ⟨rfl, trivial⟩, rfl⟩, rfl,
    Step.plain rfl (does_fieldAddr 27 1 1 4 1 0 [] (.var (e_congresslaw08_Heard p1)) fl27_1), ⟨⟨rfl, trivial⟩, ⟨rfl, trivial⟩, rfl⟩, rfl,
    Step.plain rfl (does_load 22 21 1 (0 + 1) [1] (.var (e_congresslaw08_Heard p1)) (.int .u32 p1.Inc) ⟨rfl, Nat.le_of_ble_eq_true rfl, trivial⟩ rfl rfl ty22), ⟨⟨rfl, trivial⟩, ⟨rfl, trivial⟩, rfl⟩, rfl,
    Step.plain rfl (does_call 7 0 (fun _ => .any) (.func 7) [(.tmp 18), (.tmp 20), (.tmp 22)] [(e_api_Beat p0), (.int .i64 p1.From), (.int .u32 p1.Inc)] [] true [(e_api_Beat p0), (.int .i64 p1.From), (.int .u32 p1.Inc)] (resV [(e_api_Beat v1.1), (.bool v1.2)]) _ _ rfl fo7 rfl ⟨trivial, trivial, trivial, trivial⟩ ⟨.data _ (d_api_Beat p0), .data _ trivial, .data _ trivial, trivial⟩ (beat_Hear_spec p0 p1.From p1.Inc _ h2) (res_flat2 (f_api_Beat v1.1) trivial)), ⟨⟨rfl, rfl, rfl, trivial⟩, trivial, rfl⟩, rfl,
    Step.plain rfl (does_move (.tmp 23) (resV [(e_api_Beat v1.1), (.bool v1.2)]) trivial), ⟨⟨rfl, trivial⟩, trivial, rfl⟩, rfl,
    Step.plain rfl (does_extract 17 0 2 (fun j => [(e_api_Beat v1.1), (.bool v1.2)].getD j (.bool false)) (Nat.le_of_ble_eq_true rfl)), ⟨⟨rfl, trivial⟩, trivial, rfl⟩, rfl,
    Step.plain rfl (does_extract 17 1 2 (fun j => [(e_api_Beat v1.1), (.bool v1.2)].getD j (.bool false)) (Nat.le_of_ble_eq_true rfl)), ⟨⟨rfl, trivial⟩, trivial, rfl⟩, rfl,
    Step.plain rfl (does_alloc 25 3 (e_api_Beat z_api_Beat) zr25), ⟨trivial, trivial, rfl⟩, rfl,
    Step.plain rfl (does_store 25 7 (.tmp 24) 3 0 [] (.var (e_api_Beat z_api_Beat)) (.var (e_api_Beat v1.1)) (e_api_Beat v1.1) true trivial rfl trivial rfl rfl rfl ty25), ⟨⟨rfl, rfl, trivial⟩, ⟨rfl, trivial⟩, rfl⟩, rfl,
    Step.plain rfl (does_assign (.tmp 25) (.bool v1.2) trivial), ⟨⟨rfl, trivial⟩, trivial, rfl⟩, rfl, rfl⟩ ?_
  refine aw_cov (cov_prune (s1 := ⟨[(3, (.ptr 0 0 [])), (4, (.ptr 1 0 [])), (5, (.ptr 2 0 [])), (7, (.ptr 3 0 [])), (8, (.bool v1.2))], [(0, some (.var (e_api_Beat p0))), (1, some (.var (e_congresslaw08_Heard p1))), (2, some (.var (e_congresslaw08_Heard p2))), (3, some (.var (e_api_Beat v1.1)))], 4⟩) ⟨rfl, rfl, rfl, rfl, rfl, trivial⟩ ⟨rfl, rfl, rfl, rfl, trivial⟩ (Nat.le_refl _)) ?_
  obtain ⟨v3, h4, H⟩ := bnd H
  refine aw_region (es := [_, _, _, _, _, _, _, _, _, _, _, _]) ⟨Step.plain rfl (does_load 25 7 3 0 [] (.var (e_api_Beat v1.1)) (e_api_Beat v1.1) trivial rfl rfl ty25), ⟨⟨rfl, trivial⟩, ⟨rfl, trivial⟩, rfl⟩, rfl,
    Step.plain rfl (does_fieldAddr 27 0 0 5 2 0 [] (.var (e_congresslaw08_Heard p2)) fl27_0), ⟨⟨rfl, trivial⟩, ⟨rfl, trivial⟩, rfl⟩, rfl,
    Step.plain rfl (does_load 3 28 2 (0 + 0) [0] (.var (e_congresslaw08_Heard p2)) (.int .i64 p2.From) ⟨rfl, Nat.le_of_ble_eq_true rfl, trivial⟩ rfl rfl ty3), ⟨⟨rfl, trivial⟩, ⟨rfl, trivial⟩, rfl⟩, rfl,
    Step.plain rfl (does_fieldAddr 27 1 1 5 2 0 [] (.var (e_congresslaw08_Heard p2)) fl27_1), ⟨⟨rfl, trivial⟩, ⟨rfl, trivial⟩, rfl⟩, rfl,
    Step.plain rfl (does_load 22 30 2 (0 + 1) [1] (.var (e_congresslaw08_Heard p2)) (.int .u32 p2.Inc) ⟨rfl, Nat.le_of_ble_eq_true rfl, trivial⟩ rfl rfl ty22), ⟨⟨rfl, trivial⟩, ⟨rfl, trivial⟩, rfl⟩, rfl,
    Step.plain rfl (does_call 7 0 (fun _ => .any) (.func 7) [(.tmp 27), (.tmp 29), (.tmp 31)] [(e_api_Beat v1.1), (.int .i64 p2.From), (.int .u32 p2.Inc)] [] true [(e_api_Beat v1.1), (.int .i64 p2.From), (.int .u32 p2.Inc)] (resV [(e_api_Beat v3.1), (.bool v3.2)]) _ _ rfl fo7 rfl ⟨trivial, trivial, trivial, trivial⟩ ⟨.data _ (d_api_Beat v1.1), .data _ trivial, .data _ trivial, trivial⟩ (beat_Hear_spec v1.1 p2.From p2.Inc _ h4) (res_flat2 (f_api_Beat v3.1) trivial)), ⟨⟨rfl, rfl, rfl, trivial⟩, trivial, rfl⟩, rfl,
    Step.plain rfl (does_move (.tmp 32) (resV [(e_api_Beat v3.1), (.bool v3.2)]) trivial), ⟨⟨rfl, trivial⟩, trivial, rfl⟩, rfl,
    Step.plain rfl (does_extract 26 0 2 (fun j => [(e_api_Beat v3.1), (.bool v3.2)].getD j (.bool false)) (Nat.le_of_ble_eq_true rfl)), ⟨⟨rfl, trivial⟩, trivial, rfl⟩, rfl,
    Step.plain rfl (does_extract 26 1 2 (fun j => [(e_api_Beat v3.1), (.bool v3.2)].getD j (.bool false)) (Nat.le_of_ble_eq_true rfl)), ⟨⟨rfl, trivial⟩, trivial, rfl⟩, rfl,
    Step.plain rfl (does_alloc 25 4 (e_api_Beat z_api_Beat) zr25), ⟨trivial, trivial, rfl⟩, rfl,
    Step.plain rfl (does_store 25 9 (.tmp 33) 4 0 [] (.var (e_api_Beat z_api_Beat)) (.var (e_api_Beat v3.1)) (e_api_Beat v3.1) true trivial rfl trivial rfl rfl rfl ty25), ⟨⟨rfl, rfl, trivial⟩, ⟨rfl, trivial⟩, rfl⟩, rfl,
    Step.plain rfl (does_assign (.tmp 34) (.bool v3.2) trivial), ⟨⟨rfl, trivial⟩, trivial, rfl⟩, rfl, rfl⟩ ?_
  refine aw_cov (cov_prune (s1 := ⟨[(3, (.ptr 0 0 [])), (4, (.ptr 1 0 [])), (5, (.ptr 2 0 [])), (7, (.ptr 3 0 [])), (8, (.bool v1.2)), (9, (.ptr 4 0 [])), (10, (.bool v3.2))], [(0, some (.var (e_api_Beat p0))), (1, some (.var (e_congresslaw08_Heard p1))), (2, some (.var (e_congresslaw08_Heard p2))), (3, some (.var (e_api_Beat v1.1))), (4, some (.var (e_api_Beat v3.1)))], 5⟩) ⟨rfl, rfl, rfl, rfl, rfl, rfl, rfl, trivial⟩ ⟨rfl, rfl, rfl, rfl, rfl, trivial⟩ (Nat.le_refl _)) ?_
  obtain ⟨v5, h6, H⟩ := bnd H
  refine aw_region (es := [_, _, _, _, _, _, _, _, _, _, _, _]) ⟨Step.plain rfl (does_load 25 3 0 0 [] (.var (e_api_Beat p0)) (e_api_Beat p0) trivial rfl rfl ty25), ⟨⟨rfl, trivial⟩, ⟨rfl, trivial⟩, rfl⟩, rfl,
    Step.plain rfl (does_fieldAddr 27 0 0 5 2 0 [] (.var (e_congresslaw08_Heard p2)) fl27_0), ⟨⟨rfl, trivial⟩, ⟨rfl, trivial⟩, rfl⟩, rfl,
    Step.plain rfl (does_load 3 37 2 (0 + 0) [0] (.var (e_congresslaw08_Heard p2)) (.int .i64 p2.From) ⟨rfl, Nat.le_of_ble_eq_true rfl, trivial⟩ rfl rfl ty3), ⟨⟨rfl, trivial⟩, ⟨rfl, trivial⟩, rfl⟩, rfl,
    Step.plain rfl (does_fieldAddr 27 1 1 5 2 0 [] (.var (e_congresslaw08_Heard p2)) fl27_1), ⟨⟨rfl, trivial⟩, ⟨rfl, trivial⟩, rfl⟩, rfl,
    Step.plain rfl (does_load 22 39 2 (0 + 1) [1] (.var (e_congresslaw08_Heard p2)) (.int .u32 p2.Inc) ⟨rfl, Nat.le_of_ble_eq_true rfl, trivial⟩ rfl rfl ty22), ⟨⟨rfl, trivial⟩, ⟨rfl, trivial⟩, rfl⟩, rfl,
    Step.plain rfl (does_call 7 0 (fun _ => .any) (.func 7) [(.tmp 36), (.tmp 38), (.tmp 40)] [(e_api_Beat p0), (.int .i64 p2.From), (.int .u32 p2.Inc)] [] true [(e_api_Beat p0), (.int .i64 p2.From), (.int .u32 p2.Inc)] (resV [(e_api_Beat v5.1), (.bool v5.2)]) _ _ rfl fo7 rfl ⟨trivial, trivial, trivial, trivial⟩ ⟨.data _ (d_api_Beat p0), .data _ trivial, .data _ trivial, trivial⟩ (beat_Hear_spec p0 p2.From p2.Inc _ h6) (res_flat2 (f_api_Beat v5.1) trivial)), ⟨⟨rfl, rfl, rfl, trivial⟩, trivial, rfl⟩, rfl,
    Step.plain rfl (does_move (.tmp 41) (resV [(e_api_Beat v5.1), (.bool v5.2)]) trivial), ⟨⟨rfl, trivial⟩, trivial, rfl⟩, rfl,
    Step.plain rfl (does_extract 35 0 2 (fun j => [(e_api_Beat v5.1), (.bool v5.2)].getD j (.bool false)) (Nat.le_of_ble_eq_true rfl)), ⟨⟨rfl, trivial⟩, trivial, rfl⟩, rfl,
    Step.plain rfl (does_extract 35 1 2 (fun j => [(e_api_Beat v5.1), (.bool v5.2)].getD j (.bool false)) (Nat.le_of_ble_eq_true rfl)), ⟨⟨rfl, trivial⟩, trivial, rfl⟩, rfl,
    Step.plain rfl (does_alloc 25 5 (e_api_Beat z_api_Beat) zr25), ⟨trivial, trivial, rfl⟩, rfl,
    Step.plain rfl (does_store 25 11 (.tmp 42) 5 0 [] (.var (e_api_Beat z_api_Beat)) (.var (e_api_Beat v5.1)) (e_api_Beat v5.1) true trivial rfl trivial rfl rfl rfl ty25), ⟨⟨rfl, rfl, trivial⟩, ⟨rfl, trivial⟩, rfl⟩, rfl,
    Step.plain rfl (does_assign (.tmp 43) (.bool v5.2) trivial), ⟨⟨rfl, trivial⟩, trivial, rfl⟩, rfl, rfl⟩ ?_
  refine aw_cov (cov_prune (s1 := ⟨[(4, (.ptr 1 0 [])), (5, (.ptr 2 0 [])), (7, (.ptr 3 0 [])), (8, (.bool v1.2)), (9, (.ptr 4 0 [])), (10, (.bool v3.2)), (11, (.ptr 5 0 [])), (12, (.bool v5.2))], [(1, some (.var (e_congresslaw08_Heard p1))), (2, some (.var (e_congresslaw08_Heard p2))), (3, some (.var (e_api_Beat v1.1))), (4, some (.var (e_api_Beat v3.1))), (5, some (.var (e_api_Beat v5.1)))], 6⟩) ⟨rfl, rfl, rfl, rfl, rfl, rfl, rfl, rfl, trivial⟩ ⟨rfl, rfl, rfl, rfl, rfl, trivial⟩ (Nat.le_refl _)) ?_
  obtain ⟨v7, h8, H⟩ := bnd H
  refine aw_region (es := [_, _, _, _, _, _, _, _, _, _, _, _]) ⟨Step.plain rfl (does_load 25 11 5 0 [] (.var (e_api_Beat v5.1)) (e_api_Beat v5.1) trivial rfl rfl ty25), ⟨⟨rfl, trivial⟩, ⟨rfl, trivial⟩, rfl⟩, rfl,
    Step.plain rfl (does_fieldAddr 27 0 0 4 1 0 [] (.var (e_congresslaw08_Heard p1)) fl27_0), ⟨⟨rfl, trivial⟩, ⟨rfl, trivial⟩, rfl⟩, rfl,
    Step.plain rfl (does_load 3 46 1 (0 + 0) [0] (.var (e_congresslaw08_Heard p1)) (.int .i64 p1.From) ⟨rfl, Nat.le_of_ble_eq_true rfl, trivial⟩ rfl rfl ty3), ⟨⟨rfl, trivial⟩, ⟨rfl, trivial⟩, rfl⟩, rfl,
    Step.plain rfl (does_fieldAddr 27 1 1 4 1 0 [] (.var (e_congresslaw08_Heard p1)) fl27_1), ⟨⟨rfl, trivial⟩, ⟨rfl, trivial⟩, rfl⟩, rfl,
    Step.plain rfl (does_load 22 48 1 (0 + 1) [1] (.var (e_congresslaw08_Heard p1)) (.int .u32 p1.Inc) ⟨rfl, Nat.le_of_ble_eq_true rfl, trivial⟩ rfl rfl ty22), ⟨⟨rfl, trivial⟩, ⟨rfl, trivial⟩, rfl⟩, rfl,
    Step.plain rfl (does_call 7 0 (fun _ => .any) (.func 7) [(.tmp 45), (.tmp 47), (.tmp 49)] [(e_api_Beat v5.1), (.int .i64 p1.From), (.int .u32 p1.Inc)] [] true [(e_api_Beat v5.1), (.int .i64 p1.From), (.int .u32 p1.Inc)] (resV [(e_api_Beat v7.1), (.bool v7.2)]) _ _ rfl fo7 rfl ⟨trivial, trivial, trivial, trivial⟩ ⟨.data _ (d_api_Beat v5.1), .data _ trivial, .data _ trivial, trivial⟩ (beat_Hear_spec v5.1 p1.From p1.Inc _ h8) (res_flat2 (f_api_Beat v7.1) trivial)), ⟨⟨rfl, rfl, rfl, trivial⟩, trivial, rfl⟩, rfl,
    Step.plain rfl (does_move (.tmp 50) (resV [(e_api_Beat v7.1), (.bool v7.2)]) trivial), ⟨⟨rfl, trivial⟩, trivial, rfl⟩, rfl,
    Step.plain rfl (does_extract 44 0 2 (fun j => [(e_api_Beat v7.1), (.bool v7.2)].getD j (.bool false)) (Nat.le_of_ble_eq_true rfl)), ⟨⟨rfl, trivial⟩, trivial, rfl⟩, rfl,
    Step.plain rfl (does_extract 44 1 2 (fun j => [(e_api_Beat v7.1), (.bool v7.2)].getD j (.bool false)) (Nat.le_of_ble_eq_true rfl)), ⟨⟨rfl, trivial⟩, trivial, rfl⟩, rfl,
    Step.plain rfl (does_alloc 25 6 (e_api_Beat z_api_Beat) zr25), ⟨trivial, trivial, rfl⟩, rfl,
    Step.plain rfl (does_store 25 13 (.tmp 51) 6 0 [] (.var (e_api_Beat z_api_Beat)) (.var (e_api_Beat v7.1)) (e_api_Beat v7.1) true trivial rfl trivial rfl rfl rfl ty25), ⟨⟨rfl, rfl, trivial⟩, ⟨rfl, trivial⟩, rfl⟩, rfl,
    Step.plain rfl (does_assign (.tmp 52) (.bool v7.2) trivial), ⟨⟨rfl, trivial⟩, trivial, rfl⟩, rfl, rfl⟩ ?_
  refine aw_cov (cov_prune (s1 := ⟨[(4, (.ptr 1 0 [])), (5, (.ptr 2 0 [])), (7, (.ptr 3 0 [])), (8, (.bool v1.2)), (9, (.ptr 4 0 [])), (10, (.bool v3.2)), (12, (.bool v5.2)), (13, (.ptr 6 0 [])), (14, (.bool v7.2))], [(1, some (.var (e_congresslaw08_Heard p1))), (2, some (.var (e_congresslaw08_Heard p2))), (3, some (.var (e_api_Beat v1.1))), (4, some (.var (e_api_Beat v3.1))), (6, some (.var (e_api_Beat v7.1)))], 7⟩) ⟨rfl, rfl, rfl, rfl, rfl, rfl, rfl, rfl, rfl, trivial⟩ ⟨rfl, rfl, rfl, rfl, rfl, trivial⟩ (Nat.le_refl _)) ?_
  obtain ⟨v9, h10, H⟩ := bnd H
  refine aw_region (es := [_, _, _, _, _, _, _, _, _, _, _, _]) ⟨Step.plain rfl (does_load 25 7 3 0 [] (.var (e_api_Beat v1.1)) (e_api_Beat v1.1) trivial rfl rfl ty25), ⟨⟨rfl, trivial⟩, ⟨rfl, trivial⟩, rfl⟩, rfl,
    Step.plain rfl (does_fieldAddr 27 0 0 4 1 0 [] (.var (e_congresslaw08_Heard p1)) fl27_0), ⟨⟨rfl, trivial⟩, ⟨rfl, trivial⟩, rfl⟩, rfl,
    Step.plain rfl (does_load 3 55 1 (0 + 0) [0] (.var (e_congresslaw08_Heard p1)) (.int .i64 p1.From) ⟨rfl, Nat.le_of_ble_eq_true rfl, trivial⟩ rfl rfl ty3), ⟨⟨rfl, trivial⟩, ⟨rfl, trivial⟩, rfl⟩, rfl,
    Step.plain rfl (does_fieldAddr 27 1 1 4 1 0 [] (.var (e_congresslaw08_Heard p1)) fl27_1), ⟨⟨rfl, trivial⟩, ⟨rfl, trivial⟩, rfl⟩, rfl,
    Step.plain rfl (does_load 22 57 1 (0 + 1) [1] (.var (e_congresslaw08_Heard p1)) (.int .u32 p1.Inc) ⟨rfl, Nat.le_of_ble_eq_true rfl, trivial⟩ rfl rfl ty22), ⟨⟨rfl, trivial⟩, ⟨rfl, trivial⟩, rfl⟩, rfl,
    Step.plain rfl (does_call 7 0 (fun _ => .any) (.func 7) [(.tmp 54), (.tmp 56), (.tmp 58)] [(e_api_Beat v1.1), (.int .i64 p1.From), (.int .u32 p1.Inc)] [] true [(e_api_Beat v1.1), (.int .i64 p1.From), (.int .u32 p1.Inc)] (resV [(e_api_Beat v9.1), (.bool v9.2)]) _ _ rfl fo7 rfl ⟨trivial, trivial, trivial, trivial⟩ ⟨.data _ (d_api_Beat v1.1), .data _ trivial, .data _ trivial, trivial⟩ (beat_Hear_spec v1.1 p1.From p1.Inc _ h10) (res_flat2 (f_api_Beat v9.1) trivial)), ⟨⟨rfl, rfl, rfl, trivial⟩, trivial, rfl⟩, rfl,
    Step.plain rfl (does_move (.tmp 59) (resV [(e_api_Beat v9.1), (.bool v9.2)]) trivial), ⟨⟨rfl, trivial⟩, trivial, rfl⟩, rfl,
    Step.plain rfl (does_extract 53 0 2 (fun j => [(e_api_Beat v9.1), (.bool v9.2)].getD j (.bool false)) (Nat.le_of_ble_eq_true rfl)), ⟨⟨rfl, trivial⟩, trivial, rfl⟩, rfl,
    Step.plain rfl (does_extract 53 1 2 (fun j => [(e_api_Beat v9.1), (.bool v9.2)].getD j (.bool false)) (Nat.le_of_ble_eq_true rfl)), ⟨⟨rfl, trivial⟩, trivial, rfl⟩, rfl,
    Step.plain rfl (does_alloc 25 7 (e_api_Beat z_api_Beat) zr25), ⟨trivial, trivial, rfl⟩, rfl,
    Step.plain rfl (does_store 25 15 (.tmp 60) 7 0 [] (.var (e_api_Beat z_api_Beat)) (.var (e_api_Beat v9.1)) (e_api_Beat v9.1) true trivial rfl trivial rfl rfl rfl ty25), ⟨⟨rfl, rfl, trivial⟩, ⟨rfl, trivial⟩, rfl⟩, rfl,
    Step.plain rfl (does_assign (.tmp 61) (.bool v9.2) trivial), ⟨⟨rfl, trivial⟩, trivial, rfl⟩, rfl, rfl⟩ ?_
  refine aw_cov (cov_prune (s1 := ⟨[(4, (.ptr 1 0 [])), (5, (.ptr 2 0 [])), (7, (.ptr 3 0 [])), (8, (.bool v1.2)), (9, (.ptr 4 0 [])), (10, (.bool v3.2)), (12, (.bool v5.2)), (13, (.ptr 6 0 [])), (14, (.bool v7.2)), (15, (.ptr 7 0 [])), (16, (.bool v9.2))], [(1, some (.var (e_congresslaw08_Heard p1))), (2, some (.var (e_congresslaw08_Heard p2))), (3, some (.var (e_api_Beat v1.1))), (4, some (.var (e_api_Beat v3.1))), (6, some (.var (e_api_Beat v7.1))), (7, some (.var (e_api_Beat v9.1)))], 8⟩) ⟨rfl, rfl, rfl, rfl, rfl, rfl, rfl, rfl, rfl, rfl, rfl, trivial⟩ ⟨rfl, rfl, rfl, rfl, rfl, rfl, trivial⟩ (Nat.le_refl _)) ?_
  refine aw_seq ?_
  obtain ⟨v11, h12, H⟩ := bnd H
  refine aw_region (es := [_, _, _, _, _, _, _, _, _, _, _, _]) ⟨Step.plain rfl (does_call 9 0 (fun _ => .any) (.func 9) [] [] [] true [] (.bool v11) _ _ rfl fo9 rfl trivial trivial (congresslaw08_fixed_spec _ h12) trivial), ⟨trivial, trivial, rfl⟩, rfl,
    Step.plain rfl (does_not 4 (.tmp 62) v11 trivial), ⟨⟨rfl, trivial⟩, trivial, rfl⟩, rfl,
    Step.plain rfl (does_move (.tmp 63) (.bool (!v11)) trivial), ⟨⟨rfl, trivial⟩, trivial, rfl⟩, rfl,
    Step.guarded rfl rfl rfl rfl (fun hc => does_load 25 15 7 0 [] (.var (e_api_Beat v9.1)) (e_api_Beat v9.1) trivial rfl rfl ty25), ⟨⟨rfl, rfl, trivial⟩, ⟨rfl, trivial⟩, rfl⟩, rfl,
    Step.guarded rfl rfl rfl rfl (fun hc => does_load 25 7 3 0 [] (.var (e_api_Beat v1.1)) (e_api_Beat v1.1) trivial rfl rfl ty25), ⟨⟨rfl, rfl, trivial⟩, ⟨rfl, trivial⟩, rfl⟩, rfl,
    Step.guarded rfl rfl rfl rfl (fun hc => Does.strip (n' := [(65, (.opt (!(!v11)) (e_api_Beat v9.1))), (66, (.opt (!(!v11)) (e_api_Beat v1.1)))]) (n := [(65, (e_api_Beat v9.1)), (66, (e_api_Beat v1.1))]) ⟨(.opt _ _ hc), (.opt _ _ hc), trivial⟩ (does_eqT true 25 25 (.tmp 65) (.tmp 66) (e_api_Beat v9.1) (e_api_Beat v1.1) (e_api_Beat z_api_Beat) (b_api_Beat v9.1 v1.1) rfl rfl trivial trivial eg25 sh25 (al_api_Beat _ _) (al_api_Beat _ _) (q_api_Beat _ _))), ⟨⟨rfl, rfl, rfl, trivial⟩, trivial, rfl⟩, rfl,
    Step.plain rfl (does_or 64 67 (!v11) (!(b_api_Beat v9.1 v1.1))), ⟨⟨rfl, rfl, trivial⟩, trivial, rfl⟩, rfl,
    Step.plain rfl (does_move (.tmp 68) (.bool ((!v11) || (!(b_api_Beat v9.1 v1.1)))) trivial), ⟨⟨rfl, trivial⟩, trivial, rfl⟩, rfl,
    Step.guarded rfl rfl rfl rfl (fun hc => does_move (.tmp 16) (.bool v9.2) trivial), ⟨⟨rfl, rfl, trivial⟩, trivial, rfl⟩, rfl,
    Step.guarded rfl rfl rfl rfl (fun hc => does_move (.tmp 8) (.bool v1.2) trivial), ⟨⟨rfl, rfl, trivial⟩, trivial, rfl⟩, rfl,
    Step.guarded rfl rfl rfl rfl (fun hc => Does.strip (n' := [(70, (.opt (!((!v11) || (!(b_api_Beat v9.1 v1.1)))) (.bool v9.2))), (71, (.opt (!((!v11) || (!(b_api_Beat v9.1 v1.1)))) (.bool v1.2)))]) (n := [(70, (.bool v9.2)), (71, (.bool v1.2))]) ⟨(.opt _ _ hc), (.opt _ _ hc), trivial⟩ (does_eqBool true 4 4 (.tmp 70) (.tmp 71) v9.2 v1.2 trivial trivial rfl)), ⟨⟨rfl, rfl, rfl, trivial⟩, trivial, rfl⟩, rfl,
    Step.plain rfl (does_or 69 72 ((!v11) || (!(b_api_Beat v9.1 v1.1))) (v9.2 != v1.2)), ⟨⟨rfl, rfl, trivial⟩, trivial, rfl⟩, rfl, rfl⟩ ?_
  refine aw_cov (cov_prune (s1 := ⟨[(4, (.ptr 1 0 [])), (5, (.ptr 2 0 [])), (8, (.bool v1.2)), (9, (.ptr 4 0 [])), (10, (.bool v3.2)), (12, (.bool v5.2)), (13, (.ptr 6 0 [])), (14, (.bool v7.2)), (73, (.bool (((!v11) || (!(b_api_Beat v9.1 v1.1))) || (v9.2 != v1.2))))], [(1, some (.var (e_congresslaw08_Heard p1))), (2, some (.var (e_congresslaw08_Heard p2))), (4, some (.var (e_api_Beat v3.1))), (6, some (.var (e_api_Beat v7.1)))], 8⟩) ⟨rfl, rfl, rfl, rfl, rfl, rfl, rfl, rfl, rfl, trivial⟩ ⟨rfl, rfl, rfl, rfl, trivial⟩ (Nat.le_refl _)) ?_
  refine aw_cond rfl (fun hc => ?_) (fun hc => ?_)
  · replace H := ite_t hc H
    refine aw_region (es := [_]) ⟨Step.plain rfl (does_assign (.const (.bool false)) (.bool false) (fun _ => rfl)), ⟨trivial, trivial, rfl⟩, rfl, rfl⟩ ?_
    refine aw_cov (cov_prune (s1 := ⟨[(6, (.bool false))], [], 8⟩) ⟨rfl, trivial⟩ trivial (Nat.le_refl _)) ?_
    refine aw_ret ?_
    refine rt_then ?_
    exact fun a w hr => ⟨_, [(.bool false)], hr, ⟨⟨_, rfl, .data _ trivial⟩, trivial⟩, by decide, by cases H; rfl⟩
  · replace H := ite_f hc H
    refine aw_skip ?_
    refine nx_seq ?_
    refine aw_region (es := [_, _, _, _, _, _, _, _, _, _, _, _, _, _, _, _, _, _, _, _, _]) ⟨Step.plain rfl (does_fieldAddr 27 0 0 4 1 0 [] (.var (e_congresslaw08_Heard p1)) fl27_0), ⟨⟨rfl, trivial⟩, ⟨rfl, trivial⟩, rfl⟩, rfl,
      Step.plain rfl (does_load 3 74 1 (0 + 0) [0] (.var (e_congresslaw08_Heard p1)) (.int .i64 p1.From) ⟨rfl, Nat.le_of_ble_eq_true rfl, trivial⟩ rfl rfl ty3), ⟨⟨rfl, trivial⟩, ⟨rfl, trivial⟩, rfl⟩, rfl,
      Step.plain rfl (does_fieldAddr 27 0 0 5 2 0 [] (.var (e_congresslaw08_Heard p2)) fl27_0), ⟨⟨rfl, trivial⟩, ⟨rfl, trivial⟩, rfl⟩, rfl,
      Step.plain rfl (does_load 3 76 2 (0 + 0) [0] (.var (e_congresslaw08_Heard p2)) (.int .i64 p2.From) ⟨rfl, Nat.le_of_ble_eq_true rfl, trivial⟩ rfl rfl ty3), ⟨⟨rfl, trivial⟩, ⟨rfl, trivial⟩, rfl⟩, rfl,
      Step.plain rfl (does_bin .eql 3 3 (.tmp 75) (.tmp 77) .i64 p1.From p2.From (.bool (p1.From == p2.From)) trivial trivial (bin_eql _ _ _ _)), ⟨⟨rfl, rfl, trivial⟩, trivial, rfl⟩, rfl,
      Step.plain rfl (does_move (.tmp 78) (.bool (p1.From == p2.From)) trivial), ⟨⟨rfl, trivial⟩, trivial, rfl⟩, rfl,
      Step.guarded rfl rfl rfl rfl (fun hc => does_load 25 9 4 0 [] (.var (e_api_Beat v3.1)) (e_api_Beat v3.1) trivial rfl rfl ty25), ⟨⟨rfl, rfl, trivial⟩, ⟨rfl, trivial⟩, rfl⟩, rfl,
      Step.guarded rfl rfl rfl rfl (fun hc => does_load 25 13 6 0 [] (.var (e_api_Beat v7.1)) (e_api_Beat v7.1) trivial rfl rfl ty25), ⟨⟨rfl, rfl, trivial⟩, ⟨rfl, trivial⟩, rfl⟩, rfl,
      Step.guarded rfl rfl rfl rfl (fun hc => Does.strip (n' := [(80, (.opt (!(p1.From == p2.From)) (e_api_Beat v3.1))), (81, (.opt (!(p1.From == p2.From)) (e_api_Beat v7.1)))]) (n := [(80, (e_api_Beat v3.1)), (81, (e_api_Beat v7.1))]) ⟨(.opt _ _ hc), (.opt _ _ hc), trivial⟩ (does_eqT false 25 25 (.tmp 80) (.tmp 81) (e_api_Beat v3.1) (e_api_Beat v7.1) (e_api_Beat z_api_Beat) (b_api_Beat v3.1 v7.1) rfl rfl trivial trivial eg25 sh25 (al_api_Beat _ _) (al_api_Beat _ _) (q_api_Beat _ _))), ⟨⟨rfl, rfl, rfl, trivial⟩, trivial, rfl⟩, rfl,
      Step.guarded rfl rfl rfl rfl (fun hc => Does.strip (n' := [(82, (.opt (!(p1.From == p2.From)) (.bool (b_api_Beat v3.1 v7.1))))]) (n := [(82, (.bool (b_api_Beat v3.1 v7.1)))]) ⟨(.opt _ _ hc), trivial⟩ (does_move (.tmp 82) (.bool (b_api_Beat v3.1 v7.1)) trivial)), ⟨⟨rfl, rfl, trivial⟩, trivial, rfl⟩, rfl,
      Step.guarded rfl rfl rfl rfl (fun hc => does_move (.tmp 8) (.bool v1.2) trivial), ⟨⟨rfl, rfl, trivial⟩, trivial, rfl⟩, rfl,
      Step.guarded rfl rfl rfl rfl (fun hc => does_move (.tmp 14) (.bool v7.2) trivial), ⟨⟨rfl, rfl, trivial⟩, trivial, rfl⟩, rfl,
      Step.guarded rfl rfl rfl rfl (fun hc => Does.strip (n' := [(84, (.opt ((!(p1.From == p2.From)) && (b_api_Beat v3.1 v7.1)) (.bool v1.2))), (85, (.opt ((!(p1.From == p2.From)) && (b_api_Beat v3.1 v7.1)) (.bool v7.2)))]) (n := [(84, (.bool v1.2)), (85, (.bool v7.2))]) ⟨(.opt _ _ hc), (.opt _ _ hc), trivial⟩ (does_eqBool false 4 4 (.tmp 84) (.tmp 85) v1.2 v7.2 trivial trivial rfl)), ⟨⟨rfl, rfl, rfl, trivial⟩, trivial, rfl⟩, rfl,
      Step.guarded rfl rfl rfl rfl (fun hc => Does.strip (n' := [(83, (.opt (!(p1.From == p2.From)) (.bool (b_api_Beat v3.1 v7.1)))), (86, (.opt ((!(p1.From == p2.From)) && (b_api_Beat v3.1 v7.1)) (.bool (v1.2 == v7.2))))]) (n := [(83, (.bool (b_api_Beat v3.1 v7.1))), (86, (.opt (b_api_Beat v3.1 v7.1) (.bool (v1.2 == v7.2))))]) ⟨(.opt _ _ hc), (.half _ _ hc), trivial⟩ (does_and 83 86 (b_api_Beat v3.1 v7.1) (v1.2 == v7.2))), ⟨⟨rfl, rfl, rfl, trivial⟩, trivial, rfl⟩, rfl,
      Step.guarded rfl rfl rfl rfl (fun hc => Does.strip (n' := [(87, (.opt (!(p1.From == p2.From)) (.bool ((b_api_Beat v3.1 v7.1) && (v1.2 == v7.2)))))]) (n := [(87, (.bool ((b_api_Beat v3.1 v7.1) && (v1.2 == v7.2))))]) ⟨(.opt _ _ hc), trivial⟩ (does_move (.tmp 87) (.bool ((b_api_Beat v3.1 v7.1) && (v1.2 == v7.2))) trivial)), ⟨⟨rfl, rfl, trivial⟩, trivial, rfl⟩, rfl,
      Step.guarded rfl rfl rfl rfl (fun hc => does_move (.tmp 10) (.bool v3.2) trivial), ⟨⟨rfl, rfl, trivial⟩, trivial, rfl⟩, rfl,
      Step.guarded rfl rfl rfl rfl (fun hc => does_move (.tmp 12) (.bool v5.2) trivial), ⟨⟨rfl, rfl, trivial⟩, trivial, rfl⟩, rfl,
      Step.guarded rfl rfl rfl rfl (fun hc => Does.strip (n' := [(89, (.opt ((!(p1.From == p2.From)) && ((b_api_Beat v3.1 v7.1) && (v1.2 == v7.2))) (.bool v3.2))), (90, (.opt ((!(p1.From == p2.From)) && ((b_api_Beat v3.1 v7.1) && (v1.2 == v7.2))) (.bool v5.2)))]) (n := [(89, (.bool v3.2)), (90, (.bool v5.2))]) ⟨(.opt _ _ hc), (.opt _ _ hc), trivial⟩ (does_eqBool false 4 4 (.tmp 89) (.tmp 90) v3.2 v5.2 trivial trivial rfl)), ⟨⟨rfl, rfl, rfl, trivial⟩, trivial, rfl⟩, rfl,
      Step.guarded rfl rfl rfl rfl (fun hc => Does.strip (n' := [(88, (.opt (!(p1.From == p2.From)) (.bool ((b_api_Beat v3.1 v7.1) && (v1.2 == v7.2))))), (91, (.opt ((!(p1.From == p2.From)) && ((b_api_Beat v3.1 v7.1) && (v1.2 == v7.2))) (.bool (v3.2 == v5.2))))]) (n := [(88, (.bool ((b_api_Beat v3.1 v7.1) && (v1.2 == v7.2)))), (91, (.opt ((b_api_Beat v3.1 v7.1) && (v1.2 == v7.2)) (.bool (v3.2 == v5.2))))]) ⟨(.opt _ _ hc), (.half _ _ hc), trivial⟩ (does_and 88 91 ((b_api_Beat v3.1 v7.1) && (v1.2 == v7.2)) (v3.2 == v5.2))), ⟨⟨rfl, rfl, rfl, trivial⟩, trivial, rfl⟩, rfl,
      Step.plain rfl (does_or 79 92 (p1.From == p2.From) (((b_api_Beat v3.1 v7.1) && (v1.2 == v7.2)) && (v3.2 == v5.2))), ⟨⟨rfl, rfl, trivial⟩, trivial, rfl⟩, rfl,
      Step.plain rfl (does_assign (.tmp 93) (.bool ((p1.From == p2.From) || (((b_api_Beat v3.1 v7.1) && (v1.2 == v7.2)) && (v3.2 == v5.2)))) trivial), ⟨⟨rfl, trivial⟩, trivial, rfl⟩, rfl, rfl⟩ ?_
    obtain ⟨v13, hv13, H⟩ := lt_of H
    refine aw_cov (cov_prune (s1 := ⟨[(6, (.bool v13))], [], 8⟩) ⟨(by subst hv13; rfl), trivial⟩ trivial (Nat.le_refl _)) ?_
    refine aw_ret ?_
    exact fun a w hr => ⟨_, [(.bool v13)], hr, ⟨⟨_, rfl, .data _ trivial⟩, trivial⟩, by decide, by cases H; rfl⟩
end Go.Proofs.Ytckoficjcnaedaa
