/- Printed by gen.py. Conditions: none. -/
import Derived.Test.YtgcnlfchpjbhkaaSp3
import Derived.KernelRfl
set_option linter.unusedVariables false
set_option maxRecDepth 100000
namespace Go.Proofs.Ytgcnlfchpjbhkaa
open Go.Eng
theorem congresslaw09_RoundOrder_spec (p0 : (Nat → Int)) (p1 : (Nat → Int)) (p2 : congresslaw09_Where) (r : Bool) (H : congresslaw09_RoundOrder p0 p1 p2 = some r) : FSpec Try.prog 7 [(e_a8_u32 p0), (e_a8_u32 p1), (e_congresslaw09_Where p2)] (.bool r) := by
  refine spec_of (fn := Try.f7) (args := [(e_a8_u32 p0), (e_a8_u32 p1), (e_congresslaw09_Where p2)]) Try.func7 rfl (Nat.le_of_ble_eq_true rfl) ?_
  rintro ⟨G, w0, W, S, Sp⟩ hG
  cases hG
  unfold congresslaw09_RoundOrder at H
  refine aw_region (es := [_, _, _, _]) ⟨Step.plain rfl (does_box 24 (.tmp 0) 0 (e_a8_u32 p0) trivial rfl), ⟨⟨rfl, trivial⟩, trivial, rfl⟩, rfl,
    Step.plain rfl (does_box 24 (.tmp 1) 1 (e_a8_u32 p1) trivial rfl), ⟨⟨rfl, trivial⟩, trivial, rfl⟩, rfl,
    Step.plain rfl (does_box 45 (.tmp 2) 2 (e_congresslaw09_Where p2) trivial rfl), ⟨⟨rfl, trivial⟩, trivial, rfl⟩, rfl,
    Step.plain rfl (does_assign (.const (.bool false)) (.bool false) (fun _ => rfl)), ⟨trivial, trivial, rfl⟩, rfl, rfl⟩ ?_
  refine aw_cov (cov_prune (s1 := ⟨[(3, (.ptr 0 0 [])), (4, (.ptr 1 0 [])), (5, (.ptr 2 0 []))], [(0, some (.var (e_a8_u32 p0))), (1, some (.var (e_a8_u32 p1))), (2, some (.var (e_congresslaw09_Where p2)))], 3⟩) ⟨rfl, rfl, rfl, trivial⟩ ⟨rfl, rfl, rfl, trivial⟩ (Nat.le_refl _)) ?_
  refine aw_draw (es := [_, _, _, _, _, _, _, _]) (mixed) ⟨Step.plain rfl (does_fieldAddr 45 0 0 5 2 0 [] (.var (e_congresslaw09_Where p2)) fl45_0), ⟨⟨rfl, trivial⟩, ⟨rfl, trivial⟩, rfl⟩, rfl,
    Step.plain rfl (does_load 25 14 2 (0 + 0) [0] (.var (e_congresslaw09_Where p2)) (e_a8_u32 p2.M) ⟨rfl, Nat.le_of_ble_eq_true rfl, trivial⟩ rfl rfl ty25), ⟨⟨rfl, trivial⟩, ⟨rfl, trivial⟩, rfl⟩, rfl,
    Step.plain rfl (does_fieldAddr 45 1 8 5 2 0 [] (.var (e_congresslaw09_Where p2)) fl45_1), ⟨⟨rfl, trivial⟩, ⟨rfl, trivial⟩, rfl⟩, rfl,
    Step.plain rfl (does_load 27 16 2 (0 + 8) [1] (.var (e_congresslaw09_Where p2)) (e_api_Place p2.P) ⟨rfl, Nat.le_of_ble_eq_true rfl, trivial⟩ rfl rfl ty27), ⟨⟨rfl, trivial⟩, ⟨rfl, trivial⟩, rfl⟩, rfl,
    Step.plain rfl (does_alloc 25 3 (e_a8_u32 (fun _ => 0)) zr25), ⟨trivial, trivial, rfl⟩, rfl,
    Step.plain rfl (does_alloc 27 4 (e_api_Place z_api_Place) zr27), ⟨trivial, trivial, rfl⟩, rfl,
    Step.plain rfl (does_store 25 7 (.tmp 15) 3 0 [] (.var (e_a8_u32 (fun _ => 0))) (.var (e_a8_u32 p2.M)) (e_a8_u32 p2.M) true trivial rfl trivial rfl rfl rfl ty25), ⟨⟨rfl, rfl, trivial⟩, ⟨rfl, trivial⟩, rfl⟩, rfl,
    Step.plain rfl (does_store 27 8 (.tmp 17) 4 0 [] (.var (e_api_Place z_api_Place)) (.var (e_api_Place p2.P)) (e_api_Place p2.P) true trivial rfl trivial rfl rfl rfl ty27), ⟨⟨rfl, rfl, trivial⟩, ⟨rfl, trivial⟩, rfl⟩, rfl, rfl⟩ rfl ?_
  refine aw_cov (cov_prune (s1 := ⟨[(3, (.ptr 0 0 [])), (4, (.ptr 1 0 [])), (7, (.ptr 3 0 [])), (8, (.ptr 4 0 []))], [(0, some (.var (e_a8_u32 p0))), (1, some (.var (e_a8_u32 p1))), (3, some (.var (e_a8_u32 p2.M))), (4, some (.var (e_api_Place p2.P)))], 5⟩) ⟨rfl, rfl, rfl, rfl, trivial⟩ ⟨rfl, rfl, rfl, rfl, trivial⟩ (Nat.le_refl _)) ?_
  refine aw_seq ?_
  obtain ⟨v1, h2, H⟩ := bnd H
  obtain ⟨h3, H⟩ := ibg_of H
  refine aw_region (es := [_, _, _, _, _, _, _, _, _, _, _, _, _, _, _, _, _, _, _, _, _, _, _, _, _, _, _, _, _, _, _, _, _, _]) ⟨Step.plain rfl (does_call 10 0 (fun _ => .any) (.func 10) [] [] [] true [] (.bool v1) _ _ rfl fo10 rfl trivial trivial (congresslaw09_fixed_spec _ h2) trivial), ⟨trivial, trivial, rfl⟩, rfl,
    Step.plain rfl (does_not 4 (.tmp 18) v1 trivial), ⟨⟨rfl, trivial⟩, trivial, rfl⟩, rfl,
    Step.plain rfl (does_move (.tmp 19) (.bool (!v1)) trivial), ⟨⟨rfl, trivial⟩, trivial, rfl⟩, rfl,
    Step.guarded rfl rfl rfl rfl (fun hc => does_fieldAddr 27 1 1 8 4 0 [] (.var (e_api_Place p2.P)) fl27_1), ⟨⟨rfl, rfl, trivial⟩, ⟨rfl, trivial⟩, rfl⟩, rfl,
    Step.guarded rfl rfl rfl rfl (fun hc => Does.strip (n' := [(21, (.opt (!(!v1)) (.ptr 4 (0 + 1) [1])))]) (n := [(21, (.ptr 4 (0 + 1) [1]))]) ⟨(.opt _ _ hc), trivial⟩ (does_load 3 21 4 (0 + 1) [1] (.var (e_api_Place p2.P)) (.int .i64 p2.P.From) ⟨rfl, Nat.le_of_ble_eq_true rfl, trivial⟩ rfl rfl ty3)), ⟨⟨rfl, rfl, trivial⟩, ⟨rfl, trivial⟩, rfl⟩, rfl,
    Step.guarded rfl rfl rfl rfl (fun hc => Does.strip (n' := [(22, (.opt (!(!v1)) (.int .i64 p2.P.From)))]) (n := [(22, (.int .i64 p2.P.From))]) ⟨(.opt _ _ hc), trivial⟩ (does_bin .lss 3 3 (.tmp 22) (.const (.int .i64 0)) .i64 p2.P.From 0 (.bool (decide (p2.P.From < 0))) trivial (fun _ => rfl) (bin_lss _ _ _ _))), ⟨⟨rfl, rfl, trivial⟩, trivial, rfl⟩, rfl,
    Step.plain rfl (does_or 20 23 (!v1) (decide (p2.P.From < 0))), ⟨⟨rfl, rfl, trivial⟩, trivial, rfl⟩, rfl,
    Step.plain rfl (does_move (.tmp 24) (.bool ((!v1) || (decide (p2.P.From < 0)))) trivial), ⟨⟨rfl, trivial⟩, trivial, rfl⟩, rfl,
    Step.guarded rfl rfl rfl rfl (fun hc => does_fieldAddr 27 1 1 8 4 0 [] (.var (e_api_Place p2.P)) fl27_1), ⟨⟨rfl, rfl, trivial⟩, ⟨rfl, trivial⟩, rfl⟩, rfl,
    Step.guarded rfl rfl rfl rfl (fun hc => Does.strip (n' := [(26, (.opt (!((!v1) || (decide (p2.P.From < 0)))) (.ptr 4 (0 + 1) [1])))]) (n := [(26, (.ptr 4 (0 + 1) [1]))]) ⟨(.opt _ _ hc), trivial⟩ (does_load 3 26 4 (0 + 1) [1] (.var (e_api_Place p2.P)) (.int .i64 p2.P.From) ⟨rfl, Nat.le_of_ble_eq_true rfl, trivial⟩ rfl rfl ty3)), ⟨⟨rfl, rfl, trivial⟩, ⟨rfl, trivial⟩, rfl⟩, rfl,
    Step.guarded rfl rfl rfl rfl (fun hc => Does.strip (n' := [(27, (.opt (!((!v1) || (decide (p2.P.From < 0)))) (.int .i64 p2.P.From)))]) (n := [(27, (.int .i64 p2.P.From))]) ⟨(.opt _ _ hc), trivial⟩ (does_bin .gtr 3 3 (.tmp 27) (.const (.int .i64 7)) .i64 p2.P.From 7 (.bool (decide (p2.P.From > 7))) trivial (fun _ => rfl) (bin_gtr _ _ _ _))), ⟨⟨rfl, rfl, trivial⟩, trivial, rfl⟩, rfl,
    Step.plain rfl (does_or 25 28 ((!v1) || (decide (p2.P.From < 0))) (decide (p2.P.From > 7))), ⟨⟨rfl, rfl, trivial⟩, trivial, rfl⟩, rfl,
    Step.plain rfl (does_move (.tmp 29) (.bool (((!v1) || (decide (p2.P.From < 0))) || (decide (p2.P.From > 7)))) trivial), ⟨⟨rfl, trivial⟩, trivial, rfl⟩, rfl,
    Step.guarded rfl rfl rfl rfl (fun hc => does_fieldAddr 27 1 1 8 4 0 [] (.var (e_api_Place p2.P)) fl27_1), ⟨⟨rfl, rfl, trivial⟩, ⟨rfl, trivial⟩, rfl⟩, rfl,
    Step.guarded rfl rfl rfl rfl (fun hc => Does.strip (n' := [(31, (.opt (!(((!v1) || (decide (p2.P.From < 0))) || (decide (p2.P.From > 7)))) (.ptr 4 (0 + 1) [1])))]) (n := [(31, (.ptr 4 (0 + 1) [1]))]) ⟨(.opt _ _ hc), trivial⟩ (does_load 3 31 4 (0 + 1) [1] (.var (e_api_Place p2.P)) (.int .i64 p2.P.From) ⟨rfl, Nat.le_of_ble_eq_true rfl, trivial⟩ rfl rfl ty3)), ⟨⟨rfl, rfl, trivial⟩, ⟨rfl, trivial⟩, rfl⟩, rfl,
    Step.guarded rfl rfl rfl rfl (fun hc => Does.strip (n' := [(7, (.ptr 3 0 [])), (32, (.opt (!(((!v1) || (decide (p2.P.From < 0))) || (decide (p2.P.From > 7)))) (.int .i64 p2.P.From)))]) (n := [(7, (.ptr 3 0 [])), (32, (.int .i64 p2.P.From))]) ⟨(.same _), (.opt _ _ hc), trivial⟩ (does_indexAddr 25 8 1 7 3 0 [] (.var (e_a8_u32 p2.M)) (.tmp 32) .i64 p2.P.From el25 trivial (h3 hc).1 (h3 hc).2)), ⟨⟨rfl, rfl, rfl, trivial⟩, ⟨rfl, trivial⟩, rfl⟩, rfl,
    Step.guarded rfl rfl rfl rfl (fun hc => Does.strip (n' := [(33, (.opt (!(((!v1) || (decide (p2.P.From < 0))) || (decide (p2.P.From > 7)))) (.ptr 3 (0 + p2.P.From.toNat * 1) [p2.P.From.toNat])))]) (n := [(33, (.ptr 3 (0 + p2.P.From.toNat * 1) [p2.P.From.toNat]))]) ⟨(.opt _ _ hc), trivial⟩ (does_load 22 33 3 (0 + p2.P.From.toNat * 1) [p2.P.From.toNat] (.var (e_a8_u32 p2.M)) (.int .u32 (p2.M p2.P.From.toNat)) ⟨rfl, (ixl (h3 hc)), trivial⟩ rfl rfl ty22)), ⟨⟨rfl, rfl, trivial⟩, ⟨rfl, trivial⟩, rfl⟩, rfl,
    Step.guarded rfl rfl rfl rfl (fun hc => Does.strip (n' := [(34, (.opt (!(((!v1) || (decide (p2.P.From < 0))) || (decide (p2.P.From > 7)))) (.int .u32 (p2.M p2.P.From.toNat))))]) (n := [(34, (.int .u32 (p2.M p2.P.From.toNat)))]) ⟨(.opt _ _ hc), trivial⟩ (does_bin .eql 22 22 (.tmp 34) (.const (.int .u32 0)) .u32 (p2.M p2.P.From.toNat) 0 (.bool ((p2.M p2.P.From.toNat) == 0)) trivial (fun _ => rfl) (bin_eql _ _ _ _))), ⟨⟨rfl, rfl, trivial⟩, trivial, rfl⟩, rfl,
    Step.plain rfl (does_or 30 35 (((!v1) || (decide (p2.P.From < 0))) || (decide (p2.P.From > 7))) ((p2.M p2.P.From.toNat) == 0)), ⟨⟨rfl, rfl, trivial⟩, trivial, rfl⟩, rfl,
    Step.plain rfl (does_move (.tmp 36) (.bool ((((!v1) || (decide (p2.P.From < 0))) || (decide (p2.P.From > 7))) || ((p2.M p2.P.From.toNat) == 0))) trivial), ⟨⟨rfl, trivial⟩, trivial, rfl⟩, rfl,
    Step.guarded rfl rfl rfl rfl (fun hc => does_fieldAddr 27 0 0 8 4 0 [] (.var (e_api_Place p2.P)) fl27_0), ⟨⟨rfl, rfl, trivial⟩, ⟨rfl, trivial⟩, rfl⟩, rfl,
    Step.guarded rfl rfl rfl rfl (fun hc => Does.strip (n' := [(38, (.opt (!((((!v1) || (decide (p2.P.From < 0))) || (decide (p2.P.From > 7))) || ((p2.M p2.P.From.toNat) == 0))) (.ptr 4 (0 + 0) [0])))]) (n := [(38, (.ptr 4 (0 + 0) [0]))]) ⟨(.opt _ _ hc), trivial⟩ (does_load 22 38 4 (0 + 0) [0] (.var (e_api_Place p2.P)) (.int .u32 p2.P.Round) ⟨rfl, Nat.le_of_ble_eq_true rfl, trivial⟩ rfl rfl ty22)), ⟨⟨rfl, rfl, trivial⟩, ⟨rfl, trivial⟩, rfl⟩, rfl,
    Step.guarded rfl rfl rfl rfl (fun hc => Does.strip (n' := [(39, (.opt (!((((!v1) || (decide (p2.P.From < 0))) || (decide (p2.P.From > 7))) || ((p2.M p2.P.From.toNat) == 0))) (.int .u32 p2.P.Round)))]) (n := [(39, (.int .u32 p2.P.Round))]) ⟨(.opt _ _ hc), trivial⟩ (does_bin .eql 22 22 (.tmp 39) (.const (.int .u32 0)) .u32 p2.P.Round 0 (.bool (p2.P.Round == 0)) trivial (fun _ => rfl) (bin_eql _ _ _ _))), ⟨⟨rfl, rfl, trivial⟩, trivial, rfl⟩, rfl,
    Step.plain rfl (does_or 37 40 ((((!v1) || (decide (p2.P.From < 0))) || (decide (p2.P.From > 7))) || ((p2.M p2.P.From.toNat) == 0)) (p2.P.Round == 0)), ⟨⟨rfl, rfl, trivial⟩, trivial, rfl⟩, rfl,
    Step.plain rfl (does_move (.tmp 41) (.bool (((((!v1) || (decide (p2.P.From < 0))) || (decide (p2.P.From > 7))) || ((p2.M p2.P.From.toNat) == 0)) || (p2.P.Round == 0))) trivial), ⟨⟨rfl, trivial⟩, trivial, rfl⟩, rfl,
    Step.guarded rfl rfl rfl rfl (fun hc => does_fieldAddr 27 0 0 8 4 0 [] (.var (e_api_Place p2.P)) fl27_0), ⟨⟨rfl, rfl, trivial⟩, ⟨rfl, trivial⟩, rfl⟩, rfl,
    Step.guarded rfl rfl rfl rfl (fun hc => Does.strip (n' := [(43, (.opt (!(((((!v1) || (decide (p2.P.From < 0))) || (decide (p2.P.From > 7))) || ((p2.M p2.P.From.toNat) == 0)) || (p2.P.Round == 0))) (.ptr 4 (0 + 0) [0])))]) (n := [(43, (.ptr 4 (0 + 0) [0]))]) ⟨(.opt _ _ hc), trivial⟩ (does_load 22 43 4 (0 + 0) [0] (.var (e_api_Place p2.P)) (.int .u32 p2.P.Round) ⟨rfl, Nat.le_of_ble_eq_true rfl, trivial⟩ rfl rfl ty22)), ⟨⟨rfl, rfl, trivial⟩, ⟨rfl, trivial⟩, rfl⟩, rfl,
    Step.guarded rfl rfl rfl rfl (fun hc => Does.strip (n' := [(44, (.opt (!(((((!v1) || (decide (p2.P.From < 0))) || (decide (p2.P.From > 7))) || ((p2.M p2.P.From.toNat) == 0)) || (p2.P.Round == 0))) (.int .u32 p2.P.Round)))]) (n := [(44, (.int .u32 p2.P.Round))]) ⟨(.opt _ _ hc), trivial⟩ (does_bin .eql 22 22 (.tmp 44) (.const (.int .u32 4294967295)) .u32 p2.P.Round 4294967295 (.bool (p2.P.Round == 4294967295)) trivial (fun _ => rfl) (bin_eql _ _ _ _))), ⟨⟨rfl, rfl, trivial⟩, trivial, rfl⟩, rfl,
    Step.plain rfl (does_or 42 45 (((((!v1) || (decide (p2.P.From < 0))) || (decide (p2.P.From > 7))) || ((p2.M p2.P.From.toNat) == 0)) || (p2.P.Round == 0)) (p2.P.Round == 4294967295)), ⟨⟨rfl, rfl, trivial⟩, trivial, rfl⟩, rfl,
    Step.plain rfl (does_move (.tmp 46) (.bool ((((((!v1) || (decide (p2.P.From < 0))) || (decide (p2.P.From > 7))) || ((p2.M p2.P.From.toNat) == 0)) || (p2.P.Round == 0)) || (p2.P.Round == 4294967295))) trivial), ⟨⟨rfl, trivial⟩, trivial, rfl⟩, rfl,
    Step.guarded rfl rfl rfl rfl (fun hc => does_fieldAddr 27 2 2 8 4 0 [] (.var (e_api_Place p2.P)) fl27_2), ⟨⟨rfl, rfl, trivial⟩, ⟨rfl, trivial⟩, rfl⟩, rfl,
    Step.guarded rfl rfl rfl rfl (fun hc => Does.strip (n' := [(48, (.opt (!((((((!v1) || (decide (p2.P.From < 0))) || (decide (p2.P.From > 7))) || ((p2.M p2.P.From.toNat) == 0)) || (p2.P.Round == 0)) || (p2.P.Round == 4294967295))) (.ptr 4 (0 + 2) [2])))]) (n := [(48, (.ptr 4 (0 + 2) [2]))]) ⟨(.opt _ _ hc), trivial⟩ (does_load 3 48 4 (0 + 2) [2] (.var (e_api_Place p2.P)) (.int .i64 p2.P.Slot) ⟨rfl, Nat.le_of_ble_eq_true rfl, trivial⟩ rfl rfl ty3)), ⟨⟨rfl, rfl, trivial⟩, ⟨rfl, trivial⟩, rfl⟩, rfl,
    Step.guarded rfl rfl rfl rfl (fun hc => Does.strip (n' := [(49, (.opt (!((((((!v1) || (decide (p2.P.From < 0))) || (decide (p2.P.From > 7))) || ((p2.M p2.P.From.toNat) == 0)) || (p2.P.Round == 0)) || (p2.P.Round == 4294967295))) (.int .i64 p2.P.Slot)))]) (n := [(49, (.int .i64 p2.P.Slot))]) ⟨(.opt _ _ hc), trivial⟩ (does_bin .lss 3 3 (.tmp 49) (.const (.int .i64 0)) .i64 p2.P.Slot 0 (.bool (decide (p2.P.Slot < 0))) trivial (fun _ => rfl) (bin_lss _ _ _ _))), ⟨⟨rfl, rfl, trivial⟩, trivial, rfl⟩, rfl,
    Step.plain rfl (does_or 47 50 ((((((!v1) || (decide (p2.P.From < 0))) || (decide (p2.P.From > 7))) || ((p2.M p2.P.From.toNat) == 0)) || (p2.P.Round == 0)) || (p2.P.Round == 4294967295)) (decide (p2.P.Slot < 0))), ⟨⟨rfl, rfl, trivial⟩, trivial, rfl⟩, rfl, rfl⟩ ?_
  obtain ⟨v4, hv4, H⟩ := lt_of H
  refine aw_cov (cov_prune (s1 := ⟨[(3, (.ptr 0 0 [])), (4, (.ptr 1 0 [])), (7, (.ptr 3 0 [])), (8, (.ptr 4 0 [])), (51, (.bool v4))], [(0, some (.var (e_a8_u32 p0))), (1, some (.var (e_a8_u32 p1))), (3, some (.var (e_a8_u32 p2.M))), (4, some (.var (e_api_Place p2.P)))], 5⟩) ⟨rfl, rfl, rfl, rfl, (by subst hv4; rfl), trivial⟩ ⟨rfl, rfl, rfl, rfl, trivial⟩ (Nat.le_refl _)) ?_
  refine aw_cond rfl (fun hc => ?_) (fun hc => ?_)
  · replace H := ite_t hc H
    obtain ⟨v5, h6, H⟩ := bnd H
    refine aw_region (es := [_, _]) ⟨Step.plain rfl (does_call 10 0 (fun _ => .any) (.func 10) [] [] [] true [] (.bool v5) _ _ rfl fo10 rfl trivial trivial (congresslaw09_fixed_spec _ h6) trivial), ⟨trivial, trivial, rfl⟩, rfl,
      Step.plain rfl (does_assign (.tmp 52) (.bool v5) trivial), ⟨⟨rfl, trivial⟩, trivial, rfl⟩, rfl, rfl⟩ ?_
    refine aw_cov (cov_prune (s1 := ⟨[(6, (.bool v5))], [], 5⟩) ⟨rfl, trivial⟩ trivial (Nat.le_refl _)) ?_
    refine aw_ret ?_
    refine rt_then ?_
    exact fun a w hr => ⟨_, [(.bool v5)], hr, ⟨⟨_, rfl, .data _ trivial⟩, trivial⟩, by decide, by cases H; rfl⟩
  · replace H := ite_f hc H
    refine aw_skip ?_
    refine nx_seq ?_
    obtain ⟨v7, h8, H⟩ := bnd H
    obtain ⟨v9, h10, H⟩ := bnd H
    refine aw_draw (es := [_, _, _, _, _, _, _, _, _, _]) (mixed) ⟨Step.plain rfl (does_load 24 3 0 0 [] (.var (e_a8_u32 p0)) (e_a8_u32 p0) trivial rfl rfl ty24), ⟨⟨rfl, trivial⟩, ⟨rfl, trivial⟩, rfl⟩, rfl,
      Step.plain rfl (does_load 25 7 3 0 [] (.var (e_a8_u32 p2.M)) (e_a8_u32 p2.M) trivial rfl rfl ty25), ⟨⟨rfl, trivial⟩, ⟨rfl, trivial⟩, rfl⟩, rfl,
      Step.plain rfl (does_call 17 0 (fun _ => .any) (.func 17) [(.tmp 53), (.tmp 54)] [(e_a8_u32 p0), (e_a8_u32 p2.M)] [] true [(e_a8_u32 p0), (e_a8_u32 p2.M)] (e_api_Place v7) _ _ rfl fo17 rfl ⟨trivial, trivial, trivial⟩ ⟨.data _ (d_a8_u32 p0), .data _ (d_a8_u32 p2.M), trivial⟩ (round_Position_spec p0 p2.M _ h8) (f_api_Place v7)), ⟨⟨rfl, rfl, trivial⟩, trivial, rfl⟩, rfl,
      Step.plain rfl (does_load 24 4 1 0 [] (.var (e_a8_u32 p1)) (e_a8_u32 p1) trivial rfl rfl ty24), ⟨⟨rfl, trivial⟩, ⟨rfl, trivial⟩, rfl⟩, rfl,
      Step.plain rfl (does_load 25 7 3 0 [] (.var (e_a8_u32 p2.M)) (e_a8_u32 p2.M) trivial rfl rfl ty25), ⟨⟨rfl, trivial⟩, ⟨rfl, trivial⟩, rfl⟩, rfl,
      Step.plain rfl (does_call 17 0 (fun _ => .any) (.func 17) [(.tmp 56), (.tmp 57)] [(e_a8_u32 p1), (e_a8_u32 p2.M)] [] true [(e_a8_u32 p1), (e_a8_u32 p2.M)] (e_api_Place v9) _ _ rfl fo17 rfl ⟨trivial, trivial, trivial⟩ ⟨.data _ (d_a8_u32 p1), .data _ (d_a8_u32 p2.M), trivial⟩ (round_Position_spec p1 p2.M _ h10) (f_api_Place v9)), ⟨⟨rfl, rfl, trivial⟩, trivial, rfl⟩, rfl,
      Step.plain rfl (does_alloc 27 5 (e_api_Place z_api_Place) zr27), ⟨trivial, trivial, rfl⟩, rfl,
      Step.plain rfl (does_alloc 27 6 (e_api_Place z_api_Place) zr27), ⟨trivial, trivial, rfl⟩, rfl,
      Step.plain rfl (does_store 27 9 (.tmp 55) 5 0 [] (.var (e_api_Place z_api_Place)) (.var (e_api_Place v7)) (e_api_Place v7) true trivial rfl trivial rfl rfl rfl ty27), ⟨⟨rfl, rfl, trivial⟩, ⟨rfl, trivial⟩, rfl⟩, rfl,
      Step.plain rfl (does_store 27 10 (.tmp 58) 6 0 [] (.var (e_api_Place z_api_Place)) (.var (e_api_Place v9)) (e_api_Place v9) true trivial rfl trivial rfl rfl rfl ty27), ⟨⟨rfl, rfl, trivial⟩, ⟨rfl, trivial⟩, rfl⟩, rfl, rfl⟩ rfl ?_
    refine aw_cov (cov_prune (s1 := ⟨[(3, (.ptr 0 0 [])), (4, (.ptr 1 0 [])), (7, (.ptr 3 0 [])), (8, (.ptr 4 0 [])), (9, (.ptr 5 0 [])), (10, (.ptr 6 0 []))], [(0, some (.var (e_a8_u32 p0))), (1, some (.var (e_a8_u32 p1))), (3, some (.var (e_a8_u32 p2.M))), (4, some (.var (e_api_Place p2.P))), (5, some (.var (e_api_Place v7))), (6, some (.var (e_api_Place v9)))], 7⟩) ⟨rfl, rfl, rfl, rfl, rfl, rfl, trivial⟩ ⟨rfl, rfl, rfl, rfl, rfl, rfl, trivial⟩ (Nat.le_refl _)) ?_
    obtain ⟨v11, h12, H⟩ := bnd H
    obtain ⟨v13, h14, H⟩ := bnd H
    refine aw_draw (es := [_, _, _, _, _, _, _, _, _, _]) (mixed) ⟨Step.plain rfl (does_load 24 3 0 0 [] (.var (e_a8_u32 p0)) (e_a8_u32 p0) trivial rfl rfl ty24), ⟨⟨rfl, trivial⟩, ⟨rfl, trivial⟩, rfl⟩, rfl,
      Step.plain rfl (does_load 25 7 3 0 [] (.var (e_a8_u32 p2.M)) (e_a8_u32 p2.M) trivial rfl rfl ty25), ⟨⟨rfl, trivial⟩, ⟨rfl, trivial⟩, rfl⟩, rfl,
      Step.plain rfl (does_load 27 8 4 0 [] (.var (e_api_Place p2.P)) (e_api_Place p2.P) trivial rfl rfl ty27), ⟨⟨rfl, trivial⟩, ⟨rfl, trivial⟩, rfl⟩, rfl,
      Step.plain rfl (does_call 8 0 (fun _ => .any) (.func 8) [(.tmp 59), (.tmp 60), (.tmp 61), (.const (.int .i64 2))] [(e_a8_u32 p0), (e_a8_u32 p2.M), (e_api_Place p2.P), (.int .i64 2)] [] true [(e_a8_u32 p0), (e_a8_u32 p2.M), (e_api_Place p2.P), (.int .i64 2)] (.bool v11) _ _ rfl fo8 rfl ⟨trivial, trivial, trivial, (fun _ => rfl), trivial⟩ ⟨.data _ (d_a8_u32 p0), .data _ (d_a8_u32 p2.M), .data _ (d_api_Place p2.P), .data _ trivial, trivial⟩ (round_Service_spec p0 p2.M p2.P 2 _ h12) trivial), ⟨⟨rfl, rfl, rfl, trivial⟩, trivial, rfl⟩, rfl,
      Step.plain rfl (does_load 24 4 1 0 [] (.var (e_a8_u32 p1)) (e_a8_u32 p1) trivial rfl rfl ty24), ⟨⟨rfl, trivial⟩, ⟨rfl, trivial⟩, rfl⟩, rfl,
      Step.plain rfl (does_load 25 7 3 0 [] (.var (e_a8_u32 p2.M)) (e_a8_u32 p2.M) trivial rfl rfl ty25), ⟨⟨rfl, trivial⟩, ⟨rfl, trivial⟩, rfl⟩, rfl,
      Step.plain rfl (does_load 27 8 4 0 [] (.var (e_api_Place p2.P)) (e_api_Place p2.P) trivial rfl rfl ty27), ⟨⟨rfl, trivial⟩, ⟨rfl, trivial⟩, rfl⟩, rfl,
      Step.plain rfl (does_call 8 0 (fun _ => .any) (.func 8) [(.tmp 63), (.tmp 64), (.tmp 65), (.const (.int .i64 2))] [(e_a8_u32 p1), (e_a8_u32 p2.M), (e_api_Place p2.P), (.int .i64 2)] [] true [(e_a8_u32 p1), (e_a8_u32 p2.M), (e_api_Place p2.P), (.int .i64 2)] (.bool v13) _ _ rfl fo8 rfl ⟨trivial, trivial, trivial, (fun _ => rfl), trivial⟩ ⟨.data _ (d_a8_u32 p1), .data _ (d_a8_u32 p2.M), .data _ (d_api_Place p2.P), .data _ trivial, trivial⟩ (round_Service_spec p1 p2.M p2.P 2 _ h14) trivial), ⟨⟨rfl, rfl, rfl, trivial⟩, trivial, rfl⟩, rfl,
      Step.plain rfl (does_assign (.tmp 62) (.bool v11) trivial), ⟨⟨rfl, trivial⟩, trivial, rfl⟩, rfl,
      Step.plain rfl (does_assign (.tmp 66) (.bool v13) trivial), ⟨⟨rfl, trivial⟩, trivial, rfl⟩, rfl, rfl⟩ rfl ?_
    refine aw_cov (cov_prune (s1 := ⟨[(8, (.ptr 4 0 [])), (9, (.ptr 5 0 [])), (10, (.ptr 6 0 [])), (11, (.bool v11)), (12, (.bool v13))], [(4, some (.var (e_api_Place p2.P))), (5, some (.var (e_api_Place v7))), (6, some (.var (e_api_Place v9)))], 7⟩) ⟨rfl, rfl, rfl, rfl, rfl, trivial⟩ ⟨rfl, rfl, rfl, trivial⟩ (Nat.le_refl _)) ?_
    refine aw_region (es := [_, _, _]) ⟨Step.plain rfl (does_load 27 8 4 0 [] (.var (e_api_Place p2.P)) (e_api_Place p2.P) trivial rfl rfl ty27), ⟨⟨rfl, trivial⟩, ⟨rfl, trivial⟩, rfl⟩, rfl,
      Step.plain rfl (does_alloc 27 7 (e_api_Place z_api_Place) zr27), ⟨trivial, trivial, rfl⟩, rfl,
      Step.plain rfl (does_store 27 13 (.tmp 67) 7 0 [] (.var (e_api_Place z_api_Place)) (.var (e_api_Place p2.P)) (e_api_Place p2.P) true trivial rfl trivial rfl rfl rfl ty27), ⟨⟨rfl, rfl, trivial⟩, ⟨rfl, trivial⟩, rfl⟩, rfl, rfl⟩ ?_
    refine aw_cov (cov_prune (s1 := ⟨[(9, (.ptr 5 0 [])), (10, (.ptr 6 0 [])), (11, (.bool v11)), (12, (.bool v13)), (13, (.ptr 7 0 []))], [(5, some (.var (e_api_Place v7))), (6, some (.var (e_api_Place v9))), (7, some (.var (e_api_Place p2.P)))], 8⟩) ⟨rfl, rfl, rfl, rfl, rfl, trivial⟩ ⟨rfl, rfl, rfl, trivial⟩ (Nat.le_refl _)) ?_
    refine aw_region (es := [_, _]) ⟨Step.plain rfl (does_fieldAddr 27 2 2 13 7 0 [] (.var (e_api_Place p2.P)) fl27_2), ⟨⟨rfl, trivial⟩, ⟨rfl, trivial⟩, rfl⟩, rfl,
      Step.plain rfl (does_store 3 68 (.const (.int .i64 0)) 7 (0 + 2) [2] (.var (e_api_Place p2.P)) (.var (e_api_Place ({ p2.P with Slot := 0 }))) (.int .i64 0) false (fun _ => rfl) rfl ⟨rfl, Nat.le_of_ble_eq_true rfl, trivial⟩ rfl rfl (congrArg Box.var (set_cons rfl (st_api_Place_2 _ _))) ty3), ⟨⟨rfl, trivial⟩, ⟨rfl, trivial⟩, rfl⟩, rfl, rfl⟩ ?_
    refine aw_cov (cov_prune (s1 := ⟨[(9, (.ptr 5 0 [])), (10, (.ptr 6 0 [])), (11, (.bool v11)), (12, (.bool v13)), (13, (.ptr 7 0 []))], [(5, some (.var (e_api_Place v7))), (6, some (.var (e_api_Place v9))), (7, some (.var (e_api_Place ({ p2.P with Slot := 0 }))))], 8⟩) ⟨rfl, rfl, rfl, rfl, rfl, trivial⟩ ⟨rfl, rfl, rfl, trivial⟩ (Nat.le_refl _)) ?_
    refine aw_seq ?_
    obtain ⟨v15, h16, H⟩ := bnd H
    obtain ⟨v17, h18, H⟩ := whn_of H
    refine aw_region (es := [_, _, _, _, _, _, _, _, _, _, _, _]) ⟨Step.plain rfl (does_move (.tmp 11) (.bool v11) trivial), ⟨⟨rfl, trivial⟩, trivial, rfl⟩, rfl,
      Step.plain rfl (does_load 27 13 7 0 [] (.var (e_api_Place ({ p2.P with Slot := 0 }))) (e_api_Place ({ p2.P with Slot := 0 })) trivial rfl rfl ty27), ⟨⟨rfl, trivial⟩, ⟨rfl, trivial⟩, rfl⟩, rfl,
      Step.plain rfl (does_load 27 9 5 0 [] (.var (e_api_Place v7)) (e_api_Place v7) trivial rfl rfl ty27), ⟨⟨rfl, trivial⟩, ⟨rfl, trivial⟩, rfl⟩, rfl,
      Step.plain rfl (does_call 15 0 (fun _ => .any) (.func 15) [(.tmp 70), (.tmp 71)] [(e_api_Place ({ p2.P with Slot := 0 })), (e_api_Place v7)] [] true [(e_api_Place ({ p2.P with Slot := 0 })), (e_api_Place v7)] (.bool v15) _ _ rfl fo15 rfl ⟨trivial, trivial, trivial⟩ ⟨.data _ (d_api_Place ({ p2.P with Slot := 0 })), .data _ (d_api_Place v7), trivial⟩ (round_Before_spec ({ p2.P with Slot := 0 }) v7 _ h16) trivial), ⟨⟨rfl, rfl, trivial⟩, trivial, rfl⟩, rfl,
      Step.plain rfl (does_eqBool true 4 4 (.tmp 69) (.tmp 72) v11 v15 trivial trivial rfl), ⟨⟨rfl, rfl, trivial⟩, trivial, rfl⟩, rfl,
      Step.plain rfl (does_move (.tmp 73) (.bool (v11 != v15)) trivial), ⟨⟨rfl, trivial⟩, trivial, rfl⟩, rfl,
      Step.guarded rfl rfl rfl rfl (fun hc => does_move (.tmp 12) (.bool v13) trivial), ⟨⟨rfl, rfl, trivial⟩, trivial, rfl⟩, rfl,
      Step.guarded rfl rfl rfl rfl (fun hc => does_load 27 13 7 0 [] (.var (e_api_Place ({ p2.P with Slot := 0 }))) (e_api_Place ({ p2.P with Slot := 0 })) trivial rfl rfl ty27), ⟨⟨rfl, rfl, trivial⟩, ⟨rfl, trivial⟩, rfl⟩, rfl,
      Step.guarded rfl rfl rfl rfl (fun hc => does_load 27 10 6 0 [] (.var (e_api_Place v9)) (e_api_Place v9) trivial rfl rfl ty27), ⟨⟨rfl, rfl, trivial⟩, ⟨rfl, trivial⟩, rfl⟩, rfl,
      Step.guarded rfl rfl rfl rfl (fun hc => Does.strip (n' := [(76, (.opt (!(v11 != v15)) (e_api_Place ({ p2.P with Slot := 0 })))), (77, (.opt (!(v11 != v15)) (e_api_Place v9)))]) (n := [(76, (e_api_Place ({ p2.P with Slot := 0 }))), (77, (e_api_Place v9))]) ⟨(.opt _ _ hc), (.opt _ _ hc), trivial⟩ (does_call 15 0 (fun _ => .any) (.func 15) [(.tmp 76), (.tmp 77)] [(e_api_Place ({ p2.P with Slot := 0 })), (e_api_Place v9)] [] true [(e_api_Place ({ p2.P with Slot := 0 })), (e_api_Place v9)] (.bool v17) _ _ rfl fo15 rfl ⟨trivial, trivial, trivial⟩ ⟨.data _ (d_api_Place ({ p2.P with Slot := 0 })), .data _ (d_api_Place v9), trivial⟩ (round_Before_spec ({ p2.P with Slot := 0 }) v9 _ (h18 hc)) trivial)), ⟨⟨rfl, rfl, rfl, trivial⟩, trivial, rfl⟩, rfl,
      Step.guarded rfl rfl rfl rfl (fun hc => Does.strip (n' := [(75, (.opt (!(v11 != v15)) (.bool v13))), (78, (.opt (!(v11 != v15)) (.bool v17)))]) (n := [(75, (.bool v13)), (78, (.bool v17))]) ⟨(.opt _ _ hc), (.opt _ _ hc), trivial⟩ (does_eqBool true 4 4 (.tmp 75) (.tmp 78) v13 v17 trivial trivial rfl)), ⟨⟨rfl, rfl, rfl, trivial⟩, trivial, rfl⟩, rfl,
      Step.plain rfl (does_or 74 79 (v11 != v15) (v13 != v17)), ⟨⟨rfl, rfl, trivial⟩, trivial, rfl⟩, rfl, rfl⟩ ?_
    refine aw_cov (cov_prune (s1 := ⟨[(9, (.ptr 5 0 [])), (10, (.ptr 6 0 [])), (11, (.bool v11)), (12, (.bool v13)), (80, (.bool ((v11 != v15) || (v13 != v17))))], [(5, some (.var (e_api_Place v7))), (6, some (.var (e_api_Place v9)))], 8⟩) ⟨rfl, rfl, rfl, rfl, rfl, trivial⟩ ⟨rfl, rfl, trivial⟩ (Nat.le_refl _)) ?_
    refine aw_cond rfl (fun hc => ?_) (fun hc => ?_)
    · replace H := ite_t hc H
      refine aw_region (es := [_]) ⟨Step.plain rfl (does_assign (.const (.bool false)) (.bool false) (fun _ => rfl)), ⟨trivial, trivial, rfl⟩, rfl, rfl⟩ ?_
      refine aw_cov (cov_prune (s1 := ⟨[(6, (.bool false))], [], 8⟩) ⟨rfl, trivial⟩ trivial (Nat.le_refl _)) ?_
      refine aw_ret ?_
      refine rt_then ?_
      exact fun a w hr => ⟨_, [(.bool false)], hr, ⟨⟨_, rfl, .data _ trivial⟩, trivial⟩, by decide, by cases H; rfl⟩
    · replace H := ite_f hc H
      refine aw_skip ?_
      refine nx_seq ?_
      obtain ⟨v19, h20, H⟩ := bnd H
      obtain ⟨v21, h22, H⟩ := whn_of H
      refine aw_region (es := [_, _, _, _, _, _, _, _, _, _, _, _, _, _, _, _, _, _, _, _, _, _, _, _, _, _, _, _, _, _, _, _, _]) ⟨Step.plain rfl (does_load 27 9 5 0 [] (.var (e_api_Place v7)) (e_api_Place v7) trivial rfl rfl ty27), ⟨⟨rfl, trivial⟩, ⟨rfl, trivial⟩, rfl⟩, rfl,
        Step.plain rfl (does_load 27 10 6 0 [] (.var (e_api_Place v9)) (e_api_Place v9) trivial rfl rfl ty27), ⟨⟨rfl, trivial⟩, ⟨rfl, trivial⟩, rfl⟩, rfl,
        Step.plain rfl (does_call 15 0 (fun _ => .any) (.func 15) [(.tmp 81), (.tmp 82)] [(e_api_Place v7), (e_api_Place v9)] [] true [(e_api_Place v7), (e_api_Place v9)] (.bool v19) _ _ rfl fo15 rfl ⟨trivial, trivial, trivial⟩ ⟨.data _ (d_api_Place v7), .data _ (d_api_Place v9), trivial⟩ (round_Before_spec v7 v9 _ h20) trivial), ⟨⟨rfl, rfl, trivial⟩, trivial, rfl⟩, rfl,
        Step.plain rfl (does_move (.tmp 83) (.bool v19) trivial), ⟨⟨rfl, trivial⟩, trivial, rfl⟩, rfl,
        Step.guarded rfl rfl rfl rfl (fun hc => does_move (.tmp 11) (.bool v11) trivial), ⟨⟨rfl, rfl, trivial⟩, trivial, rfl⟩, rfl,
        Step.guarded rfl rfl rfl rfl (fun hc => Does.strip (n' := [(85, (.opt v19 (.bool v11)))]) (n := [(85, (.bool v11))]) ⟨(.opt _ _ hc), trivial⟩ (does_not 4 (.tmp 85) v11 trivial)), ⟨⟨rfl, rfl, trivial⟩, trivial, rfl⟩, rfl,
        Step.guarded rfl rfl rfl rfl (fun hc => Does.strip (n' := [(86, (.opt v19 (.bool (!v11))))]) (n := [(86, (.bool (!v11)))]) ⟨(.opt _ _ hc), trivial⟩ (does_move (.tmp 86) (.bool (!v11)) trivial)), ⟨⟨rfl, rfl, trivial⟩, trivial, rfl⟩, rfl,
        Step.guarded rfl rfl rfl rfl (fun hc => does_move (.tmp 12) (.bool v13) trivial), ⟨⟨rfl, rfl, trivial⟩, trivial, rfl⟩, rfl,
        Step.guarded rfl rfl rfl rfl (fun hc => Does.strip (n' := [(87, (.opt v19 (.bool (!v11)))), (88, (.opt (v19 && (!(!v11))) (.bool v13)))]) (n := [(87, (.bool (!v11))), (88, (.opt (!(!v11)) (.bool v13)))]) ⟨(.opt _ _ hc), (.half _ _ hc), trivial⟩ (does_or 87 88 (!v11) v13)), ⟨⟨rfl, rfl, rfl, trivial⟩, trivial, rfl⟩, rfl,
        Step.plain rfl (does_and 84 89 v19 ((!v11) || v13)), ⟨⟨rfl, rfl, trivial⟩, trivial, rfl⟩, rfl,
        Step.plain rfl (does_move (.tmp 90) (.bool (v19 && ((!v11) || v13))) trivial), ⟨⟨rfl, trivial⟩, trivial, rfl⟩, rfl,
        Step.guarded rfl rfl rfl rfl (fun hc => does_load 27 10 6 0 [] (.var (e_api_Place v9)) (e_api_Place v9) trivial rfl rfl ty27), ⟨⟨rfl, rfl, trivial⟩, ⟨rfl, trivial⟩, rfl⟩, rfl,
        Step.guarded rfl rfl rfl rfl (fun hc => does_load 27 9 5 0 [] (.var (e_api_Place v7)) (e_api_Place v7) trivial rfl rfl ty27), ⟨⟨rfl, rfl, trivial⟩, ⟨rfl, trivial⟩, rfl⟩, rfl,
        Step.guarded rfl rfl rfl rfl (fun hc => Does.strip (n' := [(92, (.opt (!(v19 && ((!v11) || v13))) (e_api_Place v9))), (93, (.opt (!(v19 && ((!v11) || v13))) (e_api_Place v7)))]) (n := [(92, (e_api_Place v9)), (93, (e_api_Place v7))]) ⟨(.opt _ _ hc), (.opt _ _ hc), trivial⟩ (does_call 15 0 (fun _ => .any) (.func 15) [(.tmp 92), (.tmp 93)] [(e_api_Place v9), (e_api_Place v7)] [] true [(e_api_Place v9), (e_api_Place v7)] (.bool v21) _ _ rfl fo15 rfl ⟨trivial, trivial, trivial⟩ ⟨.data _ (d_api_Place v9), .data _ (d_api_Place v7), trivial⟩ (round_Before_spec v9 v7 _ (h22 hc)) trivial)), ⟨⟨rfl, rfl, rfl, trivial⟩, trivial, rfl⟩, rfl,
        Step.guarded rfl rfl rfl rfl (fun hc => Does.strip (n' := [(94, (.opt (!(v19 && ((!v11) || v13))) (.bool v21)))]) (n := [(94, (.bool v21))]) ⟨(.opt _ _ hc), trivial⟩ (does_move (.tmp 94) (.bool v21) trivial)), ⟨⟨rfl, rfl, trivial⟩, trivial, rfl⟩, rfl,
        Step.guarded rfl rfl rfl rfl (fun hc => does_move (.tmp 12) (.bool v13) trivial), ⟨⟨rfl, rfl, trivial⟩, trivial, rfl⟩, rfl,
        Step.guarded rfl rfl rfl rfl (fun hc => Does.strip (n' := [(96, (.opt ((!(v19 && ((!v11) || v13))) && v21) (.bool v13)))]) (n := [(96, (.bool v13))]) ⟨(.opt _ _ hc), trivial⟩ (does_not 4 (.tmp 96) v13 trivial)), ⟨⟨rfl, rfl, trivial⟩, trivial, rfl⟩, rfl,
        Step.guarded rfl rfl rfl rfl (fun hc => Does.strip (n' := [(97, (.opt ((!(v19 && ((!v11) || v13))) && v21) (.bool (!v13))))]) (n := [(97, (.bool (!v13)))]) ⟨(.opt _ _ hc), trivial⟩ (does_move (.tmp 97) (.bool (!v13)) trivial)), ⟨⟨rfl, rfl, trivial⟩, trivial, rfl⟩, rfl,
        Step.guarded rfl rfl rfl rfl (fun hc => does_move (.tmp 11) (.bool v11) trivial), ⟨⟨rfl, rfl, trivial⟩, trivial, rfl⟩, rfl,
        Step.guarded rfl rfl rfl rfl (fun hc => Does.strip (n' := [(98, (.opt ((!(v19 && ((!v11) || v13))) && v21) (.bool (!v13)))), (99, (.opt (((!(v19 && ((!v11) || v13))) && v21) && (!(!v13))) (.bool v11)))]) (n := [(98, (.bool (!v13))), (99, (.opt (!(!v13)) (.bool v11)))]) ⟨(.opt _ _ hc), (.half _ _ hc), trivial⟩ (does_or 98 99 (!v13) v11)), ⟨⟨rfl, rfl, rfl, trivial⟩, trivial, rfl⟩, rfl,
        Step.guarded rfl rfl rfl rfl (fun hc => Does.strip (n' := [(95, (.opt (!(v19 && ((!v11) || v13))) (.bool v21))), (100, (.opt ((!(v19 && ((!v11) || v13))) && v21) (.bool ((!v13) || v11))))]) (n := [(95, (.bool v21)), (100, (.opt v21 (.bool ((!v13) || v11))))]) ⟨(.opt _ _ hc), (.half _ _ hc), trivial⟩ (does_and 95 100 v21 ((!v13) || v11))), ⟨⟨rfl, rfl, rfl, trivial⟩, trivial, rfl⟩, rfl,
        Step.plain rfl (does_or 91 101 (v19 && ((!v11) || v13)) (v21 && ((!v13) || v11))), ⟨⟨rfl, rfl, trivial⟩, trivial, rfl⟩, rfl,
        Step.plain rfl (does_move (.tmp 102) (.bool ((v19 && ((!v11) || v13)) || (v21 && ((!v13) || v11)))) trivial), ⟨⟨rfl, trivial⟩, trivial, rfl⟩, rfl,
        Step.guarded rfl rfl rfl rfl (fun hc => does_load 27 9 5 0 [] (.var (e_api_Place v7)) (e_api_Place v7) trivial rfl rfl ty27), ⟨⟨rfl, rfl, trivial⟩, ⟨rfl, trivial⟩, rfl⟩, rfl,
        Step.guarded rfl rfl rfl rfl (fun hc => does_load 27 10 6 0 [] (.var (e_api_Place v9)) (e_api_Place v9) trivial rfl rfl ty27), ⟨⟨rfl, rfl, trivial⟩, ⟨rfl, trivial⟩, rfl⟩, rfl,
        Step.guarded rfl rfl rfl rfl (fun hc => Does.strip (n' := [(104, (.opt (!((v19 && ((!v11) || v13)) || (v21 && ((!v13) || v11)))) (e_api_Place v7))), (105, (.opt (!((v19 && ((!v11) || v13)) || (v21 && ((!v13) || v11)))) (e_api_Place v9)))]) (n := [(104, (e_api_Place v7)), (105, (e_api_Place v9))]) ⟨(.opt _ _ hc), (.opt _ _ hc), trivial⟩ (does_eqT false 27 27 (.tmp 104) (.tmp 105) (e_api_Place v7) (e_api_Place v9) (e_api_Place z_api_Place) (b_api_Place v7 v9) rfl rfl trivial trivial eg27 sh27 (al_api_Place _ _) (al_api_Place _ _) (q_api_Place _ _))), ⟨⟨rfl, rfl, rfl, trivial⟩, trivial, rfl⟩, rfl,
        Step.guarded rfl rfl rfl rfl (fun hc => Does.strip (n' := [(106, (.opt (!((v19 && ((!v11) || v13)) || (v21 && ((!v13) || v11)))) (.bool (b_api_Place v7 v9))))]) (n := [(106, (.bool (b_api_Place v7 v9)))]) ⟨(.opt _ _ hc), trivial⟩ (does_move (.tmp 106) (.bool (b_api_Place v7 v9)) trivial)), ⟨⟨rfl, rfl, trivial⟩, trivial, rfl⟩, rfl,
        Step.guarded rfl rfl rfl rfl (fun hc => does_move (.tmp 11) (.bool v11) trivial), ⟨⟨rfl, rfl, trivial⟩, trivial, rfl⟩, rfl,
        Step.guarded rfl rfl rfl rfl (fun hc => does_move (.tmp 12) (.bool v13) trivial), ⟨⟨rfl, rfl, trivial⟩, trivial, rfl⟩, rfl,
        Step.guarded rfl rfl rfl rfl (fun hc => Does.strip (n' := [(108, (.opt ((!((v19 && ((!v11) || v13)) || (v21 && ((!v13) || v11)))) && (b_api_Place v7 v9)) (.bool v11))), (109, (.opt ((!((v19 && ((!v11) || v13)) || (v21 && ((!v13) || v11)))) && (b_api_Place v7 v9)) (.bool v13)))]) (n := [(108, (.bool v11)), (109, (.bool v13))]) ⟨(.opt _ _ hc), (.opt _ _ hc), trivial⟩ (does_eqBool false 4 4 (.tmp 108) (.tmp 109) v11 v13 trivial trivial rfl)), ⟨⟨rfl, rfl, rfl, trivial⟩, trivial, rfl⟩, rfl,
        Step.guarded rfl rfl rfl rfl (fun hc => Does.strip (n' := [(107, (.opt (!((v19 && ((!v11) || v13)) || (v21 && ((!v13) || v11)))) (.bool (b_api_Place v7 v9)))), (110, (.opt ((!((v19 && ((!v11) || v13)) || (v21 && ((!v13) || v11)))) && (b_api_Place v7 v9)) (.bool (v11 == v13))))]) (n := [(107, (.bool (b_api_Place v7 v9))), (110, (.opt (b_api_Place v7 v9) (.bool (v11 == v13))))]) ⟨(.opt _ _ hc), (.half _ _ hc), trivial⟩ (does_and 107 110 (b_api_Place v7 v9) (v11 == v13))), ⟨⟨rfl, rfl, rfl, trivial⟩, trivial, rfl⟩, rfl,
        Step.plain rfl (does_or 103 111 ((v19 && ((!v11) || v13)) || (v21 && ((!v13) || v11))) ((b_api_Place v7 v9) && (v11 == v13))), ⟨⟨rfl, rfl, trivial⟩, trivial, rfl⟩, rfl,
        Step.plain rfl (does_assign (.tmp 112) (.bool (((v19 && ((!v11) || v13)) || (v21 && ((!v13) || v11))) || ((b_api_Place v7 v9) && (v11 == v13)))) trivial), ⟨⟨rfl, trivial⟩, trivial, rfl⟩, rfl, rfl⟩ ?_
      obtain ⟨v23, hv23, H⟩ := lt_of H
      refine aw_cov (cov_prune (s1 := ⟨[(6, (.bool v23))], [], 8⟩) ⟨(by subst hv23; rfl), trivial⟩ trivial (Nat.le_refl _)) ?_
      refine aw_ret ?_
      exact fun a w hr => ⟨_, [(.bool v23)], hr, ⟨⟨_, rfl, .data _ trivial⟩, trivial⟩, by decide, by cases H; rfl⟩
end Go.Proofs.Ytgcnlfchpjbhkaa
