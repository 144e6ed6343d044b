/- Printed by gen.py. Conditions: none. -/
import Derived.Test.YthkgpbjgkchilaaSp1
import Derived.KernelRfl
set_option linter.unusedVariables false
set_option maxRecDepth 100000
namespace Go.Proofs.Ythkgpbjgkchilaa
open Go.Eng
theorem congresslaw07_IdentHighest_spec (p0 : (_root_.List api_Id)) (r : Bool) (H : congresslaw07_IdentHighest p0 = some r) : FSpec Try.prog 4 [(e_s_api_Id p0)] (.bool r) := by
  refine spec_of (fn := Try.f4) (args := [(e_s_api_Id p0)]) Try.func4 rfl (Nat.le_of_ble_eq_true rfl) ?_
  rintro ⟨G, w0, W, S, Sp⟩ hG
  cases hG
  unfold congresslaw07_IdentHighest at H
  refine aw_region (es := [_]) ⟨Step.plain rfl (does_assign (.const (.bool false)) (.bool false) (fun _ => rfl)), ⟨trivial, trivial, rfl⟩, rfl, rfl⟩ ?_
  refine aw_cov (cov_prune (s1 := ⟨[(0, (e_s_api_Id p0))], [], 0⟩) ⟨rfl, trivial⟩ trivial (Nat.le_refl _)) ?_
  refine aw_seq ?_
  obtain ⟨v1, h2, H⟩ := bnd H
  refine aw_region (es := [_, _, _, _, _, _, _]) ⟨Step.plain rfl (does_call 9 0 (fun _ => .any) (.func 9) [] [] [] true [] (.bool v1) _ _ rfl fo9 rfl trivial trivial (congresslaw07_fixed_spec _ h2) trivial), ⟨trivial, trivial, rfl⟩, rfl,
    Step.plain rfl (does_not 4 (.tmp 7) v1 trivial), ⟨⟨rfl, trivial⟩, trivial, rfl⟩, rfl,
    Step.plain rfl (does_move (.tmp 8) (.bool (!v1)) trivial), ⟨⟨rfl, trivial⟩, trivial, rfl⟩, rfl,
    Step.guarded rfl rfl rfl rfl (fun hc => does_move (.tmp 0) (e_s_api_Id p0) trivial), ⟨⟨rfl, rfl, trivial⟩, trivial, rfl⟩, rfl,
    Step.guarded rfl rfl rfl rfl (fun hc => Does.strip (n' := [(10, (.opt (!(!v1)) (e_s_api_Id p0)))]) (n := [(10, (e_s_api_Id p0))]) ⟨(.opt _ _ hc), trivial⟩ (does_lens 28 3 p0.length 10 (fun j => (e_api_Id (p0.getD j z_api_Id))) el28)), ⟨⟨rfl, rfl, trivial⟩, trivial, rfl⟩, rfl,
    Step.guarded rfl rfl rfl rfl (fun hc => Does.strip (n' := [(11, (.opt (!(!v1)) (.int .i64 (p0.length : Int))))]) (n := [(11, (.int .i64 (p0.length : Int)))]) ⟨(.opt _ _ hc), trivial⟩ (does_bin .gtr 3 3 (.tmp 11) (.const (.int .i64 100)) .i64 (p0.length : Int) 100 (.bool (decide ((p0.length : Int) > 100))) trivial (fun _ => rfl) (bin_gtr _ _ _ _))), ⟨⟨rfl, rfl, trivial⟩, trivial, rfl⟩, rfl,
    Step.plain rfl (does_or 9 12 (!v1) (decide ((p0.length : Int) > 100))), ⟨⟨rfl, rfl, trivial⟩, trivial, rfl⟩, rfl, rfl⟩ ?_
  refine aw_cov (cov_prune (s1 := ⟨[(0, (e_s_api_Id p0)), (13, (.bool ((!v1) || (decide ((p0.length : Int) > 100)))))], [], 0⟩) ⟨rfl, rfl, trivial⟩ trivial (Nat.le_refl _)) ?_
  refine aw_cond rfl (fun hc => ?_) (fun hc => ?_)
  · replace H := ite_t hc H
    obtain ⟨v3, h4, H⟩ := bnd H
    refine aw_region (es := [_, _]) ⟨Step.plain rfl (does_call 9 0 (fun _ => .any) (.func 9) [] [] [] true [] (.bool v3) _ _ rfl fo9 rfl trivial trivial (congresslaw07_fixed_spec _ h4) trivial), ⟨trivial, trivial, rfl⟩, rfl,
      Step.plain rfl (does_assign (.tmp 14) (.bool v3) trivial), ⟨⟨rfl, trivial⟩, trivial, rfl⟩, rfl, rfl⟩ ?_
    refine aw_cov (cov_prune (s1 := ⟨[(2, (.bool v3))], [], 0⟩) ⟨rfl, trivial⟩ trivial (Nat.le_refl _)) ?_
    refine aw_ret ?_
    refine rt_then ?_
    exact fun a w hr => ⟨_, [(.bool v3)], hr, ⟨⟨_, rfl, .data _ trivial⟩, trivial⟩, by decide, by cases H; rfl⟩
  · replace H := ite_f hc H
    refine aw_skip ?_
    refine nx_seq ?_
    obtain ⟨v5, h6, H⟩ := bnd H
    refine aw_region (es := [_, _, _, _]) ⟨Step.plain rfl (does_move (.tmp 0) (e_s_api_Id p0) trivial), ⟨⟨rfl, trivial⟩, trivial, rfl⟩, rfl,
      Step.plain rfl (does_call 10 0 (fun _ => .any) (.func 10) [(.tmp 15)] [(e_s_api_Id p0)] [] true [(e_s_api_Id p0)] (e_api_Id v5) _ _ rfl fo10 rfl ⟨trivial, trivial⟩ ⟨.data _ (d_s_api_Id p0), trivial⟩ (ident_Highest_spec p0 _ h6) (f_api_Id v5)), ⟨⟨rfl, trivial⟩, trivial, rfl⟩, rfl,
      Step.plain rfl (does_alloc 24 0 (e_api_Id z_api_Id) zr24), ⟨trivial, trivial, rfl⟩, rfl,
      Step.plain rfl (does_store 24 3 (.tmp 16) 0 0 [] (.var (e_api_Id z_api_Id)) (.var (e_api_Id v5)) (e_api_Id v5) true trivial rfl trivial rfl rfl rfl ty24), ⟨⟨rfl, rfl, trivial⟩, ⟨rfl, trivial⟩, rfl⟩, rfl, rfl⟩ ?_
    refine aw_cov (cov_prune (s1 := ⟨[(0, (e_s_api_Id p0)), (3, (.ptr 0 0 []))], [(0, some (.var (e_api_Id v5)))], 1⟩) ⟨rfl, rfl, trivial⟩ ⟨rfl, trivial⟩ (Nat.le_refl _)) ?_
    refine aw_region (es := [_, _, _, _]) ⟨Step.plain rfl (does_load 24 3 0 0 [] (.var (e_api_Id v5)) (e_api_Id v5) trivial rfl rfl ty24), ⟨⟨rfl, trivial⟩, ⟨rfl, trivial⟩, rfl⟩, rfl,
      Step.plain rfl (does_buildT 24 #[] [] [] (.st [1, 1, 1]) (c_api_Id z_api_Id) (c_api_Id ({ Epoch := 0, Coord := 0, Inc := 0 } : api_Id)) rfl bo24 trivial trivial (by funext j; match j with | 0 => rfl | 1 => rfl | 2 => rfl | _ + 3 => rfl)), ⟨trivial, trivial, rfl⟩, rfl,
      Step.plain rfl (does_eqT false 24 24 (.tmp 17) (.tmp 18) (e_api_Id v5) (e_api_Id ({ Epoch := 0, Coord := 0, Inc := 0 } : api_Id)) (e_api_Id z_api_Id) (b_api_Id v5 ({ Epoch := 0, Coord := 0, Inc := 0 } : api_Id)) rfl rfl trivial trivial eg24 sh24 (al_api_Id _ _) (al_api_Id _ _) (q_api_Id _ _)), ⟨⟨rfl, rfl, trivial⟩, trivial, rfl⟩, rfl,
      Step.plain rfl (does_assign (.tmp 19) (.bool (b_api_Id v5 ({ Epoch := 0, Coord := 0, Inc := 0 } : api_Id))) trivial), ⟨⟨rfl, trivial⟩, trivial, rfl⟩, rfl, rfl⟩ ?_
    refine aw_cov (cov_prune (s1 := ⟨[(0, (e_s_api_Id p0)), (3, (.ptr 0 0 [])), (4, (.bool (b_api_Id v5 ({ Epoch := 0, Coord := 0, Inc := 0 } : api_Id))))], [(0, some (.var (e_api_Id v5)))], 1⟩) ⟨rfl, rfl, rfl, trivial⟩ ⟨rfl, trivial⟩ (Nat.le_refl _)) ?_
    refine aw_region (es := [_, _]) ⟨Step.plain rfl (does_buildOwn 28 0 3 1 (e_api_Id z_api_Id) (fun j => (e_api_Id (([] : _root_.List api_Id).getD j z_api_Id))) #[] [] [] rfl so28 (by decide) trivial trivial (fun j h => match j, h with  | k + 0, h => absurd h (by omega))), ⟨trivial, trivial, rfl⟩, rfl,
      Step.plain rfl (does_assign (.tmp 20) (.own 1) trivial), ⟨⟨rfl, trivial⟩, trivial, rfl⟩, rfl, rfl⟩ ?_
    refine aw_cov (cov_prune (s1 := ⟨[(0, (e_s_api_Id p0)), (3, (.ptr 0 0 [])), (4, (.bool (b_api_Id v5 ({ Epoch := 0, Coord := 0, Inc := 0 } : api_Id)))), (5, (.own 1))], [(0, some (.var (e_api_Id v5))), (1, some (.arr 3 ([] : _root_.List api_Id).length fun j => (e_api_Id (([] : _root_.List api_Id).getD j z_api_Id))))], 2⟩) ⟨rfl, rfl, rfl, rfl, trivial⟩ ⟨rfl, rfl, trivial⟩ (Nat.le_refl _)) ?_
    refine aw_seq ?_
    refine aw_region (es := [_]) ⟨Step.plain rfl (does_assign (.const (.int .i64 0)) (.int .i64 0) (fun _ => rfl)), ⟨trivial, trivial, rfl⟩, rfl, rfl⟩ ?_
    refine aw_cov (cov_prune (s1 := ⟨[(0, (e_s_api_Id p0)), (3, (.ptr 0 0 [])), (4, (.bool (b_api_Id v5 ({ Epoch := 0, Coord := 0, Inc := 0 } : api_Id)))), (5, (.own 1)), (6, (.int .i64 0))], [(0, some (.var (e_api_Id v5))), (1, some (.arr 3 ([] : _root_.List api_Id).length fun j => (e_api_Id (([] : _root_.List api_Id).getD j z_api_Id))))], 2⟩) ⟨rfl, rfl, rfl, rfl, rfl, trivial⟩ ⟨rfl, rfl, trivial⟩ (Nat.le_refl _)) ?_
    obtain ⟨wn8, hwn8, Hrn8⟩ := bnd H
    refine aw_meet (fun y16 : Bool × _root_.List api_Id => (⟨[(3, (.ptr 0 0 [])), (4, (.bool y16.1)), (5, (.own 1))], [(0, some (.var (e_api_Id v5))), (1, some (.arr 3 y16.2.length fun j => (e_api_Id (y16.2.getD j z_api_Id))))], 2⟩ : St)) (fun y16 => Fl.nx y16 = wn8) (fun y16 hy => ?_) (aw_block (aw_runs (fun x7 : Bool × Int × _root_.List api_Id => (⟨[(0, (e_s_api_Id p0)), (3, (.ptr 0 0 [])), (4, (.bool x7.1)), (5, (.own 1)), (6, (.int .i64 x7.2.1))], [(0, some (.var (e_api_Id v5))), (1, some (.arr 3 x7.2.2.length fun j => (e_api_Id (x7.2.2.getD j z_api_Id))))], 2⟩ : St)) hwn8 (cov_prune ⟨rfl, rfl, rfl, rfl, rfl, trivial⟩ ⟨rfl, rfl, trivial⟩ (Nat.le_of_ble_eq_true rfl)) (fun x7 st H hsn8 => ?_)))
    · have H := nx_of hy Hrn8
      refine nx_seq ?_
      obtain ⟨v17, h18, H⟩ := whn_of H
      refine aw_draw (es := [_, _, _, _, _, _, _, _]) (mixed) ⟨Step.plain rfl (does_move (.tmp 4) (.bool y16.1) trivial), ⟨⟨rfl, trivial⟩, trivial, rfl⟩, rfl,
        Step.plain rfl (does_move (.tmp 54) (.bool y16.1) trivial), ⟨⟨rfl, trivial⟩, trivial, rfl⟩, rfl,
        Step.guarded rfl rfl rfl rfl (fun hc => does_move (.tmp 5) (.own 1) trivial), ⟨⟨rfl, rfl, trivial⟩, trivial, rfl⟩, rfl,
        Step.guarded rfl rfl rfl rfl (fun hc => Does.strip (n' := [(56, (.opt y16.1 (.own 1)))]) (n := [(56, (.own 1))]) ⟨(.opt _ _ hc), trivial⟩ (does_call 10 0 (fun _ => .any) (.func 10) [(.tmp 56)] [(.own 1)] [(1, (.arr 3 y16.2.length fun j => (e_api_Id (y16.2.getD j z_api_Id))))] true [(e_s_api_Id y16.2)] (e_api_Id v17) _ _ rfl fo10 rfl ⟨trivial, trivial⟩ ⟨.own 1 _ _ _ (by simp) rfl (fun _ => (d_api_Id _)), trivial⟩ (ident_Highest_spec y16.2 _ (h18 hc)) (f_api_Id v17))), ⟨⟨rfl, rfl, trivial⟩, ⟨rfl, trivial⟩, rfl⟩, rfl,
        Step.guarded rfl rfl rfl rfl (fun hc => does_load 24 3 0 0 [] (.var (e_api_Id v5)) (e_api_Id v5) trivial rfl rfl ty24), ⟨⟨rfl, rfl, trivial⟩, ⟨rfl, trivial⟩, rfl⟩, rfl,
        Step.guarded rfl rfl rfl rfl (fun hc => Does.strip (n' := [(57, (.opt y16.1 (e_api_Id v17))), (58, (.opt y16.1 (e_api_Id v5)))]) (n := [(57, (e_api_Id v17)), (58, (e_api_Id v5))]) ⟨(.opt _ _ hc), (.opt _ _ hc), trivial⟩ (does_eqT false 24 24 (.tmp 57) (.tmp 58) (e_api_Id v17) (e_api_Id v5) (e_api_Id z_api_Id) (b_api_Id v17 v5) rfl rfl trivial trivial eg24 sh24 (al_api_Id _ _) (al_api_Id _ _) (q_api_Id _ _))), ⟨⟨rfl, rfl, rfl, trivial⟩, trivial, rfl⟩, rfl,
        Step.plain rfl (does_and 55 59 y16.1 (b_api_Id v17 v5)), ⟨⟨rfl, rfl, trivial⟩, trivial, rfl⟩, rfl,
        Step.plain rfl (does_assign (.tmp 60) (.bool (y16.1 && (b_api_Id v17 v5))) trivial), ⟨⟨rfl, trivial⟩, trivial, rfl⟩, rfl, rfl⟩ rfl ?_
      refine aw_cov (cov_prune (s1 := ⟨[(2, (.bool (y16.1 && (b_api_Id v17 v5))))], [], 2⟩) ⟨rfl, trivial⟩ trivial (Nat.le_refl _)) ?_
      refine aw_ret ?_
      exact fun a w hr => ⟨_, [(.bool (y16.1 && (b_api_Id v17 v5)))], hr, ⟨⟨_, rfl, .data _ trivial⟩, trivial⟩, by decide, by cases H; rfl⟩
    · refine aw_seq ?_
      refine aw_region (es := [_, _, _, _]) ⟨Step.plain rfl (does_move (.tmp 6) (.int .i64 x7.2.1) trivial), ⟨⟨rfl, trivial⟩, trivial, rfl⟩, rfl,
        Step.plain rfl (does_move (.tmp 0) (e_s_api_Id p0) trivial), ⟨⟨rfl, trivial⟩, trivial, rfl⟩, rfl,
        Step.plain rfl (does_lens 28 3 p0.length 22 (fun j => (e_api_Id (p0.getD j z_api_Id))) el28), ⟨⟨rfl, trivial⟩, trivial, rfl⟩, rfl,
        Step.plain rfl (does_bin .lss 3 3 (.tmp 21) (.tmp 23) .i64 x7.2.1 (p0.length : Int) (.bool (decide (x7.2.1 < (p0.length : Int)))) trivial trivial (bin_lss _ _ _ _)), ⟨⟨rfl, rfl, trivial⟩, trivial, rfl⟩, rfl, rfl⟩ ?_
      refine aw_cov (cov_prune (s1 := ⟨[(0, (e_s_api_Id p0)), (3, (.ptr 0 0 [])), (4, (.bool x7.1)), (5, (.own 1)), (6, (.int .i64 x7.2.1)), (24, (.bool (decide (x7.2.1 < (p0.length : Int)))))], [(0, some (.var (e_api_Id v5))), (1, some (.arr 3 x7.2.2.length fun j => (e_api_Id (x7.2.2.getD j z_api_Id))))], 2⟩) ⟨rfl, rfl, rfl, rfl, rfl, rfl, trivial⟩ ⟨rfl, rfl, trivial⟩ (Nat.le_refl _)) ?_
      refine aw_cond rfl (fun hc => ?_) (fun hc => ?_)
      · replace H := ite_t hc H
        refine aw_skip ?_
        refine nx_seq ?_
        refine aw_seq ?_
        refine aw_block ?_
        obtain ⟨h9, H⟩ := ibg_of H
        refine aw_draw (es := [_, _, _, _, _, _, _, _, _, _]) (mixed) ⟨Step.plain rfl (does_move (.tmp 4) (.bool x7.1) trivial), ⟨⟨rfl, trivial⟩, trivial, rfl⟩, rfl,
          Step.plain rfl (does_move (.tmp 27) (.bool x7.1) trivial), ⟨⟨rfl, trivial⟩, trivial, rfl⟩, rfl,
          Step.guarded rfl rfl rfl rfl (fun hc => does_move (.tmp 0) (e_s_api_Id p0) trivial), ⟨⟨rfl, rfl, trivial⟩, trivial, rfl⟩, rfl,
          Step.guarded rfl rfl rfl rfl (fun hc => does_move (.tmp 6) (.int .i64 x7.2.1) trivial), ⟨⟨rfl, rfl, trivial⟩, trivial, rfl⟩, rfl,
          Step.guarded rfl rfl rfl rfl (fun hc => Does.strip (n' := [(29, (.opt (!x7.1) (e_s_api_Id p0))), (30, (.opt (!x7.1) (.int .i64 x7.2.1)))]) (n := [(29, (e_s_api_Id p0)), (30, (.int .i64 x7.2.1))]) ⟨(.opt _ _ hc), (.opt _ _ hc), trivial⟩ (does_indexAddrs 28 3 p0.length 29 (fun j => (e_api_Id (p0.getD j z_api_Id))) (.tmp 30) .i64 x7.2.1 el28 trivial (h9 hc).1 (h9 hc).2)), ⟨⟨rfl, rfl, rfl, trivial⟩, trivial, rfl⟩, rfl,
          Step.guarded rfl rfl rfl rfl (fun hc => Does.strip (n' := [(31, (.opt (!x7.1) (.cptr (e_api_Id (p0.getD x7.2.1.toNat z_api_Id)))))]) (n := [(31, (.cptr (e_api_Id (p0.getD x7.2.1.toNat z_api_Id))))]) ⟨(.opt _ _ hc), trivial⟩ (does_loadc 24 31 (e_api_Id (p0.getD x7.2.1.toNat z_api_Id)) ty24)), ⟨⟨rfl, rfl, trivial⟩, trivial, rfl⟩, rfl,
          Step.guarded rfl rfl rfl rfl (fun hc => does_load 24 3 0 0 [] (.var (e_api_Id v5)) (e_api_Id v5) trivial rfl rfl ty24), ⟨⟨rfl, rfl, trivial⟩, ⟨rfl, trivial⟩, rfl⟩, rfl,
          Step.guarded rfl rfl rfl rfl (fun hc => Does.strip (n' := [(32, (.opt (!x7.1) (e_api_Id (p0.getD x7.2.1.toNat z_api_Id)))), (33, (.opt (!x7.1) (e_api_Id v5)))]) (n := [(32, (e_api_Id (p0.getD x7.2.1.toNat z_api_Id))), (33, (e_api_Id v5))]) ⟨(.opt _ _ hc), (.opt _ _ hc), trivial⟩ (does_eqT false 24 24 (.tmp 32) (.tmp 33) (e_api_Id (p0.getD x7.2.1.toNat z_api_Id)) (e_api_Id v5) (e_api_Id z_api_Id) (b_api_Id (p0.getD x7.2.1.toNat z_api_Id) v5) rfl rfl trivial trivial eg24 sh24 (al_api_Id _ _) (al_api_Id _ _) (q_api_Id _ _))), ⟨⟨rfl, rfl, rfl, trivial⟩, trivial, rfl⟩, rfl,
          Step.plain rfl (does_or 28 34 x7.1 (b_api_Id (p0.getD x7.2.1.toNat z_api_Id) v5)), ⟨⟨rfl, rfl, trivial⟩, trivial, rfl⟩, rfl,
          Step.plain rfl (does_assign (.tmp 35) (.bool (x7.1 || (b_api_Id (p0.getD x7.2.1.toNat z_api_Id) v5))) trivial), ⟨⟨rfl, trivial⟩, trivial, rfl⟩, rfl, rfl⟩ rfl ?_
        refine aw_cov (cov_prune (s1 := ⟨[(0, (e_s_api_Id p0)), (3, (.ptr 0 0 [])), (5, (.own 1)), (6, (.int .i64 x7.2.1)), (4, (.bool (x7.1 || (b_api_Id (p0.getD x7.2.1.toNat z_api_Id) v5))))], [(0, some (.var (e_api_Id v5))), (1, some (.arr 3 x7.2.2.length fun j => (e_api_Id (x7.2.2.getD j z_api_Id))))], 2⟩) ⟨rfl, rfl, rfl, rfl, rfl, trivial⟩ ⟨rfl, rfl, trivial⟩ (Nat.le_refl _)) ?_
        obtain ⟨h10, H⟩ := ib_of H
        obtain ⟨h11, H⟩ := fit_of H
        refine aw_region (es := [_, _, _, _, _, _, _, _, _, _, _, _]) ⟨Step.plain rfl (does_move (.tmp 5) (.own 1) trivial), ⟨⟨rfl, trivial⟩, trivial, rfl⟩, rfl,
          Step.plain rfl (does_move (.tmp 0) (e_s_api_Id p0) trivial), ⟨⟨rfl, trivial⟩, trivial, rfl⟩, rfl,
          Step.plain rfl (does_move (.tmp 0) (e_s_api_Id p0) trivial), ⟨⟨rfl, trivial⟩, trivial, rfl⟩, rfl,
          Step.plain rfl (does_lens 28 3 p0.length 38 (fun j => (e_api_Id (p0.getD j z_api_Id))) el28), ⟨⟨rfl, trivial⟩, trivial, rfl⟩, rfl,
          Step.plain rfl (does_bin .sub 3 3 (.tmp 39) (.const (.int .i64 1)) .i64 (p0.length : Int) 1 (.int .i64 (IntKind.i64.wrap ((p0.length : Int) - 1))) trivial (fun _ => rfl) (bin_sub _ _ _ _)), ⟨⟨rfl, trivial⟩, trivial, rfl⟩, rfl,
          Step.plain rfl (does_move (.tmp 6) (.int .i64 x7.2.1) trivial), ⟨⟨rfl, trivial⟩, trivial, rfl⟩, rfl,
          Step.plain rfl (does_bin .sub 3 3 (.tmp 40) (.tmp 41) .i64 (IntKind.i64.wrap ((p0.length : Int) - 1)) x7.2.1 (.int .i64 (IntKind.i64.wrap ((IntKind.i64.wrap ((p0.length : Int) - 1)) - x7.2.1))) trivial trivial (bin_sub _ _ _ _)), ⟨⟨rfl, rfl, trivial⟩, trivial, rfl⟩, rfl,
          Step.plain rfl (does_indexAddrs 28 3 p0.length 37 (fun j => (e_api_Id (p0.getD j z_api_Id))) (.tmp 42) .i64 (IntKind.i64.wrap ((IntKind.i64.wrap ((p0.length : Int) - 1)) - x7.2.1)) el28 trivial h10.1 h10.2), ⟨⟨rfl, rfl, trivial⟩, trivial, rfl⟩, rfl,
          Step.plain rfl (does_loadc 24 43 (e_api_Id (p0.getD ((IntKind.i64.wrap ((IntKind.i64.wrap ((p0.length : Int) - 1)) - x7.2.1)).toNat) z_api_Id)) ty24), ⟨⟨rfl, trivial⟩, trivial, rfl⟩, rfl,
          Step.plain rfl (does_buildSl 28 1 3 (e_api_Id z_api_Id) (fun j => (e_api_Id (([p0.getD ((IntKind.i64.wrap ((IntKind.i64.wrap ((p0.length : Int) - 1)) - x7.2.1)).toNat) z_api_Id] : _root_.List api_Id).getD j z_api_Id))) #[(0, (.tmp 44))] [(0, (.tmp 44))] [(0, (e_api_Id (p0.getD ((IntKind.i64.wrap ((IntKind.i64.wrap ((p0.length : Int) - 1)) - x7.2.1)).toNat) z_api_Id)))] rfl so28 (by decide) ⟨⟨rfl, trivial⟩, trivial⟩ ⟨⟨Nat.le_of_ble_eq_true rfl, rfl, rfl⟩, trivial⟩ (fun j h => match j, h with | 0, _ => rfl | k + 1, h => absurd h (by omega))), ⟨⟨rfl, trivial⟩, trivial, rfl⟩, rfl,
          Step.plain rfl (does_appendL e_api_Id z_api_Id x7.2.2 ([p0.getD ((IntKind.i64.wrap ((IntKind.i64.wrap ((p0.length : Int) - 1)) - x7.2.1)).toNat) z_api_Id] : _root_.List api_Id) 28 3 12 1 2 36 45 ap28 h11), ⟨⟨rfl, rfl, trivial⟩, ⟨rfl, trivial⟩, rfl⟩, rfl,
          Step.plain rfl (does_assign (.tmp 46) (.own 2) trivial), ⟨⟨rfl, trivial⟩, trivial, rfl⟩, rfl, rfl⟩ ?_
        obtain ⟨v12, hv12, H⟩ := lt_of H
        refine aw_cov (cov_prune (s1 := ⟨[(0, (e_s_api_Id p0)), (3, (.ptr 0 0 [])), (6, (.int .i64 x7.2.1)), (4, (.bool (x7.1 || (b_api_Id (p0.getD x7.2.1.toNat z_api_Id) v5)))), (5, (.own 2))], [(0, some (.var (e_api_Id v5))), (2, some (.arr 3 v12.length fun j => (e_api_Id (v12.getD j z_api_Id))))], 3⟩) ⟨rfl, rfl, rfl, rfl, rfl, trivial⟩ ⟨rfl, (by subst hv12; rfl), trivial⟩ (Nat.le_refl _)) ?_
        obtain ⟨h13, H⟩ := ib_of H
        obtain ⟨v14, h15, H⟩ := bnd H
        refine aw_draw (es := [_, _, _, _, _, _, _]) (mixed) ⟨Step.plain rfl (does_move (.tmp 0) (e_s_api_Id p0) trivial), ⟨⟨rfl, trivial⟩, trivial, rfl⟩, rfl,
          Step.plain rfl (does_move (.tmp 6) (.int .i64 x7.2.1) trivial), ⟨⟨rfl, trivial⟩, trivial, rfl⟩, rfl,
          Step.plain rfl (does_indexAddrs 28 3 p0.length 47 (fun j => (e_api_Id (p0.getD j z_api_Id))) (.tmp 48) .i64 x7.2.1 el28 trivial h13.1 h13.2), ⟨⟨rfl, rfl, trivial⟩, trivial, rfl⟩, rfl,
          Step.plain rfl (does_loadc 24 49 (e_api_Id (p0.getD x7.2.1.toNat z_api_Id)) ty24), ⟨⟨rfl, trivial⟩, trivial, rfl⟩, rfl,
          Step.plain rfl (does_load 24 3 0 0 [] (.var (e_api_Id v5)) (e_api_Id v5) trivial rfl rfl ty24), ⟨⟨rfl, trivial⟩, ⟨rfl, trivial⟩, rfl⟩, rfl,
          Step.plain rfl (does_call 8 0 (fun _ => .any) (.func 8) [(.tmp 50), (.tmp 51)] [(e_api_Id (p0.getD x7.2.1.toNat z_api_Id)), (e_api_Id v5)] [] true [(e_api_Id (p0.getD x7.2.1.toNat z_api_Id)), (e_api_Id v5)] (.int .i64 v14) _ _ rfl fo8 rfl ⟨trivial, trivial, trivial⟩ ⟨.data _ (d_api_Id (p0.getD x7.2.1.toNat z_api_Id)), .data _ (d_api_Id v5), trivial⟩ (ident_Compare_spec (p0.getD x7.2.1.toNat z_api_Id) v5 _ h15) trivial), ⟨⟨rfl, rfl, trivial⟩, trivial, rfl⟩, rfl,
          Step.plain rfl (does_bin .gtr 3 3 (.tmp 52) (.const (.int .i64 0)) .i64 v14 0 (.bool (decide (v14 > 0))) trivial (fun _ => rfl) (bin_gtr _ _ _ _)), ⟨⟨rfl, trivial⟩, trivial, rfl⟩, rfl, rfl⟩ rfl ?_
        refine aw_cov (cov_prune (s1 := ⟨[(0, (e_s_api_Id p0)), (3, (.ptr 0 0 [])), (6, (.int .i64 x7.2.1)), (4, (.bool (x7.1 || (b_api_Id (p0.getD x7.2.1.toNat z_api_Id) v5)))), (5, (.own 2)), (53, (.bool (decide (v14 > 0))))], [(0, some (.var (e_api_Id v5))), (2, some (.arr 3 v12.length fun j => (e_api_Id (v12.getD j z_api_Id))))], 3⟩) ⟨rfl, rfl, rfl, rfl, rfl, rfl, trivial⟩ ⟨rfl, rfl, trivial⟩ (Nat.le_refl _)) ?_
        refine aw_cond rfl (fun hc => ?_) (fun hc => ?_)
        · replace H := ite_t hc H
          refine aw_region (es := [_]) ⟨Step.plain rfl (does_assign (.const (.bool false)) (.bool false) (fun _ => rfl)), ⟨trivial, trivial, rfl⟩, rfl, rfl⟩ ?_
          refine aw_cov (cov_prune (s1 := ⟨[(2, (.bool false))], [], 3⟩) ⟨rfl, trivial⟩ trivial (Nat.le_refl _)) ?_
          refine aw_ret ?_
          replace H := rt_of H hsn8 Hrn8
          refine rt_blk ?_
          refine rt_then ?_
          refine rt_then ?_
          refine rt_blk ?_
          refine rt_then ?_
          refine rt_then ?_
          exact fun a w hr => ⟨_, [(.bool false)], hr, ⟨⟨_, rfl, .data _ trivial⟩, trivial⟩, by decide, by cases H; rfl⟩
        · replace H := ite_f hc H
          refine aw_skip ?_
          refine nx_blk ?_
          refine nx_seq ?_
          refine aw_region1 (es := [_, _, _]) ⟨Step.plain rfl (does_move (.tmp 6) (.int .i64 x7.2.1) trivial), ⟨⟨rfl, trivial⟩, trivial, rfl⟩, rfl,
            Step.plain rfl (does_bin .add 3 3 (.tmp 25) (.const (.int .i64 1)) .i64 x7.2.1 1 (.int .i64 (IntKind.i64.wrap (x7.2.1 + 1))) trivial (fun _ => rfl) (bin_add _ _ _ _)), ⟨⟨rfl, trivial⟩, trivial, rfl⟩, rfl,
            Step.plain rfl (does_assign (.tmp 26) (.int .i64 (IntKind.i64.wrap (x7.2.1 + 1))) trivial), ⟨⟨rfl, trivial⟩, trivial, rfl⟩, rfl, rfl⟩ ?_
          exact nx_loop ((x7.1 || (b_api_Id (p0.getD x7.2.1.toNat z_api_Id) v5)), (IntKind.i64.wrap (x7.2.1 + 1)), v12) H (cov_of (fun i => match i with | 0 => 0 | 1 => 2 | k => k) ⟨⟨_, rfl, ⟨rfl, (d_s_api_Id _).plain⟩⟩, ⟨_, rfl, ⟨rfl, Nat.le_of_ble_eq_true rfl⟩⟩, ⟨_, rfl, ⟨rfl, trivial⟩⟩, ⟨_, rfl, ⟨rfl, Nat.le_of_ble_eq_true rfl⟩⟩, ⟨_, rfl, ⟨rfl, trivial⟩⟩, trivial⟩ ⟨⟨Nat.le_of_ble_eq_true rfl, _, _, rfl, rfl, .inl ⟨rfl, (d_api_Id _).plain⟩⟩, ⟨Nat.le_of_ble_eq_true rfl, _, _, rfl, rfl, ⟨rfl, rfl, fun _ => .inl ⟨rfl, (d_api_Id _).plain⟩⟩⟩, trivial⟩ rfl)
      · replace H := ite_f hc H
        refine aw_exit ?_
        refine ex_then ?_
        refine ex_then ?_
        refine ex_here ?_
        exact nx_ljoin (x7.1, x7.2.2) H hsn8 (cov_prune ⟨rfl, rfl, rfl, trivial⟩ ⟨rfl, rfl, trivial⟩ (Nat.le_of_ble_eq_true rfl))

theorem congresslaw07_IdentMembers_spec (p0 : (Nat → Int)) (r : Bool) (H : congresslaw07_IdentMembers p0 = some r) : FSpec Try.prog 5 [(e_a8_u32 p0)] (.bool r) := by
  refine spec_of (fn := Try.f5) (args := [(e_a8_u32 p0)]) Try.func5 rfl (Nat.le_of_ble_eq_true rfl) ?_
  rintro ⟨G, w0, W, S, Sp⟩ hG
  cases hG
  unfold congresslaw07_IdentMembers at H
  refine aw_region (es := [_, _]) ⟨Step.plain rfl (does_box 32 (.tmp 0) 0 (e_a8_u32 p0) trivial rfl), ⟨⟨rfl, trivial⟩, trivial, rfl⟩, rfl,
    Step.plain rfl (does_assign (.const (.bool false)) (.bool false) (fun _ => rfl)), ⟨trivial, trivial, rfl⟩, rfl, rfl⟩ ?_
  refine aw_cov (cov_prune (s1 := ⟨[(1, (.ptr 0 0 []))], [(0, some (.var (e_a8_u32 p0)))], 1⟩) ⟨rfl, trivial⟩ ⟨rfl, trivial⟩ (Nat.le_refl _)) ?_
  obtain ⟨v1, h2, H⟩ := bnd H
  refine aw_region (es := [_, _, _]) ⟨Step.plain rfl (does_load 32 1 0 0 [] (.var (e_a8_u32 p0)) (e_a8_u32 p0) trivial rfl rfl ty32), ⟨⟨rfl, trivial⟩, ⟨rfl, trivial⟩, rfl⟩, rfl,
    Step.plain rfl (does_call 11 0 (fun _ => .any) (.func 11) [(.tmp 9)] [(e_a8_u32 p0)] [] false [(e_a8_u32 p0)] (e_s_i64 v1) _ _ rfl fo11 rfl ⟨trivial, trivial⟩ ⟨.data _ (d_a8_u32 p0), trivial⟩ (ident_List_spec p0 _ h2) (d_s_i64 v1)), ⟨⟨rfl, trivial⟩, trivial, rfl⟩, rfl,
    Step.plain rfl (does_assign (.tmp 10) (e_s_i64 v1) trivial), ⟨⟨rfl, trivial⟩, trivial, rfl⟩, rfl, rfl⟩ ?_
  refine aw_cov (cov_prune (s1 := ⟨[(1, (.ptr 0 0 [])), (3, (e_s_i64 v1))], [(0, some (.var (e_a8_u32 p0)))], 1⟩) ⟨rfl, rfl, trivial⟩ ⟨rfl, trivial⟩ (Nat.le_refl _)) ?_
  obtain ⟨v3, h4, H⟩ := bnd H
  refine aw_region (es := [_, _, _, _, _, _, _]) ⟨Step.plain rfl (does_load 32 1 0 0 [] (.var (e_a8_u32 p0)) (e_a8_u32 p0) trivial rfl rfl ty32), ⟨⟨rfl, trivial⟩, ⟨rfl, trivial⟩, rfl⟩, rfl,
    Step.plain rfl (does_call 12 0 (fun _ => .any) (.func 12) [(.tmp 12)] [(e_a8_u32 p0)] [] true [(e_a8_u32 p0)] (resV [(.int .i64 v3.1), (.bool v3.2)]) _ _ rfl fo12 rfl ⟨trivial, trivial⟩ ⟨.data _ (d_a8_u32 p0), trivial⟩ (ident_Least_spec p0 _ h4) (res_flat2 trivial trivial)), ⟨⟨rfl, trivial⟩, trivial, rfl⟩, rfl,
    Step.plain rfl (does_move (.tmp 13) (resV [(.int .i64 v3.1), (.bool v3.2)]) trivial), ⟨⟨rfl, trivial⟩, trivial, rfl⟩, rfl,
    Step.plain rfl (does_extract 11 0 2 (fun j => [(.int .i64 v3.1), (.bool v3.2)].getD j (.bool false)) (Nat.le_of_ble_eq_true rfl)), ⟨⟨rfl, trivial⟩, trivial, rfl⟩, rfl,
    Step.plain rfl (does_extract 11 1 2 (fun j => [(.int .i64 v3.1), (.bool v3.2)].getD j (.bool false)) (Nat.le_of_ble_eq_true rfl)), ⟨⟨rfl, trivial⟩, trivial, rfl⟩, rfl,
    Step.plain rfl (does_assign (.tmp 14) (.int .i64 v3.1) trivial), ⟨⟨rfl, trivial⟩, trivial, rfl⟩, rfl,
    Step.plain rfl (does_assign (.tmp 15) (.bool v3.2) trivial), ⟨⟨rfl, trivial⟩, trivial, rfl⟩, rfl, rfl⟩ ?_
  refine aw_cov (cov_prune (s1 := ⟨[(1, (.ptr 0 0 [])), (3, (e_s_i64 v1)), (4, (.int .i64 v3.1)), (5, (.bool v3.2))], [(0, some (.var (e_a8_u32 p0)))], 1⟩) ⟨rfl, rfl, rfl, rfl, trivial⟩ ⟨rfl, trivial⟩ (Nat.le_refl _)) ?_
  refine aw_seq ?_
  obtain ⟨v5, h6, H⟩ := bnd H
  obtain ⟨v7, h8, H⟩ := whn_of H
  refine aw_region (es := [_, _, _, _, _, _, _, _, _, _, _, _, _, _, _, _]) ⟨Step.plain rfl (does_call 9 0 (fun _ => .any) (.func 9) [] [] [] true [] (.bool v5) _ _ rfl fo9 rfl trivial trivial (congresslaw07_fixed_spec _ h6) trivial), ⟨trivial, trivial, rfl⟩, rfl,
    Step.plain rfl (does_not 4 (.tmp 16) v5 trivial), ⟨⟨rfl, trivial⟩, trivial, rfl⟩, rfl,
    Step.plain rfl (does_move (.tmp 17) (.bool (!v5)) trivial), ⟨⟨rfl, trivial⟩, trivial, rfl⟩, rfl,
    Step.guarded rfl rfl rfl rfl (fun hc => does_move (.tmp 5) (.bool v3.2) trivial), ⟨⟨rfl, rfl, trivial⟩, trivial, rfl⟩, rfl,
    Step.guarded rfl rfl rfl rfl (fun hc => does_move (.tmp 3) (e_s_i64 v1) trivial), ⟨⟨rfl, rfl, trivial⟩, trivial, rfl⟩, rfl,
    Step.guarded rfl rfl rfl rfl (fun hc => Does.strip (n' := [(20, (.opt (!(!v5)) (e_s_i64 v1)))]) (n := [(20, (e_s_i64 v1))]) ⟨(.opt _ _ hc), trivial⟩ (does_lens 33 1 v1.length 20 (fun j => (.int .i64 (v1.getD j 0))) el33)), ⟨⟨rfl, rfl, trivial⟩, trivial, rfl⟩, rfl,
    Step.guarded rfl rfl rfl rfl (fun hc => Does.strip (n' := [(21, (.opt (!(!v5)) (.int .i64 (v1.length : Int))))]) (n := [(21, (.int .i64 (v1.length : Int)))]) ⟨(.opt _ _ hc), trivial⟩ (does_bin .gtr 3 3 (.tmp 21) (.const (.int .i64 0)) .i64 (v1.length : Int) 0 (.bool (decide ((v1.length : Int) > 0))) trivial (fun _ => rfl) (bin_gtr _ _ _ _))), ⟨⟨rfl, rfl, trivial⟩, trivial, rfl⟩, rfl,
    Step.guarded rfl rfl rfl rfl (fun hc => Does.strip (n' := [(19, (.opt (!(!v5)) (.bool v3.2))), (22, (.opt (!(!v5)) (.bool (decide ((v1.length : Int) > 0)))))]) (n := [(19, (.bool v3.2)), (22, (.bool (decide ((v1.length : Int) > 0))))]) ⟨(.opt _ _ hc), (.opt _ _ hc), trivial⟩ (does_eqBool true 4 4 (.tmp 19) (.tmp 22) v3.2 (decide ((v1.length : Int) > 0)) trivial trivial rfl)), ⟨⟨rfl, rfl, rfl, trivial⟩, trivial, rfl⟩, rfl,
    Step.plain rfl (does_or 18 23 (!v5) (v3.2 != (decide ((v1.length : Int) > 0)))), ⟨⟨rfl, rfl, trivial⟩, trivial, rfl⟩, rfl,
    Step.plain rfl (does_move (.tmp 24) (.bool ((!v5) || (v3.2 != (decide ((v1.length : Int) > 0))))) trivial), ⟨⟨rfl, trivial⟩, trivial, rfl⟩, rfl,
    Step.guarded rfl rfl rfl rfl (fun hc => does_load 32 1 0 0 [] (.var (e_a8_u32 p0)) (e_a8_u32 p0) trivial rfl rfl ty32), ⟨⟨rfl, rfl, trivial⟩, ⟨rfl, trivial⟩, rfl⟩, rfl,
    Step.guarded rfl rfl rfl rfl (fun hc => Does.strip (n' := [(26, (.opt (!((!v5) || (v3.2 != (decide ((v1.length : Int) > 0))))) (e_a8_u32 p0)))]) (n := [(26, (e_a8_u32 p0))]) ⟨(.opt _ _ hc), trivial⟩ (does_call 13 0 (fun _ => .any) (.func 13) [(.tmp 26)] [(e_a8_u32 p0)] [] true [(e_a8_u32 p0)] (.int .i64 v7) _ _ rfl fo13 rfl ⟨trivial, trivial⟩ ⟨.data _ (d_a8_u32 p0), trivial⟩ (ident_Many_spec p0 _ (h8 hc)) trivial)), ⟨⟨rfl, rfl, trivial⟩, trivial, rfl⟩, rfl,
    Step.guarded rfl rfl rfl rfl (fun hc => does_move (.tmp 3) (e_s_i64 v1) trivial), ⟨⟨rfl, rfl, trivial⟩, trivial, rfl⟩, rfl,
    Step.guarded rfl rfl rfl rfl (fun hc => Does.strip (n' := [(28, (.opt (!((!v5) || (v3.2 != (decide ((v1.length : Int) > 0))))) (e_s_i64 v1)))]) (n := [(28, (e_s_i64 v1))]) ⟨(.opt _ _ hc), trivial⟩ (does_lens 33 1 v1.length 28 (fun j => (.int .i64 (v1.getD j 0))) el33)), ⟨⟨rfl, rfl, trivial⟩, trivial, rfl⟩, rfl,
    Step.guarded rfl rfl rfl rfl (fun hc => Does.strip (n' := [(27, (.opt (!((!v5) || (v3.2 != (decide ((v1.length : Int) > 0))))) (.int .i64 v7))), (29, (.opt (!((!v5) || (v3.2 != (decide ((v1.length : Int) > 0))))) (.int .i64 (v1.length : Int))))]) (n := [(27, (.int .i64 v7)), (29, (.int .i64 (v1.length : Int)))]) ⟨(.opt _ _ hc), (.opt _ _ hc), trivial⟩ (does_bin .neq 3 3 (.tmp 27) (.tmp 29) .i64 v7 (v1.length : Int) (.bool (v7 != (v1.length : Int))) trivial trivial (bin_neq _ _ _ _))), ⟨⟨rfl, rfl, rfl, trivial⟩, trivial, rfl⟩, rfl,
    Step.plain rfl (does_or 25 30 ((!v5) || (v3.2 != (decide ((v1.length : Int) > 0)))) (v7 != (v1.length : Int))), ⟨⟨rfl, rfl, trivial⟩, trivial, rfl⟩, rfl, rfl⟩ ?_
  obtain ⟨v9, hv9, H⟩ := lt_of H
  refine aw_cov (cov_prune (s1 := ⟨[(1, (.ptr 0 0 [])), (3, (e_s_i64 v1)), (4, (.int .i64 v3.1)), (5, (.bool v3.2)), (31, (.bool v9))], [(0, some (.var (e_a8_u32 p0)))], 1⟩) ⟨rfl, rfl, rfl, rfl, (by subst hv9; rfl), trivial⟩ ⟨rfl, trivial⟩ (Nat.le_refl _)) ?_
  refine aw_cond rfl (fun hc => ?_) (fun hc => ?_)
  · replace H := ite_t hc H
    refine aw_region (es := [_]) ⟨Step.plain rfl (does_assign (.const (.bool false)) (.bool false) (fun _ => rfl)), ⟨trivial, trivial, rfl⟩, rfl, rfl⟩ ?_
    refine aw_cov (cov_prune (s1 := ⟨[(2, (.bool false))], [], 1⟩) ⟨rfl, trivial⟩ trivial (Nat.le_refl _)) ?_
    refine aw_ret ?_
    refine rt_then ?_
    exact fun a w hr => ⟨_, [(.bool false)], hr, ⟨⟨_, rfl, .data _ trivial⟩, trivial⟩, by decide, by cases H; rfl⟩
  · replace H := ite_f hc H
    refine aw_skip ?_
    refine nx_seq ?_
    refine aw_seq ?_
    refine aw_region (es := [_]) ⟨Step.plain rfl (does_assign (.const (.int .i64 0)) (.int .i64 0) (fun _ => rfl)), ⟨trivial, trivial, rfl⟩, rfl, rfl⟩ ?_
    refine aw_cov (cov_prune (s1 := ⟨[(1, (.ptr 0 0 [])), (3, (e_s_i64 v1)), (4, (.int .i64 v3.1)), (5, (.bool v3.2)), (6, (.int .i64 0))], [(0, some (.var (e_a8_u32 p0)))], 1⟩) ⟨rfl, rfl, rfl, rfl, rfl, trivial⟩ ⟨rfl, trivial⟩ (Nat.le_refl _)) ?_
    obtain ⟨wn11, hwn11, Hrn11⟩ := bnd H
    refine aw_meet (fun y22 : Unit => (⟨[(1, (.ptr 0 0 [])), (3, (e_s_i64 v1)), (4, (.int .i64 v3.1)), (5, (.bool v3.2))], [(0, some (.var (e_a8_u32 p0)))], 1⟩ : St)) (fun y22 => Fl.nx y22 = wn11) (fun y22 hy => ?_) (aw_block (aw_runs (fun x10 : Int => (⟨[(1, (.ptr 0 0 [])), (3, (e_s_i64 v1)), (4, (.int .i64 v3.1)), (5, (.bool v3.2)), (6, (.int .i64 x10))], [(0, some (.var (e_a8_u32 p0)))], 1⟩ : St)) hwn11 (cov_prune ⟨rfl, rfl, rfl, rfl, rfl, trivial⟩ ⟨rfl, trivial⟩ (Nat.le_of_ble_eq_true rfl)) (fun x10 st H hsn11 => ?_)))
    · have H := nx_of hy Hrn11
      refine nx_seq ?_
      refine aw_region (es := [_]) ⟨Step.plain rfl (does_assign (.const (.int .i64 0)) (.int .i64 0) (fun _ => rfl)), ⟨trivial, trivial, rfl⟩, rfl, rfl⟩ ?_
      refine aw_cov (cov_prune (s1 := ⟨[(1, (.ptr 0 0 [])), (3, (e_s_i64 v1)), (4, (.int .i64 v3.1)), (5, (.bool v3.2)), (7, (.int .i64 0))], [(0, some (.var (e_a8_u32 p0)))], 1⟩) ⟨rfl, rfl, rfl, rfl, rfl, trivial⟩ ⟨rfl, trivial⟩ (Nat.le_refl _)) ?_
      refine aw_seq ?_
      refine aw_region (es := [_]) ⟨Step.plain rfl (does_assign (.const (.int .i64 0)) (.int .i64 0) (fun _ => rfl)), ⟨trivial, trivial, rfl⟩, rfl, rfl⟩ ?_
      refine aw_cov (cov_prune (s1 := ⟨[(1, (.ptr 0 0 [])), (3, (e_s_i64 v1)), (4, (.int .i64 v3.1)), (5, (.bool v3.2)), (7, (.int .i64 0)), (8, (.int .i64 0))], [(0, some (.var (e_a8_u32 p0)))], 1⟩) ⟨rfl, rfl, rfl, rfl, rfl, rfl, trivial⟩ ⟨rfl, trivial⟩ (Nat.le_refl _)) ?_
      obtain ⟨wn24, hwn24, Hrn24⟩ := bnd H
      refine aw_meet (fun y28 : Int => (⟨[(3, (e_s_i64 v1)), (4, (.int .i64 v3.1)), (5, (.bool v3.2)), (7, (.int .i64 y28))], [], 1⟩ : St)) (fun y28 => Fl.nx y28 = wn24) (fun y28 hy => ?_) (aw_block (aw_runs (fun x23 : Int × Int => (⟨[(1, (.ptr 0 0 [])), (3, (e_s_i64 v1)), (4, (.int .i64 v3.1)), (5, (.bool v3.2)), (7, (.int .i64 x23.1)), (8, (.int .i64 x23.2))], [(0, some (.var (e_a8_u32 p0)))], 1⟩ : St)) hwn24 (cov_prune ⟨rfl, rfl, rfl, rfl, rfl, rfl, trivial⟩ ⟨rfl, trivial⟩ (Nat.le_of_ble_eq_true rfl)) (fun x23 st H hsn24 => ?_)))
      · have H := nx_of hy Hrn24
        refine nx_seq ?_
        obtain ⟨h29, H⟩ := ibg_of H
        refine aw_region (es := [_, _, _, _, _, _, _, _, _, _, _, _, _, _, _, _]) ⟨Step.plain rfl (does_move (.tmp 7) (.int .i64 y28) trivial), ⟨⟨rfl, trivial⟩, trivial, rfl⟩, rfl,
          Step.plain rfl (does_move (.tmp 3) (e_s_i64 v1) trivial), ⟨⟨rfl, trivial⟩, trivial, rfl⟩, rfl,
          Step.plain rfl (does_lens 33 1 v1.length 93 (fun j => (.int .i64 (v1.getD j 0))) el33), ⟨⟨rfl, trivial⟩, trivial, rfl⟩, rfl,
          Step.plain rfl (does_bin .eql 3 3 (.tmp 92) (.tmp 94) .i64 y28 (v1.length : Int) (.bool (y28 == (v1.length : Int))) trivial trivial (bin_eql _ _ _ _)), ⟨⟨rfl, rfl, trivial⟩, trivial, rfl⟩, rfl,
          Step.plain rfl (does_move (.tmp 95) (.bool (y28 == (v1.length : Int))) trivial), ⟨⟨rfl, trivial⟩, trivial, rfl⟩, rfl,
          Step.guarded rfl rfl rfl rfl (fun hc => does_move (.tmp 5) (.bool v3.2) trivial), ⟨⟨rfl, rfl, trivial⟩, trivial, rfl⟩, rfl,
          Step.guarded rfl rfl rfl rfl (fun hc => Does.strip (n' := [(97, (.opt (y28 == (v1.length : Int)) (.bool v3.2)))]) (n := [(97, (.bool v3.2))]) ⟨(.opt _ _ hc), trivial⟩ (does_not 4 (.tmp 97) v3.2 trivial)), ⟨⟨rfl, rfl, trivial⟩, trivial, rfl⟩, rfl,
          Step.guarded rfl rfl rfl rfl (fun hc => Does.strip (n' := [(98, (.opt (y28 == (v1.length : Int)) (.bool (!v3.2))))]) (n := [(98, (.bool (!v3.2)))]) ⟨(.opt _ _ hc), trivial⟩ (does_move (.tmp 98) (.bool (!v3.2)) trivial)), ⟨⟨rfl, rfl, trivial⟩, trivial, rfl⟩, rfl,
          Step.guarded rfl rfl rfl rfl (fun hc => does_move (.tmp 4) (.int .i64 v3.1) trivial), ⟨⟨rfl, rfl, trivial⟩, trivial, rfl⟩, rfl,
          Step.guarded rfl rfl rfl rfl (fun hc => does_move (.tmp 3) (e_s_i64 v1) trivial), ⟨⟨rfl, rfl, trivial⟩, trivial, rfl⟩, rfl,
          Step.guarded rfl rfl rfl rfl (fun hc => Does.strip (n' := [(101, (.opt ((y28 == (v1.length : Int)) && (!(!v3.2))) (e_s_i64 v1)))]) (n := [(101, (e_s_i64 v1))]) ⟨(.opt _ _ hc), trivial⟩ (does_indexAddrs 33 1 v1.length 101 (fun j => (.int .i64 (v1.getD j 0))) (.const (.int .i64 0)) .i64 0 el33 (fun _ => rfl) (h29 hc).1 (h29 hc).2)), ⟨⟨rfl, rfl, trivial⟩, trivial, rfl⟩, rfl,
          Step.guarded rfl rfl rfl rfl (fun hc => Does.strip (n' := [(102, (.opt ((y28 == (v1.length : Int)) && (!(!v3.2))) (.cptr (.int .i64 (v1.getD 0 0)))))]) (n := [(102, (.cptr (.int .i64 (v1.getD 0 0))))]) ⟨(.opt _ _ hc), trivial⟩ (does_loadc 3 102 (.int .i64 (v1.getD 0 0)) ty3)), ⟨⟨rfl, rfl, trivial⟩, trivial, rfl⟩, rfl,
          Step.guarded rfl rfl rfl rfl (fun hc => Does.strip (n' := [(100, (.opt ((y28 == (v1.length : Int)) && (!(!v3.2))) (.int .i64 v3.1))), (103, (.opt ((y28 == (v1.length : Int)) && (!(!v3.2))) (.int .i64 (v1.getD 0 0))))]) (n := [(100, (.int .i64 v3.1)), (103, (.int .i64 (v1.getD 0 0)))]) ⟨(.opt _ _ hc), (.opt _ _ hc), trivial⟩ (does_bin .eql 3 3 (.tmp 100) (.tmp 103) .i64 v3.1 (v1.getD 0 0) (.bool (v3.1 == (v1.getD 0 0))) trivial trivial (bin_eql _ _ _ _))), ⟨⟨rfl, rfl, rfl, trivial⟩, trivial, rfl⟩, rfl,
          Step.guarded rfl rfl rfl rfl (fun hc => Does.strip (n' := [(99, (.opt (y28 == (v1.length : Int)) (.bool (!v3.2)))), (104, (.opt ((y28 == (v1.length : Int)) && (!(!v3.2))) (.bool (v3.1 == (v1.getD 0 0)))))]) (n := [(99, (.bool (!v3.2))), (104, (.opt (!(!v3.2)) (.bool (v3.1 == (v1.getD 0 0)))))]) ⟨(.opt _ _ hc), (.half _ _ hc), trivial⟩ (does_or 99 104 (!v3.2) (v3.1 == (v1.getD 0 0)))), ⟨⟨rfl, rfl, rfl, trivial⟩, trivial, rfl⟩, rfl,
          Step.plain rfl (does_and 96 105 (y28 == (v1.length : Int)) ((!v3.2) || (v3.1 == (v1.getD 0 0)))), ⟨⟨rfl, rfl, trivial⟩, trivial, rfl⟩, rfl,
          Step.plain rfl (does_assign (.tmp 106) (.bool ((y28 == (v1.length : Int)) && ((!v3.2) || (v3.1 == (v1.getD 0 0))))) trivial), ⟨⟨rfl, trivial⟩, trivial, rfl⟩, rfl, rfl⟩ ?_
        refine aw_cov (cov_prune (s1 := ⟨[(2, (.bool ((y28 == (v1.length : Int)) && ((!v3.2) || (v3.1 == (v1.getD 0 0))))))], [], 1⟩) ⟨rfl, trivial⟩ trivial (Nat.le_refl _)) ?_
        refine aw_ret ?_
        exact fun a w hr => ⟨_, [(.bool ((y28 == (v1.length : Int)) && ((!v3.2) || (v3.1 == (v1.getD 0 0)))))], hr, ⟨⟨_, rfl, .data _ trivial⟩, trivial⟩, by decide, by cases H; rfl⟩
      · refine aw_seq ?_
        refine aw_region (es := [_, _]) ⟨Step.plain rfl (does_move (.tmp 8) (.int .i64 x23.2) trivial), ⟨⟨rfl, trivial⟩, trivial, rfl⟩, rfl,
          Step.plain rfl (does_bin .lss 3 3 (.tmp 82) (.const (.int .i64 8)) .i64 x23.2 8 (.bool (decide (x23.2 < 8))) trivial (fun _ => rfl) (bin_lss _ _ _ _)), ⟨⟨rfl, trivial⟩, trivial, rfl⟩, rfl, rfl⟩ ?_
        refine aw_cov (cov_prune (s1 := ⟨[(1, (.ptr 0 0 [])), (3, (e_s_i64 v1)), (4, (.int .i64 v3.1)), (5, (.bool v3.2)), (7, (.int .i64 x23.1)), (8, (.int .i64 x23.2)), (83, (.bool (decide (x23.2 < 8))))], [(0, some (.var (e_a8_u32 p0)))], 1⟩) ⟨rfl, rfl, rfl, rfl, rfl, rfl, rfl, trivial⟩ ⟨rfl, trivial⟩ (Nat.le_refl _)) ?_
        refine aw_cond rfl (fun hc => ?_) (fun hc => ?_)
        · replace H := ite_t hc H
          refine aw_skip ?_
          refine nx_seq ?_
          refine aw_seq ?_
          refine aw_jn (fun x27 : Int => (⟨[(1, (.ptr 0 0 [])), (3, (e_s_i64 v1)), (4, (.int .i64 v3.1)), (5, (.bool v3.2)), (7, (.int .i64 x27)), (8, (.int .i64 x23.2))], [(0, some (.var (e_a8_u32 p0)))], 1⟩ : St)) H (fun x27 H => ?_) (fun j25 H => ?_)
          · refine nx_seq ?_
            refine aw_region1 (es := [_, _, _]) ⟨Step.plain rfl (does_move (.tmp 8) (.int .i64 x23.2) trivial), ⟨⟨rfl, trivial⟩, trivial, rfl⟩, rfl,
              Step.plain rfl (does_bin .add 3 3 (.tmp 84) (.const (.int .i64 1)) .i64 x23.2 1 (.int .i64 (IntKind.i64.wrap (x23.2 + 1))) trivial (fun _ => rfl) (bin_add _ _ _ _)), ⟨⟨rfl, trivial⟩, trivial, rfl⟩, rfl,
              Step.plain rfl (does_assign (.tmp 85) (.int .i64 (IntKind.i64.wrap (x23.2 + 1))) trivial), ⟨⟨rfl, trivial⟩, trivial, rfl⟩, rfl, rfl⟩ ?_
            exact nx_loop (x27, (IntKind.i64.wrap (x23.2 + 1))) H (cov_prune ⟨rfl, rfl, rfl, rfl, rfl, rfl, trivial⟩ ⟨rfl, trivial⟩ (Nat.le_of_ble_eq_true rfl))
          · refine aw_block ?_
            obtain ⟨h26, H⟩ := ib_of H
            refine aw_region (es := [_, _, _, _]) ⟨Step.plain rfl (does_move (.tmp 8) (.int .i64 x23.2) trivial), ⟨⟨rfl, trivial⟩, trivial, rfl⟩, rfl,
              Step.plain rfl (does_indexAddr 32 8 1 1 0 0 [] (.var (e_a8_u32 p0)) (.tmp 86) .i64 x23.2 el32 trivial h26.1 h26.2), ⟨⟨rfl, rfl, trivial⟩, ⟨rfl, trivial⟩, rfl⟩, rfl,
              Step.plain rfl (does_load 22 87 0 (0 + x23.2.toNat * 1) [x23.2.toNat] (.var (e_a8_u32 p0)) (.int .u32 (p0 x23.2.toNat)) ⟨rfl, (ixl h26), trivial⟩ rfl rfl ty22), ⟨⟨rfl, trivial⟩, ⟨rfl, trivial⟩, rfl⟩, rfl,
              Step.plain rfl (does_bin .neq 22 22 (.tmp 88) (.const (.int .u32 0)) .u32 (p0 x23.2.toNat) 0 (.bool ((p0 x23.2.toNat) != 0)) trivial (fun _ => rfl) (bin_neq _ _ _ _)), ⟨⟨rfl, trivial⟩, trivial, rfl⟩, rfl, rfl⟩ ?_
            refine aw_cov (cov_prune (s1 := ⟨[(1, (.ptr 0 0 [])), (3, (e_s_i64 v1)), (4, (.int .i64 v3.1)), (5, (.bool v3.2)), (7, (.int .i64 x23.1)), (8, (.int .i64 x23.2)), (89, (.bool ((p0 x23.2.toNat) != 0)))], [(0, some (.var (e_a8_u32 p0)))], 1⟩) ⟨rfl, rfl, rfl, rfl, rfl, rfl, rfl, trivial⟩ ⟨rfl, trivial⟩ (Nat.le_refl _)) ?_
            refine aw_cond rfl (fun hc => ?_) (fun hc => ?_)
            · replace H := ite_t hc H
              refine aw_region1 (es := [_, _, _]) ⟨Step.plain rfl (does_move (.tmp 7) (.int .i64 x23.1) trivial), ⟨⟨rfl, trivial⟩, trivial, rfl⟩, rfl,
                Step.plain rfl (does_bin .add 3 3 (.tmp 90) (.const (.int .i64 1)) .i64 x23.1 1 (.int .i64 (IntKind.i64.wrap (x23.1 + 1))) trivial (fun _ => rfl) (bin_add _ _ _ _)), ⟨⟨rfl, trivial⟩, trivial, rfl⟩, rfl,
                Step.plain rfl (does_assign (.tmp 91) (.int .i64 (IntKind.i64.wrap (x23.1 + 1))) trivial), ⟨⟨rfl, trivial⟩, trivial, rfl⟩, rfl, rfl⟩ ?_
              refine nx_blk ?_
              exact nx_join ((IntKind.i64.wrap (x23.1 + 1))) H (cov_prune ⟨rfl, rfl, rfl, rfl, rfl, rfl, trivial⟩ ⟨rfl, trivial⟩ (Nat.le_of_ble_eq_true rfl))
            · replace H := ite_f hc H
              refine aw_skip ?_
              refine nx_blk ?_
              exact nx_join (x23.1) H (cov_prune ⟨rfl, rfl, rfl, rfl, rfl, rfl, trivial⟩ ⟨rfl, trivial⟩ (Nat.le_of_ble_eq_true rfl))
        · replace H := ite_f hc H
          refine aw_exit ?_
          refine ex_then ?_
          refine ex_then ?_
          refine ex_here ?_
          exact nx_ljoin (x23.1) H hsn24 (cov_prune ⟨rfl, rfl, rfl, rfl, trivial⟩ trivial (Nat.le_of_ble_eq_true rfl))
    · refine aw_seq ?_
      refine aw_region (es := [_, _, _, _]) ⟨Step.plain rfl (does_move (.tmp 6) (.int .i64 x10) trivial), ⟨⟨rfl, trivial⟩, trivial, rfl⟩, rfl,
        Step.plain rfl (does_move (.tmp 3) (e_s_i64 v1) trivial), ⟨⟨rfl, trivial⟩, trivial, rfl⟩, rfl,
        Step.plain rfl (does_lens 33 1 v1.length 33 (fun j => (.int .i64 (v1.getD j 0))) el33), ⟨⟨rfl, trivial⟩, trivial, rfl⟩, rfl,
        Step.plain rfl (does_bin .lss 3 3 (.tmp 32) (.tmp 34) .i64 x10 (v1.length : Int) (.bool (decide (x10 < (v1.length : Int)))) trivial trivial (bin_lss _ _ _ _)), ⟨⟨rfl, rfl, trivial⟩, trivial, rfl⟩, rfl, rfl⟩ ?_
      refine aw_cov (cov_prune (s1 := ⟨[(1, (.ptr 0 0 [])), (3, (e_s_i64 v1)), (4, (.int .i64 v3.1)), (5, (.bool v3.2)), (6, (.int .i64 x10)), (35, (.bool (decide (x10 < (v1.length : Int)))))], [(0, some (.var (e_a8_u32 p0)))], 1⟩) ⟨rfl, rfl, rfl, rfl, rfl, rfl, trivial⟩ ⟨rfl, trivial⟩ (Nat.le_refl _)) ?_
      refine aw_cond rfl (fun hc => ?_) (fun hc => ?_)
      · replace H := ite_t hc H
        refine aw_skip ?_
        refine nx_seq ?_
        refine aw_seq ?_
        refine aw_block ?_
        obtain ⟨h12, H⟩ := ib_of H
        obtain ⟨h13, H⟩ := ibg_of H
        obtain ⟨h14, H⟩ := ibg_of H
        obtain ⟨h15, H⟩ := ibg_of H
        obtain ⟨h16, H⟩ := ibg_of H
        obtain ⟨h17, H⟩ := ibg_of H
        obtain ⟨h18, H⟩ := ibg_of H
        obtain ⟨v19, h20, H⟩ := whn_of H
        refine aw_draw (es := [_, _, _, _, _, _, _, _, _, _, _, _, _, _, _, _, _, _, _, _, _, _, _, _, _, _, _, _, _, _, _, _, _, _, _, _, _, _, _, _, _, _, _, _]) (mixed) ⟨Step.plain rfl (does_move (.tmp 3) (e_s_i64 v1) trivial), ⟨⟨rfl, trivial⟩, trivial, rfl⟩, rfl,
          Step.plain rfl (does_move (.tmp 6) (.int .i64 x10) trivial), ⟨⟨rfl, trivial⟩, trivial, rfl⟩, rfl,
          Step.plain rfl (does_indexAddrs 33 1 v1.length 38 (fun j => (.int .i64 (v1.getD j 0))) (.tmp 39) .i64 x10 el33 trivial h12.1 h12.2), ⟨⟨rfl, rfl, trivial⟩, trivial, rfl⟩, rfl,
          Step.plain rfl (does_loadc 3 40 (.int .i64 (v1.getD x10.toNat 0)) ty3), ⟨⟨rfl, trivial⟩, trivial, rfl⟩, rfl,
          Step.plain rfl (does_bin .lss 3 3 (.tmp 41) (.const (.int .i64 0)) .i64 (v1.getD x10.toNat 0) 0 (.bool (decide ((v1.getD x10.toNat 0) < 0))) trivial (fun _ => rfl) (bin_lss _ _ _ _)), ⟨⟨rfl, trivial⟩, trivial, rfl⟩, rfl,
          Step.plain rfl (does_move (.tmp 42) (.bool (decide ((v1.getD x10.toNat 0) < 0))) trivial), ⟨⟨rfl, trivial⟩, trivial, rfl⟩, rfl,
          Step.guarded rfl rfl rfl rfl (fun hc => does_move (.tmp 3) (e_s_i64 v1) trivial), ⟨⟨rfl, rfl, trivial⟩, trivial, rfl⟩, rfl,
          Step.guarded rfl rfl rfl rfl (fun hc => does_move (.tmp 6) (.int .i64 x10) trivial), ⟨⟨rfl, rfl, trivial⟩, trivial, rfl⟩, rfl,
          Step.guarded rfl rfl rfl rfl (fun hc => Does.strip (n' := [(44, (.opt (!(decide ((v1.getD x10.toNat 0) < 0))) (e_s_i64 v1))), (45, (.opt (!(decide ((v1.getD x10.toNat 0) < 0))) (.int .i64 x10)))]) (n := [(44, (e_s_i64 v1)), (45, (.int .i64 x10))]) ⟨(.opt _ _ hc), (.opt _ _ hc), trivial⟩ (does_indexAddrs 33 1 v1.length 44 (fun j => (.int .i64 (v1.getD j 0))) (.tmp 45) .i64 x10 el33 trivial (h13 hc).1 (h13 hc).2)), ⟨⟨rfl, rfl, rfl, trivial⟩, trivial, rfl⟩, rfl,
          Step.guarded rfl rfl rfl rfl (fun hc => Does.strip (n' := [(46, (.opt (!(decide ((v1.getD x10.toNat 0) < 0))) (.cptr (.int .i64 (v1.getD x10.toNat 0)))))]) (n := [(46, (.cptr (.int .i64 (v1.getD x10.toNat 0))))]) ⟨(.opt _ _ hc), trivial⟩ (does_loadc 3 46 (.int .i64 (v1.getD x10.toNat 0)) ty3)), ⟨⟨rfl, rfl, trivial⟩, trivial, rfl⟩, rfl,
          Step.guarded rfl rfl rfl rfl (fun hc => Does.strip (n' := [(47, (.opt (!(decide ((v1.getD x10.toNat 0) < 0))) (.int .i64 (v1.getD x10.toNat 0))))]) (n := [(47, (.int .i64 (v1.getD x10.toNat 0)))]) ⟨(.opt _ _ hc), trivial⟩ (does_bin .gtr 3 3 (.tmp 47) (.const (.int .i64 7)) .i64 (v1.getD x10.toNat 0) 7 (.bool (decide ((v1.getD x10.toNat 0) > 7))) trivial (fun _ => rfl) (bin_gtr _ _ _ _))), ⟨⟨rfl, rfl, trivial⟩, trivial, rfl⟩, rfl,
          Step.plain rfl (does_or 43 48 (decide ((v1.getD x10.toNat 0) < 0)) (decide ((v1.getD x10.toNat 0) > 7))), ⟨⟨rfl, rfl, trivial⟩, trivial, rfl⟩, rfl,
          Step.plain rfl (does_move (.tmp 49) (.bool ((decide ((v1.getD x10.toNat 0) < 0)) || (decide ((v1.getD x10.toNat 0) > 7)))) trivial), ⟨⟨rfl, trivial⟩, trivial, rfl⟩, rfl,
          Step.guarded rfl rfl rfl rfl (fun hc => does_move (.tmp 6) (.int .i64 x10) trivial), ⟨⟨rfl, rfl, trivial⟩, trivial, rfl⟩, rfl,
          Step.guarded rfl rfl rfl rfl (fun hc => Does.strip (n' := [(51, (.opt (!((decide ((v1.getD x10.toNat 0) < 0)) || (decide ((v1.getD x10.toNat 0) > 7)))) (.int .i64 x10)))]) (n := [(51, (.int .i64 x10))]) ⟨(.opt _ _ hc), trivial⟩ (does_bin .gtr 3 3 (.tmp 51) (.const (.int .i64 0)) .i64 x10 0 (.bool (decide (x10 > 0))) trivial (fun _ => rfl) (bin_gtr _ _ _ _))), ⟨⟨rfl, rfl, trivial⟩, trivial, rfl⟩, rfl,
          Step.guarded rfl rfl rfl rfl (fun hc => Does.strip (n' := [(52, (.opt (!((decide ((v1.getD x10.toNat 0) < 0)) || (decide ((v1.getD x10.toNat 0) > 7)))) (.bool (decide (x10 > 0)))))]) (n := [(52, (.bool (decide (x10 > 0))))]) ⟨(.opt _ _ hc), trivial⟩ (does_move (.tmp 52) (.bool (decide (x10 > 0))) trivial)), ⟨⟨rfl, rfl, trivial⟩, trivial, rfl⟩, rfl,
          Step.guarded rfl rfl rfl rfl (fun hc => does_move (.tmp 3) (e_s_i64 v1) trivial), ⟨⟨rfl, rfl, trivial⟩, trivial, rfl⟩, rfl,
          Step.guarded rfl rfl rfl rfl (fun hc => does_move (.tmp 6) (.int .i64 x10) trivial), ⟨⟨rfl, rfl, trivial⟩, trivial, rfl⟩, rfl,
          Step.guarded rfl rfl rfl rfl (fun hc => Does.strip (n' := [(55, (.opt ((!((decide ((v1.getD x10.toNat 0) < 0)) || (decide ((v1.getD x10.toNat 0) > 7)))) && (decide (x10 > 0))) (.int .i64 x10)))]) (n := [(55, (.int .i64 x10))]) ⟨(.opt _ _ hc), trivial⟩ (does_bin .sub 3 3 (.tmp 55) (.const (.int .i64 1)) .i64 x10 1 (.int .i64 (IntKind.i64.wrap (x10 - 1))) trivial (fun _ => rfl) (bin_sub _ _ _ _))), ⟨⟨rfl, rfl, trivial⟩, trivial, rfl⟩, rfl,
          Step.guarded rfl rfl rfl rfl (fun hc => Does.strip (n' := [(54, (.opt ((!((decide ((v1.getD x10.toNat 0) < 0)) || (decide ((v1.getD x10.toNat 0) > 7)))) && (decide (x10 > 0))) (e_s_i64 v1))), (56, (.opt ((!((decide ((v1.getD x10.toNat 0) < 0)) || (decide ((v1.getD x10.toNat 0) > 7)))) && (decide (x10 > 0))) (.int .i64 (IntKind.i64.wrap (x10 - 1)))))]) (n := [(54, (e_s_i64 v1)), (56, (.int .i64 (IntKind.i64.wrap (x10 - 1))))]) ⟨(.opt _ _ hc), (.opt _ _ hc), trivial⟩ (does_indexAddrs 33 1 v1.length 54 (fun j => (.int .i64 (v1.getD j 0))) (.tmp 56) .i64 (IntKind.i64.wrap (x10 - 1)) el33 trivial (h14 hc).1 (h14 hc).2)), ⟨⟨rfl, rfl, rfl, trivial⟩, trivial, rfl⟩, rfl,
          Step.guarded rfl rfl rfl rfl (fun hc => Does.strip (n' := [(57, (.opt ((!((decide ((v1.getD x10.toNat 0) < 0)) || (decide ((v1.getD x10.toNat 0) > 7)))) && (decide (x10 > 0))) (.cptr (.int .i64 (v1.getD ((IntKind.i64.wrap (x10 - 1)).toNat) 0)))))]) (n := [(57, (.cptr (.int .i64 (v1.getD ((IntKind.i64.wrap (x10 - 1)).toNat) 0))))]) ⟨(.opt _ _ hc), trivial⟩ (does_loadc 3 57 (.int .i64 (v1.getD ((IntKind.i64.wrap (x10 - 1)).toNat) 0)) ty3)), ⟨⟨rfl, rfl, trivial⟩, trivial, rfl⟩, rfl,
          Step.guarded rfl rfl rfl rfl (fun hc => does_move (.tmp 3) (e_s_i64 v1) trivial), ⟨⟨rfl, rfl, trivial⟩, trivial, rfl⟩, rfl,
          Step.guarded rfl rfl rfl rfl (fun hc => does_move (.tmp 6) (.int .i64 x10) trivial), ⟨⟨rfl, rfl, trivial⟩, trivial, rfl⟩, rfl,
          Step.guarded rfl rfl rfl rfl (fun hc => Does.strip (n' := [(59, (.opt ((!((decide ((v1.getD x10.toNat 0) < 0)) || (decide ((v1.getD x10.toNat 0) > 7)))) && (decide (x10 > 0))) (e_s_i64 v1))), (60, (.opt ((!((decide ((v1.getD x10.toNat 0) < 0)) || (decide ((v1.getD x10.toNat 0) > 7)))) && (decide (x10 > 0))) (.int .i64 x10)))]) (n := [(59, (e_s_i64 v1)), (60, (.int .i64 x10))]) ⟨(.opt _ _ hc), (.opt _ _ hc), trivial⟩ (does_indexAddrs 33 1 v1.length 59 (fun j => (.int .i64 (v1.getD j 0))) (.tmp 60) .i64 x10 el33 trivial (h15 hc).1 (h15 hc).2)), ⟨⟨rfl, rfl, rfl, trivial⟩, trivial, rfl⟩, rfl,
          Step.guarded rfl rfl rfl rfl (fun hc => Does.strip (n' := [(61, (.opt ((!((decide ((v1.getD x10.toNat 0) < 0)) || (decide ((v1.getD x10.toNat 0) > 7)))) && (decide (x10 > 0))) (.cptr (.int .i64 (v1.getD x10.toNat 0)))))]) (n := [(61, (.cptr (.int .i64 (v1.getD x10.toNat 0))))]) ⟨(.opt _ _ hc), trivial⟩ (does_loadc 3 61 (.int .i64 (v1.getD x10.toNat 0)) ty3)), ⟨⟨rfl, rfl, trivial⟩, trivial, rfl⟩, rfl,
          Step.guarded rfl rfl rfl rfl (fun hc => Does.strip (n' := [(58, (.opt ((!((decide ((v1.getD x10.toNat 0) < 0)) || (decide ((v1.getD x10.toNat 0) > 7)))) && (decide (x10 > 0))) (.int .i64 (v1.getD ((IntKind.i64.wrap (x10 - 1)).toNat) 0)))), (62, (.opt ((!((decide ((v1.getD x10.toNat 0) < 0)) || (decide ((v1.getD x10.toNat 0) > 7)))) && (decide (x10 > 0))) (.int .i64 (v1.getD x10.toNat 0))))]) (n := [(58, (.int .i64 (v1.getD ((IntKind.i64.wrap (x10 - 1)).toNat) 0))), (62, (.int .i64 (v1.getD x10.toNat 0)))]) ⟨(.opt _ _ hc), (.opt _ _ hc), trivial⟩ (does_bin .geq 3 3 (.tmp 58) (.tmp 62) .i64 (v1.getD ((IntKind.i64.wrap (x10 - 1)).toNat) 0) (v1.getD x10.toNat 0) (.bool (decide ((v1.getD ((IntKind.i64.wrap (x10 - 1)).toNat) 0) ≥ (v1.getD x10.toNat 0)))) trivial trivial (bin_geq _ _ _ _))), ⟨⟨rfl, rfl, rfl, trivial⟩, trivial, rfl⟩, rfl,
          Step.guarded rfl rfl rfl rfl (fun hc => Does.strip (n' := [(53, (.opt (!((decide ((v1.getD x10.toNat 0) < 0)) || (decide ((v1.getD x10.toNat 0) > 7)))) (.bool (decide (x10 > 0))))), (63, (.opt ((!((decide ((v1.getD x10.toNat 0) < 0)) || (decide ((v1.getD x10.toNat 0) > 7)))) && (decide (x10 > 0))) (.bool (decide ((v1.getD ((IntKind.i64.wrap (x10 - 1)).toNat) 0) ≥ (v1.getD x10.toNat 0))))))]) (n := [(53, (.bool (decide (x10 > 0)))), (63, (.opt (decide (x10 > 0)) (.bool (decide ((v1.getD ((IntKind.i64.wrap (x10 - 1)).toNat) 0) ≥ (v1.getD x10.toNat 0))))))]) ⟨(.opt _ _ hc), (.half _ _ hc), trivial⟩ (does_and 53 63 (decide (x10 > 0)) (decide ((v1.getD ((IntKind.i64.wrap (x10 - 1)).toNat) 0) ≥ (v1.getD x10.toNat 0))))), ⟨⟨rfl, rfl, rfl, trivial⟩, trivial, rfl⟩, rfl,
          Step.plain rfl (does_or 50 64 ((decide ((v1.getD x10.toNat 0) < 0)) || (decide ((v1.getD x10.toNat 0) > 7))) ((decide (x10 > 0)) && (decide ((v1.getD ((IntKind.i64.wrap (x10 - 1)).toNat) 0) ≥ (v1.getD x10.toNat 0))))), ⟨⟨rfl, rfl, trivial⟩, trivial, rfl⟩, rfl,
          Step.plain rfl (does_move (.tmp 65) (.bool (((decide ((v1.getD x10.toNat 0) < 0)) || (decide ((v1.getD x10.toNat 0) > 7))) || ((decide (x10 > 0)) && (decide ((v1.getD ((IntKind.i64.wrap (x10 - 1)).toNat) 0) ≥ (v1.getD x10.toNat 0)))))) trivial), ⟨⟨rfl, trivial⟩, trivial, rfl⟩, rfl,
          Step.guarded rfl rfl rfl rfl (fun hc => does_load 32 1 0 0 [] (.var (e_a8_u32 p0)) (e_a8_u32 p0) trivial rfl rfl ty32), ⟨⟨rfl, rfl, trivial⟩, ⟨rfl, trivial⟩, rfl⟩, rfl,
          Step.guarded rfl rfl rfl rfl (fun hc => does_move (.tmp 3) (e_s_i64 v1) trivial), ⟨⟨rfl, rfl, trivial⟩, trivial, rfl⟩, rfl,
          Step.guarded rfl rfl rfl rfl (fun hc => does_move (.tmp 6) (.int .i64 x10) trivial), ⟨⟨rfl, rfl, trivial⟩, trivial, rfl⟩, rfl,
          Step.guarded rfl rfl rfl rfl (fun hc => Does.strip (n' := [(68, (.opt (!(((decide ((v1.getD x10.toNat 0) < 0)) || (decide ((v1.getD x10.toNat 0) > 7))) || ((decide (x10 > 0)) && (decide ((v1.getD ((IntKind.i64.wrap (x10 - 1)).toNat) 0) ≥ (v1.getD x10.toNat 0)))))) (e_s_i64 v1))), (69, (.opt (!(((decide ((v1.getD x10.toNat 0) < 0)) || (decide ((v1.getD x10.toNat 0) > 7))) || ((decide (x10 > 0)) && (decide ((v1.getD ((IntKind.i64.wrap (x10 - 1)).toNat) 0) ≥ (v1.getD x10.toNat 0)))))) (.int .i64 x10)))]) (n := [(68, (e_s_i64 v1)), (69, (.int .i64 x10))]) ⟨(.opt _ _ hc), (.opt _ _ hc), trivial⟩ (does_indexAddrs 33 1 v1.length 68 (fun j => (.int .i64 (v1.getD j 0))) (.tmp 69) .i64 x10 el33 trivial (h16 hc).1 (h16 hc).2)), ⟨⟨rfl, rfl, rfl, trivial⟩, trivial, rfl⟩, rfl,
          Step.guarded rfl rfl rfl rfl (fun hc => Does.strip (n' := [(70, (.opt (!(((decide ((v1.getD x10.toNat 0) < 0)) || (decide ((v1.getD x10.toNat 0) > 7))) || ((decide (x10 > 0)) && (decide ((v1.getD ((IntKind.i64.wrap (x10 - 1)).toNat) 0) ≥ (v1.getD x10.toNat 0)))))) (.cptr (.int .i64 (v1.getD x10.toNat 0)))))]) (n := [(70, (.cptr (.int .i64 (v1.getD x10.toNat 0))))]) ⟨(.opt _ _ hc), trivial⟩ (does_loadc 3 70 (.int .i64 (v1.getD x10.toNat 0)) ty3)), ⟨⟨rfl, rfl, trivial⟩, trivial, rfl⟩, rfl,
          Step.guarded rfl rfl rfl rfl (fun hc => does_move (.tmp 3) (e_s_i64 v1) trivial), ⟨⟨rfl, rfl, trivial⟩, trivial, rfl⟩, rfl,
          Step.guarded rfl rfl rfl rfl (fun hc => does_move (.tmp 6) (.int .i64 x10) trivial), ⟨⟨rfl, rfl, trivial⟩, trivial, rfl⟩, rfl,
          Step.guarded rfl rfl rfl rfl (fun hc => Does.strip (n' := [(72, (.opt (!(((decide ((v1.getD x10.toNat 0) < 0)) || (decide ((v1.getD x10.toNat 0) > 7))) || ((decide (x10 > 0)) && (decide ((v1.getD ((IntKind.i64.wrap (x10 - 1)).toNat) 0) ≥ (v1.getD x10.toNat 0)))))) (e_s_i64 v1))), (73, (.opt (!(((decide ((v1.getD x10.toNat 0) < 0)) || (decide ((v1.getD x10.toNat 0) > 7))) || ((decide (x10 > 0)) && (decide ((v1.getD ((IntKind.i64.wrap (x10 - 1)).toNat) 0) ≥ (v1.getD x10.toNat 0)))))) (.int .i64 x10)))]) (n := [(72, (e_s_i64 v1)), (73, (.int .i64 x10))]) ⟨(.opt _ _ hc), (.opt _ _ hc), trivial⟩ (does_indexAddrs 33 1 v1.length 72 (fun j => (.int .i64 (v1.getD j 0))) (.tmp 73) .i64 x10 el33 trivial (h17 hc).1 (h17 hc).2)), ⟨⟨rfl, rfl, rfl, trivial⟩, trivial, rfl⟩, rfl,
          Step.guarded rfl rfl rfl rfl (fun hc => Does.strip (n' := [(74, (.opt (!(((decide ((v1.getD x10.toNat 0) < 0)) || (decide ((v1.getD x10.toNat 0) > 7))) || ((decide (x10 > 0)) && (decide ((v1.getD ((IntKind.i64.wrap (x10 - 1)).toNat) 0) ≥ (v1.getD x10.toNat 0)))))) (.cptr (.int .i64 (v1.getD x10.toNat 0)))))]) (n := [(74, (.cptr (.int .i64 (v1.getD x10.toNat 0))))]) ⟨(.opt _ _ hc), trivial⟩ (does_loadc 3 74 (.int .i64 (v1.getD x10.toNat 0)) ty3)), ⟨⟨rfl, rfl, trivial⟩, trivial, rfl⟩, rfl,
          Step.guarded rfl rfl rfl rfl (fun hc => Does.strip (n' := [(75, (.opt (!(((decide ((v1.getD x10.toNat 0) < 0)) || (decide ((v1.getD x10.toNat 0) > 7))) || ((decide (x10 > 0)) && (decide ((v1.getD ((IntKind.i64.wrap (x10 - 1)).toNat) 0) ≥ (v1.getD x10.toNat 0)))))) (.int .i64 (v1.getD x10.toNat 0))))]) (n := [(75, (.int .i64 (v1.getD x10.toNat 0)))]) ⟨(.opt _ _ hc), trivial⟩ (does_bin .and 3 3 (.tmp 75) (.const (.int .i64 7)) .i64 (v1.getD x10.toNat 0) 7 (.int .i64 (iand .i64 (v1.getD x10.toNat 0) 7)) trivial (fun _ => rfl) (bin_and _ _ _ _))), ⟨⟨rfl, rfl, trivial⟩, trivial, rfl⟩, rfl,
          Step.guarded rfl rfl rfl rfl (fun hc => Does.strip (n' := [(1, (.ptr 0 0 [])), (76, (.opt (!(((decide ((v1.getD x10.toNat 0) < 0)) || (decide ((v1.getD x10.toNat 0) > 7))) || ((decide (x10 > 0)) && (decide ((v1.getD ((IntKind.i64.wrap (x10 - 1)).toNat) 0) ≥ (v1.getD x10.toNat 0)))))) (.int .i64 (iand .i64 (v1.getD x10.toNat 0) 7))))]) (n := [(1, (.ptr 0 0 [])), (76, (.int .i64 (iand .i64 (v1.getD x10.toNat 0) 7)))]) ⟨(.same _), (.opt _ _ hc), trivial⟩ (does_indexAddr 32 8 1 1 0 0 [] (.var (e_a8_u32 p0)) (.tmp 76) .i64 (iand .i64 (v1.getD x10.toNat 0) 7) el32 trivial (h18 hc).1 (h18 hc).2)), ⟨⟨rfl, rfl, rfl, trivial⟩, ⟨rfl, trivial⟩, rfl⟩, rfl,
          Step.guarded rfl rfl rfl rfl (fun hc => Does.strip (n' := [(77, (.opt (!(((decide ((v1.getD x10.toNat 0) < 0)) || (decide ((v1.getD x10.toNat 0) > 7))) || ((decide (x10 > 0)) && (decide ((v1.getD ((IntKind.i64.wrap (x10 - 1)).toNat) 0) ≥ (v1.getD x10.toNat 0)))))) (.ptr 0 (0 + (iand .i64 (v1.getD x10.toNat 0) 7).toNat * 1) [(iand .i64 (v1.getD x10.toNat 0) 7).toNat])))]) (n := [(77, (.ptr 0 (0 + (iand .i64 (v1.getD x10.toNat 0) 7).toNat * 1) [(iand .i64 (v1.getD x10.toNat 0) 7).toNat]))]) ⟨(.opt _ _ hc), trivial⟩ (does_load 22 77 0 (0 + (iand .i64 (v1.getD x10.toNat 0) 7).toNat * 1) [(iand .i64 (v1.getD x10.toNat 0) 7).toNat] (.var (e_a8_u32 p0)) (.int .u32 (p0 ((iand .i64 (v1.getD x10.toNat 0) 7).toNat))) ⟨rfl, (ixl (h18 hc)), trivial⟩ rfl rfl ty22)), ⟨⟨rfl, rfl, trivial⟩, ⟨rfl, trivial⟩, rfl⟩, rfl,
          Step.guarded rfl rfl rfl rfl (fun hc => Does.strip (n' := [(67, (.opt (!(((decide ((v1.getD x10.toNat 0) < 0)) || (decide ((v1.getD x10.toNat 0) > 7))) || ((decide (x10 > 0)) && (decide ((v1.getD ((IntKind.i64.wrap (x10 - 1)).toNat) 0) ≥ (v1.getD x10.toNat 0)))))) (e_a8_u32 p0))), (71, (.opt (!(((decide ((v1.getD x10.toNat 0) < 0)) || (decide ((v1.getD x10.toNat 0) > 7))) || ((decide (x10 > 0)) && (decide ((v1.getD ((IntKind.i64.wrap (x10 - 1)).toNat) 0) ≥ (v1.getD x10.toNat 0)))))) (.int .i64 (v1.getD x10.toNat 0)))), (78, (.opt (!(((decide ((v1.getD x10.toNat 0) < 0)) || (decide ((v1.getD x10.toNat 0) > 7))) || ((decide (x10 > 0)) && (decide ((v1.getD ((IntKind.i64.wrap (x10 - 1)).toNat) 0) ≥ (v1.getD x10.toNat 0)))))) (.int .u32 (p0 ((iand .i64 (v1.getD x10.toNat 0) 7).toNat)))))]) (n := [(67, (e_a8_u32 p0)), (71, (.int .i64 (v1.getD x10.toNat 0))), (78, (.int .u32 (p0 ((iand .i64 (v1.getD x10.toNat 0) 7).toNat))))]) ⟨(.opt _ _ hc), (.opt _ _ hc), (.opt _ _ hc), trivial⟩ (does_call 14 0 (fun _ => .any) (.func 14) [(.tmp 67), (.tmp 71), (.tmp 78)] [(e_a8_u32 p0), (.int .i64 (v1.getD x10.toNat 0)), (.int .u32 (p0 ((iand .i64 (v1.getD x10.toNat 0) 7).toNat)))] [] true [(e_a8_u32 p0), (.int .i64 (v1.getD x10.toNat 0)), (.int .u32 (p0 ((iand .i64 (v1.getD x10.toNat 0) 7).toNat)))] (.bool v19) _ _ rfl fo14 rfl ⟨trivial, trivial, trivial, trivial⟩ ⟨.data _ (d_a8_u32 p0), .data _ trivial, .data _ trivial, trivial⟩ (ident_Has_spec p0 (v1.getD x10.toNat 0) (p0 ((iand .i64 (v1.getD x10.toNat 0) 7).toNat)) _ (h20 hc)) trivial)), ⟨⟨rfl, rfl, rfl, rfl, trivial⟩, trivial, rfl⟩, rfl,
          Step.guarded rfl rfl rfl rfl (fun hc => Does.strip (n' := [(79, (.opt (!(((decide ((v1.getD x10.toNat 0) < 0)) || (decide ((v1.getD x10.toNat 0) > 7))) || ((decide (x10 > 0)) && (decide ((v1.getD ((IntKind.i64.wrap (x10 - 1)).toNat) 0) ≥ (v1.getD x10.toNat 0)))))) (.bool v19)))]) (n := [(79, (.bool v19))]) ⟨(.opt _ _ hc), trivial⟩ (does_not 4 (.tmp 79) v19 trivial)), ⟨⟨rfl, rfl, trivial⟩, trivial, rfl⟩, rfl,
          Step.plain rfl (does_or 66 80 (((decide ((v1.getD x10.toNat 0) < 0)) || (decide ((v1.getD x10.toNat 0) > 7))) || ((decide (x10 > 0)) && (decide ((v1.getD ((IntKind.i64.wrap (x10 - 1)).toNat) 0) ≥ (v1.getD x10.toNat 0))))) (!v19)), ⟨⟨rfl, rfl, trivial⟩, trivial, rfl⟩, rfl, rfl⟩ rfl ?_
        obtain ⟨v21, hv21, H⟩ := lt_of H
        refine aw_cov (cov_prune (s1 := ⟨[(1, (.ptr 0 0 [])), (3, (e_s_i64 v1)), (4, (.int .i64 v3.1)), (5, (.bool v3.2)), (6, (.int .i64 x10)), (81, (.bool v21))], [(0, some (.var (e_a8_u32 p0)))], 1⟩) ⟨rfl, rfl, rfl, rfl, rfl, (by subst hv21; rfl), trivial⟩ ⟨rfl, trivial⟩ (Nat.le_refl _)) ?_
        refine aw_cond rfl (fun hc => ?_) (fun hc => ?_)
        · replace H := ite_t hc H
          refine aw_region (es := [_]) ⟨Step.plain rfl (does_assign (.const (.bool false)) (.bool false) (fun _ => rfl)), ⟨trivial, trivial, rfl⟩, rfl, rfl⟩ ?_
          refine aw_cov (cov_prune (s1 := ⟨[(2, (.bool false))], [], 1⟩) ⟨rfl, trivial⟩ trivial (Nat.le_refl _)) ?_
          refine aw_ret ?_
          replace H := rt_of H hsn11 Hrn11
          refine rt_blk ?_
          refine rt_then ?_
          refine rt_then ?_
          refine rt_blk ?_
          refine rt_then ?_
          refine rt_then ?_
          exact fun a w hr => ⟨_, [(.bool false)], hr, ⟨⟨_, rfl, .data _ trivial⟩, trivial⟩, by decide, by cases H; rfl⟩
        · replace H := ite_f hc H
          refine aw_skip ?_
          refine nx_blk ?_
          refine nx_seq ?_
          refine aw_region1 (es := [_, _, _]) ⟨Step.plain rfl (does_move (.tmp 6) (.int .i64 x10) trivial), ⟨⟨rfl, trivial⟩, trivial, rfl⟩, rfl,
            Step.plain rfl (does_bin .add 3 3 (.tmp 36) (.const (.int .i64 1)) .i64 x10 1 (.int .i64 (IntKind.i64.wrap (x10 + 1))) trivial (fun _ => rfl) (bin_add _ _ _ _)), ⟨⟨rfl, trivial⟩, trivial, rfl⟩, rfl,
            Step.plain rfl (does_assign (.tmp 37) (.int .i64 (IntKind.i64.wrap (x10 + 1))) trivial), ⟨⟨rfl, trivial⟩, trivial, rfl⟩, rfl, rfl⟩ ?_
          exact nx_loop ((IntKind.i64.wrap (x10 + 1))) H (cov_prune ⟨rfl, rfl, rfl, rfl, rfl, trivial⟩ ⟨rfl, trivial⟩ (Nat.le_of_ble_eq_true rfl))
      · replace H := ite_f hc H
        refine aw_exit ?_
        refine ex_then ?_
        refine ex_then ?_
        refine ex_here ?_
        exact nx_ljoin () H hsn11 (cov_prune ⟨rfl, rfl, rfl, rfl, trivial⟩ ⟨rfl, trivial⟩ (Nat.le_of_ble_eq_true rfl))

theorem congressref07_List_spec (p0 : (Nat → Int)) (r : (_root_.List Int)) (H : congressref07_List p0 = some r) : FSpec Try.prog 15 [(e_a8_u32 p0)] (e_s_i64 r) := by
  refine spec_of (fn := Try.f15) (args := [(e_a8_u32 p0)]) Try.func15 rfl (Nat.le_of_ble_eq_true rfl) ?_
  rintro ⟨G, w0, W, S, Sp⟩ hG
  cases hG
  unfold congressref07_List at H
  refine aw_region (es := [_, _]) ⟨Step.plain rfl (does_box 32 (.tmp 0) 0 (e_a8_u32 p0) trivial rfl), ⟨⟨rfl, trivial⟩, trivial, rfl⟩, rfl,
    Step.plain rfl (does_nil false 1 1 (fun j => (.int .i64 (([] : _root_.List Int).getD j 0)))), ⟨trivial, trivial, rfl⟩, rfl, rfl⟩ ?_
  refine aw_cov (cov_prune (s1 := ⟨[(1, (.ptr 0 0 []))], [(0, some (.var (e_a8_u32 p0)))], 2⟩) ⟨rfl, trivial⟩ ⟨rfl, trivial⟩ (Nat.le_refl _)) ?_
  refine aw_region (es := [_, _]) ⟨Step.plain rfl (does_buildOwn 33 0 1 2 (.int .i64 0) (fun j => (.int .i64 (([] : _root_.List Int).getD j 0))) #[] [] [] rfl so33 (by decide) trivial trivial (fun j h => match j, h with  | k + 0, h => absurd h (by omega))), ⟨trivial, trivial, rfl⟩, rfl,
    Step.plain rfl (does_assign (.tmp 5) (.own 2) trivial), ⟨⟨rfl, trivial⟩, trivial, rfl⟩, rfl, rfl⟩ ?_
  refine aw_cov (cov_prune (s1 := ⟨[(1, (.ptr 0 0 [])), (3, (.own 2))], [(0, some (.var (e_a8_u32 p0))), (2, some (.arr 1 ([] : _root_.List Int).length fun j => (.int .i64 (([] : _root_.List Int).getD j 0))))], 3⟩) ⟨rfl, rfl, trivial⟩ ⟨rfl, rfl, trivial⟩ (Nat.le_refl _)) ?_
  refine aw_seq ?_
  refine aw_region (es := [_]) ⟨Step.plain rfl (does_assign (.const (.int .i64 0)) (.int .i64 0) (fun _ => rfl)), ⟨trivial, trivial, rfl⟩, rfl, rfl⟩ ?_
  refine aw_cov (cov_prune (s1 := ⟨[(1, (.ptr 0 0 [])), (3, (.own 2)), (4, (.int .i64 0))], [(0, some (.var (e_a8_u32 p0))), (2, some (.arr 1 ([] : _root_.List Int).length fun j => (.int .i64 (([] : _root_.List Int).getD j 0))))], 3⟩) ⟨rfl, rfl, rfl, trivial⟩ ⟨rfl, rfl, trivial⟩ (Nat.le_refl _)) ?_
  obtain ⟨wn2, hwn2, Hrn2⟩ := bnd H
  refine aw_meet (fun y7 : _root_.List Int => (⟨[(3, (.own 2))], [(2, some (.arr 1 y7.length fun j => (.int .i64 (y7.getD j 0))))], 3⟩ : St)) (fun y7 => Fl.nx y7 = wn2) (fun y7 hy => ?_) (aw_block (aw_runs (fun x1 : Int × _root_.List Int => (⟨[(1, (.ptr 0 0 [])), (3, (.own 2)), (4, (.int .i64 x1.1))], [(0, some (.var (e_a8_u32 p0))), (2, some (.arr 1 x1.2.length fun j => (.int .i64 (x1.2.getD j 0))))], 3⟩ : St)) hwn2 (cov_prune ⟨rfl, rfl, rfl, trivial⟩ ⟨rfl, rfl, trivial⟩ (Nat.le_of_ble_eq_true rfl)) (fun x1 st H hsn2 => ?_)))
  · have H := nx_of hy Hrn2
    refine nx_seq ?_
    refine aw_region (es := [_, _]) ⟨Step.plain rfl (does_move (.tmp 3) (.own 2) trivial), ⟨⟨rfl, trivial⟩, trivial, rfl⟩, rfl,
      Step.plain rfl (does_assign (.tmp 18) (.own 2) trivial), ⟨⟨rfl, trivial⟩, trivial, rfl⟩, rfl, rfl⟩ ?_
    refine aw_cov (cov_prune (s1 := ⟨[(2, (.own 2))], [(2, some (.arr 1 y7.length fun j => (.int .i64 (y7.getD j 0))))], 3⟩) ⟨rfl, trivial⟩ ⟨rfl, trivial⟩ (Nat.le_refl _)) ?_
    refine aw_ret ?_
    exact fun a w hr => ⟨_, [(e_s_i64 y7)], hr, ⟨⟨_, rfl, .own _ _ _ _ rfl (fun _ => trivial)⟩, trivial⟩, by decide, by cases H; rfl⟩
  · refine aw_seq ?_
    refine aw_region (es := [_, _]) ⟨Step.plain rfl (does_move (.tmp 4) (.int .i64 x1.1) trivial), ⟨⟨rfl, trivial⟩, trivial, rfl⟩, rfl,
      Step.plain rfl (does_bin .lss 3 3 (.tmp 6) (.const (.int .i64 8)) .i64 x1.1 8 (.bool (decide (x1.1 < 8))) trivial (fun _ => rfl) (bin_lss _ _ _ _)), ⟨⟨rfl, trivial⟩, trivial, rfl⟩, rfl, rfl⟩ ?_
    refine aw_cov (cov_prune (s1 := ⟨[(1, (.ptr 0 0 [])), (3, (.own 2)), (4, (.int .i64 x1.1)), (7, (.bool (decide (x1.1 < 8))))], [(0, some (.var (e_a8_u32 p0))), (2, some (.arr 1 x1.2.length fun j => (.int .i64 (x1.2.getD j 0))))], 3⟩) ⟨rfl, rfl, rfl, rfl, trivial⟩ ⟨rfl, rfl, trivial⟩ (Nat.le_refl _)) ?_
    refine aw_cond rfl (fun hc => ?_) (fun hc => ?_)
    · replace H := ite_t hc H
      refine aw_skip ?_
      refine nx_seq ?_
      refine aw_seq ?_
      refine aw_jn (fun x6 : _root_.List Int => (⟨[(1, (.ptr 0 0 [])), (3, (.own 2)), (4, (.int .i64 x1.1))], [(0, some (.var (e_a8_u32 p0))), (2, some (.arr 1 x6.length fun j => (.int .i64 (x6.getD j 0))))], 4⟩ : St)) H (fun x6 H => ?_) (fun j3 H => ?_)
      · refine nx_seq ?_
        refine aw_region1 (es := [_, _, _]) ⟨Step.plain rfl (does_move (.tmp 4) (.int .i64 x1.1) trivial), ⟨⟨rfl, trivial⟩, trivial, rfl⟩, rfl,
          Step.plain rfl (does_bin .add 3 3 (.tmp 8) (.const (.int .i64 1)) .i64 x1.1 1 (.int .i64 (IntKind.i64.wrap (x1.1 + 1))) trivial (fun _ => rfl) (bin_add _ _ _ _)), ⟨⟨rfl, trivial⟩, trivial, rfl⟩, rfl,
          Step.plain rfl (does_assign (.tmp 9) (.int .i64 (IntKind.i64.wrap (x1.1 + 1))) trivial), ⟨⟨rfl, trivial⟩, trivial, rfl⟩, rfl, rfl⟩ ?_
        exact nx_loop ((IntKind.i64.wrap (x1.1 + 1)), x6) H (cov_of (fun i => match i with | 0 => 0 | 2 => 2 | k => k) ⟨⟨_, rfl, ⟨rfl, Nat.le_of_ble_eq_true rfl⟩⟩, ⟨_, rfl, ⟨rfl, Nat.le_of_ble_eq_true rfl⟩⟩, ⟨_, rfl, ⟨rfl, trivial⟩⟩, trivial⟩ ⟨⟨Nat.le_of_ble_eq_true rfl, _, _, rfl, rfl, .inl ⟨rfl, (d_a8_u32 _).plain⟩⟩, ⟨Nat.le_of_ble_eq_true rfl, _, _, rfl, rfl, ⟨rfl, rfl, fun _ => ⟨rfl, trivial⟩⟩⟩, trivial⟩ rfl)
      · refine aw_block ?_
        obtain ⟨h4, H⟩ := ib_of H
        refine aw_region (es := [_, _, _, _]) ⟨Step.plain rfl (does_move (.tmp 4) (.int .i64 x1.1) trivial), ⟨⟨rfl, trivial⟩, trivial, rfl⟩, rfl,
          Step.plain rfl (does_indexAddr 32 8 1 1 0 0 [] (.var (e_a8_u32 p0)) (.tmp 10) .i64 x1.1 el32 trivial h4.1 h4.2), ⟨⟨rfl, rfl, trivial⟩, ⟨rfl, trivial⟩, rfl⟩, rfl,
          Step.plain rfl (does_load 22 11 0 (0 + x1.1.toNat * 1) [x1.1.toNat] (.var (e_a8_u32 p0)) (.int .u32 (p0 x1.1.toNat)) ⟨rfl, (ixl h4), trivial⟩ rfl rfl ty22), ⟨⟨rfl, trivial⟩, ⟨rfl, trivial⟩, rfl⟩, rfl,
          Step.plain rfl (does_bin .gtr 22 22 (.tmp 12) (.const (.int .u32 0)) .u32 (p0 x1.1.toNat) 0 (.bool (decide ((p0 x1.1.toNat) > 0))) trivial (fun _ => rfl) (bin_gtr _ _ _ _)), ⟨⟨rfl, trivial⟩, trivial, rfl⟩, rfl, rfl⟩ ?_
        refine aw_cov (cov_prune (s1 := ⟨[(1, (.ptr 0 0 [])), (3, (.own 2)), (4, (.int .i64 x1.1)), (13, (.bool (decide ((p0 x1.1.toNat) > 0))))], [(0, some (.var (e_a8_u32 p0))), (2, some (.arr 1 x1.2.length fun j => (.int .i64 (x1.2.getD j 0))))], 3⟩) ⟨rfl, rfl, rfl, rfl, trivial⟩ ⟨rfl, rfl, trivial⟩ (Nat.le_refl _)) ?_
        refine aw_cond rfl (fun hc => ?_) (fun hc => ?_)
        · replace H := ite_t hc H
          obtain ⟨h5, H⟩ := fit_of H
          refine aw_region1 (es := [_, _, _, _, _]) ⟨Step.plain rfl (does_move (.tmp 3) (.own 2) trivial), ⟨⟨rfl, trivial⟩, trivial, rfl⟩, rfl,
            Step.plain rfl (does_move (.tmp 4) (.int .i64 x1.1) trivial), ⟨⟨rfl, trivial⟩, trivial, rfl⟩, rfl,
            Step.plain rfl (does_buildSl 33 1 1 (.int .i64 0) (fun j => (.int .i64 (([x1.1] : _root_.List Int).getD j 0))) #[(0, (.tmp 15))] [(0, (.tmp 15))] [(0, (.int .i64 x1.1))] rfl so33 (by decide) ⟨⟨rfl, trivial⟩, trivial⟩ ⟨⟨Nat.le_of_ble_eq_true rfl, rfl, rfl⟩, trivial⟩ (fun j h => match j, h with | 0, _ => rfl | k + 1, h => absurd h (by omega))), ⟨⟨rfl, trivial⟩, trivial, rfl⟩, rfl,
            Step.plain rfl (does_appendL (fun z => V.int .i64 z) 0 x1.2 ([x1.1] : _root_.List Int) 33 1 8 2 3 14 16 ap33 h5), ⟨⟨rfl, rfl, trivial⟩, ⟨rfl, trivial⟩, rfl⟩, rfl,
            Step.plain rfl (does_assign (.tmp 17) (.own 3) trivial), ⟨⟨rfl, trivial⟩, trivial, rfl⟩, rfl, rfl⟩ ?_
          refine nx_blk ?_
          exact nx_join ((x1.2 ++ ([x1.1] : _root_.List Int))) H (cov_of (fun i => match i with | 0 => 0 | 2 => 3 | k => k) ⟨⟨_, rfl, ⟨rfl, Nat.le_of_ble_eq_true rfl⟩⟩, ⟨_, rfl, ⟨rfl, Nat.le_of_ble_eq_true rfl⟩⟩, ⟨_, rfl, ⟨rfl, trivial⟩⟩, trivial⟩ ⟨⟨Nat.le_of_ble_eq_true rfl, _, _, rfl, rfl, .inl ⟨rfl, (d_a8_u32 _).plain⟩⟩, ⟨Nat.le_of_ble_eq_true rfl, _, _, rfl, rfl, ⟨rfl, rfl, fun _ => ⟨rfl, trivial⟩⟩⟩, trivial⟩ rfl)
        · replace H := ite_f hc H
          refine aw_skip ?_
          refine nx_blk ?_
          exact nx_join (x1.2) H (cov_of (fun i => match i with | 0 => 0 | 2 => 2 | k => k) ⟨⟨_, rfl, ⟨rfl, Nat.le_of_ble_eq_true rfl⟩⟩, ⟨_, rfl, ⟨rfl, Nat.le_of_ble_eq_true rfl⟩⟩, ⟨_, rfl, ⟨rfl, trivial⟩⟩, trivial⟩ ⟨⟨Nat.le_of_ble_eq_true rfl, _, _, rfl, rfl, .inl ⟨rfl, (d_a8_u32 _).plain⟩⟩, ⟨Nat.le_of_ble_eq_true rfl, _, _, rfl, rfl, ⟨rfl, rfl, fun _ => ⟨rfl, trivial⟩⟩⟩, trivial⟩ rfl)
    · replace H := ite_f hc H
      refine aw_exit ?_
      refine ex_then ?_
      refine ex_then ?_
      refine ex_here ?_
      exact nx_ljoin (x1.2) H hsn2 (cov_prune ⟨rfl, trivial⟩ ⟨rfl, trivial⟩ (Nat.le_of_ble_eq_true rfl))

theorem congressref07_three_spec (p0 : api_Id) (r : (Nat → Int)) (H : congressref07_three p0 = some r) : FSpec Try.prog 22 [(e_api_Id p0)] (e_a3_u32 r) := by
  refine spec_of (fn := Try.f22) (args := [(e_api_Id p0)]) Try.func22 rfl (Nat.le_of_ble_eq_true rfl) ?_
  rintro ⟨G, w0, W, S, Sp⟩ hG
  cases hG
  unfold congressref07_three at H
  refine aw_region (es := [_, _]) ⟨Step.plain rfl (does_box 24 (.tmp 0) 0 (e_api_Id p0) trivial rfl), ⟨⟨rfl, trivial⟩, trivial, rfl⟩, rfl,
    Step.plain rfl (does_alloc 48 1 (e_a3_u32 (fun _ => 0)) zr48), ⟨trivial, trivial, rfl⟩, rfl, rfl⟩ ?_
  refine aw_cov (cov_prune (s1 := ⟨[(1, (.ptr 0 0 [])), (2, (.ptr 1 0 []))], [(0, some (.var (e_api_Id p0))), (1, some (.var (e_a3_u32 (fun _ => 0))))], 2⟩) ⟨rfl, rfl, trivial⟩ ⟨rfl, rfl, trivial⟩ (Nat.le_refl _)) ?_
  refine aw_region (es := [_, _, _, _, _, _, _, _]) ⟨Step.plain rfl (does_fieldAddr 24 0 0 1 0 0 [] (.var (e_api_Id p0)) fl24_0), ⟨⟨rfl, trivial⟩, ⟨rfl, trivial⟩, rfl⟩, rfl,
    Step.plain rfl (does_load 22 3 0 (0 + 0) [0] (.var (e_api_Id p0)) (.int .u32 p0.Epoch) ⟨rfl, Nat.le_of_ble_eq_true rfl, trivial⟩ rfl rfl ty22), ⟨⟨rfl, trivial⟩, ⟨rfl, trivial⟩, rfl⟩, rfl,
    Step.plain rfl (does_fieldAddr 24 1 1 1 0 0 [] (.var (e_api_Id p0)) fl24_1), ⟨⟨rfl, trivial⟩, ⟨rfl, trivial⟩, rfl⟩, rfl,
    Step.plain rfl (does_load 22 5 0 (0 + 1) [1] (.var (e_api_Id p0)) (.int .u32 p0.Coord) ⟨rfl, Nat.le_of_ble_eq_true rfl, trivial⟩ rfl rfl ty22), ⟨⟨rfl, trivial⟩, ⟨rfl, trivial⟩, rfl⟩, rfl,
    Step.plain rfl (does_fieldAddr 24 2 2 1 0 0 [] (.var (e_api_Id p0)) fl24_2), ⟨⟨rfl, trivial⟩, ⟨rfl, trivial⟩, rfl⟩, rfl,
    Step.plain rfl (does_load 22 7 0 (0 + 2) [2] (.var (e_api_Id p0)) (.int .u32 p0.Inc) ⟨rfl, Nat.le_of_ble_eq_true rfl, trivial⟩ rfl rfl ty22), ⟨⟨rfl, trivial⟩, ⟨rfl, trivial⟩, rfl⟩, rfl,
    Step.plain rfl (does_buildT 48 #[(0, (.tmp 4)), (1, (.tmp 6)), (2, (.tmp 8))] [(0, (.tmp 4)), (1, (.tmp 6)), (2, (.tmp 8))] [(0, (.int .u32 p0.Epoch)), (1, (.int .u32 p0.Coord)), (2, (.int .u32 p0.Inc))] (.ar 3 1) (fun j => (.int .u32 ((fun _ => 0) j))) (fun j => (.int .u32 ((aset (fun _ => 0) [(0, p0.Epoch), (1, p0.Coord), (2, p0.Inc)]) j))) rfl bo48 ⟨⟨rfl, trivial⟩, ⟨rfl, trivial⟩, ⟨rfl, trivial⟩, trivial⟩ ⟨⟨Nat.le_of_ble_eq_true rfl, rfl, rfl⟩, ⟨Nat.le_of_ble_eq_true rfl, rfl, rfl⟩, ⟨Nat.le_of_ble_eq_true rfl, rfl, rfl⟩, trivial⟩ (setAll_map (fun z => V.int .u32 z) [(0, p0.Epoch), (1, p0.Coord), (2, p0.Inc)] _)), ⟨⟨rfl, rfl, rfl, trivial⟩, trivial, rfl⟩, rfl,
    Step.plain rfl (does_store 48 2 (.tmp 9) 1 0 [] (.var (e_a3_u32 (fun _ => 0))) (.var (e_a3_u32 (aset (fun _ => 0) [(0, p0.Epoch), (1, p0.Coord), (2, p0.Inc)]))) (e_a3_u32 (aset (fun _ => 0) [(0, p0.Epoch), (1, p0.Coord), (2, p0.Inc)])) true trivial rfl trivial rfl rfl rfl ty48), ⟨⟨rfl, rfl, trivial⟩, ⟨rfl, trivial⟩, rfl⟩, rfl, rfl⟩ ?_
  refine aw_cov (cov_prune (s1 := ⟨[(2, (.ptr 1 0 []))], [(1, some (.var (e_a3_u32 (aset (fun _ => 0) [(0, p0.Epoch), (1, p0.Coord), (2, p0.Inc)]))))], 2⟩) ⟨rfl, trivial⟩ ⟨rfl, trivial⟩ (Nat.le_refl _)) ?_
  refine aw_ret ?_
  exact fun a w hr => ⟨_, [(e_a3_u32 (aset (fun _ => 0) [(0, p0.Epoch), (1, p0.Coord), (2, p0.Inc)]))], hr, ⟨⟨1, _, rfl, rfl, .data _ (d_a3_u32 (aset (fun _ => 0) [(0, p0.Epoch), (1, p0.Coord), (2, p0.Inc)])), ty48⟩, trivial⟩, by decide, by cases H; rfl⟩

theorem congressref07_Compare_spec (p0 : api_Id) (p1 : api_Id) (r : Int) (H : congressref07_Compare p0 p1 = some r) : FSpec Try.prog 16 [(e_api_Id p0), (e_api_Id p1)] (.int .i64 r) := by
  refine spec_of (fn := Try.f16) (args := [(e_api_Id p0), (e_api_Id p1)]) Try.func16 rfl (Nat.le_of_ble_eq_true rfl) ?_
  rintro ⟨G, w0, W, S, Sp⟩ hG
  cases hG
  unfold congressref07_Compare at H
  refine aw_region (es := [_, _, _]) ⟨Step.plain rfl (does_box 24 (.tmp 0) 0 (e_api_Id p0) trivial rfl), ⟨⟨rfl, trivial⟩, trivial, rfl⟩, rfl,
    Step.plain rfl (does_box 24 (.tmp 1) 1 (e_api_Id p1) trivial rfl), ⟨⟨rfl, trivial⟩, trivial, rfl⟩, rfl,
    Step.plain rfl (does_assign (.const (.int .i64 0)) (.int .i64 0) (fun _ => rfl)), ⟨trivial, trivial, rfl⟩, rfl, rfl⟩ ?_
  refine aw_cov (cov_prune (s1 := ⟨[(2, (.ptr 0 0 [])), (3, (.ptr 1 0 []))], [(0, some (.var (e_api_Id p0))), (1, some (.var (e_api_Id p1)))], 2⟩) ⟨rfl, rfl, trivial⟩ ⟨rfl, rfl, trivial⟩ (Nat.le_refl _)) ?_
  obtain ⟨v1, h2, H⟩ := bnd H
  obtain ⟨v3, h4, H⟩ := bnd H
  refine aw_draw (es := [_, _, _, _, _, _, _, _]) (mixed) ⟨Step.plain rfl (does_load 24 2 0 0 [] (.var (e_api_Id p0)) (e_api_Id p0) trivial rfl rfl ty24), ⟨⟨rfl, trivial⟩, ⟨rfl, trivial⟩, rfl⟩, rfl,
    Step.plain rfl (does_call 22 0 (fun _ => .any) (.func 22) [(.tmp 8)] [(e_api_Id p0)] [] true [(e_api_Id p0)] (e_a3_u32 v1) _ _ rfl fo22 rfl ⟨trivial, trivial⟩ ⟨.data _ (d_api_Id p0), trivial⟩ (congressref07_three_spec p0 _ h2) (f_a3_u32 v1)), ⟨⟨rfl, trivial⟩, trivial, rfl⟩, rfl,
    Step.plain rfl (does_load 24 3 1 0 [] (.var (e_api_Id p1)) (e_api_Id p1) trivial rfl rfl ty24), ⟨⟨rfl, trivial⟩, ⟨rfl, trivial⟩, rfl⟩, rfl,
    Step.plain rfl (does_call 22 0 (fun _ => .any) (.func 22) [(.tmp 10)] [(e_api_Id p1)] [] true [(e_api_Id p1)] (e_a3_u32 v3) _ _ rfl fo22 rfl ⟨trivial, trivial⟩ ⟨.data _ (d_api_Id p1), trivial⟩ (congressref07_three_spec p1 _ h4) (f_a3_u32 v3)), ⟨⟨rfl, trivial⟩, trivial, rfl⟩, rfl,
    Step.plain rfl (does_alloc 48 2 (e_a3_u32 (fun _ => 0)) zr48), ⟨trivial, trivial, rfl⟩, rfl,
    Step.plain rfl (does_alloc 48 3 (e_a3_u32 (fun _ => 0)) zr48), ⟨trivial, trivial, rfl⟩, rfl,
    Step.plain rfl (does_store 48 5 (.tmp 9) 2 0 [] (.var (e_a3_u32 (fun _ => 0))) (.var (e_a3_u32 v1)) (e_a3_u32 v1) true trivial rfl trivial rfl rfl rfl ty48), ⟨⟨rfl, rfl, trivial⟩, ⟨rfl, trivial⟩, rfl⟩, rfl,
    Step.plain rfl (does_store 48 6 (.tmp 11) 3 0 [] (.var (e_a3_u32 (fun _ => 0))) (.var (e_a3_u32 v3)) (e_a3_u32 v3) true trivial rfl trivial rfl rfl rfl ty48), ⟨⟨rfl, rfl, trivial⟩, ⟨rfl, trivial⟩, rfl⟩, rfl, rfl⟩ rfl ?_
  refine aw_cov (cov_prune (s1 := ⟨[(5, (.ptr 2 0 [])), (6, (.ptr 3 0 []))], [(2, some (.var (e_a3_u32 v1))), (3, some (.var (e_a3_u32 v3)))], 4⟩) ⟨rfl, rfl, trivial⟩ ⟨rfl, rfl, trivial⟩ (Nat.le_refl _)) ?_
  refine aw_seq ?_
  refine aw_region (es := [_]) ⟨Step.plain rfl (does_assign (.const (.int .i64 0)) (.int .i64 0) (fun _ => rfl)), ⟨trivial, trivial, rfl⟩, rfl, rfl⟩ ?_
  refine aw_cov (cov_prune (s1 := ⟨[(5, (.ptr 2 0 [])), (6, (.ptr 3 0 [])), (7, (.int .i64 0))], [(2, some (.var (e_a3_u32 v1))), (3, some (.var (e_a3_u32 v3)))], 4⟩) ⟨rfl, rfl, rfl, trivial⟩ ⟨rfl, rfl, trivial⟩ (Nat.le_refl _)) ?_
  obtain ⟨wn6, hwn6, Hrn6⟩ := bnd H
  refine aw_meet (fun y11 : Unit => (⟨[], [], 4⟩ : St)) (fun y11 => Fl.nx y11 = wn6) (fun y11 hy => ?_) (aw_block (aw_runs (fun x5 : Int => (⟨[(5, (.ptr 2 0 [])), (6, (.ptr 3 0 [])), (7, (.int .i64 x5))], [(2, some (.var (e_a3_u32 v1))), (3, some (.var (e_a3_u32 v3)))], 4⟩ : St)) hwn6 (cov_prune ⟨rfl, rfl, rfl, trivial⟩ ⟨rfl, rfl, trivial⟩ (Nat.le_of_ble_eq_true rfl)) (fun x5 st H hsn6 => ?_)))
  · have H := nx_of hy Hrn6
    refine nx_seq ?_
    refine aw_region (es := [_]) ⟨Step.plain rfl (does_assign (.const (.int .i64 0)) (.int .i64 0) (fun _ => rfl)), ⟨trivial, trivial, rfl⟩, rfl, rfl⟩ ?_
    refine aw_cov (cov_prune (s1 := ⟨[(4, (.int .i64 0))], [], 4⟩) ⟨rfl, trivial⟩ trivial (Nat.le_refl _)) ?_
    refine aw_ret ?_
    exact fun a w hr => ⟨_, [(.int .i64 0)], hr, ⟨⟨_, rfl, .data _ trivial⟩, trivial⟩, by decide, by cases H; rfl⟩
  · refine aw_seq ?_
    refine aw_region (es := [_, _]) ⟨Step.plain rfl (does_move (.tmp 7) (.int .i64 x5) trivial), ⟨⟨rfl, trivial⟩, trivial, rfl⟩, rfl,
      Step.plain rfl (does_bin .lss 3 3 (.tmp 12) (.const (.int .i64 3)) .i64 x5 3 (.bool (decide (x5 < 3))) trivial (fun _ => rfl) (bin_lss _ _ _ _)), ⟨⟨rfl, trivial⟩, trivial, rfl⟩, rfl, rfl⟩ ?_
    refine aw_cov (cov_prune (s1 := ⟨[(5, (.ptr 2 0 [])), (6, (.ptr 3 0 [])), (7, (.int .i64 x5)), (13, (.bool (decide (x5 < 3))))], [(2, some (.var (e_a3_u32 v1))), (3, some (.var (e_a3_u32 v3)))], 4⟩) ⟨rfl, rfl, rfl, rfl, trivial⟩ ⟨rfl, rfl, trivial⟩ (Nat.le_refl _)) ?_
    refine aw_cond rfl (fun hc => ?_) (fun hc => ?_)
    · replace H := ite_t hc H
      refine aw_skip ?_
      refine nx_seq ?_
      refine aw_seq ?_
      refine aw_block ?_
      refine aw_seq ?_
      obtain ⟨h7, H⟩ := ib_of H
      obtain ⟨h8, H⟩ := ib_of H
      refine aw_draw (es := [_, _, _, _, _, _, _]) (mixed) ⟨Step.plain rfl (does_move (.tmp 7) (.int .i64 x5) trivial), ⟨⟨rfl, trivial⟩, trivial, rfl⟩, rfl,
        Step.plain rfl (does_indexAddr 48 3 1 5 2 0 [] (.var (e_a3_u32 v1)) (.tmp 16) .i64 x5 el48 trivial h7.1 h7.2), ⟨⟨rfl, rfl, trivial⟩, ⟨rfl, trivial⟩, rfl⟩, rfl,
        Step.plain rfl (does_load 22 17 2 (0 + x5.toNat * 1) [x5.toNat] (.var (e_a3_u32 v1)) (.int .u32 (v1 x5.toNat)) ⟨rfl, (ixl h7), trivial⟩ rfl rfl ty22), ⟨⟨rfl, trivial⟩, ⟨rfl, trivial⟩, rfl⟩, rfl,
        Step.plain rfl (does_move (.tmp 7) (.int .i64 x5) trivial), ⟨⟨rfl, trivial⟩, trivial, rfl⟩, rfl,
        Step.plain rfl (does_indexAddr 48 3 1 6 3 0 [] (.var (e_a3_u32 v3)) (.tmp 19) .i64 x5 el48 trivial h8.1 h8.2), ⟨⟨rfl, rfl, trivial⟩, ⟨rfl, trivial⟩, rfl⟩, rfl,
        Step.plain rfl (does_load 22 20 3 (0 + x5.toNat * 1) [x5.toNat] (.var (e_a3_u32 v3)) (.int .u32 (v3 x5.toNat)) ⟨rfl, (ixl h8), trivial⟩ rfl rfl ty22), ⟨⟨rfl, trivial⟩, ⟨rfl, trivial⟩, rfl⟩, rfl,
        Step.plain rfl (does_bin .lss 22 22 (.tmp 18) (.tmp 21) .u32 (v1 x5.toNat) (v3 x5.toNat) (.bool (decide ((v1 x5.toNat) < (v3 x5.toNat)))) trivial trivial (bin_lss _ _ _ _)), ⟨⟨rfl, rfl, trivial⟩, trivial, rfl⟩, rfl, rfl⟩ rfl ?_
      refine aw_cov (cov_prune (s1 := ⟨[(5, (.ptr 2 0 [])), (6, (.ptr 3 0 [])), (7, (.int .i64 x5)), (22, (.bool (decide ((v1 x5.toNat) < (v3 x5.toNat)))))], [(2, some (.var (e_a3_u32 v1))), (3, some (.var (e_a3_u32 v3)))], 4⟩) ⟨rfl, rfl, rfl, rfl, trivial⟩ ⟨rfl, rfl, trivial⟩ (Nat.le_refl _)) ?_
      refine aw_cond rfl (fun hc => ?_) (fun hc => ?_)
      · replace H := ite_t hc H
        refine aw_region (es := [_]) ⟨Step.plain rfl (does_assign (.const (.int .i64 (-1))) (.int .i64 (-1)) (fun _ => rfl)), ⟨trivial, trivial, rfl⟩, rfl, rfl⟩ ?_
        refine aw_cov (cov_prune (s1 := ⟨[(4, (.int .i64 (-1)))], [], 4⟩) ⟨rfl, trivial⟩ trivial (Nat.le_refl _)) ?_
        refine aw_ret ?_
        replace H := rt_of H hsn6 Hrn6
        refine rt_then ?_
        refine rt_blk ?_
        refine rt_then ?_
        refine rt_then ?_
        refine rt_blk ?_
        refine rt_then ?_
        refine rt_then ?_
        exact fun a w hr => ⟨_, [(.int .i64 (-1))], hr, ⟨⟨_, rfl, .data _ trivial⟩, trivial⟩, by decide, by cases H; rfl⟩
      · replace H := ite_f hc H
        refine aw_skip ?_
        refine nx_seq ?_
        obtain ⟨h9, H⟩ := ib_of H
        obtain ⟨h10, H⟩ := ib_of H
        refine aw_draw (es := [_, _, _, _, _, _, _]) (mixed) ⟨Step.plain rfl (does_move (.tmp 7) (.int .i64 x5) trivial), ⟨⟨rfl, trivial⟩, trivial, rfl⟩, rfl,
          Step.plain rfl (does_indexAddr 48 3 1 5 2 0 [] (.var (e_a3_u32 v1)) (.tmp 23) .i64 x5 el48 trivial h9.1 h9.2), ⟨⟨rfl, rfl, trivial⟩, ⟨rfl, trivial⟩, rfl⟩, rfl,
          Step.plain rfl (does_load 22 24 2 (0 + x5.toNat * 1) [x5.toNat] (.var (e_a3_u32 v1)) (.int .u32 (v1 x5.toNat)) ⟨rfl, (ixl h9), trivial⟩ rfl rfl ty22), ⟨⟨rfl, trivial⟩, ⟨rfl, trivial⟩, rfl⟩, rfl,
          Step.plain rfl (does_move (.tmp 7) (.int .i64 x5) trivial), ⟨⟨rfl, trivial⟩, trivial, rfl⟩, rfl,
          Step.plain rfl (does_indexAddr 48 3 1 6 3 0 [] (.var (e_a3_u32 v3)) (.tmp 26) .i64 x5 el48 trivial h10.1 h10.2), ⟨⟨rfl, rfl, trivial⟩, ⟨rfl, trivial⟩, rfl⟩, rfl,
          Step.plain rfl (does_load 22 27 3 (0 + x5.toNat * 1) [x5.toNat] (.var (e_a3_u32 v3)) (.int .u32 (v3 x5.toNat)) ⟨rfl, (ixl h10), trivial⟩ rfl rfl ty22), ⟨⟨rfl, trivial⟩, ⟨rfl, trivial⟩, rfl⟩, rfl,
          Step.plain rfl (does_bin .gtr 22 22 (.tmp 25) (.tmp 28) .u32 (v1 x5.toNat) (v3 x5.toNat) (.bool (decide ((v1 x5.toNat) > (v3 x5.toNat)))) trivial trivial (bin_gtr _ _ _ _)), ⟨⟨rfl, rfl, trivial⟩, trivial, rfl⟩, rfl, rfl⟩ rfl ?_
        refine aw_cov (cov_prune (s1 := ⟨[(5, (.ptr 2 0 [])), (6, (.ptr 3 0 [])), (7, (.int .i64 x5)), (29, (.bool (decide ((v1 x5.toNat) > (v3 x5.toNat)))))], [(2, some (.var (e_a3_u32 v1))), (3, some (.var (e_a3_u32 v3)))], 4⟩) ⟨rfl, rfl, rfl, rfl, trivial⟩ ⟨rfl, rfl, trivial⟩ (Nat.le_refl _)) ?_
        refine aw_cond rfl (fun hc => ?_) (fun hc => ?_)
        · replace H := ite_t hc H
          refine aw_region (es := [_]) ⟨Step.plain rfl (does_assign (.const (.int .i64 1)) (.int .i64 1) (fun _ => rfl)), ⟨trivial, trivial, rfl⟩, rfl, rfl⟩ ?_
          refine aw_cov (cov_prune (s1 := ⟨[(4, (.int .i64 1))], [], 4⟩) ⟨rfl, trivial⟩ trivial (Nat.le_refl _)) ?_
          refine aw_ret ?_
          replace H := rt_of H hsn6 Hrn6
          refine rt_blk ?_
          refine rt_then ?_
          refine rt_then ?_
          refine rt_blk ?_
          refine rt_then ?_
          refine rt_then ?_
          exact fun a w hr => ⟨_, [(.int .i64 1)], hr, ⟨⟨_, rfl, .data _ trivial⟩, trivial⟩, by decide, by cases H; rfl⟩
        · replace H := ite_f hc H
          refine aw_skip ?_
          refine nx_blk ?_
          refine nx_seq ?_
          refine aw_region1 (es := [_, _, _]) ⟨Step.plain rfl (does_move (.tmp 7) (.int .i64 x5) trivial), ⟨⟨rfl, trivial⟩, trivial, rfl⟩, rfl,
            Step.plain rfl (does_bin .add 3 3 (.tmp 14) (.const (.int .i64 1)) .i64 x5 1 (.int .i64 (IntKind.i64.wrap (x5 + 1))) trivial (fun _ => rfl) (bin_add _ _ _ _)), ⟨⟨rfl, trivial⟩, trivial, rfl⟩, rfl,
            Step.plain rfl (does_assign (.tmp 15) (.int .i64 (IntKind.i64.wrap (x5 + 1))) trivial), ⟨⟨rfl, trivial⟩, trivial, rfl⟩, rfl, rfl⟩ ?_
          exact nx_loop ((IntKind.i64.wrap (x5 + 1))) H (cov_prune ⟨rfl, rfl, rfl, trivial⟩ ⟨rfl, rfl, trivial⟩ (Nat.le_of_ble_eq_true rfl))
    · replace H := ite_f hc H
      refine aw_exit ?_
      refine ex_then ?_
      refine ex_then ?_
      refine ex_here ?_
      exact nx_ljoin () H hsn6 (cov_prune trivial trivial (Nat.le_of_ble_eq_true rfl))

theorem congressref07_Ints_spec (p0 : (_root_.List Int)) (p1 : (_root_.List Int)) (r : Bool) (H : congressref07_Ints p0 p1 = some r) : FSpec Try.prog 17 [(e_s_i64 p0), (e_s_i64 p1)] (.bool r) := by
  refine spec_of (fn := Try.f17) (args := [(e_s_i64 p0), (e_s_i64 p1)]) Try.func17 rfl (Nat.le_of_ble_eq_true rfl) ?_
  rintro ⟨G, w0, W, S, Sp⟩ hG
  cases hG
  unfold congressref07_Ints at H
  refine aw_region (es := [_]) ⟨Step.plain rfl (does_assign (.const (.bool false)) (.bool false) (fun _ => rfl)), ⟨trivial, trivial, rfl⟩, rfl, rfl⟩ ?_
  refine aw_cov (cov_prune (s1 := ⟨[(0, (e_s_i64 p0)), (1, (e_s_i64 p1))], [], 0⟩) ⟨rfl, rfl, trivial⟩ trivial (Nat.le_refl _)) ?_
  refine aw_seq ?_
  refine aw_region (es := [_, _, _, _, _]) ⟨Step.plain rfl (does_move (.tmp 0) (e_s_i64 p0) trivial), ⟨⟨rfl, trivial⟩, trivial, rfl⟩, rfl,
    Step.plain rfl (does_lens 33 1 p0.length 6 (fun j => (.int .i64 (p0.getD j 0))) el33), ⟨⟨rfl, trivial⟩, trivial, rfl⟩, rfl,
    Step.plain rfl (does_move (.tmp 1) (e_s_i64 p1) trivial), ⟨⟨rfl, trivial⟩, trivial, rfl⟩, rfl,
    Step.plain rfl (does_lens 33 1 p1.length 8 (fun j => (.int .i64 (p1.getD j 0))) el33), ⟨⟨rfl, trivial⟩, trivial, rfl⟩, rfl,
    Step.plain rfl (does_bin .neq 3 3 (.tmp 7) (.tmp 9) .i64 (p0.length : Int) (p1.length : Int) (.bool ((p0.length : Int) != (p1.length : Int))) trivial trivial (bin_neq _ _ _ _)), ⟨⟨rfl, rfl, trivial⟩, trivial, rfl⟩, rfl, rfl⟩ ?_
  refine aw_cov (cov_prune (s1 := ⟨[(0, (e_s_i64 p0)), (1, (e_s_i64 p1)), (10, (.bool ((p0.length : Int) != (p1.length : Int))))], [], 0⟩) ⟨rfl, rfl, rfl, trivial⟩ trivial (Nat.le_refl _)) ?_
  refine aw_cond rfl (fun hc => ?_) (fun hc => ?_)
  · replace H := ite_t hc H
    refine aw_region (es := [_]) ⟨Step.plain rfl (does_assign (.const (.bool false)) (.bool false) (fun _ => rfl)), ⟨trivial, trivial, rfl⟩, rfl, rfl⟩ ?_
    refine aw_cov (cov_prune (s1 := ⟨[(4, (.bool false))], [], 0⟩) ⟨rfl, trivial⟩ trivial (Nat.le_refl _)) ?_
    refine aw_ret ?_
    refine rt_then ?_
    exact fun a w hr => ⟨_, [(.bool false)], hr, ⟨⟨_, rfl, .data _ trivial⟩, trivial⟩, by decide, by cases H; rfl⟩
  · replace H := ite_f hc H
    refine aw_skip ?_
    refine nx_seq ?_
    refine aw_seq ?_
    refine aw_region (es := [_]) ⟨Step.plain rfl (does_assign (.const (.int .i64 0)) (.int .i64 0) (fun _ => rfl)), ⟨trivial, trivial, rfl⟩, rfl, rfl⟩ ?_
    refine aw_cov (cov_prune (s1 := ⟨[(0, (e_s_i64 p0)), (1, (e_s_i64 p1)), (5, (.int .i64 0))], [], 0⟩) ⟨rfl, rfl, rfl, trivial⟩ trivial (Nat.le_refl _)) ?_
    obtain ⟨wn2, hwn2, Hrn2⟩ := bnd H
    refine aw_meet (fun y5 : Unit => (⟨[], [], 0⟩ : St)) (fun y5 => Fl.nx y5 = wn2) (fun y5 hy => ?_) (aw_block (aw_runs (fun x1 : Int => (⟨[(0, (e_s_i64 p0)), (1, (e_s_i64 p1)), (5, (.int .i64 x1))], [], 0⟩ : St)) hwn2 (cov_prune ⟨rfl, rfl, rfl, trivial⟩ trivial (Nat.le_of_ble_eq_true rfl)) (fun x1 st H hsn2 => ?_)))
    · have H := nx_of hy Hrn2
      refine nx_seq ?_
      refine aw_region (es := [_]) ⟨Step.plain rfl (does_assign (.const (.bool true)) (.bool true) (fun _ => rfl)), ⟨trivial, trivial, rfl⟩, rfl, rfl⟩ ?_
      refine aw_cov (cov_prune (s1 := ⟨[(4, (.bool true))], [], 0⟩) ⟨rfl, trivial⟩ trivial (Nat.le_refl _)) ?_
      refine aw_ret ?_
      exact fun a w hr => ⟨_, [(.bool true)], hr, ⟨⟨_, rfl, .data _ trivial⟩, trivial⟩, by decide, by cases H; rfl⟩
    · refine aw_seq ?_
      refine aw_region (es := [_, _, _, _]) ⟨Step.plain rfl (does_move (.tmp 5) (.int .i64 x1) trivial), ⟨⟨rfl, trivial⟩, trivial, rfl⟩, rfl,
        Step.plain rfl (does_move (.tmp 0) (e_s_i64 p0) trivial), ⟨⟨rfl, trivial⟩, trivial, rfl⟩, rfl,
        Step.plain rfl (does_lens 33 1 p0.length 12 (fun j => (.int .i64 (p0.getD j 0))) el33), ⟨⟨rfl, trivial⟩, trivial, rfl⟩, rfl,
        Step.plain rfl (does_bin .lss 3 3 (.tmp 11) (.tmp 13) .i64 x1 (p0.length : Int) (.bool (decide (x1 < (p0.length : Int)))) trivial trivial (bin_lss _ _ _ _)), ⟨⟨rfl, rfl, trivial⟩, trivial, rfl⟩, rfl, rfl⟩ ?_
      refine aw_cov (cov_prune (s1 := ⟨[(0, (e_s_i64 p0)), (1, (e_s_i64 p1)), (5, (.int .i64 x1)), (14, (.bool (decide (x1 < (p0.length : Int)))))], [], 0⟩) ⟨rfl, rfl, rfl, rfl, trivial⟩ trivial (Nat.le_refl _)) ?_
      refine aw_cond rfl (fun hc => ?_) (fun hc => ?_)
      · replace H := ite_t hc H
        refine aw_skip ?_
        refine nx_seq ?_
        refine aw_seq ?_
        refine aw_block ?_
        obtain ⟨h3, H⟩ := ib_of H
        obtain ⟨h4, H⟩ := ib_of H
        refine aw_draw (es := [_, _, _, _, _, _, _, _, _]) (mixed) ⟨Step.plain rfl (does_move (.tmp 0) (e_s_i64 p0) trivial), ⟨⟨rfl, trivial⟩, trivial, rfl⟩, rfl,
          Step.plain rfl (does_move (.tmp 5) (.int .i64 x1) trivial), ⟨⟨rfl, trivial⟩, trivial, rfl⟩, rfl,
          Step.plain rfl (does_indexAddrs 33 1 p0.length 17 (fun j => (.int .i64 (p0.getD j 0))) (.tmp 18) .i64 x1 el33 trivial h3.1 h3.2), ⟨⟨rfl, rfl, trivial⟩, trivial, rfl⟩, rfl,
          Step.plain rfl (does_loadc 3 19 (.int .i64 (p0.getD x1.toNat 0)) ty3), ⟨⟨rfl, trivial⟩, trivial, rfl⟩, rfl,
          Step.plain rfl (does_move (.tmp 1) (e_s_i64 p1) trivial), ⟨⟨rfl, trivial⟩, trivial, rfl⟩, rfl,
          Step.plain rfl (does_move (.tmp 5) (.int .i64 x1) trivial), ⟨⟨rfl, trivial⟩, trivial, rfl⟩, rfl,
          Step.plain rfl (does_indexAddrs 33 1 p1.length 21 (fun j => (.int .i64 (p1.getD j 0))) (.tmp 22) .i64 x1 el33 trivial h4.1 h4.2), ⟨⟨rfl, rfl, trivial⟩, trivial, rfl⟩, rfl,
          Step.plain rfl (does_loadc 3 23 (.int .i64 (p1.getD x1.toNat 0)) ty3), ⟨⟨rfl, trivial⟩, trivial, rfl⟩, rfl,
          Step.plain rfl (does_bin .neq 3 3 (.tmp 20) (.tmp 24) .i64 (p0.getD x1.toNat 0) (p1.getD x1.toNat 0) (.bool ((p0.getD x1.toNat 0) != (p1.getD x1.toNat 0))) trivial trivial (bin_neq _ _ _ _)), ⟨⟨rfl, rfl, trivial⟩, trivial, rfl⟩, rfl, rfl⟩ rfl ?_
        refine aw_cov (cov_prune (s1 := ⟨[(0, (e_s_i64 p0)), (1, (e_s_i64 p1)), (5, (.int .i64 x1)), (25, (.bool ((p0.getD x1.toNat 0) != (p1.getD x1.toNat 0))))], [], 0⟩) ⟨rfl, rfl, rfl, rfl, trivial⟩ trivial (Nat.le_refl _)) ?_
        refine aw_cond rfl (fun hc => ?_) (fun hc => ?_)
        · replace H := ite_t hc H
          refine aw_region (es := [_]) ⟨Step.plain rfl (does_assign (.const (.bool false)) (.bool false) (fun _ => rfl)), ⟨trivial, trivial, rfl⟩, rfl, rfl⟩ ?_
          refine aw_cov (cov_prune (s1 := ⟨[(4, (.bool false))], [], 0⟩) ⟨rfl, trivial⟩ trivial (Nat.le_refl _)) ?_
          refine aw_ret ?_
          replace H := rt_of H hsn2 Hrn2
          refine rt_blk ?_
          refine rt_then ?_
          refine rt_then ?_
          refine rt_blk ?_
          refine rt_then ?_
          refine rt_then ?_
          exact fun a w hr => ⟨_, [(.bool false)], hr, ⟨⟨_, rfl, .data _ trivial⟩, trivial⟩, by decide, by cases H; rfl⟩
        · replace H := ite_f hc H
          refine aw_skip ?_
          refine nx_blk ?_
          refine nx_seq ?_
          refine aw_region1 (es := [_, _, _]) ⟨Step.plain rfl (does_move (.tmp 5) (.int .i64 x1) trivial), ⟨⟨rfl, trivial⟩, trivial, rfl⟩, rfl,
            Step.plain rfl (does_bin .add 3 3 (.tmp 15) (.const (.int .i64 1)) .i64 x1 1 (.int .i64 (IntKind.i64.wrap (x1 + 1))) trivial (fun _ => rfl) (bin_add _ _ _ _)), ⟨⟨rfl, trivial⟩, trivial, rfl⟩, rfl,
            Step.plain rfl (does_assign (.tmp 16) (.int .i64 (IntKind.i64.wrap (x1 + 1))) trivial), ⟨⟨rfl, trivial⟩, trivial, rfl⟩, rfl, rfl⟩ ?_
          exact nx_loop ((IntKind.i64.wrap (x1 + 1))) H (cov_prune ⟨rfl, rfl, rfl, trivial⟩ trivial (Nat.le_of_ble_eq_true rfl))
      · replace H := ite_f hc H
        refine aw_exit ?_
        refine ex_then ?_
        refine ex_then ?_
        refine ex_here ?_
        exact nx_ljoin () H hsn2 (cov_prune trivial trivial (Nat.le_of_ble_eq_true rfl))

theorem ident_Same_spec (p0 : (Nat → Int)) (p1 : (Nat → Int)) (r : (Nat → Int)) (H : ident_Same p0 p1 = some r) : FSpec Try.prog 18 [(e_a8_u32 p0), (e_a8_u32 p1)] (e_a8_u32 r) := by
  refine spec_of (fn := Try.f18) (args := [(e_a8_u32 p0), (e_a8_u32 p1)]) Try.func18 rfl (Nat.le_of_ble_eq_true rfl) ?_
  rintro ⟨G, w0, W, S, Sp⟩ hG
  cases hG
  unfold ident_Same at H
  refine aw_region (es := [_, _, _]) ⟨Step.plain rfl (does_box 32 (.tmp 0) 0 (e_a8_u32 p0) trivial rfl), ⟨⟨rfl, trivial⟩, trivial, rfl⟩, rfl,
    Step.plain rfl (does_box 32 (.tmp 1) 1 (e_a8_u32 p1) trivial rfl), ⟨⟨rfl, trivial⟩, trivial, rfl⟩, rfl,
    Step.plain rfl (does_alloc 32 2 (e_a8_u32 (fun _ => 0)) zr32), ⟨trivial, trivial, rfl⟩, rfl, rfl⟩ ?_
  refine aw_cov (cov_prune (s1 := ⟨[(2, (.ptr 0 0 [])), (3, (.ptr 1 0 [])), (4, (.ptr 2 0 []))], [(0, some (.var (e_a8_u32 p0))), (1, some (.var (e_a8_u32 p1))), (2, some (.var (e_a8_u32 (fun _ => 0))))], 3⟩) ⟨rfl, rfl, rfl, trivial⟩ ⟨rfl, rfl, rfl, trivial⟩ (Nat.le_refl _)) ?_
  refine aw_region (es := [_]) ⟨Step.plain rfl (does_alloc 32 3 (e_a8_u32 (fun _ => 0)) zr32), ⟨trivial, trivial, rfl⟩, rfl, rfl⟩ ?_
  refine aw_cov (cov_prune (s1 := ⟨[(2, (.ptr 0 0 [])), (3, (.ptr 1 0 [])), (4, (.ptr 2 0 [])), (5, (.ptr 3 0 []))], [(0, some (.var (e_a8_u32 p0))), (1, some (.var (e_a8_u32 p1))), (2, some (.var (e_a8_u32 (fun _ => 0)))), (3, some (.var (e_a8_u32 (fun _ => 0))))], 4⟩) ⟨rfl, rfl, rfl, rfl, trivial⟩ ⟨rfl, rfl, rfl, rfl, trivial⟩ (Nat.le_refl _)) ?_
  refine aw_seq ?_
  refine aw_region (es := [_, _]) ⟨Step.plain rfl (does_load 32 2 0 0 [] (.var (e_a8_u32 p0)) (e_a8_u32 p0) trivial rfl rfl ty32), ⟨⟨rfl, trivial⟩, ⟨rfl, trivial⟩, rfl⟩, rfl,
    Step.plain rfl (does_move (.const (.int .i64 0)) (.int .i64 0) (fun _ => rfl)), ⟨trivial, trivial, rfl⟩, rfl, rfl⟩ ?_
  refine aw_cov (cov_prune (s1 := ⟨[(3, (.ptr 1 0 [])), (4, (.ptr 2 0 [])), (5, (.ptr 3 0 [])), (8, (e_a8_u32 p0)), (9, (.int .i64 0))], [(1, some (.var (e_a8_u32 p1))), (2, some (.var (e_a8_u32 (fun _ => 0)))), (3, some (.var (e_a8_u32 (fun _ => 0))))], 4⟩) ⟨rfl, rfl, rfl, rfl, rfl, trivial⟩ ⟨rfl, rfl, rfl, trivial⟩ (Nat.le_refl _)) ?_
  obtain ⟨wn2, hwn2, Hrn2⟩ := bnd H
  refine aw_meet (fun y8 : (Nat → Int) => (⟨[(4, (.ptr 2 0 [])), (5, (.ptr 3 0 []))], [(2, some (.var (e_a8_u32 (fun _ => 0)))), (3, some (.var (e_a8_u32 y8)))], 4⟩ : St)) (fun y8 => Fl.nx y8 = wn2) (fun y8 hy => ?_) (aw_block (aw_runs (fun x1 : Int × (Nat → Int) => (⟨[(3, (.ptr 1 0 [])), (4, (.ptr 2 0 [])), (5, (.ptr 3 0 [])), (8, (e_a8_u32 p0)), (9, (.int .i64 x1.1))], [(1, some (.var (e_a8_u32 p1))), (2, some (.var (e_a8_u32 (fun _ => 0)))), (3, some (.var (e_a8_u32 x1.2)))], 4⟩ : St)) hwn2 (cov_prune ⟨rfl, rfl, rfl, rfl, rfl, trivial⟩ ⟨rfl, rfl, rfl, trivial⟩ (Nat.le_of_ble_eq_true rfl)) (fun x1 st H hsn2 => ?_)))
  · have H := nx_of hy Hrn2
    refine nx_seq ?_
    refine aw_region (es := [_, _]) ⟨Step.plain rfl (does_load 32 5 3 0 [] (.var (e_a8_u32 y8)) (e_a8_u32 y8) trivial rfl rfl ty32), ⟨⟨rfl, trivial⟩, ⟨rfl, trivial⟩, rfl⟩, rfl,
      Step.plain rfl (does_store 32 4 (.tmp 22) 2 0 [] (.var (e_a8_u32 (fun _ => 0))) (.var (e_a8_u32 y8)) (e_a8_u32 y8) true trivial rfl trivial rfl rfl rfl ty32), ⟨⟨rfl, rfl, trivial⟩, ⟨rfl, trivial⟩, rfl⟩, rfl, rfl⟩ ?_
    refine aw_cov (cov_prune (s1 := ⟨[(4, (.ptr 2 0 []))], [(2, some (.var (e_a8_u32 y8)))], 4⟩) ⟨rfl, trivial⟩ ⟨rfl, trivial⟩ (Nat.le_refl _)) ?_
    refine aw_ret ?_
    exact fun a w hr => ⟨_, [(e_a8_u32 y8)], hr, ⟨⟨2, _, rfl, rfl, .data _ (d_a8_u32 y8), ty32⟩, trivial⟩, by decide, by cases H; rfl⟩
  · refine aw_region (es := [_]) ⟨Step.plain rfl (does_bin .lss 3 3 (.tmp 9) (.const (.int .i64 8)) .i64 x1.1 8 (.bool (decide (x1.1 < 8))) trivial (fun _ => rfl) (bin_lss _ _ _ _)), ⟨⟨rfl, trivial⟩, trivial, rfl⟩, rfl, rfl⟩ ?_
    refine aw_cov (cov_prune (s1 := ⟨[(3, (.ptr 1 0 [])), (4, (.ptr 2 0 [])), (5, (.ptr 3 0 [])), (8, (e_a8_u32 p0)), (9, (.int .i64 x1.1)), (10, (.bool (decide (x1.1 < 8))))], [(1, some (.var (e_a8_u32 p1))), (2, some (.var (e_a8_u32 (fun _ => 0)))), (3, some (.var (e_a8_u32 x1.2)))], 4⟩) ⟨rfl, rfl, rfl, rfl, rfl, rfl, trivial⟩ ⟨rfl, rfl, rfl, trivial⟩ (Nat.le_refl _)) ?_
    refine aw_seq ?_
    refine aw_cond rfl (fun hc => ?_) (fun hc => ?_)
    · replace H := ite_t hc H
      refine aw_skip ?_
      refine nx_seq ?_
      refine aw_seq ?_
      refine aw_jn (fun x7 : (Nat → Int) => (⟨[(3, (.ptr 1 0 [])), (4, (.ptr 2 0 [])), (5, (.ptr 3 0 [])), (8, (e_a8_u32 p0)), (9, (.int .i64 x1.1))], [(1, some (.var (e_a8_u32 p1))), (2, some (.var (e_a8_u32 (fun _ => 0)))), (3, some (.var (e_a8_u32 x7)))], 4⟩ : St)) H (fun x7 H => ?_) (fun j3 H => ?_)
      · refine nx_seq ?_
        refine aw_region1 (es := [_, _]) ⟨Step.plain rfl (does_bin .add 3 3 (.tmp 9) (.const (.int .i64 1)) .i64 x1.1 1 (.int .i64 (IntKind.i64.wrap (x1.1 + 1))) trivial (fun _ => rfl) (bin_add _ _ _ _)), ⟨⟨rfl, trivial⟩, trivial, rfl⟩, rfl,
          Step.plain rfl (does_move (.tmp 21) (.int .i64 (IntKind.i64.wrap (x1.1 + 1))) trivial), ⟨⟨rfl, trivial⟩, trivial, rfl⟩, rfl, rfl⟩ ?_
        exact nx_loop ((IntKind.i64.wrap (x1.1 + 1)), x7) H (cov_prune ⟨rfl, rfl, rfl, rfl, rfl, trivial⟩ ⟨rfl, rfl, rfl, trivial⟩ (Nat.le_of_ble_eq_true rfl))
      · refine aw_block ?_
        obtain ⟨h4, H⟩ := ib_of H
        refine aw_region (es := [_, _, _, _]) ⟨Step.plain rfl (does_move (.tmp 9) (.int .i64 x1.1) trivial), ⟨⟨rfl, trivial⟩, trivial, rfl⟩, rfl,
          Step.plain rfl (does_index 32 8 22 1 8 false (fun j => (.int .u32 (p0 j))) (.tmp 9) .i64 x1.1 ua32 ty22 rfl trivial h4.1 h4.2), ⟨⟨rfl, rfl, trivial⟩, trivial, rfl⟩, rfl,
          Step.plain rfl (does_assign (.tmp 11) (.int .i64 x1.1) trivial), ⟨⟨rfl, trivial⟩, trivial, rfl⟩, rfl,
          Step.plain rfl (does_assign (.tmp 12) (.int .u32 (p0 x1.1.toNat)) trivial), ⟨⟨rfl, trivial⟩, trivial, rfl⟩, rfl, rfl⟩ ?_
        refine aw_cov (cov_prune (s1 := ⟨[(3, (.ptr 1 0 [])), (4, (.ptr 2 0 [])), (5, (.ptr 3 0 [])), (8, (e_a8_u32 p0)), (9, (.int .i64 x1.1)), (6, (.int .i64 x1.1)), (7, (.int .u32 (p0 x1.1.toNat)))], [(1, some (.var (e_a8_u32 p1))), (2, some (.var (e_a8_u32 (fun _ => 0)))), (3, some (.var (e_a8_u32 x1.2)))], 4⟩) ⟨rfl, rfl, rfl, rfl, rfl, rfl, rfl, trivial⟩ ⟨rfl, rfl, rfl, trivial⟩ (Nat.le_refl _)) ?_
        obtain ⟨h5, H⟩ := ib_of H
        refine aw_region (es := [_, _, _, _, _]) ⟨Step.plain rfl (does_move (.tmp 6) (.int .i64 x1.1) trivial), ⟨⟨rfl, trivial⟩, trivial, rfl⟩, rfl,
          Step.plain rfl (does_indexAddr 32 8 1 3 1 0 [] (.var (e_a8_u32 p1)) (.tmp 13) .i64 x1.1 el32 trivial h5.1 h5.2), ⟨⟨rfl, rfl, trivial⟩, ⟨rfl, trivial⟩, rfl⟩, rfl,
          Step.plain rfl (does_load 22 14 1 (0 + x1.1.toNat * 1) [x1.1.toNat] (.var (e_a8_u32 p1)) (.int .u32 (p1 x1.1.toNat)) ⟨rfl, (ixl h5), trivial⟩ rfl rfl ty22), ⟨⟨rfl, trivial⟩, ⟨rfl, trivial⟩, rfl⟩, rfl,
          Step.plain rfl (does_move (.tmp 7) (.int .u32 (p0 x1.1.toNat)) trivial), ⟨⟨rfl, trivial⟩, trivial, rfl⟩, rfl,
          Step.plain rfl (does_bin .eql 22 22 (.tmp 15) (.tmp 16) .u32 (p1 x1.1.toNat) (p0 x1.1.toNat) (.bool ((p1 x1.1.toNat) == (p0 x1.1.toNat))) trivial trivial (bin_eql _ _ _ _)), ⟨⟨rfl, rfl, trivial⟩, trivial, rfl⟩, rfl, rfl⟩ ?_
        refine aw_cov (cov_prune (s1 := ⟨[(3, (.ptr 1 0 [])), (4, (.ptr 2 0 [])), (5, (.ptr 3 0 [])), (8, (e_a8_u32 p0)), (9, (.int .i64 x1.1)), (6, (.int .i64 x1.1)), (7, (.int .u32 (p0 x1.1.toNat))), (17, (.bool ((p1 x1.1.toNat) == (p0 x1.1.toNat))))], [(1, some (.var (e_a8_u32 p1))), (2, some (.var (e_a8_u32 (fun _ => 0)))), (3, some (.var (e_a8_u32 x1.2)))], 4⟩) ⟨rfl, rfl, rfl, rfl, rfl, rfl, rfl, rfl, trivial⟩ ⟨rfl, rfl, rfl, trivial⟩ (Nat.le_refl _)) ?_
        refine aw_cond rfl (fun hc => ?_) (fun hc => ?_)
        · replace H := ite_t hc H
          obtain ⟨h6, H⟩ := ib_of H
          refine aw_region1 (es := [_, _, _, _]) ⟨Step.plain rfl (does_move (.tmp 6) (.int .i64 x1.1) trivial), ⟨⟨rfl, trivial⟩, trivial, rfl⟩, rfl,
            Step.plain rfl (does_move (.tmp 7) (.int .u32 (p0 x1.1.toNat)) trivial), ⟨⟨rfl, trivial⟩, trivial, rfl⟩, rfl,
            Step.plain rfl (does_indexAddr 32 8 1 5 3 0 [] (.var (e_a8_u32 x1.2)) (.tmp 18) .i64 x1.1 el32 trivial h6.1 h6.2), ⟨⟨rfl, rfl, trivial⟩, ⟨rfl, trivial⟩, rfl⟩, rfl,
            Step.plain rfl (does_store 22 20 (.tmp 19) 3 (0 + x1.1.toNat * 1) [x1.1.toNat] (.var (e_a8_u32 x1.2)) (.var (e_a8_u32 (aupd x1.2 x1.1.toNat (p0 x1.1.toNat)))) (.int .u32 (p0 x1.1.toNat)) false trivial rfl ⟨rfl, (ixl h6), trivial⟩ rfl rfl (congrArg Box.var (set_cons rfl (vupd_map (fun z => V.int .u32 z) _ _ _))) ty22), ⟨⟨rfl, rfl, trivial⟩, ⟨rfl, trivial⟩, rfl⟩, rfl, rfl⟩ ?_
          refine nx_blk ?_
          exact nx_join (aupd x1.2 x1.1.toNat (p0 x1.1.toNat)) H (cov_prune ⟨rfl, rfl, rfl, rfl, rfl, trivial⟩ ⟨rfl, rfl, rfl, trivial⟩ (Nat.le_of_ble_eq_true rfl))
        · replace H := ite_f hc H
          refine aw_skip ?_
          refine nx_blk ?_
          exact nx_join (x1.2) H (cov_prune ⟨rfl, rfl, rfl, rfl, rfl, trivial⟩ ⟨rfl, rfl, rfl, trivial⟩ (Nat.le_of_ble_eq_true rfl))
    · replace H := ite_f hc H
      refine aw_exit ?_
      refine ex_then ?_
      refine ex_then ?_
      refine ex_here ?_
      exact nx_ljoin (x1.2) H hsn2 (cov_prune ⟨rfl, rfl, trivial⟩ ⟨rfl, rfl, trivial⟩ (Nat.le_of_ble_eq_true rfl))

theorem congressref07_Same_spec (p0 : (Nat → Int)) (p1 : (Nat → Int)) (r : (Nat → Int)) (H : congressref07_Same p0 p1 = some r) : FSpec Try.prog 19 [(e_a8_u32 p0), (e_a8_u32 p1)] (e_a8_u32 r) := by
  refine spec_of (fn := Try.f19) (args := [(e_a8_u32 p0), (e_a8_u32 p1)]) Try.func19 rfl (Nat.le_of_ble_eq_true rfl) ?_
  rintro ⟨G, w0, W, S, Sp⟩ hG
  cases hG
  unfold congressref07_Same at H
  refine aw_region (es := [_, _, _]) ⟨Step.plain rfl (does_box 32 (.tmp 0) 0 (e_a8_u32 p0) trivial rfl), ⟨⟨rfl, trivial⟩, trivial, rfl⟩, rfl,
    Step.plain rfl (does_box 32 (.tmp 1) 1 (e_a8_u32 p1) trivial rfl), ⟨⟨rfl, trivial⟩, trivial, rfl⟩, rfl,
    Step.plain rfl (does_alloc 32 2 (e_a8_u32 (fun _ => 0)) zr32), ⟨trivial, trivial, rfl⟩, rfl, rfl⟩ ?_
  refine aw_cov (cov_prune (s1 := ⟨[(2, (.ptr 0 0 [])), (3, (.ptr 1 0 [])), (4, (.ptr 2 0 []))], [(0, some (.var (e_a8_u32 p0))), (1, some (.var (e_a8_u32 p1))), (2, some (.var (e_a8_u32 (fun _ => 0))))], 3⟩) ⟨rfl, rfl, rfl, trivial⟩ ⟨rfl, rfl, rfl, trivial⟩ (Nat.le_refl _)) ?_
  refine aw_region (es := [_, _, _]) ⟨Step.plain rfl (does_buildT 32 #[] [] [] (.ar 8 1) (fun j => (.int .u32 ((fun _ => 0) j))) (fun j => (.int .u32 ((aset (fun _ => 0) []) j))) rfl bo32 trivial trivial (setAll_map (fun z => V.int .u32 z) [] _)), ⟨trivial, trivial, rfl⟩, rfl,
    Step.plain rfl (does_alloc 32 3 (e_a8_u32 (fun _ => 0)) zr32), ⟨trivial, trivial, rfl⟩, rfl,
    Step.plain rfl (does_store 32 5 (.tmp 7) 3 0 [] (.var (e_a8_u32 (fun _ => 0))) (.var (e_a8_u32 (aset (fun _ => 0) []))) (e_a8_u32 (aset (fun _ => 0) [])) true trivial rfl trivial rfl rfl rfl ty32), ⟨⟨rfl, rfl, trivial⟩, ⟨rfl, trivial⟩, rfl⟩, rfl, rfl⟩ ?_
  refine aw_cov (cov_prune (s1 := ⟨[(2, (.ptr 0 0 [])), (3, (.ptr 1 0 [])), (4, (.ptr 2 0 [])), (5, (.ptr 3 0 []))], [(0, some (.var (e_a8_u32 p0))), (1, some (.var (e_a8_u32 p1))), (2, some (.var (e_a8_u32 (fun _ => 0)))), (3, some (.var (e_a8_u32 (aset (fun _ => 0) []))))], 4⟩) ⟨rfl, rfl, rfl, rfl, trivial⟩ ⟨rfl, rfl, rfl, rfl, trivial⟩ (Nat.le_refl _)) ?_
  refine aw_seq ?_
  refine aw_region (es := [_]) ⟨Step.plain rfl (does_assign (.const (.int .i64 0)) (.int .i64 0) (fun _ => rfl)), ⟨trivial, trivial, rfl⟩, rfl, rfl⟩ ?_
  refine aw_cov (cov_prune (s1 := ⟨[(2, (.ptr 0 0 [])), (3, (.ptr 1 0 [])), (4, (.ptr 2 0 [])), (5, (.ptr 3 0 [])), (6, (.int .i64 0))], [(0, some (.var (e_a8_u32 p0))), (1, some (.var (e_a8_u32 p1))), (2, some (.var (e_a8_u32 (fun _ => 0)))), (3, some (.var (e_a8_u32 (aset (fun _ => 0) []))))], 4⟩) ⟨rfl, rfl, rfl, rfl, rfl, trivial⟩ ⟨rfl, rfl, rfl, rfl, trivial⟩ (Nat.le_refl _)) ?_
  obtain ⟨wn2, hwn2, Hrn2⟩ := bnd H
  refine aw_meet (fun y9 : (Nat → Int) => (⟨[(4, (.ptr 2 0 [])), (5, (.ptr 3 0 []))], [(2, some (.var (e_a8_u32 (fun _ => 0)))), (3, some (.var (e_a8_u32 y9)))], 4⟩ : St)) (fun y9 => Fl.nx y9 = wn2) (fun y9 hy => ?_) (aw_block (aw_runs (fun x1 : Int × (Nat → Int) => (⟨[(2, (.ptr 0 0 [])), (3, (.ptr 1 0 [])), (4, (.ptr 2 0 [])), (5, (.ptr 3 0 [])), (6, (.int .i64 x1.1))], [(0, some (.var (e_a8_u32 p0))), (1, some (.var (e_a8_u32 p1))), (2, some (.var (e_a8_u32 (fun _ => 0)))), (3, some (.var (e_a8_u32 x1.2)))], 4⟩ : St)) hwn2 (cov_prune ⟨rfl, rfl, rfl, rfl, rfl, trivial⟩ ⟨rfl, rfl, rfl, rfl, trivial⟩ (Nat.le_of_ble_eq_true rfl)) (fun x1 st H hsn2 => ?_)))
  · have H := nx_of hy Hrn2
    refine nx_seq ?_
    refine aw_region (es := [_, _]) ⟨Step.plain rfl (does_load 32 5 3 0 [] (.var (e_a8_u32 y9)) (e_a8_u32 y9) trivial rfl rfl ty32), ⟨⟨rfl, trivial⟩, ⟨rfl, trivial⟩, rfl⟩, rfl,
      Step.plain rfl (does_store 32 4 (.tmp 24) 2 0 [] (.var (e_a8_u32 (fun _ => 0))) (.var (e_a8_u32 y9)) (e_a8_u32 y9) true trivial rfl trivial rfl rfl rfl ty32), ⟨⟨rfl, rfl, trivial⟩, ⟨rfl, trivial⟩, rfl⟩, rfl, rfl⟩ ?_
    refine aw_cov (cov_prune (s1 := ⟨[(4, (.ptr 2 0 []))], [(2, some (.var (e_a8_u32 y9)))], 4⟩) ⟨rfl, trivial⟩ ⟨rfl, trivial⟩ (Nat.le_refl _)) ?_
    refine aw_ret ?_
    exact fun a w hr => ⟨_, [(e_a8_u32 y9)], hr, ⟨⟨2, _, rfl, rfl, .data _ (d_a8_u32 y9), ty32⟩, trivial⟩, by decide, by cases H; rfl⟩
  · refine aw_seq ?_
    refine aw_region (es := [_, _]) ⟨Step.plain rfl (does_move (.tmp 6) (.int .i64 x1.1) trivial), ⟨⟨rfl, trivial⟩, trivial, rfl⟩, rfl,
      Step.plain rfl (does_bin .lss 3 3 (.tmp 8) (.const (.int .i64 8)) .i64 x1.1 8 (.bool (decide (x1.1 < 8))) trivial (fun _ => rfl) (bin_lss _ _ _ _)), ⟨⟨rfl, trivial⟩, trivial, rfl⟩, rfl, rfl⟩ ?_
    refine aw_cov (cov_prune (s1 := ⟨[(2, (.ptr 0 0 [])), (3, (.ptr 1 0 [])), (4, (.ptr 2 0 [])), (5, (.ptr 3 0 [])), (6, (.int .i64 x1.1)), (9, (.bool (decide (x1.1 < 8))))], [(0, some (.var (e_a8_u32 p0))), (1, some (.var (e_a8_u32 p1))), (2, some (.var (e_a8_u32 (fun _ => 0)))), (3, some (.var (e_a8_u32 x1.2)))], 4⟩) ⟨rfl, rfl, rfl, rfl, rfl, rfl, trivial⟩ ⟨rfl, rfl, rfl, rfl, trivial⟩ (Nat.le_refl _)) ?_
    refine aw_cond rfl (fun hc => ?_) (fun hc => ?_)
    · replace H := ite_t hc H
      refine aw_skip ?_
      refine nx_seq ?_
      refine aw_seq ?_
      refine aw_jn (fun x8 : (Nat → Int) => (⟨[(2, (.ptr 0 0 [])), (3, (.ptr 1 0 [])), (4, (.ptr 2 0 [])), (5, (.ptr 3 0 [])), (6, (.int .i64 x1.1))], [(0, some (.var (e_a8_u32 p0))), (1, some (.var (e_a8_u32 p1))), (2, some (.var (e_a8_u32 (fun _ => 0)))), (3, some (.var (e_a8_u32 x8)))], 4⟩ : St)) H (fun x8 H => ?_) (fun j3 H => ?_)
      · refine nx_seq ?_
        refine aw_region1 (es := [_, _, _]) ⟨Step.plain rfl (does_move (.tmp 6) (.int .i64 x1.1) trivial), ⟨⟨rfl, trivial⟩, trivial, rfl⟩, rfl,
          Step.plain rfl (does_bin .add 3 3 (.tmp 10) (.const (.int .i64 1)) .i64 x1.1 1 (.int .i64 (IntKind.i64.wrap (x1.1 + 1))) trivial (fun _ => rfl) (bin_add _ _ _ _)), ⟨⟨rfl, trivial⟩, trivial, rfl⟩, rfl,
          Step.plain rfl (does_assign (.tmp 11) (.int .i64 (IntKind.i64.wrap (x1.1 + 1))) trivial), ⟨⟨rfl, trivial⟩, trivial, rfl⟩, rfl, rfl⟩ ?_
        exact nx_loop ((IntKind.i64.wrap (x1.1 + 1)), x8) H (cov_prune ⟨rfl, rfl, rfl, rfl, rfl, trivial⟩ ⟨rfl, rfl, rfl, rfl, trivial⟩ (Nat.le_of_ble_eq_true rfl))
      · refine aw_block ?_
        obtain ⟨h4, H⟩ := ib_of H
        obtain ⟨h5, H⟩ := ib_of H
        refine aw_draw (es := [_, _, _, _, _, _, _]) (mixed) ⟨Step.plain rfl (does_move (.tmp 6) (.int .i64 x1.1) trivial), ⟨⟨rfl, trivial⟩, trivial, rfl⟩, rfl,
          Step.plain rfl (does_indexAddr 32 8 1 2 0 0 [] (.var (e_a8_u32 p0)) (.tmp 12) .i64 x1.1 el32 trivial h4.1 h4.2), ⟨⟨rfl, rfl, trivial⟩, ⟨rfl, trivial⟩, rfl⟩, rfl,
          Step.plain rfl (does_load 22 13 0 (0 + x1.1.toNat * 1) [x1.1.toNat] (.var (e_a8_u32 p0)) (.int .u32 (p0 x1.1.toNat)) ⟨rfl, (ixl h4), trivial⟩ rfl rfl ty22), ⟨⟨rfl, trivial⟩, ⟨rfl, trivial⟩, rfl⟩, rfl,
          Step.plain rfl (does_move (.tmp 6) (.int .i64 x1.1) trivial), ⟨⟨rfl, trivial⟩, trivial, rfl⟩, rfl,
          Step.plain rfl (does_indexAddr 32 8 1 3 1 0 [] (.var (e_a8_u32 p1)) (.tmp 15) .i64 x1.1 el32 trivial h5.1 h5.2), ⟨⟨rfl, rfl, trivial⟩, ⟨rfl, trivial⟩, rfl⟩, rfl,
          Step.plain rfl (does_load 22 16 1 (0 + x1.1.toNat * 1) [x1.1.toNat] (.var (e_a8_u32 p1)) (.int .u32 (p1 x1.1.toNat)) ⟨rfl, (ixl h5), trivial⟩ rfl rfl ty22), ⟨⟨rfl, trivial⟩, ⟨rfl, trivial⟩, rfl⟩, rfl,
          Step.plain rfl (does_bin .eql 22 22 (.tmp 14) (.tmp 17) .u32 (p0 x1.1.toNat) (p1 x1.1.toNat) (.bool ((p0 x1.1.toNat) == (p1 x1.1.toNat))) trivial trivial (bin_eql _ _ _ _)), ⟨⟨rfl, rfl, trivial⟩, trivial, rfl⟩, rfl, rfl⟩ rfl ?_
        refine aw_cov (cov_prune (s1 := ⟨[(2, (.ptr 0 0 [])), (3, (.ptr 1 0 [])), (4, (.ptr 2 0 [])), (5, (.ptr 3 0 [])), (6, (.int .i64 x1.1)), (18, (.bool ((p0 x1.1.toNat) == (p1 x1.1.toNat))))], [(0, some (.var (e_a8_u32 p0))), (1, some (.var (e_a8_u32 p1))), (2, some (.var (e_a8_u32 (fun _ => 0)))), (3, some (.var (e_a8_u32 x1.2)))], 4⟩) ⟨rfl, rfl, rfl, rfl, rfl, rfl, trivial⟩ ⟨rfl, rfl, rfl, rfl, trivial⟩ (Nat.le_refl _)) ?_
        refine aw_cond rfl (fun hc => ?_) (fun hc => ?_)
        · replace H := ite_t hc H
          obtain ⟨h6, H⟩ := ib_of H
          obtain ⟨h7, H⟩ := ib_of H
          refine aw_region1 (es := [_, _, _, _, _, _]) ⟨Step.plain rfl (does_move (.tmp 6) (.int .i64 x1.1) trivial), ⟨⟨rfl, trivial⟩, trivial, rfl⟩, rfl,
            Step.plain rfl (does_move (.tmp 6) (.int .i64 x1.1) trivial), ⟨⟨rfl, trivial⟩, trivial, rfl⟩, rfl,
            Step.plain rfl (does_indexAddr 32 8 1 2 0 0 [] (.var (e_a8_u32 p0)) (.tmp 20) .i64 x1.1 el32 trivial h6.1 h6.2), ⟨⟨rfl, rfl, trivial⟩, ⟨rfl, trivial⟩, rfl⟩, rfl,
            Step.plain rfl (does_load 22 21 0 (0 + x1.1.toNat * 1) [x1.1.toNat] (.var (e_a8_u32 p0)) (.int .u32 (p0 x1.1.toNat)) ⟨rfl, (ixl h6), trivial⟩ rfl rfl ty22), ⟨⟨rfl, trivial⟩, ⟨rfl, trivial⟩, rfl⟩, rfl,
            Step.plain rfl (does_indexAddr 32 8 1 5 3 0 [] (.var (e_a8_u32 x1.2)) (.tmp 19) .i64 x1.1 el32 trivial h7.1 h7.2), ⟨⟨rfl, rfl, trivial⟩, ⟨rfl, trivial⟩, rfl⟩, rfl,
            Step.plain rfl (does_store 22 23 (.tmp 22) 3 (0 + x1.1.toNat * 1) [x1.1.toNat] (.var (e_a8_u32 x1.2)) (.var (e_a8_u32 (aupd x1.2 x1.1.toNat (p0 x1.1.toNat)))) (.int .u32 (p0 x1.1.toNat)) false trivial rfl ⟨rfl, (ixl h7), trivial⟩ rfl rfl (congrArg Box.var (set_cons rfl (vupd_map (fun z => V.int .u32 z) _ _ _))) ty22), ⟨⟨rfl, rfl, trivial⟩, ⟨rfl, trivial⟩, rfl⟩, rfl, rfl⟩ ?_
          refine nx_blk ?_
          exact nx_join (aupd x1.2 x1.1.toNat (p0 x1.1.toNat)) H (cov_prune ⟨rfl, rfl, rfl, rfl, rfl, trivial⟩ ⟨rfl, rfl, rfl, rfl, trivial⟩ (Nat.le_of_ble_eq_true rfl))
        · replace H := ite_f hc H
          refine aw_skip ?_
          refine nx_blk ?_
          exact nx_join (x1.2) H (cov_prune ⟨rfl, rfl, rfl, rfl, rfl, trivial⟩ ⟨rfl, rfl, rfl, rfl, trivial⟩ (Nat.le_of_ble_eq_true rfl))
    · replace H := ite_f hc H
      refine aw_exit ?_
      refine ex_then ?_
      refine ex_then ?_
      refine ex_here ?_
      exact nx_ljoin (x1.2) H hsn2 (cov_prune ⟨rfl, rfl, trivial⟩ ⟨rfl, rfl, trivial⟩ (Nat.le_of_ble_eq_true rfl))
end Go.Proofs.Ythkgpbjgkchilaa
