/- Printed by gen.py. Conditions: none. -/
import Derived.Test.YtclblogdciebnaaSp4
import Derived.KernelRfl
set_option linter.unusedVariables false
set_option maxRecDepth 100000
namespace Go.Proofs.Ytclblogdciebnaa
open Go.Eng
set_option maxHeartbeats 1600000
theorem congresslaw22_QueueStays_spec (p0 : (_root_.List api_Wait)) (p1 : congresslaw22_Frame) (p2 : congresslaw22_Where) (r : Bool) (H : congresslaw22_QueueStays p0 p1 p2 = some r) : FSpec Try.prog 4 [(e_s_api_Wait p0), (e_congresslaw22_Frame p1), (e_congresslaw22_Where p2)] (.bool r) := by
  refine spec_of (fn := Try.f4) (args := [(e_s_api_Wait p0), (e_congresslaw22_Frame p1), (e_congresslaw22_Where p2)]) Try.func4 rfl (Nat.le_of_ble_eq_true rfl) ?_
  rintro ⟨G, w0, W, S, Sp⟩ hG
  cases hG
  unfold congresslaw22_QueueStays at H
  refine aw_region (es := [_, _, _]) ⟨Step.plain rfl (does_box 26 (.tmp 1) 0 (e_congresslaw22_Frame p1) trivial rfl), ⟨⟨rfl, trivial⟩, trivial, rfl⟩, rfl,
    Step.plain rfl (does_box 31 (.tmp 2) 1 (e_congresslaw22_Where p2) trivial rfl), ⟨⟨rfl, trivial⟩, trivial, rfl⟩, rfl,
    Step.plain rfl (does_assign (.const (.bool false)) (.bool false) (fun _ => rfl)), ⟨trivial, trivial, rfl⟩, rfl, rfl⟩ ?_
  refine aw_cov (cov_prune (s1 := ⟨[(0, (e_s_api_Wait p0)), (4, (.ptr 0 0 [])), (5, (.ptr 1 0 []))], [(0, some (.var (e_congresslaw22_Frame p1))), (1, some (.var (e_congresslaw22_Where p2)))], 2⟩) ⟨rfl, rfl, rfl, trivial⟩ ⟨rfl, rfl, trivial⟩ (Nat.le_refl _)) ?_
  refine aw_seq ?_
  obtain ⟨v1, h2, H⟩ := bnd H
  obtain ⟨v3, h4, H⟩ := whn_of H
  refine aw_region (es := [_, _, _, _, _, _, _, _, _, _, _, _, _, _, _, _, _, _]) ⟨Step.plain rfl (does_call 8 0 (fun _ => .any) (.func 8) [] [] [] true [] (.bool v1) _ _ rfl fo8 rfl trivial trivial (congresslaw22_fixed_spec _ h2) trivial), ⟨trivial, trivial, rfl⟩, rfl,
    Step.plain rfl (does_not 4 (.tmp 12) v1 trivial), ⟨⟨rfl, trivial⟩, trivial, rfl⟩, rfl,
    Step.plain rfl (does_move (.tmp 13) (.bool (!v1)) trivial), ⟨⟨rfl, trivial⟩, trivial, rfl⟩, rfl,
    Step.guarded rfl rfl rfl rfl (fun hc => does_move (.tmp 0) (e_s_api_Wait p0) trivial), ⟨⟨rfl, rfl, trivial⟩, trivial, rfl⟩, rfl,
    Step.guarded rfl rfl rfl rfl (fun hc => Does.strip (n' := [(15, (.opt (!(!v1)) (e_s_api_Wait p0)))]) (n := [(15, (e_s_api_Wait p0))]) ⟨(.opt _ _ hc), trivial⟩ (does_call 15 0 (fun _ => .any) (.func 15) [(.tmp 15)] [(e_s_api_Wait p0)] [] true [(e_s_api_Wait p0)] (.bool v3) _ _ rfl fo15 rfl ⟨trivial, trivial⟩ ⟨.data _ (d_s_api_Wait p0), trivial⟩ (queue_May_spec p0 _ (h4 hc)) trivial)), ⟨⟨rfl, rfl, trivial⟩, trivial, rfl⟩, rfl,
    Step.guarded rfl rfl rfl rfl (fun hc => Does.strip (n' := [(16, (.opt (!(!v1)) (.bool v3)))]) (n := [(16, (.bool v3))]) ⟨(.opt _ _ hc), trivial⟩ (does_not 4 (.tmp 16) v3 trivial)), ⟨⟨rfl, rfl, trivial⟩, trivial, rfl⟩, rfl,
    Step.plain rfl (does_or 14 17 (!v1) (!v3)), ⟨⟨rfl, rfl, trivial⟩, trivial, rfl⟩, rfl,
    Step.plain rfl (does_move (.tmp 18) (.bool ((!v1) || (!v3))) trivial), ⟨⟨rfl, trivial⟩, trivial, rfl⟩, rfl,
    Step.guarded rfl rfl rfl rfl (fun hc => does_move (.tmp 0) (e_s_api_Wait p0) trivial), ⟨⟨rfl, rfl, trivial⟩, trivial, rfl⟩, rfl,
    Step.guarded rfl rfl rfl rfl (fun hc => Does.strip (n' := [(20, (.opt (!((!v1) || (!v3))) (e_s_api_Wait p0)))]) (n := [(20, (e_s_api_Wait p0))]) ⟨(.opt _ _ hc), trivial⟩ (does_lens 22 9 p0.length 20 (fun j => (e_api_Wait (p0.getD j z_api_Wait))) el22)), ⟨⟨rfl, rfl, trivial⟩, trivial, rfl⟩, rfl,
    Step.guarded rfl rfl rfl rfl (fun hc => Does.strip (n' := [(21, (.opt (!((!v1) || (!v3))) (.int .i64 (p0.length : Int))))]) (n := [(21, (.int .i64 (p0.length : Int)))]) ⟨(.opt _ _ hc), trivial⟩ (does_bin .gtr 3 3 (.tmp 21) (.const (.int .i64 100)) .i64 (p0.length : Int) 100 (.bool (decide ((p0.length : Int) > 100))) trivial (fun _ => rfl) (bin_gtr _ _ _ _))), ⟨⟨rfl, rfl, trivial⟩, trivial, rfl⟩, rfl,
    Step.plain rfl (does_or 19 22 ((!v1) || (!v3)) (decide ((p0.length : Int) > 100))), ⟨⟨rfl, rfl, trivial⟩, trivial, rfl⟩, rfl,
    Step.plain rfl (does_move (.tmp 23) (.bool (((!v1) || (!v3)) || (decide ((p0.length : Int) > 100)))) trivial), ⟨⟨rfl, trivial⟩, trivial, rfl⟩, rfl,
    Step.guarded rfl rfl rfl rfl (fun hc => does_fieldAddr 26 2 2 4 0 0 [] (.var (e_congresslaw22_Frame p1)) fl26_2), ⟨⟨rfl, rfl, trivial⟩, ⟨rfl, trivial⟩, rfl⟩, rfl,
    Step.guarded rfl rfl rfl rfl (fun hc => Does.strip (n' := [(25, (.opt (!(((!v1) || (!v3)) || (decide ((p0.length : Int) > 100)))) (.ptr 0 (0 + 2) [2])))]) (n := [(25, (.ptr 0 (0 + 2) [2]))]) ⟨(.opt _ _ hc), trivial⟩ (does_load 24 25 0 (0 + 2) [2] (.var (e_congresslaw22_Frame p1)) (e_s_api_Entry p1.L) ⟨rfl, Nat.le_of_ble_eq_true rfl, trivial⟩ rfl rfl ty24)), ⟨⟨rfl, rfl, trivial⟩, ⟨rfl, trivial⟩, rfl⟩, rfl,
    Step.guarded rfl rfl rfl rfl (fun hc => Does.strip (n' := [(26, (.opt (!(((!v1) || (!v3)) || (decide ((p0.length : Int) > 100)))) (e_s_api_Entry p1.L)))]) (n := [(26, (e_s_api_Entry p1.L))]) ⟨(.opt _ _ hc), trivial⟩ (does_lens 24 6 p1.L.length 26 (fun j => (e_api_Entry (p1.L.getD j z_api_Entry))) el24)), ⟨⟨rfl, rfl, trivial⟩, trivial, rfl⟩, rfl,
    Step.guarded rfl rfl rfl rfl (fun hc => Does.strip (n' := [(27, (.opt (!(((!v1) || (!v3)) || (decide ((p0.length : Int) > 100)))) (.int .i64 (p1.L.length : Int))))]) (n := [(27, (.int .i64 (p1.L.length : Int)))]) ⟨(.opt _ _ hc), trivial⟩ (does_bin .gtr 3 3 (.tmp 27) (.const (.int .i64 20)) .i64 (p1.L.length : Int) 20 (.bool (decide ((p1.L.length : Int) > 20))) trivial (fun _ => rfl) (bin_gtr _ _ _ _))), ⟨⟨rfl, rfl, trivial⟩, trivial, rfl⟩, rfl,
    Step.plain rfl (does_or 24 28 (((!v1) || (!v3)) || (decide ((p0.length : Int) > 100))) (decide ((p1.L.length : Int) > 20))), ⟨⟨rfl, rfl, trivial⟩, trivial, rfl⟩, rfl, rfl⟩ ?_
  obtain ⟨v5, hv5, H⟩ := lt_of H
  refine aw_cov (cov_prune (s1 := ⟨[(0, (e_s_api_Wait p0)), (4, (.ptr 0 0 [])), (5, (.ptr 1 0 [])), (29, (.bool v5))], [(0, some (.var (e_congresslaw22_Frame p1))), (1, some (.var (e_congresslaw22_Where p2)))], 2⟩) ⟨rfl, rfl, rfl, (by subst hv5; rfl), trivial⟩ ⟨rfl, rfl, trivial⟩ (Nat.le_refl _)) ?_
  refine aw_cond rfl (fun hc => ?_) (fun hc => ?_)
  · replace H := ite_t hc H
    obtain ⟨v6, h7, H⟩ := bnd H
    refine aw_region (es := [_, _]) ⟨Step.plain rfl (does_call 8 0 (fun _ => .any) (.func 8) [] [] [] true [] (.bool v6) _ _ rfl fo8 rfl trivial trivial (congresslaw22_fixed_spec _ h7) trivial), ⟨trivial, trivial, rfl⟩, rfl,
      Step.plain rfl (does_assign (.tmp 30) (.bool v6) trivial), ⟨⟨rfl, trivial⟩, trivial, rfl⟩, rfl, rfl⟩ ?_
    refine aw_cov (cov_prune (s1 := ⟨[(6, (.bool v6))], [], 2⟩) ⟨rfl, trivial⟩ trivial (Nat.le_refl _)) ?_
    refine aw_ret ?_
    refine rt_then ?_
    exact fun a w hr => ⟨_, [(.bool v6)], hr, ⟨⟨_, rfl, .data (.bool v6) trivial⟩, trivial⟩, by decide, by cases H; rfl⟩
  · replace H := ite_f hc H
    refine aw_skip ?_
    refine nx_seq ?_
    obtain ⟨v8, h9, H⟩ := bnd H
    refine aw_region (es := [_, _, _, _, _, _, _, _, _]) ⟨Step.plain rfl (does_move (.tmp 0) (e_s_api_Wait p0) trivial), ⟨⟨rfl, trivial⟩, trivial, rfl⟩, rfl,
      Step.plain rfl (does_fieldAddr 26 0 0 4 0 0 [] (.var (e_congresslaw22_Frame p1)) fl26_0), ⟨⟨rfl, trivial⟩, ⟨rfl, trivial⟩, rfl⟩, rfl,
      Step.plain rfl (does_load 3 32 0 (0 + 0) [0] (.var (e_congresslaw22_Frame p1)) (.int .i64 p1.From) ⟨rfl, Nat.le_of_ble_eq_true rfl, trivial⟩ rfl rfl ty3), ⟨⟨rfl, trivial⟩, ⟨rfl, trivial⟩, rfl⟩, rfl,
      Step.plain rfl (does_fieldAddr 26 1 1 4 0 0 [] (.var (e_congresslaw22_Frame p1)) fl26_1), ⟨⟨rfl, trivial⟩, ⟨rfl, trivial⟩, rfl⟩, rfl,
      Step.plain rfl (does_load 23 34 0 (0 + 1) [1] (.var (e_congresslaw22_Frame p1)) (.int .u32 p1.Round) ⟨rfl, Nat.le_of_ble_eq_true rfl, trivial⟩ rfl rfl ty23), ⟨⟨rfl, trivial⟩, ⟨rfl, trivial⟩, rfl⟩, rfl,
      Step.plain rfl (does_fieldAddr 26 2 2 4 0 0 [] (.var (e_congresslaw22_Frame p1)) fl26_2), ⟨⟨rfl, trivial⟩, ⟨rfl, trivial⟩, rfl⟩, rfl,
      Step.plain rfl (does_load 24 36 0 (0 + 2) [2] (.var (e_congresslaw22_Frame p1)) (e_s_api_Entry p1.L) ⟨rfl, Nat.le_of_ble_eq_true rfl, trivial⟩ rfl rfl ty24), ⟨⟨rfl, trivial⟩, ⟨rfl, trivial⟩, rfl⟩, rfl,
      Step.plain rfl (does_callO 12 0 (fun _ => .any) (.func 12) [(.tmp 31), (.tmp 33), (.tmp 35), (.tmp 37)] [(e_s_api_Wait p0), (.int .i64 p1.From), (.int .u32 p1.Round), (e_s_api_Entry p1.L)] [] [] true [(e_s_api_Wait p0), (.int .i64 p1.From), (.int .u32 p1.Round), (e_s_api_Entry p1.L)] _ (.own 2) _ 2 1 _ _ rfl fo12 rfl ⟨trivial, trivial, trivial, trivial, trivial⟩ ⟨.ro _ _ (.data _ (d_s_api_Wait p0)), .ro _ _ (.data _ trivial), .ro _ _ (.data _ trivial), .ro _ _ (.data _ (d_s_api_Entry p1.L)), trivial⟩ (queue_Add_spec p0 p1.From p1.Round p1.L _ h9) rfl (by simp) rfl trivial ⟨⟨Nat.le_of_ble_eq_true rfl, _, rfl, fun _ => (f_api_Wait _)⟩, trivial⟩ (.own 0 (Nat.le_of_ble_eq_true rfl))), ⟨⟨rfl, rfl, rfl, rfl, trivial⟩, trivial, rfl⟩, rfl,
      Step.plain rfl (does_assign (.tmp 38) (.own 2) trivial), ⟨⟨rfl, trivial⟩, trivial, rfl⟩, rfl, rfl⟩ ?_
    refine aw_cov (cov_prune (s1 := ⟨[(0, (e_s_api_Wait p0)), (5, (.ptr 1 0 [])), (7, (.own 2))], [(1, some (.var (e_congresslaw22_Where p2))), (2, some (.arr 9 v8.length fun j => (e_api_Wait (v8.getD j z_api_Wait))))], 3⟩) ⟨rfl, rfl, rfl, trivial⟩ ⟨rfl, rfl, trivial⟩ (Nat.le_refl _)) ?_
    obtain ⟨v10, h11, H⟩ := bnd H
    refine aw_region (es := [_, _, _, _, _, _, _, _, _, _, _]) ⟨Step.plain rfl (does_move (.tmp 7) (.own 2) trivial), ⟨⟨rfl, trivial⟩, trivial, rfl⟩, rfl,
      Step.plain rfl (does_fieldAddr 31 0 0 5 1 0 [] (.var (e_congresslaw22_Where p2)) fl31_0), ⟨⟨rfl, trivial⟩, ⟨rfl, trivial⟩, rfl⟩, rfl,
      Step.plain rfl (does_load 28 41 1 (0 + 0) [0] (.var (e_congresslaw22_Where p2)) (e_a8_u32 p2.C) ⟨rfl, Nat.le_of_ble_eq_true rfl, trivial⟩ rfl rfl ty28), ⟨⟨rfl, trivial⟩, ⟨rfl, trivial⟩, rfl⟩, rfl,
      Step.plain rfl (does_fieldAddr 31 1 8 5 1 0 [] (.var (e_congresslaw22_Where p2)) fl31_1), ⟨⟨rfl, trivial⟩, ⟨rfl, trivial⟩, rfl⟩, rfl,
      Step.plain rfl (does_load 29 43 1 (0 + 8) [1] (.var (e_congresslaw22_Where p2)) (e_a8_u32 p2.M) ⟨rfl, Nat.le_of_ble_eq_true rfl, trivial⟩ rfl rfl ty29), ⟨⟨rfl, trivial⟩, ⟨rfl, trivial⟩, rfl⟩, rfl,
      Step.plain rfl (does_callO 9 0 (fun _ => .any) (.func 9) [(.tmp 40), (.tmp 42), (.tmp 44)] [(.own 2), (e_a8_u32 p2.C), (e_a8_u32 p2.M)] [(2, (.arr 9 v8.length fun j => (e_api_Wait (v8.getD j z_api_Wait))))] [] true [(e_s_api_Wait v8), (e_a8_u32 p2.C), (e_a8_u32 p2.M)] _ (resV [(.own 3), (.own 4)]) _ 3 2 _ _ rfl fo9 rfl ⟨trivial, trivial, trivial, trivial⟩ ⟨.ro _ _ (.own 2 _ _ _ (.head _) rfl (fun _ => (d_api_Wait _))), .ro _ _ (.data _ (d_a8_u32 p2.C)), .ro _ _ (.data _ (d_a8_u32 p2.M)), trivial⟩ (queue_Ready_spec v8 p2.C p2.M _ h11) rfl (by simp) rfl trivial ⟨⟨Nat.le_of_ble_eq_true rfl, _, rfl, fun _ => (f_api_Wait _)⟩, ⟨Nat.le_of_ble_eq_true rfl, _, rfl, fun _ => (f_api_Wait _)⟩, trivial⟩ (.tup _ _ _ (fun j => match j with | 0 => .own 0 (Nat.le_of_ble_eq_true rfl) | 1 => .own 1 (Nat.le_of_ble_eq_true rfl) | _ + 2 => .data _ trivial))), ⟨⟨rfl, rfl, rfl, trivial⟩, ⟨rfl, trivial⟩, rfl⟩, rfl,
      Step.plain rfl (does_move (.tmp 45) (resV [(.own 3), (.own 4)]) trivial), ⟨⟨rfl, trivial⟩, trivial, rfl⟩, rfl,
      Step.plain rfl (does_extract 39 0 2 (fun j => [(.own 3), (.own 4)].getD j (.bool false)) (Nat.le_of_ble_eq_true rfl)), ⟨⟨rfl, trivial⟩, trivial, rfl⟩, rfl,
      Step.plain rfl (does_extract 39 1 2 (fun j => [(.own 3), (.own 4)].getD j (.bool false)) (Nat.le_of_ble_eq_true rfl)), ⟨⟨rfl, trivial⟩, trivial, rfl⟩, rfl,
      Step.plain rfl (does_assign (.tmp 46) (.own 3) trivial), ⟨⟨rfl, trivial⟩, trivial, rfl⟩, rfl,
      Step.plain rfl (does_assign (.tmp 47) (.own 4) trivial), ⟨⟨rfl, trivial⟩, trivial, rfl⟩, rfl, rfl⟩ ?_
    refine aw_cov (cov_prune (s1 := ⟨[(0, (e_s_api_Wait p0)), (7, (.own 2)), (8, (.own 3)), (9, (.own 4))], [(2, some (.arr 9 v8.length fun j => (e_api_Wait (v8.getD j z_api_Wait)))), (3, some (.arr 9 v10.1.length fun j => (e_api_Wait (v10.1.getD j z_api_Wait)))), (4, some (.arr 9 v10.2.length fun j => (e_api_Wait (v10.2.getD j z_api_Wait))))], 5⟩) ⟨rfl, rfl, rfl, rfl, trivial⟩ ⟨rfl, rfl, rfl, trivial⟩ (Nat.le_refl _)) ?_
    refine aw_seq ?_
    obtain ⟨v12, h13, H⟩ := bnd H
    obtain ⟨v14, h15, H⟩ := whn_of H
    obtain ⟨v16, h17, H⟩ := whn_of H
    refine aw_region (es := [_, _, _, _, _, _, _, _, _, _, _, _, _, _, _, _, _, _, _, _, _, _, _]) ⟨Step.plain rfl (does_move (.tmp 7) (.own 2) trivial), ⟨⟨rfl, trivial⟩, trivial, rfl⟩, rfl,
      Step.plain rfl (does_call 15 0 (fun _ => .any) (.func 15) [(.tmp 48)] [(.own 2)] [(2, (.arr 9 v8.length fun j => (e_api_Wait (v8.getD j z_api_Wait))))] true [(e_s_api_Wait v8)] (.bool v12) _ _ rfl fo15 rfl ⟨trivial, trivial⟩ ⟨.own 2 _ _ _ (.head _) rfl (fun _ => (d_api_Wait _)), trivial⟩ (queue_May_spec v8 _ h13) trivial), ⟨⟨rfl, trivial⟩, ⟨rfl, trivial⟩, rfl⟩, rfl,
      Step.plain rfl (does_not 4 (.tmp 49) v12 trivial), ⟨⟨rfl, trivial⟩, trivial, rfl⟩, rfl,
      Step.plain rfl (does_move (.tmp 50) (.bool (!v12)) trivial), ⟨⟨rfl, trivial⟩, trivial, rfl⟩, rfl,
      Step.guarded rfl rfl rfl rfl (fun hc => does_move (.tmp 8) (.own 3) trivial), ⟨⟨rfl, rfl, trivial⟩, trivial, rfl⟩, rfl,
      Step.guarded rfl rfl rfl rfl (fun hc => Does.strip (n' := [(52, (.opt (!(!v12)) (.own 3)))]) (n := [(52, (.own 3))]) ⟨(.opt _ _ hc), trivial⟩ (does_call 15 0 (fun _ => .any) (.func 15) [(.tmp 52)] [(.own 3)] [(3, (.arr 9 v10.1.length fun j => (e_api_Wait (v10.1.getD j z_api_Wait))))] true [(e_s_api_Wait v10.1)] (.bool v14) _ _ rfl fo15 rfl ⟨trivial, trivial⟩ ⟨.own 3 _ _ _ (.head _) rfl (fun _ => (d_api_Wait _)), trivial⟩ (queue_May_spec v10.1 _ (h15 hc)) trivial)), ⟨⟨rfl, rfl, trivial⟩, ⟨rfl, trivial⟩, rfl⟩, rfl,
      Step.guarded rfl rfl rfl rfl (fun hc => Does.strip (n' := [(53, (.opt (!(!v12)) (.bool v14)))]) (n := [(53, (.bool v14))]) ⟨(.opt _ _ hc), trivial⟩ (does_not 4 (.tmp 53) v14 trivial)), ⟨⟨rfl, rfl, trivial⟩, trivial, rfl⟩, rfl,
      Step.plain rfl (does_or 51 54 (!v12) (!v14)), ⟨⟨rfl, rfl, trivial⟩, trivial, rfl⟩, rfl,
      Step.plain rfl (does_move (.tmp 55) (.bool ((!v12) || (!v14))) trivial), ⟨⟨rfl, trivial⟩, trivial, rfl⟩, rfl,
      Step.guarded rfl rfl rfl rfl (fun hc => does_move (.tmp 9) (.own 4) trivial), ⟨⟨rfl, rfl, trivial⟩, trivial, rfl⟩, rfl,
      Step.guarded rfl rfl rfl rfl (fun hc => Does.strip (n' := [(57, (.opt (!((!v12) || (!v14))) (.own 4)))]) (n := [(57, (.own 4))]) ⟨(.opt _ _ hc), trivial⟩ (does_call 15 0 (fun _ => .any) (.func 15) [(.tmp 57)] [(.own 4)] [(4, (.arr 9 v10.2.length fun j => (e_api_Wait (v10.2.getD j z_api_Wait))))] true [(e_s_api_Wait v10.2)] (.bool v16) _ _ rfl fo15 rfl ⟨trivial, trivial⟩ ⟨.own 4 _ _ _ (.head _) rfl (fun _ => (d_api_Wait _)), trivial⟩ (queue_May_spec v10.2 _ (h17 hc)) trivial)), ⟨⟨rfl, rfl, trivial⟩, ⟨rfl, trivial⟩, rfl⟩, rfl,
      Step.guarded rfl rfl rfl rfl (fun hc => Does.strip (n' := [(58, (.opt (!((!v12) || (!v14))) (.bool v16)))]) (n := [(58, (.bool v16))]) ⟨(.opt _ _ hc), trivial⟩ (does_not 4 (.tmp 58) v16 trivial)), ⟨⟨rfl, rfl, trivial⟩, trivial, rfl⟩, rfl,
      Step.plain rfl (does_or 56 59 ((!v12) || (!v14)) (!v16)), ⟨⟨rfl, rfl, trivial⟩, trivial, rfl⟩, rfl,
      Step.plain rfl (does_move (.tmp 60) (.bool (((!v12) || (!v14)) || (!v16))) trivial), ⟨⟨rfl, trivial⟩, trivial, rfl⟩, rfl,
      Step.guarded rfl rfl rfl rfl (fun hc => does_move (.tmp 8) (.own 3) trivial), ⟨⟨rfl, rfl, trivial⟩, trivial, rfl⟩, rfl,
      Step.guarded rfl rfl rfl rfl (fun hc => Does.strip (n' := [(62, (.opt (!(((!v12) || (!v14)) || (!v16))) (.own 3)))]) (n := [(62, (.own 3))]) ⟨(.opt _ _ hc), trivial⟩ (does_leno 22 9 v10.1.length 62 3 (fun j => (e_api_Wait (v10.1.getD j z_api_Wait))) el22)), ⟨⟨rfl, rfl, trivial⟩, ⟨rfl, trivial⟩, rfl⟩, rfl,
      Step.guarded rfl rfl rfl rfl (fun hc => does_move (.tmp 9) (.own 4) trivial), ⟨⟨rfl, rfl, trivial⟩, trivial, rfl⟩, rfl,
      Step.guarded rfl rfl rfl rfl (fun hc => Does.strip (n' := [(64, (.opt (!(((!v12) || (!v14)) || (!v16))) (.own 4)))]) (n := [(64, (.own 4))]) ⟨(.opt _ _ hc), trivial⟩ (does_leno 22 9 v10.2.length 64 4 (fun j => (e_api_Wait (v10.2.getD j z_api_Wait))) el22)), ⟨⟨rfl, rfl, trivial⟩, ⟨rfl, trivial⟩, rfl⟩, rfl,
      Step.guarded rfl rfl rfl rfl (fun hc => Does.strip (n' := [(63, (.opt (!(((!v12) || (!v14)) || (!v16))) (.int .i64 (v10.1.length : Int)))), (65, (.opt (!(((!v12) || (!v14)) || (!v16))) (.int .i64 (v10.2.length : Int))))]) (n := [(63, (.int .i64 (v10.1.length : Int))), (65, (.int .i64 (v10.2.length : Int)))]) ⟨(.opt _ _ hc), (.opt _ _ hc), trivial⟩ (does_bin .add 3 3 (.tmp 63) (.tmp 65) .i64 (v10.1.length : Int) (v10.2.length : Int) (.int .i64 (IntKind.i64.wrap ((v10.1.length : Int) + (v10.2.length : Int)))) trivial trivial (bin_add _ _ _ _))), ⟨⟨rfl, rfl, rfl, trivial⟩, trivial, rfl⟩, rfl,
      Step.guarded rfl rfl rfl rfl (fun hc => does_move (.tmp 7) (.own 2) trivial), ⟨⟨rfl, rfl, trivial⟩, trivial, rfl⟩, rfl,
      Step.guarded rfl rfl rfl rfl (fun hc => Does.strip (n' := [(67, (.opt (!(((!v12) || (!v14)) || (!v16))) (.own 2)))]) (n := [(67, (.own 2))]) ⟨(.opt _ _ hc), trivial⟩ (does_leno 22 9 v8.length 67 2 (fun j => (e_api_Wait (v8.getD j z_api_Wait))) el22)), ⟨⟨rfl, rfl, trivial⟩, ⟨rfl, trivial⟩, rfl⟩, rfl,
      Step.guarded rfl rfl rfl rfl (fun hc => Does.strip (n' := [(66, (.opt (!(((!v12) || (!v14)) || (!v16))) (.int .i64 (IntKind.i64.wrap ((v10.1.length : Int) + (v10.2.length : Int)))))), (68, (.opt (!(((!v12) || (!v14)) || (!v16))) (.int .i64 (v8.length : Int))))]) (n := [(66, (.int .i64 (IntKind.i64.wrap ((v10.1.length : Int) + (v10.2.length : Int))))), (68, (.int .i64 (v8.length : Int)))]) ⟨(.opt _ _ hc), (.opt _ _ hc), trivial⟩ (does_bin .neq 3 3 (.tmp 66) (.tmp 68) .i64 (IntKind.i64.wrap ((v10.1.length : Int) + (v10.2.length : Int))) (v8.length : Int) (.bool ((IntKind.i64.wrap ((v10.1.length : Int) + (v10.2.length : Int))) != (v8.length : Int))) trivial trivial (bin_neq _ _ _ _))), ⟨⟨rfl, rfl, rfl, trivial⟩, trivial, rfl⟩, rfl,
      Step.plain rfl (does_or 61 69 (((!v12) || (!v14)) || (!v16)) ((IntKind.i64.wrap ((v10.1.length : Int) + (v10.2.length : Int))) != (v8.length : Int))), ⟨⟨rfl, rfl, trivial⟩, trivial, rfl⟩, rfl, rfl⟩ ?_
    obtain ⟨v18, hv18, H⟩ := lt_of H
    refine aw_cov (cov_prune (s1 := ⟨[(0, (e_s_api_Wait p0)), (7, (.own 2)), (8, (.own 3)), (9, (.own 4)), (70, (.bool v18))], [(2, some (.arr 9 v8.length fun j => (e_api_Wait (v8.getD j z_api_Wait)))), (3, some (.arr 9 v10.1.length fun j => (e_api_Wait (v10.1.getD j z_api_Wait)))), (4, some (.arr 9 v10.2.length fun j => (e_api_Wait (v10.2.getD j z_api_Wait))))], 5⟩) ⟨rfl, rfl, rfl, rfl, (by subst hv18; rfl), trivial⟩ ⟨rfl, rfl, rfl, trivial⟩ (Nat.le_refl _)) ?_
    refine aw_cond rfl (fun hc => ?_) (fun hc => ?_)
    · replace H := ite_t hc H
      refine aw_region (es := [_]) ⟨Step.plain rfl (does_assign (.const (.bool false)) (.bool false) (fun _ => rfl)), ⟨trivial, trivial, rfl⟩, rfl, rfl⟩ ?_
      refine aw_cov (cov_prune (s1 := ⟨[(6, (.bool false))], [], 5⟩) ⟨rfl, trivial⟩ trivial (Nat.le_refl _)) ?_
      refine aw_ret ?_
      refine rt_then ?_
      exact fun a w hr => ⟨_, [(.bool false)], hr, ⟨⟨_, rfl, .data (.bool false) trivial⟩, trivial⟩, by decide, by cases H; rfl⟩
    · replace H := ite_f hc H
      refine aw_skip ?_
      refine nx_seq ?_
      refine aw_seq ?_
      refine aw_region (es := [_]) ⟨Step.plain rfl (does_assign (.const (.int .i64 0)) (.int .i64 0) (fun _ => rfl)), ⟨trivial, trivial, rfl⟩, rfl, rfl⟩ ?_
      refine aw_cov (cov_prune (s1 := ⟨[(0, (e_s_api_Wait p0)), (7, (.own 2)), (8, (.own 3)), (9, (.own 4)), (10, (.int .i64 0))], [(2, some (.arr 9 v8.length fun j => (e_api_Wait (v8.getD j z_api_Wait)))), (3, some (.arr 9 v10.1.length fun j => (e_api_Wait (v10.1.getD j z_api_Wait)))), (4, some (.arr 9 v10.2.length fun j => (e_api_Wait (v10.2.getD j z_api_Wait))))], 5⟩) ⟨rfl, rfl, rfl, rfl, rfl, trivial⟩ ⟨rfl, rfl, rfl, trivial⟩ (Nat.le_refl _)) ?_
      obtain ⟨wn20, hwn20, Hrn20⟩ := bnd H
      refine aw_meet (fun y24 : Unit => (⟨[(7, (.own 2)), (8, (.own 3)), (9, (.own 4))], [(2, some (.arr 9 v8.length fun j => (e_api_Wait (v8.getD j z_api_Wait)))), (3, some (.arr 9 v10.1.length fun j => (e_api_Wait (v10.1.getD j z_api_Wait)))), (4, some (.arr 9 v10.2.length fun j => (e_api_Wait (v10.2.getD j z_api_Wait))))], 5⟩ : St)) (fun y24 => Fl.nx y24 = wn20) (fun y24 hy => ?_) (aw_block (aw_runs (fun x19 : Int => (⟨[(0, (e_s_api_Wait p0)), (7, (.own 2)), (8, (.own 3)), (9, (.own 4)), (10, (.int .i64 x19))], [(2, some (.arr 9 v8.length fun j => (e_api_Wait (v8.getD j z_api_Wait)))), (3, some (.arr 9 v10.1.length fun j => (e_api_Wait (v10.1.getD j z_api_Wait)))), (4, some (.arr 9 v10.2.length fun j => (e_api_Wait (v10.2.getD j z_api_Wait))))], 5⟩ : St)) hwn20 (cov_prune ⟨rfl, rfl, rfl, rfl, rfl, trivial⟩ ⟨rfl, rfl, rfl, trivial⟩ (Nat.le_of_ble_eq_true rfl)) (fun x19 st H hsn20 => ?_)))
      · have H := nx_of hy Hrn20
        refine nx_seq ?_
        refine aw_seq ?_
        refine aw_region (es := [_]) ⟨Step.plain rfl (does_assign (.const (.int .i64 0)) (.int .i64 0) (fun _ => rfl)), ⟨trivial, trivial, rfl⟩, rfl, rfl⟩ ?_
        refine aw_cov (cov_prune (s1 := ⟨[(7, (.own 2)), (8, (.own 3)), (9, (.own 4)), (11, (.int .i64 0))], [(2, some (.arr 9 v8.length fun j => (e_api_Wait (v8.getD j z_api_Wait)))), (3, some (.arr 9 v10.1.length fun j => (e_api_Wait (v10.1.getD j z_api_Wait)))), (4, some (.arr 9 v10.2.length fun j => (e_api_Wait (v10.2.getD j z_api_Wait))))], 5⟩) ⟨rfl, rfl, rfl, rfl, trivial⟩ ⟨rfl, rfl, rfl, trivial⟩ (Nat.le_refl _)) ?_
        obtain ⟨wn26, hwn26, Hrn26⟩ := bnd H
        refine aw_meet (fun y33 : Unit => (⟨[], [], 5⟩ : St)) (fun y33 => Fl.nx y33 = wn26) (fun y33 hy => ?_) (aw_block (aw_runs (fun x25 : Int => (⟨[(7, (.own 2)), (8, (.own 3)), (9, (.own 4)), (11, (.int .i64 x25))], [(2, some (.arr 9 v8.length fun j => (e_api_Wait (v8.getD j z_api_Wait)))), (3, some (.arr 9 v10.1.length fun j => (e_api_Wait (v10.1.getD j z_api_Wait)))), (4, some (.arr 9 v10.2.length fun j => (e_api_Wait (v10.2.getD j z_api_Wait))))], 5⟩ : St)) hwn26 (cov_prune ⟨rfl, rfl, rfl, rfl, trivial⟩ ⟨rfl, rfl, rfl, trivial⟩ (Nat.le_of_ble_eq_true rfl)) (fun x25 st H hsn26 => ?_)))
        · have H := nx_of hy Hrn26
          refine nx_seq ?_
          refine aw_region (es := [_]) ⟨Step.plain rfl (does_assign (.const (.bool true)) (.bool true) (fun _ => rfl)), ⟨trivial, trivial, rfl⟩, rfl, rfl⟩ ?_
          refine aw_cov (cov_prune (s1 := ⟨[(6, (.bool true))], [], 5⟩) ⟨rfl, trivial⟩ trivial (Nat.le_refl _)) ?_
          refine aw_ret ?_
          exact fun a w hr => ⟨_, [(.bool true)], hr, ⟨⟨_, rfl, .data (.bool true) trivial⟩, trivial⟩, by decide, by cases H; rfl⟩
        · refine aw_seq ?_
          refine aw_region (es := [_, _, _, _]) ⟨Step.plain rfl (does_move (.tmp 11) (.int .i64 x25) trivial), ⟨⟨rfl, trivial⟩, trivial, rfl⟩, rfl,
            Step.plain rfl (does_move (.tmp 7) (.own 2) trivial), ⟨⟨rfl, trivial⟩, trivial, rfl⟩, rfl,
            Step.plain rfl (does_leno 22 9 v8.length 85 2 (fun j => (e_api_Wait (v8.getD j z_api_Wait))) el22), ⟨⟨rfl, trivial⟩, ⟨rfl, trivial⟩, rfl⟩, rfl,
            Step.plain rfl (does_bin .lss 3 3 (.tmp 84) (.tmp 86) .i64 x25 (v8.length : Int) (.bool (decide (x25 < (v8.length : Int)))) trivial trivial (bin_lss _ _ _ _)), ⟨⟨rfl, rfl, trivial⟩, trivial, rfl⟩, rfl, rfl⟩ ?_
          refine aw_cov (cov_prune (s1 := ⟨[(7, (.own 2)), (8, (.own 3)), (9, (.own 4)), (11, (.int .i64 x25)), (87, (.bool (decide (x25 < (v8.length : Int)))))], [(2, some (.arr 9 v8.length fun j => (e_api_Wait (v8.getD j z_api_Wait)))), (3, some (.arr 9 v10.1.length fun j => (e_api_Wait (v10.1.getD j z_api_Wait)))), (4, some (.arr 9 v10.2.length fun j => (e_api_Wait (v10.2.getD j z_api_Wait))))], 5⟩) ⟨rfl, rfl, rfl, rfl, rfl, trivial⟩ ⟨rfl, rfl, rfl, trivial⟩ (Nat.le_refl _)) ?_
          refine aw_cond rfl (fun hc => ?_) (fun hc => ?_)
          · replace H := ite_t hc H
            refine aw_skip ?_
            refine nx_seq ?_
            refine aw_seq ?_
            refine aw_block ?_
            obtain ⟨h27, H⟩ := ib_of H
            obtain ⟨v28, h29, H⟩ := bnd H
            obtain ⟨h30, H⟩ := ib_of H
            obtain ⟨v31, h32, H⟩ := bnd H
            refine aw_draw (es := [_, _, _, _, _, _, _, _, _, _, _, _, _]) (mixed) ⟨Step.plain rfl (does_move (.tmp 8) (.own 3) trivial), ⟨⟨rfl, trivial⟩, trivial, rfl⟩, rfl,
              Step.plain rfl (does_move (.tmp 7) (.own 2) trivial), ⟨⟨rfl, trivial⟩, trivial, rfl⟩, rfl,
              Step.plain rfl (does_move (.tmp 11) (.int .i64 x25) trivial), ⟨⟨rfl, trivial⟩, trivial, rfl⟩, rfl,
              Step.plain rfl (does_indexAddro 22 9 v8.length 91 2 (fun j => (e_api_Wait (v8.getD j z_api_Wait))) (.tmp 92) .i64 x25 el22 trivial h27.1 h27.2), ⟨⟨rfl, rfl, trivial⟩, ⟨rfl, trivial⟩, rfl⟩, rfl,
              Step.plain rfl (does_load 47 93 2 (x25.toNat * 9) [x25.toNat] (.arr 9 v8.length fun j => (e_api_Wait (v8.getD j z_api_Wait))) (e_api_Wait (v8.getD x25.toNat z_api_Wait)) ⟨(ixl h27), trivial⟩ rfl rfl ty47), ⟨⟨rfl, trivial⟩, ⟨rfl, trivial⟩, rfl⟩, rfl,
              Step.plain rfl (does_call 17 0 (fun _ => .any) (.func 17) [(.tmp 90), (.tmp 94)] [(.own 3), (e_api_Wait (v8.getD x25.toNat z_api_Wait))] [(3, (.arr 9 v10.1.length fun j => (e_api_Wait (v10.1.getD j z_api_Wait))))] true [(e_s_api_Wait v10.1), (e_api_Wait (v8.getD x25.toNat z_api_Wait))] (.bool v28) _ _ rfl fo17 rfl ⟨trivial, trivial, trivial⟩ ⟨.own 3 _ _ _ (.head _) rfl (fun _ => (d_api_Wait _)), .data _ (d_api_Wait (v8.getD x25.toNat z_api_Wait)), trivial⟩ (congressref22_Has_spec v10.1 (v8.getD x25.toNat z_api_Wait) _ h29) trivial), ⟨⟨rfl, rfl, trivial⟩, ⟨rfl, trivial⟩, rfl⟩, rfl,
              Step.plain rfl (does_move (.tmp 9) (.own 4) trivial), ⟨⟨rfl, trivial⟩, trivial, rfl⟩, rfl,
              Step.plain rfl (does_move (.tmp 7) (.own 2) trivial), ⟨⟨rfl, trivial⟩, trivial, rfl⟩, rfl,
              Step.plain rfl (does_move (.tmp 11) (.int .i64 x25) trivial), ⟨⟨rfl, trivial⟩, trivial, rfl⟩, rfl,
              Step.plain rfl (does_indexAddro 22 9 v8.length 97 2 (fun j => (e_api_Wait (v8.getD j z_api_Wait))) (.tmp 98) .i64 x25 el22 trivial h30.1 h30.2), ⟨⟨rfl, rfl, trivial⟩, ⟨rfl, trivial⟩, rfl⟩, rfl,
              Step.plain rfl (does_load 47 99 2 (x25.toNat * 9) [x25.toNat] (.arr 9 v8.length fun j => (e_api_Wait (v8.getD j z_api_Wait))) (e_api_Wait (v8.getD x25.toNat z_api_Wait)) ⟨(ixl h30), trivial⟩ rfl rfl ty47), ⟨⟨rfl, trivial⟩, ⟨rfl, trivial⟩, rfl⟩, rfl,
              Step.plain rfl (does_call 17 0 (fun _ => .any) (.func 17) [(.tmp 96), (.tmp 100)] [(.own 4), (e_api_Wait (v8.getD x25.toNat z_api_Wait))] [(4, (.arr 9 v10.2.length fun j => (e_api_Wait (v10.2.getD j z_api_Wait))))] true [(e_s_api_Wait v10.2), (e_api_Wait (v8.getD x25.toNat z_api_Wait))] (.bool v31) _ _ rfl fo17 rfl ⟨trivial, trivial, trivial⟩ ⟨.own 4 _ _ _ (.head _) rfl (fun _ => (d_api_Wait _)), .data _ (d_api_Wait (v8.getD x25.toNat z_api_Wait)), trivial⟩ (congressref22_Has_spec v10.2 (v8.getD x25.toNat z_api_Wait) _ h32) trivial), ⟨⟨rfl, rfl, trivial⟩, ⟨rfl, trivial⟩, rfl⟩, rfl,
              Step.plain rfl (does_eqBool false 4 4 (.tmp 95) (.tmp 101) v28 v31 trivial trivial rfl), ⟨⟨rfl, rfl, trivial⟩, trivial, rfl⟩, rfl, rfl⟩ rfl ?_
            refine aw_cov (cov_prune (s1 := ⟨[(7, (.own 2)), (8, (.own 3)), (9, (.own 4)), (11, (.int .i64 x25)), (102, (.bool (v28 == v31)))], [(2, some (.arr 9 v8.length fun j => (e_api_Wait (v8.getD j z_api_Wait)))), (3, some (.arr 9 v10.1.length fun j => (e_api_Wait (v10.1.getD j z_api_Wait)))), (4, some (.arr 9 v10.2.length fun j => (e_api_Wait (v10.2.getD j z_api_Wait))))], 5⟩) ⟨rfl, rfl, rfl, rfl, rfl, trivial⟩ ⟨rfl, rfl, rfl, trivial⟩ (Nat.le_refl _)) ?_
            refine aw_cond rfl (fun hc => ?_) (fun hc => ?_)
            · replace H := ite_t hc H
              refine aw_region (es := [_]) ⟨Step.plain rfl (does_assign (.const (.bool false)) (.bool false) (fun _ => rfl)), ⟨trivial, trivial, rfl⟩, rfl, rfl⟩ ?_
              refine aw_cov (cov_prune (s1 := ⟨[(6, (.bool false))], [], 5⟩) ⟨rfl, trivial⟩ trivial (Nat.le_refl _)) ?_
              refine aw_ret ?_
              replace H := rt_of H hsn26 Hrn26
              refine rt_blk ?_
              refine rt_then ?_
              refine rt_then ?_
              refine rt_blk ?_
              refine rt_then ?_
              refine rt_then ?_
              exact fun a w hr => ⟨_, [(.bool false)], hr, ⟨⟨_, rfl, .data (.bool false) trivial⟩, trivial⟩, by decide, by cases H; rfl⟩
            · replace H := ite_f hc H
              refine aw_skip ?_
              refine nx_blk ?_
              refine nx_seq ?_
              refine aw_region1 (es := [_, _, _]) ⟨Step.plain rfl (does_move (.tmp 11) (.int .i64 x25) trivial), ⟨⟨rfl, trivial⟩, trivial, rfl⟩, rfl,
                Step.plain rfl (does_bin .add 3 3 (.tmp 88) (.const (.int .i64 1)) .i64 x25 1 (.int .i64 (IntKind.i64.wrap (x25 + 1))) trivial (fun _ => rfl) (bin_add _ _ _ _)), ⟨⟨rfl, trivial⟩, trivial, rfl⟩, rfl,
                Step.plain rfl (does_assign (.tmp 89) (.int .i64 (IntKind.i64.wrap (x25 + 1))) trivial), ⟨⟨rfl, trivial⟩, trivial, rfl⟩, rfl, rfl⟩ ?_
              exact nx_loop ((IntKind.i64.wrap (x25 + 1))) H (cov_prune ⟨rfl, rfl, rfl, rfl, trivial⟩ ⟨rfl, rfl, rfl, trivial⟩ (Nat.le_of_ble_eq_true rfl))
          · replace H := ite_f hc H
            refine aw_exit ?_
            refine ex_then ?_
            refine ex_then ?_
            refine ex_here ?_
            exact nx_ljoin () H hsn26 (cov_prune trivial trivial (Nat.le_of_ble_eq_true rfl))
      · refine aw_seq ?_
        refine aw_region (es := [_, _, _, _]) ⟨Step.plain rfl (does_move (.tmp 10) (.int .i64 x19) trivial), ⟨⟨rfl, trivial⟩, trivial, rfl⟩, rfl,
          Step.plain rfl (does_move (.tmp 0) (e_s_api_Wait p0) trivial), ⟨⟨rfl, trivial⟩, trivial, rfl⟩, rfl,
          Step.plain rfl (does_lens 22 9 p0.length 72 (fun j => (e_api_Wait (p0.getD j z_api_Wait))) el22), ⟨⟨rfl, trivial⟩, trivial, rfl⟩, rfl,
          Step.plain rfl (does_bin .lss 3 3 (.tmp 71) (.tmp 73) .i64 x19 (p0.length : Int) (.bool (decide (x19 < (p0.length : Int)))) trivial trivial (bin_lss _ _ _ _)), ⟨⟨rfl, rfl, trivial⟩, trivial, rfl⟩, rfl, rfl⟩ ?_
        refine aw_cov (cov_prune (s1 := ⟨[(0, (e_s_api_Wait p0)), (7, (.own 2)), (8, (.own 3)), (9, (.own 4)), (10, (.int .i64 x19)), (74, (.bool (decide (x19 < (p0.length : Int)))))], [(2, some (.arr 9 v8.length fun j => (e_api_Wait (v8.getD j z_api_Wait)))), (3, some (.arr 9 v10.1.length fun j => (e_api_Wait (v10.1.getD j z_api_Wait)))), (4, some (.arr 9 v10.2.length fun j => (e_api_Wait (v10.2.getD j z_api_Wait))))], 5⟩) ⟨rfl, rfl, rfl, rfl, rfl, rfl, trivial⟩ ⟨rfl, rfl, rfl, trivial⟩ (Nat.le_refl _)) ?_
        refine aw_cond rfl (fun hc => ?_) (fun hc => ?_)
        · replace H := ite_t hc H
          refine aw_skip ?_
          refine nx_seq ?_
          refine aw_seq ?_
          refine aw_block ?_
          obtain ⟨h21, H⟩ := ib_of H
          obtain ⟨v22, h23, H⟩ := bnd H
          refine aw_region (es := [_, _, _, _, _, _, _]) ⟨Step.plain rfl (does_move (.tmp 7) (.own 2) trivial), ⟨⟨rfl, trivial⟩, trivial, rfl⟩, rfl,
            Step.plain rfl (does_move (.tmp 0) (e_s_api_Wait p0) trivial), ⟨⟨rfl, trivial⟩, trivial, rfl⟩, rfl,
            Step.plain rfl (does_move (.tmp 10) (.int .i64 x19) trivial), ⟨⟨rfl, trivial⟩, trivial, rfl⟩, rfl,
            Step.plain rfl (does_indexAddrs 22 9 p0.length 78 (fun j => (e_api_Wait (p0.getD j z_api_Wait))) (.tmp 79) .i64 x19 el22 trivial h21.1 h21.2), ⟨⟨rfl, rfl, trivial⟩, trivial, rfl⟩, rfl,
            Step.plain rfl (does_loadc 47 80 (e_api_Wait (p0.getD x19.toNat z_api_Wait)) ty47), ⟨⟨rfl, trivial⟩, trivial, rfl⟩, rfl,
            Step.plain rfl (does_call 17 0 (fun _ => .any) (.func 17) [(.tmp 77), (.tmp 81)] [(.own 2), (e_api_Wait (p0.getD x19.toNat z_api_Wait))] [(2, (.arr 9 v8.length fun j => (e_api_Wait (v8.getD j z_api_Wait))))] true [(e_s_api_Wait v8), (e_api_Wait (p0.getD x19.toNat z_api_Wait))] (.bool v22) _ _ rfl fo17 rfl ⟨trivial, trivial, trivial⟩ ⟨.own 2 _ _ _ (.head _) rfl (fun _ => (d_api_Wait _)), .data _ (d_api_Wait (p0.getD x19.toNat z_api_Wait)), trivial⟩ (congressref22_Has_spec v8 (p0.getD x19.toNat z_api_Wait) _ h23) trivial), ⟨⟨rfl, rfl, trivial⟩, ⟨rfl, trivial⟩, rfl⟩, rfl,
            Step.plain rfl (does_not 4 (.tmp 82) v22 trivial), ⟨⟨rfl, trivial⟩, trivial, rfl⟩, rfl, rfl⟩ ?_
          refine aw_cov (cov_prune (s1 := ⟨[(0, (e_s_api_Wait p0)), (7, (.own 2)), (8, (.own 3)), (9, (.own 4)), (10, (.int .i64 x19)), (83, (.bool (!v22)))], [(2, some (.arr 9 v8.length fun j => (e_api_Wait (v8.getD j z_api_Wait)))), (3, some (.arr 9 v10.1.length fun j => (e_api_Wait (v10.1.getD j z_api_Wait)))), (4, some (.arr 9 v10.2.length fun j => (e_api_Wait (v10.2.getD j z_api_Wait))))], 5⟩) ⟨rfl, rfl, rfl, rfl, rfl, rfl, trivial⟩ ⟨rfl, rfl, rfl, trivial⟩ (Nat.le_refl _)) ?_
          refine aw_cond rfl (fun hc => ?_) (fun hc => ?_)
          · replace H := ite_t hc H
            refine aw_region (es := [_]) ⟨Step.plain rfl (does_assign (.const (.bool false)) (.bool false) (fun _ => rfl)), ⟨trivial, trivial, rfl⟩, rfl, rfl⟩ ?_
            refine aw_cov (cov_prune (s1 := ⟨[(6, (.bool false))], [], 5⟩) ⟨rfl, trivial⟩ trivial (Nat.le_refl _)) ?_
            refine aw_ret ?_
            replace H := rt_of H hsn20 Hrn20
            refine rt_blk ?_
            refine rt_then ?_
            refine rt_then ?_
            refine rt_blk ?_
            refine rt_then ?_
            refine rt_then ?_
            exact fun a w hr => ⟨_, [(.bool false)], hr, ⟨⟨_, rfl, .data (.bool false) trivial⟩, trivial⟩, by decide, by cases H; rfl⟩
          · replace H := ite_f hc H
            refine aw_skip ?_
            refine nx_blk ?_
            refine nx_seq ?_
            refine aw_region1 (es := [_, _, _]) ⟨Step.plain rfl (does_move (.tmp 10) (.int .i64 x19) trivial), ⟨⟨rfl, trivial⟩, trivial, rfl⟩, rfl,
              Step.plain rfl (does_bin .add 3 3 (.tmp 75) (.const (.int .i64 1)) .i64 x19 1 (.int .i64 (IntKind.i64.wrap (x19 + 1))) trivial (fun _ => rfl) (bin_add _ _ _ _)), ⟨⟨rfl, trivial⟩, trivial, rfl⟩, rfl,
              Step.plain rfl (does_assign (.tmp 76) (.int .i64 (IntKind.i64.wrap (x19 + 1))) trivial), ⟨⟨rfl, trivial⟩, trivial, rfl⟩, rfl, rfl⟩ ?_
            exact nx_loop ((IntKind.i64.wrap (x19 + 1))) H (cov_prune ⟨rfl, rfl, rfl, rfl, rfl, trivial⟩ ⟨rfl, rfl, rfl, trivial⟩ (Nat.le_of_ble_eq_true rfl))
        · replace H := ite_f hc H
          refine aw_exit ?_
          refine ex_then ?_
          refine ex_then ?_
          refine ex_here ?_
          exact nx_ljoin () H hsn20 (cov_prune ⟨rfl, rfl, rfl, trivial⟩ ⟨rfl, rfl, rfl, trivial⟩ (Nat.le_of_ble_eq_true rfl))

theorem congresslaw22_delivered_spec (p0 : congresslaw22_Play) (r : (_root_.List api_Wait)) (H : congresslaw22_delivered p0 = some r) : FSpecO Try.prog 18 [(e_congresslaw22_Play p0)] [] 0 (.own 0) [(0, some (.arr 9 r.length fun j => (e_api_Wait (r.getD j z_api_Wait))))] 1 := by
  refine specO_of (fn := Try.f18) (args := [(e_congresslaw22_Play p0)]) Try.func18 rfl (Nat.le_of_ble_eq_true rfl) ?_
  rintro ⟨G, w0, W, S, Sp⟩ hG
  cases hG
  unfold congresslaw22_delivered at H
  refine aw_region (es := [_, _]) ⟨Step.plain rfl (does_box 50 (.tmp 0) 0 (e_congresslaw22_Play p0) trivial rfl), ⟨⟨rfl, trivial⟩, trivial, rfl⟩, rfl,
    Step.plain rfl (does_nil false 1 9 (fun j => (e_api_Wait (([] : _root_.List api_Wait).getD j z_api_Wait)))), ⟨trivial, trivial, rfl⟩, rfl, rfl⟩ ?_
  refine aw_cov (cov_prune (s1 := ⟨[(1, (.ptr 0 0 []))], [(0, some (.var (e_congresslaw22_Play p0)))], 2⟩) ⟨rfl, trivial⟩ ⟨rfl, trivial⟩ (Nat.le_refl _)) ?_
  refine aw_region (es := [_, _, _, _]) ⟨Step.plain rfl (does_buildOwn 22 0 9 2 (e_api_Wait z_api_Wait) (fun j => (e_api_Wait (([] : _root_.List api_Wait).getD j z_api_Wait))) #[] [] [] rfl so22 (by decide) trivial trivial (fun j h => match j, h with  | k + 0, h => absurd h (by omega))), ⟨trivial, trivial, rfl⟩, rfl,
    Step.plain rfl (does_buildOwn 22 0 9 3 (e_api_Wait z_api_Wait) (fun j => (e_api_Wait (([] : _root_.List api_Wait).getD j z_api_Wait))) #[] [] [] rfl so22 (by decide) trivial trivial (fun j h => match j, h with  | k + 0, h => absurd h (by omega))), ⟨trivial, trivial, rfl⟩, rfl,
    Step.plain rfl (does_assign (.tmp 11) (.own 2) trivial), ⟨⟨rfl, trivial⟩, trivial, rfl⟩, rfl,
    Step.plain rfl (does_assign (.tmp 12) (.own 3) trivial), ⟨⟨rfl, trivial⟩, trivial, rfl⟩, rfl, rfl⟩ ?_
  refine aw_cov (cov_prune (s1 := ⟨[(1, (.ptr 0 0 [])), (3, (.own 2)), (4, (.own 3))], [(0, some (.var (e_congresslaw22_Play p0))), (2, some (.arr 9 ([] : _root_.List api_Wait).length fun j => (e_api_Wait (([] : _root_.List api_Wait).getD j z_api_Wait)))), (3, some (.arr 9 ([] : _root_.List api_Wait).length fun j => (e_api_Wait (([] : _root_.List api_Wait).getD j z_api_Wait))))], 4⟩) ⟨rfl, rfl, rfl, trivial⟩ ⟨rfl, rfl, rfl, trivial⟩ (Nat.le_refl _)) ?_
  refine aw_region (es := [_, _, _]) ⟨Step.plain rfl (does_buildT 28 #[] [] [] (.ar 8 1) (fun j => (.int .u32 ((fun _ => 0) j))) (fun j => (.int .u32 ((aset (fun _ => 0) []) j))) rfl bo28 trivial trivial (setAll_map (fun z => V.int .u32 z) [] _)), ⟨trivial, trivial, rfl⟩, rfl,
    Step.plain rfl (does_alloc 28 4 (e_a8_u32 (fun _ => 0)) zr28), ⟨trivial, trivial, rfl⟩, rfl,
    Step.plain rfl (does_store 28 5 (.tmp 13) 4 0 [] (.var (e_a8_u32 (fun _ => 0))) (.var (e_a8_u32 (aset (fun _ => 0) []))) (e_a8_u32 (aset (fun _ => 0) [])) true trivial rfl trivial rfl rfl rfl ty28), ⟨⟨rfl, rfl, trivial⟩, ⟨rfl, trivial⟩, rfl⟩, rfl, rfl⟩ ?_
  refine aw_cov (cov_prune (s1 := ⟨[(1, (.ptr 0 0 [])), (3, (.own 2)), (4, (.own 3)), (5, (.ptr 4 0 []))], [(0, some (.var (e_congresslaw22_Play p0))), (2, some (.arr 9 ([] : _root_.List api_Wait).length fun j => (e_api_Wait (([] : _root_.List api_Wait).getD j z_api_Wait)))), (3, some (.arr 9 ([] : _root_.List api_Wait).length fun j => (e_api_Wait (([] : _root_.List api_Wait).getD j z_api_Wait)))), (4, some (.var (e_a8_u32 (aset (fun _ => 0) []))))], 5⟩) ⟨rfl, rfl, rfl, rfl, trivial⟩ ⟨rfl, rfl, rfl, rfl, trivial⟩ (Nat.le_refl _)) ?_
  refine aw_seq ?_
  refine aw_region (es := [_]) ⟨Step.plain rfl (does_assign (.const (.int .i64 0)) (.int .i64 0) (fun _ => rfl)), ⟨trivial, trivial, rfl⟩, rfl, rfl⟩ ?_
  refine aw_cov (cov_prune (s1 := ⟨[(1, (.ptr 0 0 [])), (3, (.own 2)), (4, (.own 3)), (5, (.ptr 4 0 [])), (6, (.int .i64 0))], [(0, some (.var (e_congresslaw22_Play p0))), (2, some (.arr 9 ([] : _root_.List api_Wait).length fun j => (e_api_Wait (([] : _root_.List api_Wait).getD j z_api_Wait)))), (3, some (.arr 9 ([] : _root_.List api_Wait).length fun j => (e_api_Wait (([] : _root_.List api_Wait).getD j z_api_Wait)))), (4, some (.var (e_a8_u32 (aset (fun _ => 0) []))))], 5⟩) ⟨rfl, rfl, rfl, rfl, rfl, trivial⟩ ⟨rfl, rfl, rfl, rfl, trivial⟩ (Nat.le_refl _)) ?_
  obtain ⟨wn2, hwn2, Hrn2⟩ := bnd H
  refine aw_meet (fun y19 : _root_.List api_Wait × _root_.List api_Wait => (⟨[(3, (.own 2)), (4, (.own 3))], [(2, some (.arr 9 y19.1.length fun j => (e_api_Wait (y19.1.getD j z_api_Wait)))), (3, some (.arr 9 y19.2.length fun j => (e_api_Wait (y19.2.getD j z_api_Wait))))], 5⟩ : St)) (fun y19 => Fl.nx y19 = wn2) (fun y19 hy => ?_) (aw_block (aw_runs (fun x1 : Int × _root_.List api_Wait × _root_.List api_Wait × (Nat → Int) => (⟨[(1, (.ptr 0 0 [])), (3, (.own 2)), (4, (.own 3)), (5, (.ptr 4 0 [])), (6, (.int .i64 x1.1))], [(0, some (.var (e_congresslaw22_Play p0))), (2, some (.arr 9 x1.2.1.length fun j => (e_api_Wait (x1.2.1.getD j z_api_Wait)))), (3, some (.arr 9 x1.2.2.1.length fun j => (e_api_Wait (x1.2.2.1.getD j z_api_Wait)))), (4, some (.var (e_a8_u32 x1.2.2.2)))], 5⟩ : St)) hwn2 (cov_prune ⟨rfl, rfl, rfl, rfl, rfl, trivial⟩ ⟨rfl, rfl, rfl, rfl, trivial⟩ (Nat.le_of_ble_eq_true rfl)) (fun x1 st H hsn2 => ?_)))
  · have H := nx_of hy Hrn2
    refine nx_seq ?_
    refine aw_cov (cov_to (s1 := ⟨[(3, (e_s_api_Wait y19.1)), (4, (.own 3))], [(3, some (.arr 9 y19.2.length fun j => (e_api_Wait (y19.2.getD j z_api_Wait))))], 5⟩) (fun i => i) [2] ⟨⟨_, rfl, .frz 2 _ _ _ rfl (fun _ => (d_api_Wait _)) (by decide)⟩, ⟨_, rfl, .own 3 _ _ (Nat.le_of_ble_eq_true rfl) rfl rfl (Box.like_refl _)⟩, trivial⟩ ⟨⟨Nat.le_of_ble_eq_true rfl, _, _, rfl, rfl, boxTo_arr (fun _ => (d_api_Wait _))⟩, trivial⟩ rfl rfl) ?_
    obtain ⟨v20, h21, H⟩ := bnd H
    obtain ⟨h22, H⟩ := fit_of H
    refine aw_region (es := [_, _, _, _, _]) ⟨Step.plain rfl (does_move (.tmp 4) (.own 3) trivial), ⟨⟨rfl, trivial⟩, trivial, rfl⟩, rfl,
      Step.plain rfl (does_move (.tmp 3) (e_s_api_Wait y19.1) trivial), ⟨⟨rfl, trivial⟩, trivial, rfl⟩, rfl,
      Step.plain rfl (does_call 14 0 (fun _ => .any) (.func 14) [(.tmp 91)] [(e_s_api_Wait y19.1)] [] false [(e_s_api_Wait y19.1)] (e_s_api_Wait v20) _ _ rfl fo14 rfl ⟨trivial, trivial⟩ ⟨.data _ (d_s_api_Wait y19.1), trivial⟩ (queue_Flush_data y19.1 _ h21) (d_s_api_Wait v20)), ⟨⟨rfl, trivial⟩, trivial, rfl⟩, rfl,
      Step.plain rfl (does_appendL e_api_Wait z_api_Wait y19.2 v20 22 9 80 3 5 90 92 ap22 h22), ⟨⟨rfl, rfl, trivial⟩, ⟨rfl, trivial⟩, rfl⟩, rfl,
      Step.plain rfl (does_assign (.tmp 93) (.own 5) trivial), ⟨⟨rfl, trivial⟩, trivial, rfl⟩, rfl, rfl⟩ ?_
    refine aw_cov (cov_prune (s1 := ⟨[(4, (.own 5))], [(5, some (.arr 9 (y19.2 ++ v20).length fun j => (e_api_Wait ((y19.2 ++ v20).getD j z_api_Wait))))], 6⟩) ⟨rfl, trivial⟩ ⟨rfl, trivial⟩ (Nat.le_refl _)) ?_
    refine aw_region (es := [_, _]) ⟨Step.plain rfl (does_move (.tmp 4) (.own 5) trivial), ⟨⟨rfl, trivial⟩, trivial, rfl⟩, rfl,
      Step.plain rfl (does_assign (.tmp 94) (.own 5) trivial), ⟨⟨rfl, trivial⟩, trivial, rfl⟩, rfl, rfl⟩ ?_
    refine aw_cov (cov_prune (s1 := ⟨[(2, (.own 5))], [(5, some (.arr 9 (y19.2 ++ v20).length fun j => (e_api_Wait ((y19.2 ++ v20).getD j z_api_Wait))))], 6⟩) ⟨rfl, trivial⟩ ⟨rfl, trivial⟩ (Nat.le_refl _)) ?_
    refine aw_ret ?_
    exact fun a w hr => ⟨_, [(.own 0)], reach_of hr (cov_to (s1 := ⟨[(2, (.own 0))], [(0, some (.arr 9 (y19.2 ++ v20).length fun j => (e_api_Wait ((y19.2 ++ v20).getD j z_api_Wait))))], 1⟩) (fun i => match i with | 0 => 5 | k => k) [] ⟨⟨_, rfl, .own 0 _ _ (Nat.le_of_ble_eq_true rfl) rfl rfl (Box.like_refl _)⟩, trivial⟩ ⟨⟨Nat.le_of_ble_eq_true rfl, _, _, rfl, rfl, boxTo_arr (fun _ => (d_api_Wait _))⟩, trivial⟩ rfl rfl), ⟨rfl, trivial⟩, by decide, by cases H; rfl, by cases H; exact ⟨rfl, trivial⟩, Nat.le_of_ble_eq_true rfl⟩
  · refine aw_seq ?_
    refine aw_region (es := [_, _, _, _, _, _, _, _, _]) ⟨Step.plain rfl (does_move (.tmp 6) (.int .i64 x1.1) trivial), ⟨⟨rfl, trivial⟩, trivial, rfl⟩, rfl,
      Step.plain rfl (does_fieldAddr 50 1 8 1 0 0 [] (.var (e_congresslaw22_Play p0)) fl50_1), ⟨⟨rfl, trivial⟩, ⟨rfl, trivial⟩, rfl⟩, rfl,
      Step.plain rfl (does_load 48 15 0 (0 + 8) [1] (.var (e_congresslaw22_Play p0)) (e_s_congresslaw22_Frame p0.L) ⟨rfl, Nat.le_of_ble_eq_true rfl, trivial⟩ rfl rfl ty48), ⟨⟨rfl, trivial⟩, ⟨rfl, trivial⟩, rfl⟩, rfl,
      Step.plain rfl (does_lens 48 3 p0.L.length 16 (fun j => (e_congresslaw22_Frame (p0.L.getD j z_congresslaw22_Frame))) el48), ⟨⟨rfl, trivial⟩, trivial, rfl⟩, rfl,
      Step.plain rfl (does_bin .lss 3 3 (.tmp 14) (.tmp 17) .i64 x1.1 (p0.L.length : Int) (.bool (decide (x1.1 < (p0.L.length : Int)))) trivial trivial (bin_lss _ _ _ _)), ⟨⟨rfl, rfl, trivial⟩, trivial, rfl⟩, rfl,
      Step.plain rfl (does_move (.tmp 18) (.bool (decide (x1.1 < (p0.L.length : Int)))) trivial), ⟨⟨rfl, trivial⟩, trivial, rfl⟩, rfl,
      Step.guarded rfl rfl rfl rfl (fun hc => does_move (.tmp 6) (.int .i64 x1.1) trivial), ⟨⟨rfl, rfl, trivial⟩, trivial, rfl⟩, rfl,
      Step.guarded rfl rfl rfl rfl (fun hc => Does.strip (n' := [(20, (.opt (decide (x1.1 < (p0.L.length : Int))) (.int .i64 x1.1)))]) (n := [(20, (.int .i64 x1.1))]) ⟨(.opt _ _ hc), trivial⟩ (does_bin .lss 3 3 (.tmp 20) (.const (.int .i64 60)) .i64 x1.1 60 (.bool (decide (x1.1 < 60))) trivial (fun _ => rfl) (bin_lss _ _ _ _))), ⟨⟨rfl, rfl, trivial⟩, trivial, rfl⟩, rfl,
      Step.plain rfl (does_and 19 21 (decide (x1.1 < (p0.L.length : Int))) (decide (x1.1 < 60))), ⟨⟨rfl, rfl, trivial⟩, trivial, rfl⟩, rfl, rfl⟩ ?_
    refine aw_cov (cov_prune (s1 := ⟨[(1, (.ptr 0 0 [])), (3, (.own 2)), (4, (.own 3)), (5, (.ptr 4 0 [])), (6, (.int .i64 x1.1)), (22, (.bool ((decide (x1.1 < (p0.L.length : Int))) && (decide (x1.1 < 60)))))], [(0, some (.var (e_congresslaw22_Play p0))), (2, some (.arr 9 x1.2.1.length fun j => (e_api_Wait (x1.2.1.getD j z_api_Wait)))), (3, some (.arr 9 x1.2.2.1.length fun j => (e_api_Wait (x1.2.2.1.getD j z_api_Wait)))), (4, some (.var (e_a8_u32 x1.2.2.2)))], 5⟩) ⟨rfl, rfl, rfl, rfl, rfl, rfl, trivial⟩ ⟨rfl, rfl, rfl, rfl, trivial⟩ (Nat.le_refl _)) ?_
    refine aw_cond rfl (fun hc => ?_) (fun hc => ?_)
    · replace H := ite_t hc H
      refine aw_skip ?_
      refine nx_seq ?_
      refine aw_seq ?_
      refine aw_jn (fun x18 : _root_.List api_Wait × _root_.List api_Wait × (Nat → Int) => (⟨[(1, (.ptr 0 0 [])), (3, (.own 2)), (4, (.own 3)), (5, (.ptr 4 0 [])), (6, (.int .i64 x1.1))], [(0, some (.var (e_congresslaw22_Play p0))), (2, some (.arr 9 x18.1.length fun j => (e_api_Wait (x18.1.getD j z_api_Wait)))), (3, some (.arr 9 x18.2.1.length fun j => (e_api_Wait (x18.2.1.getD j z_api_Wait)))), (4, some (.var (e_a8_u32 x18.2.2)))], 10⟩ : St)) H (fun x18 H => ?_) (fun j3 H => ?_)
      · refine nx_seq ?_
        refine aw_region1 (es := [_, _, _]) ⟨Step.plain rfl (does_move (.tmp 6) (.int .i64 x1.1) trivial), ⟨⟨rfl, trivial⟩, trivial, rfl⟩, rfl,
          Step.plain rfl (does_bin .add 3 3 (.tmp 23) (.const (.int .i64 1)) .i64 x1.1 1 (.int .i64 (IntKind.i64.wrap (x1.1 + 1))) trivial (fun _ => rfl) (bin_add _ _ _ _)), ⟨⟨rfl, trivial⟩, trivial, rfl⟩, rfl,
          Step.plain rfl (does_assign (.tmp 24) (.int .i64 (IntKind.i64.wrap (x1.1 + 1))) trivial), ⟨⟨rfl, trivial⟩, trivial, rfl⟩, rfl, rfl⟩ ?_
        exact nx_loop ((IntKind.i64.wrap (x1.1 + 1)), x18.1, x18.2.1, x18.2.2) H (cov_of (fun i => match i with | 0 => 0 | 2 => 2 | 3 => 3 | 4 => 4 | k => k) ⟨⟨_, rfl, ⟨rfl, Nat.le_of_ble_eq_true rfl⟩⟩, ⟨_, rfl, ⟨rfl, Nat.le_of_ble_eq_true rfl⟩⟩, ⟨_, rfl, ⟨rfl, Nat.le_of_ble_eq_true rfl⟩⟩, ⟨_, rfl, ⟨rfl, Nat.le_of_ble_eq_true rfl⟩⟩, ⟨_, rfl, ⟨rfl, trivial⟩⟩, trivial⟩ ⟨⟨Nat.le_of_ble_eq_true rfl, _, _, rfl, rfl, .inl ⟨rfl, (d_congresslaw22_Play _).plain⟩⟩, ⟨Nat.le_of_ble_eq_true rfl, _, _, rfl, rfl, ⟨rfl, rfl, fun _ => .inl ⟨rfl, (d_api_Wait _).plain⟩⟩⟩, ⟨Nat.le_of_ble_eq_true rfl, _, _, rfl, rfl, ⟨rfl, rfl, fun _ => .inl ⟨rfl, (d_api_Wait _).plain⟩⟩⟩, ⟨Nat.le_of_ble_eq_true rfl, _, _, rfl, rfl, .inl ⟨rfl, (d_a8_u32 _).plain⟩⟩, trivial⟩ rfl)
      · refine aw_block ?_
        obtain ⟨h4, H⟩ := ib_of H
        refine aw_region (es := [_, _, _, _, _, _, _]) ⟨Step.plain rfl (does_fieldAddr 50 1 8 1 0 0 [] (.var (e_congresslaw22_Play p0)) fl50_1), ⟨⟨rfl, trivial⟩, ⟨rfl, trivial⟩, rfl⟩, rfl,
          Step.plain rfl (does_load 48 25 0 (0 + 8) [1] (.var (e_congresslaw22_Play p0)) (e_s_congresslaw22_Frame p0.L) ⟨rfl, Nat.le_of_ble_eq_true rfl, trivial⟩ rfl rfl ty48), ⟨⟨rfl, trivial⟩, ⟨rfl, trivial⟩, rfl⟩, rfl,
          Step.plain rfl (does_move (.tmp 6) (.int .i64 x1.1) trivial), ⟨⟨rfl, trivial⟩, trivial, rfl⟩, rfl,
          Step.plain rfl (does_indexAddrs 48 3 p0.L.length 26 (fun j => (e_congresslaw22_Frame (p0.L.getD j z_congresslaw22_Frame))) (.tmp 27) .i64 x1.1 el48 trivial h4.1 h4.2), ⟨⟨rfl, rfl, trivial⟩, trivial, rfl⟩, rfl,
          Step.plain rfl (does_loadc 26 28 (e_congresslaw22_Frame (p0.L.getD x1.1.toNat z_congresslaw22_Frame)) ty26), ⟨⟨rfl, trivial⟩, trivial, rfl⟩, rfl,
          Step.plain rfl (does_alloc 26 5 (e_congresslaw22_Frame z_congresslaw22_Frame) zr26), ⟨trivial, trivial, rfl⟩, rfl,
          Step.plain rfl (does_store 26 7 (.tmp 29) 5 0 [] (.var (e_congresslaw22_Frame z_congresslaw22_Frame)) (.var (e_congresslaw22_Frame (p0.L.getD x1.1.toNat z_congresslaw22_Frame))) (e_congresslaw22_Frame (p0.L.getD x1.1.toNat z_congresslaw22_Frame)) true trivial rfl trivial rfl rfl rfl ty26), ⟨⟨rfl, rfl, trivial⟩, ⟨rfl, trivial⟩, rfl⟩, rfl, rfl⟩ ?_
        refine aw_cov (cov_prune (s1 := ⟨[(1, (.ptr 0 0 [])), (3, (.own 2)), (4, (.own 3)), (5, (.ptr 4 0 [])), (6, (.int .i64 x1.1)), (7, (.ptr 5 0 []))], [(0, some (.var (e_congresslaw22_Play p0))), (2, some (.arr 9 x1.2.1.length fun j => (e_api_Wait (x1.2.1.getD j z_api_Wait)))), (3, some (.arr 9 x1.2.2.1.length fun j => (e_api_Wait (x1.2.2.1.getD j z_api_Wait)))), (4, some (.var (e_a8_u32 x1.2.2.2))), (5, some (.var (e_congresslaw22_Frame (p0.L.getD x1.1.toNat z_congresslaw22_Frame))))], 6⟩) ⟨rfl, rfl, rfl, rfl, rfl, rfl, trivial⟩ ⟨rfl, rfl, rfl, rfl, rfl, trivial⟩ (Nat.le_refl _)) ?_
        refine aw_seq ?_
        obtain ⟨h5, H⟩ := ibg_of H
        obtain ⟨h6, H⟩ := ibg_of H
        refine aw_draw (es := [_, _, _, _, _, _, _, _, _, _, _, _, _, _, _, _, _, _, _, _, _, _, _, _, _, _, _, _]) (mixed) ⟨Step.plain rfl (does_fieldAddr 26 0 0 7 5 0 [] (.var (e_congresslaw22_Frame (p0.L.getD x1.1.toNat z_congresslaw22_Frame))) fl26_0), ⟨⟨rfl, trivial⟩, ⟨rfl, trivial⟩, rfl⟩, rfl,
          Step.plain rfl (does_load 3 30 5 (0 + 0) [0] (.var (e_congresslaw22_Frame (p0.L.getD x1.1.toNat z_congresslaw22_Frame))) (.int .i64 ((p0.L.getD x1.1.toNat z_congresslaw22_Frame).From)) ⟨rfl, Nat.le_of_ble_eq_true rfl, trivial⟩ rfl rfl ty3), ⟨⟨rfl, trivial⟩, ⟨rfl, trivial⟩, rfl⟩, rfl,
          Step.plain rfl (does_bin .lss 3 3 (.tmp 31) (.const (.int .i64 0)) .i64 ((p0.L.getD x1.1.toNat z_congresslaw22_Frame).From) 0 (.bool (decide (((p0.L.getD x1.1.toNat z_congresslaw22_Frame).From) < 0))) trivial (fun _ => rfl) (bin_lss _ _ _ _)), ⟨⟨rfl, trivial⟩, trivial, rfl⟩, rfl,
          Step.plain rfl (does_move (.tmp 32) (.bool (decide (((p0.L.getD x1.1.toNat z_congresslaw22_Frame).From) < 0))) trivial), ⟨⟨rfl, trivial⟩, trivial, rfl⟩, rfl,
          Step.guarded rfl rfl rfl rfl (fun hc => does_fieldAddr 26 0 0 7 5 0 [] (.var (e_congresslaw22_Frame (p0.L.getD x1.1.toNat z_congresslaw22_Frame))) fl26_0), ⟨⟨rfl, rfl, trivial⟩, ⟨rfl, trivial⟩, rfl⟩, rfl,
          Step.guarded rfl rfl rfl rfl (fun hc => Does.strip (n' := [(34, (.opt (!(decide (((p0.L.getD x1.1.toNat z_congresslaw22_Frame).From) < 0))) (.ptr 5 (0 + 0) [0])))]) (n := [(34, (.ptr 5 (0 + 0) [0]))]) ⟨(.opt _ _ hc), trivial⟩ (does_load 3 34 5 (0 + 0) [0] (.var (e_congresslaw22_Frame (p0.L.getD x1.1.toNat z_congresslaw22_Frame))) (.int .i64 ((p0.L.getD x1.1.toNat z_congresslaw22_Frame).From)) ⟨rfl, Nat.le_of_ble_eq_true rfl, trivial⟩ rfl rfl ty3)), ⟨⟨rfl, rfl, trivial⟩, ⟨rfl, trivial⟩, rfl⟩, rfl,
          Step.guarded rfl rfl rfl rfl (fun hc => Does.strip (n' := [(35, (.opt (!(decide (((p0.L.getD x1.1.toNat z_congresslaw22_Frame).From) < 0))) (.int .i64 ((p0.L.getD x1.1.toNat z_congresslaw22_Frame).From))))]) (n := [(35, (.int .i64 ((p0.L.getD x1.1.toNat z_congresslaw22_Frame).From)))]) ⟨(.opt _ _ hc), trivial⟩ (does_bin .gtr 3 3 (.tmp 35) (.const (.int .i64 7)) .i64 ((p0.L.getD x1.1.toNat z_congresslaw22_Frame).From) 7 (.bool (decide (((p0.L.getD x1.1.toNat z_congresslaw22_Frame).From) > 7))) trivial (fun _ => rfl) (bin_gtr _ _ _ _))), ⟨⟨rfl, rfl, trivial⟩, trivial, rfl⟩, rfl,
          Step.plain rfl (does_or 33 36 (decide (((p0.L.getD x1.1.toNat z_congresslaw22_Frame).From) < 0)) (decide (((p0.L.getD x1.1.toNat z_congresslaw22_Frame).From) > 7))), ⟨⟨rfl, rfl, trivial⟩, trivial, rfl⟩, rfl,
          Step.plain rfl (does_move (.tmp 37) (.bool ((decide (((p0.L.getD x1.1.toNat z_congresslaw22_Frame).From) < 0)) || (decide (((p0.L.getD x1.1.toNat z_congresslaw22_Frame).From) > 7)))) trivial), ⟨⟨rfl, trivial⟩, trivial, rfl⟩, rfl,
          Step.guarded rfl rfl rfl rfl (fun hc => does_fieldAddr 26 0 0 7 5 0 [] (.var (e_congresslaw22_Frame (p0.L.getD x1.1.toNat z_congresslaw22_Frame))) fl26_0), ⟨⟨rfl, rfl, trivial⟩, ⟨rfl, trivial⟩, rfl⟩, rfl,
          Step.guarded rfl rfl rfl rfl (fun hc => Does.strip (n' := [(39, (.opt (!((decide (((p0.L.getD x1.1.toNat z_congresslaw22_Frame).From) < 0)) || (decide (((p0.L.getD x1.1.toNat z_congresslaw22_Frame).From) > 7)))) (.ptr 5 (0 + 0) [0])))]) (n := [(39, (.ptr 5 (0 + 0) [0]))]) ⟨(.opt _ _ hc), trivial⟩ (does_load 3 39 5 (0 + 0) [0] (.var (e_congresslaw22_Frame (p0.L.getD x1.1.toNat z_congresslaw22_Frame))) (.int .i64 ((p0.L.getD x1.1.toNat z_congresslaw22_Frame).From)) ⟨rfl, Nat.le_of_ble_eq_true rfl, trivial⟩ rfl rfl ty3)), ⟨⟨rfl, rfl, trivial⟩, ⟨rfl, trivial⟩, rfl⟩, rfl,
          Step.guarded rfl rfl rfl rfl (fun hc => Does.strip (n' := [(40, (.opt (!((decide (((p0.L.getD x1.1.toNat z_congresslaw22_Frame).From) < 0)) || (decide (((p0.L.getD x1.1.toNat z_congresslaw22_Frame).From) > 7)))) (.int .i64 ((p0.L.getD x1.1.toNat z_congresslaw22_Frame).From))))]) (n := [(40, (.int .i64 ((p0.L.getD x1.1.toNat z_congresslaw22_Frame).From)))]) ⟨(.opt _ _ hc), trivial⟩ (does_bin .and 3 3 (.tmp 40) (.const (.int .i64 7)) .i64 ((p0.L.getD x1.1.toNat z_congresslaw22_Frame).From) 7 (.int .i64 (iand .i64 ((p0.L.getD x1.1.toNat z_congresslaw22_Frame).From) 7)) trivial (fun _ => rfl) (bin_and _ _ _ _))), ⟨⟨rfl, rfl, trivial⟩, trivial, rfl⟩, rfl,
          Step.guarded rfl rfl rfl rfl (fun hc => does_fieldAddr 50 0 0 1 0 0 [] (.var (e_congresslaw22_Play p0)) fl50_0), ⟨⟨rfl, rfl, trivial⟩, ⟨rfl, trivial⟩, rfl⟩, rfl,
          Step.guarded rfl rfl rfl rfl (fun hc => Does.strip (n' := [(42, (.opt (!((decide (((p0.L.getD x1.1.toNat z_congresslaw22_Frame).From) < 0)) || (decide (((p0.L.getD x1.1.toNat z_congresslaw22_Frame).From) > 7)))) (.ptr 0 (0 + 0) [0]))), (41, (.opt (!((decide (((p0.L.getD x1.1.toNat z_congresslaw22_Frame).From) < 0)) || (decide (((p0.L.getD x1.1.toNat z_congresslaw22_Frame).From) > 7)))) (.int .i64 (iand .i64 ((p0.L.getD x1.1.toNat z_congresslaw22_Frame).From) 7))))]) (n := [(42, (.ptr 0 (0 + 0) [0])), (41, (.int .i64 (iand .i64 ((p0.L.getD x1.1.toNat z_congresslaw22_Frame).From) 7)))]) ⟨(.opt _ _ hc), (.opt _ _ hc), trivial⟩ (does_indexAddr 29 8 1 42 0 (0 + 0) [0] (.var (e_congresslaw22_Play p0)) (.tmp 41) .i64 (iand .i64 ((p0.L.getD x1.1.toNat z_congresslaw22_Frame).From) 7) el29 trivial (h5 hc).1 (h5 hc).2)), ⟨⟨rfl, rfl, rfl, trivial⟩, ⟨rfl, trivial⟩, rfl⟩, rfl,
          Step.guarded rfl rfl rfl rfl (fun hc => Does.strip (n' := [(43, (.opt (!((decide (((p0.L.getD x1.1.toNat z_congresslaw22_Frame).From) < 0)) || (decide (((p0.L.getD x1.1.toNat z_congresslaw22_Frame).From) > 7)))) (.ptr 0 ((0 + 0) + (iand .i64 ((p0.L.getD x1.1.toNat z_congresslaw22_Frame).From) 7).toNat * 1) [0, (iand .i64 ((p0.L.getD x1.1.toNat z_congresslaw22_Frame).From) 7).toNat])))]) (n := [(43, (.ptr 0 ((0 + 0) + (iand .i64 ((p0.L.getD x1.1.toNat z_congresslaw22_Frame).From) 7).toNat * 1) [0, (iand .i64 ((p0.L.getD x1.1.toNat z_congresslaw22_Frame).From) 7).toNat]))]) ⟨(.opt _ _ hc), trivial⟩ (does_load 23 43 0 ((0 + 0) + (iand .i64 ((p0.L.getD x1.1.toNat z_congresslaw22_Frame).From) 7).toNat * 1) [0, (iand .i64 ((p0.L.getD x1.1.toNat z_congresslaw22_Frame).From) 7).toNat] (.var (e_congresslaw22_Play p0)) (.int .u32 (p0.M ((iand .i64 ((p0.L.getD x1.1.toNat z_congresslaw22_Frame).From) 7).toNat))) ⟨rfl, Nat.le_of_ble_eq_true rfl, ⟨rfl, (ixl (h5 hc)), trivial⟩⟩ rfl rfl ty23)), ⟨⟨rfl, rfl, trivial⟩, ⟨rfl, trivial⟩, rfl⟩, rfl,
          Step.guarded rfl rfl rfl rfl (fun hc => Does.strip (n' := [(44, (.opt (!((decide (((p0.L.getD x1.1.toNat z_congresslaw22_Frame).From) < 0)) || (decide (((p0.L.getD x1.1.toNat z_congresslaw22_Frame).From) > 7)))) (.int .u32 (p0.M ((iand .i64 ((p0.L.getD x1.1.toNat z_congresslaw22_Frame).From) 7).toNat)))))]) (n := [(44, (.int .u32 (p0.M ((iand .i64 ((p0.L.getD x1.1.toNat z_congresslaw22_Frame).From) 7).toNat))))]) ⟨(.opt _ _ hc), trivial⟩ (does_bin .eql 23 23 (.tmp 44) (.const (.int .u32 0)) .u32 (p0.M ((iand .i64 ((p0.L.getD x1.1.toNat z_congresslaw22_Frame).From) 7).toNat)) 0 (.bool ((p0.M ((iand .i64 ((p0.L.getD x1.1.toNat z_congresslaw22_Frame).From) 7).toNat)) == 0)) trivial (fun _ => rfl) (bin_eql _ _ _ _))), ⟨⟨rfl, rfl, trivial⟩, trivial, rfl⟩, rfl,
          Step.plain rfl (does_or 38 45 ((decide (((p0.L.getD x1.1.toNat z_congresslaw22_Frame).From) < 0)) || (decide (((p0.L.getD x1.1.toNat z_congresslaw22_Frame).From) > 7))) ((p0.M ((iand .i64 ((p0.L.getD x1.1.toNat z_congresslaw22_Frame).From) 7).toNat)) == 0)), ⟨⟨rfl, rfl, trivial⟩, trivial, rfl⟩, rfl,
          Step.plain rfl (does_move (.tmp 46) (.bool (((decide (((p0.L.getD x1.1.toNat z_congresslaw22_Frame).From) < 0)) || (decide (((p0.L.getD x1.1.toNat z_congresslaw22_Frame).From) > 7))) || ((p0.M ((iand .i64 ((p0.L.getD x1.1.toNat z_congresslaw22_Frame).From) 7).toNat)) == 0))) trivial), ⟨⟨rfl, trivial⟩, trivial, rfl⟩, rfl,
          Step.guarded rfl rfl rfl rfl (fun hc => does_fieldAddr 26 1 1 7 5 0 [] (.var (e_congresslaw22_Frame (p0.L.getD x1.1.toNat z_congresslaw22_Frame))) fl26_1), ⟨⟨rfl, rfl, trivial⟩, ⟨rfl, trivial⟩, rfl⟩, rfl,
          Step.guarded rfl rfl rfl rfl (fun hc => Does.strip (n' := [(48, (.opt (!(((decide (((p0.L.getD x1.1.toNat z_congresslaw22_Frame).From) < 0)) || (decide (((p0.L.getD x1.1.toNat z_congresslaw22_Frame).From) > 7))) || ((p0.M ((iand .i64 ((p0.L.getD x1.1.toNat z_congresslaw22_Frame).From) 7).toNat)) == 0))) (.ptr 5 (0 + 1) [1])))]) (n := [(48, (.ptr 5 (0 + 1) [1]))]) ⟨(.opt _ _ hc), trivial⟩ (does_load 23 48 5 (0 + 1) [1] (.var (e_congresslaw22_Frame (p0.L.getD x1.1.toNat z_congresslaw22_Frame))) (.int .u32 ((p0.L.getD x1.1.toNat z_congresslaw22_Frame).Round)) ⟨rfl, Nat.le_of_ble_eq_true rfl, trivial⟩ rfl rfl ty23)), ⟨⟨rfl, rfl, trivial⟩, ⟨rfl, trivial⟩, rfl⟩, rfl,
          Step.guarded rfl rfl rfl rfl (fun hc => does_fieldAddr 26 0 0 7 5 0 [] (.var (e_congresslaw22_Frame (p0.L.getD x1.1.toNat z_congresslaw22_Frame))) fl26_0), ⟨⟨rfl, rfl, trivial⟩, ⟨rfl, trivial⟩, rfl⟩, rfl,
          Step.guarded rfl rfl rfl rfl (fun hc => Does.strip (n' := [(50, (.opt (!(((decide (((p0.L.getD x1.1.toNat z_congresslaw22_Frame).From) < 0)) || (decide (((p0.L.getD x1.1.toNat z_congresslaw22_Frame).From) > 7))) || ((p0.M ((iand .i64 ((p0.L.getD x1.1.toNat z_congresslaw22_Frame).From) 7).toNat)) == 0))) (.ptr 5 (0 + 0) [0])))]) (n := [(50, (.ptr 5 (0 + 0) [0]))]) ⟨(.opt _ _ hc), trivial⟩ (does_load 3 50 5 (0 + 0) [0] (.var (e_congresslaw22_Frame (p0.L.getD x1.1.toNat z_congresslaw22_Frame))) (.int .i64 ((p0.L.getD x1.1.toNat z_congresslaw22_Frame).From)) ⟨rfl, Nat.le_of_ble_eq_true rfl, trivial⟩ rfl rfl ty3)), ⟨⟨rfl, rfl, trivial⟩, ⟨rfl, trivial⟩, rfl⟩, rfl,
          Step.guarded rfl rfl rfl rfl (fun hc => Does.strip (n' := [(51, (.opt (!(((decide (((p0.L.getD x1.1.toNat z_congresslaw22_Frame).From) < 0)) || (decide (((p0.L.getD x1.1.toNat z_congresslaw22_Frame).From) > 7))) || ((p0.M ((iand .i64 ((p0.L.getD x1.1.toNat z_congresslaw22_Frame).From) 7).toNat)) == 0))) (.int .i64 ((p0.L.getD x1.1.toNat z_congresslaw22_Frame).From))))]) (n := [(51, (.int .i64 ((p0.L.getD x1.1.toNat z_congresslaw22_Frame).From)))]) ⟨(.opt _ _ hc), trivial⟩ (does_bin .and 3 3 (.tmp 51) (.const (.int .i64 7)) .i64 ((p0.L.getD x1.1.toNat z_congresslaw22_Frame).From) 7 (.int .i64 (iand .i64 ((p0.L.getD x1.1.toNat z_congresslaw22_Frame).From) 7)) trivial (fun _ => rfl) (bin_and _ _ _ _))), ⟨⟨rfl, rfl, trivial⟩, trivial, rfl⟩, rfl,
          Step.guarded rfl rfl rfl rfl (fun hc => Does.strip (n' := [(5, (.ptr 4 0 [])), (52, (.opt (!(((decide (((p0.L.getD x1.1.toNat z_congresslaw22_Frame).From) < 0)) || (decide (((p0.L.getD x1.1.toNat z_congresslaw22_Frame).From) > 7))) || ((p0.M ((iand .i64 ((p0.L.getD x1.1.toNat z_congresslaw22_Frame).From) 7).toNat)) == 0))) (.int .i64 (iand .i64 ((p0.L.getD x1.1.toNat z_congresslaw22_Frame).From) 7))))]) (n := [(5, (.ptr 4 0 [])), (52, (.int .i64 (iand .i64 ((p0.L.getD x1.1.toNat z_congresslaw22_Frame).From) 7)))]) ⟨(.same _), (.opt _ _ hc), trivial⟩ (does_indexAddr 28 8 1 5 4 0 [] (.var (e_a8_u32 x1.2.2.2)) (.tmp 52) .i64 (iand .i64 ((p0.L.getD x1.1.toNat z_congresslaw22_Frame).From) 7) el28 trivial (h6 hc).1 (h6 hc).2)), ⟨⟨rfl, rfl, rfl, trivial⟩, ⟨rfl, trivial⟩, rfl⟩, rfl,
          Step.guarded rfl rfl rfl rfl (fun hc => Does.strip (n' := [(53, (.opt (!(((decide (((p0.L.getD x1.1.toNat z_congresslaw22_Frame).From) < 0)) || (decide (((p0.L.getD x1.1.toNat z_congresslaw22_Frame).From) > 7))) || ((p0.M ((iand .i64 ((p0.L.getD x1.1.toNat z_congresslaw22_Frame).From) 7).toNat)) == 0))) (.ptr 4 (0 + (iand .i64 ((p0.L.getD x1.1.toNat z_congresslaw22_Frame).From) 7).toNat * 1) [(iand .i64 ((p0.L.getD x1.1.toNat z_congresslaw22_Frame).From) 7).toNat])))]) (n := [(53, (.ptr 4 (0 + (iand .i64 ((p0.L.getD x1.1.toNat z_congresslaw22_Frame).From) 7).toNat * 1) [(iand .i64 ((p0.L.getD x1.1.toNat z_congresslaw22_Frame).From) 7).toNat]))]) ⟨(.opt _ _ hc), trivial⟩ (does_load 23 53 4 (0 + (iand .i64 ((p0.L.getD x1.1.toNat z_congresslaw22_Frame).From) 7).toNat * 1) [(iand .i64 ((p0.L.getD x1.1.toNat z_congresslaw22_Frame).From) 7).toNat] (.var (e_a8_u32 x1.2.2.2)) (.int .u32 (x1.2.2.2 ((iand .i64 ((p0.L.getD x1.1.toNat z_congresslaw22_Frame).From) 7).toNat))) ⟨rfl, (ixl (h6 hc)), trivial⟩ rfl rfl ty23)), ⟨⟨rfl, rfl, trivial⟩, ⟨rfl, trivial⟩, rfl⟩, rfl,
          Step.guarded rfl rfl rfl rfl (fun hc => Does.strip (n' := [(54, (.opt (!(((decide (((p0.L.getD x1.1.toNat z_congresslaw22_Frame).From) < 0)) || (decide (((p0.L.getD x1.1.toNat z_congresslaw22_Frame).From) > 7))) || ((p0.M ((iand .i64 ((p0.L.getD x1.1.toNat z_congresslaw22_Frame).From) 7).toNat)) == 0))) (.int .u32 (x1.2.2.2 ((iand .i64 ((p0.L.getD x1.1.toNat z_congresslaw22_Frame).From) 7).toNat)))))]) (n := [(54, (.int .u32 (x1.2.2.2 ((iand .i64 ((p0.L.getD x1.1.toNat z_congresslaw22_Frame).From) 7).toNat))))]) ⟨(.opt _ _ hc), trivial⟩ (does_bin .add 23 23 (.tmp 54) (.const (.int .u32 1)) .u32 (x1.2.2.2 ((iand .i64 ((p0.L.getD x1.1.toNat z_congresslaw22_Frame).From) 7).toNat)) 1 (.int .u32 (IntKind.u32.wrap ((x1.2.2.2 ((iand .i64 ((p0.L.getD x1.1.toNat z_congresslaw22_Frame).From) 7).toNat)) + 1))) trivial (fun _ => rfl) (bin_add _ _ _ _))), ⟨⟨rfl, rfl, trivial⟩, trivial, rfl⟩, rfl,
          Step.guarded rfl rfl rfl rfl (fun hc => Does.strip (n' := [(49, (.opt (!(((decide (((p0.L.getD x1.1.toNat z_congresslaw22_Frame).From) < 0)) || (decide (((p0.L.getD x1.1.toNat z_congresslaw22_Frame).From) > 7))) || ((p0.M ((iand .i64 ((p0.L.getD x1.1.toNat z_congresslaw22_Frame).From) 7).toNat)) == 0))) (.int .u32 ((p0.L.getD x1.1.toNat z_congresslaw22_Frame).Round)))), (55, (.opt (!(((decide (((p0.L.getD x1.1.toNat z_congresslaw22_Frame).From) < 0)) || (decide (((p0.L.getD x1.1.toNat z_congresslaw22_Frame).From) > 7))) || ((p0.M ((iand .i64 ((p0.L.getD x1.1.toNat z_congresslaw22_Frame).From) 7).toNat)) == 0))) (.int .u32 (IntKind.u32.wrap ((x1.2.2.2 ((iand .i64 ((p0.L.getD x1.1.toNat z_congresslaw22_Frame).From) 7).toNat)) + 1)))))]) (n := [(49, (.int .u32 ((p0.L.getD x1.1.toNat z_congresslaw22_Frame).Round))), (55, (.int .u32 (IntKind.u32.wrap ((x1.2.2.2 ((iand .i64 ((p0.L.getD x1.1.toNat z_congresslaw22_Frame).From) 7).toNat)) + 1))))]) ⟨(.opt _ _ hc), (.opt _ _ hc), trivial⟩ (does_bin .neq 23 23 (.tmp 49) (.tmp 55) .u32 ((p0.L.getD x1.1.toNat z_congresslaw22_Frame).Round) (IntKind.u32.wrap ((x1.2.2.2 ((iand .i64 ((p0.L.getD x1.1.toNat z_congresslaw22_Frame).From) 7).toNat)) + 1)) (.bool (((p0.L.getD x1.1.toNat z_congresslaw22_Frame).Round) != (IntKind.u32.wrap ((x1.2.2.2 ((iand .i64 ((p0.L.getD x1.1.toNat z_congresslaw22_Frame).From) 7).toNat)) + 1)))) trivial trivial (bin_neq _ _ _ _))), ⟨⟨rfl, rfl, rfl, trivial⟩, trivial, rfl⟩, rfl,
          Step.plain rfl (does_or 47 56 (((decide (((p0.L.getD x1.1.toNat z_congresslaw22_Frame).From) < 0)) || (decide (((p0.L.getD x1.1.toNat z_congresslaw22_Frame).From) > 7))) || ((p0.M ((iand .i64 ((p0.L.getD x1.1.toNat z_congresslaw22_Frame).From) 7).toNat)) == 0)) (((p0.L.getD x1.1.toNat z_congresslaw22_Frame).Round) != (IntKind.u32.wrap ((x1.2.2.2 ((iand .i64 ((p0.L.getD x1.1.toNat z_congresslaw22_Frame).From) 7).toNat)) + 1)))), ⟨⟨rfl, rfl, trivial⟩, trivial, rfl⟩, rfl, rfl⟩ rfl ?_
        obtain ⟨v7, hv7, H⟩ := lt_of H
        refine aw_cov (cov_prune (s1 := ⟨[(1, (.ptr 0 0 [])), (3, (.own 2)), (4, (.own 3)), (5, (.ptr 4 0 [])), (6, (.int .i64 x1.1)), (7, (.ptr 5 0 [])), (57, (.bool v7))], [(0, some (.var (e_congresslaw22_Play p0))), (2, some (.arr 9 x1.2.1.length fun j => (e_api_Wait (x1.2.1.getD j z_api_Wait)))), (3, some (.arr 9 x1.2.2.1.length fun j => (e_api_Wait (x1.2.2.1.getD j z_api_Wait)))), (4, some (.var (e_a8_u32 x1.2.2.2))), (5, some (.var (e_congresslaw22_Frame (p0.L.getD x1.1.toNat z_congresslaw22_Frame))))], 6⟩) ⟨rfl, rfl, rfl, rfl, rfl, rfl, (by subst hv7; rfl), trivial⟩ ⟨rfl, rfl, rfl, rfl, rfl, trivial⟩ (Nat.le_refl _)) ?_
        refine aw_cond rfl (fun hc => ?_) (fun hc => ?_)
        · replace H := ite_t hc H
          refine aw_exit ?_
          refine ex_then ?_
          refine ex_here ?_
          exact nx_join (x1.2.1, x1.2.2.1, x1.2.2.2) H (cov_of (fun i => match i with | 0 => 0 | 2 => 2 | 3 => 3 | 4 => 4 | k => k) ⟨⟨_, rfl, ⟨rfl, Nat.le_of_ble_eq_true rfl⟩⟩, ⟨_, rfl, ⟨rfl, Nat.le_of_ble_eq_true rfl⟩⟩, ⟨_, rfl, ⟨rfl, Nat.le_of_ble_eq_true rfl⟩⟩, ⟨_, rfl, ⟨rfl, Nat.le_of_ble_eq_true rfl⟩⟩, ⟨_, rfl, ⟨rfl, trivial⟩⟩, trivial⟩ ⟨⟨Nat.le_of_ble_eq_true rfl, _, _, rfl, rfl, .inl ⟨rfl, (d_congresslaw22_Play _).plain⟩⟩, ⟨Nat.le_of_ble_eq_true rfl, _, _, rfl, rfl, ⟨rfl, rfl, fun _ => .inl ⟨rfl, (d_api_Wait _).plain⟩⟩⟩, ⟨Nat.le_of_ble_eq_true rfl, _, _, rfl, rfl, ⟨rfl, rfl, fun _ => .inl ⟨rfl, (d_api_Wait _).plain⟩⟩⟩, ⟨Nat.le_of_ble_eq_true rfl, _, _, rfl, rfl, .inl ⟨rfl, (d_a8_u32 _).plain⟩⟩, trivial⟩ rfl)
        · replace H := ite_f hc H
          refine aw_skip ?_
          refine nx_seq ?_
          obtain ⟨h8, H⟩ := ib_of H
          obtain ⟨h9, H⟩ := ib_of H
          refine aw_region (es := [_, _, _, _, _, _, _, _]) ⟨Step.plain rfl (does_fieldAddr 26 0 0 7 5 0 [] (.var (e_congresslaw22_Frame (p0.L.getD x1.1.toNat z_congresslaw22_Frame))) fl26_0), ⟨⟨rfl, trivial⟩, ⟨rfl, trivial⟩, rfl⟩, rfl,
            Step.plain rfl (does_load 3 58 5 (0 + 0) [0] (.var (e_congresslaw22_Frame (p0.L.getD x1.1.toNat z_congresslaw22_Frame))) (.int .i64 ((p0.L.getD x1.1.toNat z_congresslaw22_Frame).From)) ⟨rfl, Nat.le_of_ble_eq_true rfl, trivial⟩ rfl rfl ty3), ⟨⟨rfl, trivial⟩, ⟨rfl, trivial⟩, rfl⟩, rfl,
            Step.plain rfl (does_bin .and 3 3 (.tmp 59) (.const (.int .i64 7)) .i64 ((p0.L.getD x1.1.toNat z_congresslaw22_Frame).From) 7 (.int .i64 (iand .i64 ((p0.L.getD x1.1.toNat z_congresslaw22_Frame).From) 7)) trivial (fun _ => rfl) (bin_and _ _ _ _)), ⟨⟨rfl, trivial⟩, trivial, rfl⟩, rfl,
            Step.plain rfl (does_indexAddr 28 8 1 5 4 0 [] (.var (e_a8_u32 x1.2.2.2)) (.tmp 60) .i64 (iand .i64 ((p0.L.getD x1.1.toNat z_congresslaw22_Frame).From) 7) el28 trivial h8.1 h8.2), ⟨⟨rfl, rfl, trivial⟩, ⟨rfl, trivial⟩, rfl⟩, rfl,
            Step.plain rfl (does_load 23 61 4 (0 + (iand .i64 ((p0.L.getD x1.1.toNat z_congresslaw22_Frame).From) 7).toNat * 1) [(iand .i64 ((p0.L.getD x1.1.toNat z_congresslaw22_Frame).From) 7).toNat] (.var (e_a8_u32 x1.2.2.2)) (.int .u32 (x1.2.2.2 ((iand .i64 ((p0.L.getD x1.1.toNat z_congresslaw22_Frame).From) 7).toNat))) ⟨rfl, (ixl h8), trivial⟩ rfl rfl ty23), ⟨⟨rfl, trivial⟩, ⟨rfl, trivial⟩, rfl⟩, rfl,
            Step.plain rfl (does_bin .add 23 23 (.tmp 62) (.const (.int .u32 1)) .u32 (x1.2.2.2 ((iand .i64 ((p0.L.getD x1.1.toNat z_congresslaw22_Frame).From) 7).toNat)) 1 (.int .u32 (IntKind.u32.wrap ((x1.2.2.2 ((iand .i64 ((p0.L.getD x1.1.toNat z_congresslaw22_Frame).From) 7).toNat)) + 1))) trivial (fun _ => rfl) (bin_add _ _ _ _)), ⟨⟨rfl, trivial⟩, trivial, rfl⟩, rfl,
            Step.plain rfl (does_indexAddr 28 8 1 5 4 0 [] (.var (e_a8_u32 x1.2.2.2)) (.tmp 60) .i64 (iand .i64 ((p0.L.getD x1.1.toNat z_congresslaw22_Frame).From) 7) el28 trivial h9.1 h9.2), ⟨⟨rfl, rfl, trivial⟩, ⟨rfl, trivial⟩, rfl⟩, rfl,
            Step.plain rfl (does_store 23 64 (.tmp 63) 4 (0 + (iand .i64 ((p0.L.getD x1.1.toNat z_congresslaw22_Frame).From) 7).toNat * 1) [(iand .i64 ((p0.L.getD x1.1.toNat z_congresslaw22_Frame).From) 7).toNat] (.var (e_a8_u32 x1.2.2.2)) (.var (e_a8_u32 (aupd x1.2.2.2 ((iand .i64 ((p0.L.getD x1.1.toNat z_congresslaw22_Frame).From) 7).toNat) (IntKind.u32.wrap ((x1.2.2.2 ((iand .i64 ((p0.L.getD x1.1.toNat z_congresslaw22_Frame).From) 7).toNat)) + 1))))) (.int .u32 (IntKind.u32.wrap ((x1.2.2.2 ((iand .i64 ((p0.L.getD x1.1.toNat z_congresslaw22_Frame).From) 7).toNat)) + 1))) false trivial rfl ⟨rfl, (ixl h9), trivial⟩ rfl rfl (congrArg Box.var (set_cons rfl (vupd_map (fun z => V.int .u32 z) _ _ _))) ty23), ⟨⟨rfl, rfl, trivial⟩, ⟨rfl, trivial⟩, rfl⟩, rfl, rfl⟩ ?_
          obtain ⟨v10, hv10, H⟩ := lt_of H
          refine aw_cov (cov_prune (s1 := ⟨[(1, (.ptr 0 0 [])), (3, (.own 2)), (4, (.own 3)), (5, (.ptr 4 0 [])), (6, (.int .i64 x1.1)), (7, (.ptr 5 0 []))], [(0, some (.var (e_congresslaw22_Play p0))), (2, some (.arr 9 x1.2.1.length fun j => (e_api_Wait (x1.2.1.getD j z_api_Wait)))), (3, some (.arr 9 x1.2.2.1.length fun j => (e_api_Wait (x1.2.2.1.getD j z_api_Wait)))), (4, some (.var (e_a8_u32 v10))), (5, some (.var (e_congresslaw22_Frame (p0.L.getD x1.1.toNat z_congresslaw22_Frame))))], 6⟩) ⟨rfl, rfl, rfl, rfl, rfl, rfl, trivial⟩ ⟨rfl, rfl, rfl, (by subst hv10; rfl), rfl, trivial⟩ (Nat.le_refl _)) ?_
          obtain ⟨h11, H⟩ := sb_of H
          refine aw_region (es := [_, _, _, _, _, _, _, _]) ⟨Step.plain rfl (does_fieldAddr 26 2 2 7 5 0 [] (.var (e_congresslaw22_Frame (p0.L.getD x1.1.toNat z_congresslaw22_Frame))) fl26_2), ⟨⟨rfl, trivial⟩, ⟨rfl, trivial⟩, rfl⟩, rfl,
            Step.plain rfl (does_load 24 65 5 (0 + 2) [2] (.var (e_congresslaw22_Frame (p0.L.getD x1.1.toNat z_congresslaw22_Frame))) (e_s_api_Entry ((p0.L.getD x1.1.toNat z_congresslaw22_Frame).L)) ⟨rfl, Nat.le_of_ble_eq_true rfl, trivial⟩ rfl rfl ty24), ⟨⟨rfl, trivial⟩, ⟨rfl, trivial⟩, rfl⟩, rfl,
            Step.plain rfl (does_fieldAddr 26 2 2 7 5 0 [] (.var (e_congresslaw22_Frame (p0.L.getD x1.1.toNat z_congresslaw22_Frame))) fl26_2), ⟨⟨rfl, trivial⟩, ⟨rfl, trivial⟩, rfl⟩, rfl,
            Step.plain rfl (does_load 24 67 5 (0 + 2) [2] (.var (e_congresslaw22_Frame (p0.L.getD x1.1.toNat z_congresslaw22_Frame))) (e_s_api_Entry ((p0.L.getD x1.1.toNat z_congresslaw22_Frame).L)) ⟨rfl, Nat.le_of_ble_eq_true rfl, trivial⟩ rfl rfl ty24), ⟨⟨rfl, trivial⟩, ⟨rfl, trivial⟩, rfl⟩, rfl,
            Step.plain rfl (does_lens 24 6 ((p0.L.getD x1.1.toNat z_congresslaw22_Frame).L).length 68 (fun j => (e_api_Entry (((p0.L.getD x1.1.toNat z_congresslaw22_Frame).L).getD j z_api_Entry))) el24), ⟨⟨rfl, trivial⟩, trivial, rfl⟩, rfl,
            Step.plain rfl (does_min _ _ (.tmp 69) (.const (.int .i64 4)) rfl .i64 (((p0.L.getD x1.1.toNat z_congresslaw22_Frame).L).length : Int) 4 trivial (fun _ => rfl)), ⟨⟨rfl, trivial⟩, trivial, rfl⟩, rfl,
            Step.plain rfl (does_slicesL e_api_Entry z_api_Entry ((p0.L.getD x1.1.toNat z_congresslaw22_Frame).L) 24 6 66 0 ((if 4 < (((p0.L.getD x1.1.toNat z_congresslaw22_Frame).L).length : Int) then 4 else (((p0.L.getD x1.1.toNat z_congresslaw22_Frame).L).length : Int)).toNat) none (some ((.tmp 70), .i64, (if 4 < (((p0.L.getD x1.1.toNat z_congresslaw22_Frame).L).length : Int) then 4 else (((p0.L.getD x1.1.toNat z_congresslaw22_Frame).L).length : Int)))) _ _ el24 (by decide) rfl rfl trivial trivial rfl (Int.toNat_of_nonneg (Int.le_trans h11.1 h11.2.1)).symm (by omega) (by omega)), ⟨⟨rfl, rfl, trivial⟩, trivial, rfl⟩, rfl,
            Step.plain rfl (does_assign (.tmp 71) (e_s_api_Entry ((((p0.L.getD x1.1.toNat z_congresslaw22_Frame).L).take ((if 4 < (((p0.L.getD x1.1.toNat z_congresslaw22_Frame).L).length : Int) then 4 else (((p0.L.getD x1.1.toNat z_congresslaw22_Frame).L).length : Int)).toNat)).drop 0)) trivial), ⟨⟨rfl, trivial⟩, trivial, rfl⟩, rfl, rfl⟩ ?_
          obtain ⟨v12, hv12, H⟩ := lt_of H
          refine aw_cov (cov_prune (s1 := ⟨[(1, (.ptr 0 0 [])), (3, (.own 2)), (4, (.own 3)), (5, (.ptr 4 0 [])), (6, (.int .i64 x1.1)), (7, (.ptr 5 0 [])), (8, (e_s_api_Entry v12))], [(0, some (.var (e_congresslaw22_Play p0))), (2, some (.arr 9 x1.2.1.length fun j => (e_api_Wait (x1.2.1.getD j z_api_Wait)))), (3, some (.arr 9 x1.2.2.1.length fun j => (e_api_Wait (x1.2.2.1.getD j z_api_Wait)))), (4, some (.var (e_a8_u32 v10))), (5, some (.var (e_congresslaw22_Frame (p0.L.getD x1.1.toNat z_congresslaw22_Frame))))], 6⟩) ⟨rfl, rfl, rfl, rfl, rfl, rfl, (by subst hv12; rfl), trivial⟩ ⟨rfl, rfl, rfl, rfl, rfl, trivial⟩ (Nat.le_refl _)) ?_
          obtain ⟨v13, h14, H⟩ := bnd H
          obtain ⟨v15, h16, H⟩ := bnd H
          refine aw_draw (es := [_, _, _, _, _, _, _, _, _, _, _, _, _, _, _, _]) (mixed) ⟨Step.plain rfl (does_move (.tmp 3) (.own 2) trivial), ⟨⟨rfl, trivial⟩, trivial, rfl⟩, rfl,
            Step.plain rfl (does_fieldAddr 26 0 0 7 5 0 [] (.var (e_congresslaw22_Frame (p0.L.getD x1.1.toNat z_congresslaw22_Frame))) fl26_0), ⟨⟨rfl, trivial⟩, ⟨rfl, trivial⟩, rfl⟩, rfl,
            Step.plain rfl (does_load 3 74 5 (0 + 0) [0] (.var (e_congresslaw22_Frame (p0.L.getD x1.1.toNat z_congresslaw22_Frame))) (.int .i64 ((p0.L.getD x1.1.toNat z_congresslaw22_Frame).From)) ⟨rfl, Nat.le_of_ble_eq_true rfl, trivial⟩ rfl rfl ty3), ⟨⟨rfl, trivial⟩, ⟨rfl, trivial⟩, rfl⟩, rfl,
            Step.plain rfl (does_fieldAddr 26 1 1 7 5 0 [] (.var (e_congresslaw22_Frame (p0.L.getD x1.1.toNat z_congresslaw22_Frame))) fl26_1), ⟨⟨rfl, trivial⟩, ⟨rfl, trivial⟩, rfl⟩, rfl,
            Step.plain rfl (does_load 23 76 5 (0 + 1) [1] (.var (e_congresslaw22_Frame (p0.L.getD x1.1.toNat z_congresslaw22_Frame))) (.int .u32 ((p0.L.getD x1.1.toNat z_congresslaw22_Frame).Round)) ⟨rfl, Nat.le_of_ble_eq_true rfl, trivial⟩ rfl rfl ty23), ⟨⟨rfl, trivial⟩, ⟨rfl, trivial⟩, rfl⟩, rfl,
            Step.plain rfl (does_move (.tmp 8) (e_s_api_Entry v12) trivial), ⟨⟨rfl, trivial⟩, trivial, rfl⟩, rfl,
            Step.plain rfl (does_callO 12 0 (fun _ => .any) (.func 12) [(.tmp 73), (.tmp 75), (.tmp 77), (.tmp 78)] [(.own 2), (.int .i64 ((p0.L.getD x1.1.toNat z_congresslaw22_Frame).From)), (.int .u32 ((p0.L.getD x1.1.toNat z_congresslaw22_Frame).Round)), (e_s_api_Entry v12)] [(2, (.arr 9 x1.2.1.length fun j => (e_api_Wait (x1.2.1.getD j z_api_Wait))))] [] true [(e_s_api_Wait x1.2.1), (.int .i64 ((p0.L.getD x1.1.toNat z_congresslaw22_Frame).From)), (.int .u32 ((p0.L.getD x1.1.toNat z_congresslaw22_Frame).Round)), (e_s_api_Entry v12)] _ (.own 6) _ 6 1 _ _ rfl fo12 rfl ⟨trivial, trivial, trivial, trivial, trivial⟩ ⟨.ro _ _ (.own 2 _ _ _ (.head _) rfl (fun _ => (d_api_Wait _))), .ro _ _ (.data _ trivial), .ro _ _ (.data _ trivial), .ro _ _ (.data _ (d_s_api_Entry v12)), trivial⟩ (queue_Add_spec x1.2.1 ((p0.L.getD x1.1.toNat z_congresslaw22_Frame).From) ((p0.L.getD x1.1.toNat z_congresslaw22_Frame).Round) v12 _ h14) rfl (by simp) rfl trivial ⟨⟨Nat.le_of_ble_eq_true rfl, _, rfl, fun _ => (f_api_Wait _)⟩, trivial⟩ (.own 0 (Nat.le_of_ble_eq_true rfl))), ⟨⟨rfl, rfl, rfl, rfl, trivial⟩, ⟨rfl, trivial⟩, rfl⟩, rfl,
            Step.plain rfl (does_load 28 5 4 0 [] (.var (e_a8_u32 v10)) (e_a8_u32 v10) trivial rfl rfl ty28), ⟨⟨rfl, trivial⟩, ⟨rfl, trivial⟩, rfl⟩, rfl,
            Step.plain rfl (does_fieldAddr 50 0 0 1 0 0 [] (.var (e_congresslaw22_Play p0)) fl50_0), ⟨⟨rfl, trivial⟩, ⟨rfl, trivial⟩, rfl⟩, rfl,
            Step.plain rfl (does_load 29 81 0 (0 + 0) [0] (.var (e_congresslaw22_Play p0)) (e_a8_u32 p0.M) ⟨rfl, Nat.le_of_ble_eq_true rfl, trivial⟩ rfl rfl ty29), ⟨⟨rfl, trivial⟩, ⟨rfl, trivial⟩, rfl⟩, rfl,
            Step.plain rfl (does_callO 9 0 (fun _ => .any) (.func 9) [(.tmp 79), (.tmp 80), (.tmp 82)] [(.own 6), (e_a8_u32 v10), (e_a8_u32 p0.M)] [(6, (.arr 9 v13.length fun j => (e_api_Wait (v13.getD j z_api_Wait))))] [] true [(e_s_api_Wait v13), (e_a8_u32 v10), (e_a8_u32 p0.M)] _ (resV [(.own 7), (.own 8)]) _ 7 2 _ _ rfl fo9 rfl ⟨trivial, trivial, trivial, trivial⟩ ⟨.ro _ _ (.own 6 _ _ _ (.head _) rfl (fun _ => (d_api_Wait _))), .ro _ _ (.data _ (d_a8_u32 v10)), .ro _ _ (.data _ (d_a8_u32 p0.M)), trivial⟩ (queue_Ready_spec v13 v10 p0.M _ h16) rfl (by simp) rfl trivial ⟨⟨Nat.le_of_ble_eq_true rfl, _, rfl, fun _ => (f_api_Wait _)⟩, ⟨Nat.le_of_ble_eq_true rfl, _, rfl, fun _ => (f_api_Wait _)⟩, trivial⟩ (.tup _ _ _ (fun j => match j with | 0 => .own 0 (Nat.le_of_ble_eq_true rfl) | 1 => .own 1 (Nat.le_of_ble_eq_true rfl) | _ + 2 => .data _ trivial))), ⟨⟨rfl, rfl, rfl, trivial⟩, ⟨rfl, trivial⟩, rfl⟩, rfl,
            Step.plain rfl (does_move (.tmp 83) (resV [(.own 7), (.own 8)]) trivial), ⟨⟨rfl, trivial⟩, trivial, rfl⟩, rfl,
            Step.plain rfl (does_extract 72 0 2 (fun j => [(.own 7), (.own 8)].getD j (.bool false)) (Nat.le_of_ble_eq_true rfl)), ⟨⟨rfl, trivial⟩, trivial, rfl⟩, rfl,
            Step.plain rfl (does_extract 72 1 2 (fun j => [(.own 7), (.own 8)].getD j (.bool false)) (Nat.le_of_ble_eq_true rfl)), ⟨⟨rfl, trivial⟩, trivial, rfl⟩, rfl,
            Step.plain rfl (does_assign (.tmp 84) (.own 7) trivial), ⟨⟨rfl, trivial⟩, trivial, rfl⟩, rfl,
            Step.plain rfl (does_assign (.tmp 85) (.own 8) trivial), ⟨⟨rfl, trivial⟩, trivial, rfl⟩, rfl, rfl⟩ rfl ?_
          refine aw_cov (cov_prune (s1 := ⟨[(1, (.ptr 0 0 [])), (4, (.own 3)), (5, (.ptr 4 0 [])), (6, (.int .i64 x1.1)), (9, (.own 7)), (10, (.own 8))], [(0, some (.var (e_congresslaw22_Play p0))), (3, some (.arr 9 x1.2.2.1.length fun j => (e_api_Wait (x1.2.2.1.getD j z_api_Wait)))), (4, some (.var (e_a8_u32 v10))), (7, some (.arr 9 v15.1.length fun j => (e_api_Wait (v15.1.getD j z_api_Wait)))), (8, some (.arr 9 v15.2.length fun j => (e_api_Wait (v15.2.getD j z_api_Wait))))], 9⟩) ⟨rfl, rfl, rfl, rfl, rfl, rfl, trivial⟩ ⟨rfl, rfl, rfl, rfl, rfl, trivial⟩ (Nat.le_refl _)) ?_
          refine aw_cov (cov_to (s1 := ⟨[(1, (.ptr 0 0 [])), (4, (.own 3)), (5, (.ptr 4 0 [])), (6, (.int .i64 x1.1)), (9, (e_s_api_Wait v15.1)), (10, (.own 8))], [(0, some (.var (e_congresslaw22_Play p0))), (3, some (.arr 9 x1.2.2.1.length fun j => (e_api_Wait (x1.2.2.1.getD j z_api_Wait)))), (4, some (.var (e_a8_u32 v10))), (8, some (.arr 9 v15.2.length fun j => (e_api_Wait (v15.2.getD j z_api_Wait))))], 9⟩) (fun i => i) [7] ⟨⟨_, rfl, .ptr 0 _ _ _ _ (Nat.le_of_ble_eq_true rfl) rfl rfl⟩, ⟨_, rfl, .own 3 _ _ (Nat.le_of_ble_eq_true rfl) rfl rfl (Box.like_refl _)⟩, ⟨_, rfl, .ptr 4 _ _ _ _ (Nat.le_of_ble_eq_true rfl) rfl rfl⟩, ⟨_, rfl, .plain _ (trivial)⟩, ⟨_, rfl, .frz 7 _ _ _ rfl (fun _ => (d_api_Wait _)) (by decide)⟩, ⟨_, rfl, .own 8 _ _ (Nat.le_of_ble_eq_true rfl) rfl rfl (Box.like_refl _)⟩, trivial⟩ ⟨⟨Nat.le_of_ble_eq_true rfl, _, _, rfl, rfl, boxTo_var ((d_congresslaw22_Play _).plain)⟩, ⟨Nat.le_of_ble_eq_true rfl, _, _, rfl, rfl, boxTo_arr (fun _ => (d_api_Wait _))⟩, ⟨Nat.le_of_ble_eq_true rfl, _, _, rfl, rfl, boxTo_var ((d_a8_u32 _).plain)⟩, ⟨Nat.le_of_ble_eq_true rfl, _, _, rfl, rfl, boxTo_arr (fun _ => (d_api_Wait _))⟩, trivial⟩ rfl rfl) ?_
          obtain ⟨h17, H⟩ := fit_of H
          refine aw_region (es := [_, _, _, _]) ⟨Step.plain rfl (does_move (.tmp 4) (.own 3) trivial), ⟨⟨rfl, trivial⟩, trivial, rfl⟩, rfl,
            Step.plain rfl (does_move (.tmp 9) (e_s_api_Wait v15.1) trivial), ⟨⟨rfl, trivial⟩, trivial, rfl⟩, rfl,
            Step.plain rfl (does_appendL e_api_Wait z_api_Wait x1.2.2.1 v15.1 22 9 80 3 9 86 87 ap22 h17), ⟨⟨rfl, rfl, trivial⟩, ⟨rfl, trivial⟩, rfl⟩, rfl,
            Step.plain rfl (does_assign (.tmp 88) (.own 9) trivial), ⟨⟨rfl, trivial⟩, trivial, rfl⟩, rfl, rfl⟩ ?_
          refine aw_cov (cov_prune (s1 := ⟨[(1, (.ptr 0 0 [])), (5, (.ptr 4 0 [])), (6, (.int .i64 x1.1)), (10, (.own 8)), (4, (.own 9))], [(0, some (.var (e_congresslaw22_Play p0))), (4, some (.var (e_a8_u32 v10))), (8, some (.arr 9 v15.2.length fun j => (e_api_Wait (v15.2.getD j z_api_Wait)))), (9, some (.arr 9 (x1.2.2.1 ++ v15.1).length fun j => (e_api_Wait ((x1.2.2.1 ++ v15.1).getD j z_api_Wait))))], 10⟩) ⟨rfl, rfl, rfl, rfl, rfl, trivial⟩ ⟨rfl, rfl, rfl, rfl, trivial⟩ (Nat.le_refl _)) ?_
          refine aw_region1 (es := [_, _]) ⟨Step.plain rfl (does_move (.tmp 10) (.own 8) trivial), ⟨⟨rfl, trivial⟩, trivial, rfl⟩, rfl,
            Step.plain rfl (does_assign (.tmp 89) (.own 8) trivial), ⟨⟨rfl, trivial⟩, trivial, rfl⟩, rfl, rfl⟩ ?_
          refine nx_blk ?_
          exact nx_join (v15.2, (x1.2.2.1 ++ v15.1), v10) H (cov_of (fun i => match i with | 0 => 0 | 2 => 8 | 3 => 9 | 4 => 4 | k => k) ⟨⟨_, rfl, ⟨rfl, Nat.le_of_ble_eq_true rfl⟩⟩, ⟨_, rfl, ⟨rfl, Nat.le_of_ble_eq_true rfl⟩⟩, ⟨_, rfl, ⟨rfl, Nat.le_of_ble_eq_true rfl⟩⟩, ⟨_, rfl, ⟨rfl, Nat.le_of_ble_eq_true rfl⟩⟩, ⟨_, rfl, ⟨rfl, trivial⟩⟩, trivial⟩ ⟨⟨Nat.le_of_ble_eq_true rfl, _, _, rfl, rfl, .inl ⟨rfl, (d_congresslaw22_Play _).plain⟩⟩, ⟨Nat.le_of_ble_eq_true rfl, _, _, rfl, rfl, ⟨rfl, rfl, fun _ => .inl ⟨rfl, (d_api_Wait _).plain⟩⟩⟩, ⟨Nat.le_of_ble_eq_true rfl, _, _, rfl, rfl, ⟨rfl, rfl, fun _ => .inl ⟨rfl, (d_api_Wait _).plain⟩⟩⟩, ⟨Nat.le_of_ble_eq_true rfl, _, _, rfl, rfl, .inl ⟨rfl, (d_a8_u32 _).plain⟩⟩, trivial⟩ rfl)
    · replace H := ite_f hc H
      refine aw_exit ?_
      refine ex_then ?_
      refine ex_then ?_
      refine ex_here ?_
      exact nx_ljoin (x1.2.1, x1.2.2.1) H hsn2 (cov_prune ⟨rfl, rfl, trivial⟩ ⟨rfl, rfl, trivial⟩ (Nat.le_of_ble_eq_true rfl))

theorem congresslaw22_delivered_data (p0 : congresslaw22_Play) (r : (_root_.List api_Wait)) (H : congresslaw22_delivered p0 = some r) : FSpec Try.prog 18 [(e_congresslaw22_Play p0)] (e_s_api_Wait r) :=
  FSpecO.toData (fz := [0]) (congresslaw22_delivered_spec p0 r H) (d_s_api_Wait r) (.frz 0 _ _ _ rfl (fun _ => (d_api_Wait _)) (by decide))
end Go.Proofs.Ytclblogdciebnaa
