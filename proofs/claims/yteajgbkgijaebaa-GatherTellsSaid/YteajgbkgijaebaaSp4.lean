/- Printed by gen.py. Conditions: none. -/
import Derived.Test.YteajgbkgijaebaaSp3
import Derived.KernelRfl
set_option linter.unusedVariables false
set_option maxRecDepth 100000
namespace Go.Proofs.Yteajgbkgijaebaa
open Go.Eng
set_option maxHeartbeats 1600000
theorem congresslaw12_GatherRises_spec (p0 : api_Peer) (p1 : api_Packet) (r : Bool) (H : congresslaw12_GatherRises p0 p1 = some r) : FSpec Try.prog 6 [(e_api_Peer p0), (e_api_Packet p1)] (.bool r) := by
  refine spec_of (fn := Try.f6) (args := [(e_api_Peer p0), (e_api_Packet p1)]) Try.func6 rfl (Nat.le_of_ble_eq_true rfl) ?_
  rintro ⟨G, w0, W, S, Sp⟩ hG
  cases hG
  unfold congresslaw12_GatherRises at H
  refine aw_region (es := [_, _, _]) ⟨Step.plain rfl (does_box 32 (.tmp 0) 0 (e_api_Peer p0) trivial rfl), ⟨⟨rfl, trivial⟩, trivial, rfl⟩, rfl,
    Step.plain rfl (does_box 43 (.tmp 1) 1 (e_api_Packet p1) trivial rfl), ⟨⟨rfl, trivial⟩, trivial, rfl⟩, rfl,
    Step.plain rfl (does_assign (.const (.bool false)) (.bool false) (fun _ => rfl)), ⟨trivial, trivial, rfl⟩, rfl, rfl⟩ ?_
  refine aw_cov (cov_prune (s1 := ⟨[(2, (.ptr 0 0 [])), (3, (.ptr 1 0 []))], [(0, some (.var (e_api_Peer p0))), (1, some (.var (e_api_Packet p1)))], 2⟩) ⟨rfl, rfl, trivial⟩ ⟨rfl, rfl, trivial⟩ (Nat.le_refl _)) ?_
  obtain ⟨v1, h2, H⟩ := bnd H
  refine aw_region (es := [_, _, _, _, _]) ⟨Step.plain rfl (does_load 32 2 0 0 [] (.var (e_api_Peer p0)) (e_api_Peer p0) trivial rfl rfl ty32), ⟨⟨rfl, trivial⟩, ⟨rfl, trivial⟩, rfl⟩, rfl,
    Step.plain rfl (does_load 43 3 1 0 [] (.var (e_api_Packet p1)) (e_api_Packet p1) trivial rfl rfl ty43), ⟨⟨rfl, trivial⟩, ⟨rfl, trivial⟩, rfl⟩, rfl,
    Step.plain rfl (does_call 13 0 (fun _ => .any) (.func 13) [(.tmp 7), (.tmp 8)] [(e_api_Peer p0), (e_api_Packet p1)] [] true [(e_api_Peer p0), (e_api_Packet p1)] (e_api_Peer v1) _ _ rfl fo13 rfl ⟨trivial, trivial, trivial⟩ ⟨.data _ (d_api_Peer p0), .data _ (d_api_Packet p1), trivial⟩ (gather_Update_spec p0 p1 _ h2) (f_api_Peer v1)), ⟨⟨rfl, rfl, trivial⟩, trivial, rfl⟩, rfl,
    Step.plain rfl (does_alloc 32 2 (e_api_Peer z_api_Peer) zr32), ⟨trivial, trivial, rfl⟩, rfl,
    Step.plain rfl (does_store 32 5 (.tmp 9) 2 0 [] (.var (e_api_Peer z_api_Peer)) (.var (e_api_Peer v1)) (e_api_Peer v1) true trivial rfl trivial rfl rfl rfl ty32), ⟨⟨rfl, rfl, trivial⟩, ⟨rfl, trivial⟩, rfl⟩, rfl, rfl⟩ ?_
  refine aw_cov (cov_prune (s1 := ⟨[(2, (.ptr 0 0 [])), (3, (.ptr 1 0 [])), (5, (.ptr 2 0 []))], [(0, some (.var (e_api_Peer p0))), (1, some (.var (e_api_Packet p1))), (2, some (.var (e_api_Peer v1)))], 3⟩) ⟨rfl, rfl, rfl, trivial⟩ ⟨rfl, rfl, rfl, trivial⟩ (Nat.le_refl _)) ?_
  refine aw_seq ?_
  obtain ⟨v3, h4, H⟩ := bnd H
  refine aw_region (es := [_, _, _, _, _, _, _, _, _]) ⟨Step.plain rfl (does_call 8 0 (fun _ => .any) (.func 8) [] [] [] true [] (.bool v3) _ _ rfl fo8 rfl trivial trivial (congresslaw12_fixed_spec _ h4) trivial), ⟨trivial, trivial, rfl⟩, rfl,
    Step.plain rfl (does_not 4 (.tmp 10) v3 trivial), ⟨⟨rfl, trivial⟩, trivial, rfl⟩, rfl,
    Step.plain rfl (does_move (.tmp 11) (.bool (!v3)) trivial), ⟨⟨rfl, trivial⟩, trivial, rfl⟩, rfl,
    Step.guarded rfl rfl rfl rfl (fun hc => does_fieldAddr 32 0 0 5 2 0 [] (.var (e_api_Peer v1)) fl32_0), ⟨⟨rfl, rfl, trivial⟩, ⟨rfl, trivial⟩, rfl⟩, rfl,
    Step.guarded rfl rfl rfl rfl (fun hc => Does.strip (n' := [(13, (.opt (!(!v3)) (.ptr 2 (0 + 0) [0])))]) (n := [(13, (.ptr 2 (0 + 0) [0]))]) ⟨(.opt _ _ hc), trivial⟩ (does_load 22 13 2 (0 + 0) [0] (.var (e_api_Peer v1)) (.int .u32 v1.Inc) ⟨rfl, Nat.le_of_ble_eq_true rfl, trivial⟩ rfl rfl ty22)), ⟨⟨rfl, rfl, trivial⟩, ⟨rfl, trivial⟩, rfl⟩, rfl,
    Step.guarded rfl rfl rfl rfl (fun hc => does_fieldAddr 32 0 0 2 0 0 [] (.var (e_api_Peer p0)) fl32_0), ⟨⟨rfl, rfl, trivial⟩, ⟨rfl, trivial⟩, rfl⟩, rfl,
    Step.guarded rfl rfl rfl rfl (fun hc => Does.strip (n' := [(15, (.opt (!(!v3)) (.ptr 0 (0 + 0) [0])))]) (n := [(15, (.ptr 0 (0 + 0) [0]))]) ⟨(.opt _ _ hc), trivial⟩ (does_load 22 15 0 (0 + 0) [0] (.var (e_api_Peer p0)) (.int .u32 p0.Inc) ⟨rfl, Nat.le_of_ble_eq_true rfl, trivial⟩ rfl rfl ty22)), ⟨⟨rfl, rfl, trivial⟩, ⟨rfl, trivial⟩, rfl⟩, rfl,
    Step.guarded rfl rfl rfl rfl (fun hc => Does.strip (n' := [(14, (.opt (!(!v3)) (.int .u32 v1.Inc))), (16, (.opt (!(!v3)) (.int .u32 p0.Inc)))]) (n := [(14, (.int .u32 v1.Inc)), (16, (.int .u32 p0.Inc))]) ⟨(.opt _ _ hc), (.opt _ _ hc), trivial⟩ (does_bin .lss 22 22 (.tmp 14) (.tmp 16) .u32 v1.Inc p0.Inc (.bool (decide (v1.Inc < p0.Inc))) trivial trivial (bin_lss _ _ _ _))), ⟨⟨rfl, rfl, rfl, trivial⟩, trivial, rfl⟩, rfl,
    Step.plain rfl (does_or 12 17 (!v3) (decide (v1.Inc < p0.Inc))), ⟨⟨rfl, rfl, trivial⟩, trivial, rfl⟩, rfl, rfl⟩ ?_
  refine aw_cov (cov_prune (s1 := ⟨[(2, (.ptr 0 0 [])), (3, (.ptr 1 0 [])), (5, (.ptr 2 0 [])), (18, (.bool ((!v3) || (decide (v1.Inc < p0.Inc)))))], [(0, some (.var (e_api_Peer p0))), (1, some (.var (e_api_Packet p1))), (2, some (.var (e_api_Peer v1)))], 3⟩) ⟨rfl, rfl, rfl, rfl, trivial⟩ ⟨rfl, rfl, rfl, trivial⟩ (Nat.le_refl _)) ?_
  refine aw_cond rfl (fun hc => ?_) (fun hc => ?_)
  · replace H := ite_t hc H
    refine aw_region (es := [_]) ⟨Step.plain rfl (does_assign (.const (.bool false)) (.bool false) (fun _ => rfl)), ⟨trivial, trivial, rfl⟩, rfl, rfl⟩ ?_
    refine aw_cov (cov_prune (s1 := ⟨[(4, (.bool false))], [], 3⟩) ⟨rfl, trivial⟩ trivial (Nat.le_refl _)) ?_
    refine aw_ret ?_
    refine rt_then ?_
    exact fun a w hr => ⟨_, [(.bool false)], hr, ⟨⟨_, rfl, .data _ trivial⟩, trivial⟩, by decide, by cases H; rfl⟩
  · replace H := ite_f hc H
    refine aw_skip ?_
    refine nx_seq ?_
    refine aw_seq ?_
    refine aw_region (es := [_, _, _, _, _]) ⟨Step.plain rfl (does_fieldAddr 32 0 0 5 2 0 [] (.var (e_api_Peer v1)) fl32_0), ⟨⟨rfl, trivial⟩, ⟨rfl, trivial⟩, rfl⟩, rfl,
      Step.plain rfl (does_load 22 19 2 (0 + 0) [0] (.var (e_api_Peer v1)) (.int .u32 v1.Inc) ⟨rfl, Nat.le_of_ble_eq_true rfl, trivial⟩ rfl rfl ty22), ⟨⟨rfl, trivial⟩, ⟨rfl, trivial⟩, rfl⟩, rfl,
      Step.plain rfl (does_fieldAddr 32 0 0 2 0 0 [] (.var (e_api_Peer p0)) fl32_0), ⟨⟨rfl, trivial⟩, ⟨rfl, trivial⟩, rfl⟩, rfl,
      Step.plain rfl (does_load 22 21 0 (0 + 0) [0] (.var (e_api_Peer p0)) (.int .u32 p0.Inc) ⟨rfl, Nat.le_of_ble_eq_true rfl, trivial⟩ rfl rfl ty22), ⟨⟨rfl, trivial⟩, ⟨rfl, trivial⟩, rfl⟩, rfl,
      Step.plain rfl (does_bin .gtr 22 22 (.tmp 20) (.tmp 22) .u32 v1.Inc p0.Inc (.bool (decide (v1.Inc > p0.Inc))) trivial trivial (bin_gtr _ _ _ _)), ⟨⟨rfl, rfl, trivial⟩, trivial, rfl⟩, rfl, rfl⟩ ?_
    refine aw_cov (cov_prune (s1 := ⟨[(2, (.ptr 0 0 [])), (3, (.ptr 1 0 [])), (5, (.ptr 2 0 [])), (23, (.bool (decide (v1.Inc > p0.Inc))))], [(0, some (.var (e_api_Peer p0))), (1, some (.var (e_api_Packet p1))), (2, some (.var (e_api_Peer v1)))], 3⟩) ⟨rfl, rfl, rfl, rfl, trivial⟩ ⟨rfl, rfl, rfl, trivial⟩ (Nat.le_refl _)) ?_
    refine aw_cond rfl (fun hc => ?_) (fun hc => ?_)
    · replace H := ite_t hc H
      refine aw_region (es := [_, _, _, _, _, _]) ⟨Step.plain rfl (does_fieldAddr 32 0 0 5 2 0 [] (.var (e_api_Peer v1)) fl32_0), ⟨⟨rfl, trivial⟩, ⟨rfl, trivial⟩, rfl⟩, rfl,
        Step.plain rfl (does_load 22 24 2 (0 + 0) [0] (.var (e_api_Peer v1)) (.int .u32 v1.Inc) ⟨rfl, Nat.le_of_ble_eq_true rfl, trivial⟩ rfl rfl ty22), ⟨⟨rfl, trivial⟩, ⟨rfl, trivial⟩, rfl⟩, rfl,
        Step.plain rfl (does_fieldAddr 43 1 1 3 1 0 [] (.var (e_api_Packet p1)) fl43_1), ⟨⟨rfl, trivial⟩, ⟨rfl, trivial⟩, rfl⟩, rfl,
        Step.plain rfl (does_load 22 26 1 (0 + 1) [1] (.var (e_api_Packet p1)) (.int .u32 p1.Inc) ⟨rfl, Nat.le_of_ble_eq_true rfl, trivial⟩ rfl rfl ty22), ⟨⟨rfl, trivial⟩, ⟨rfl, trivial⟩, rfl⟩, rfl,
        Step.plain rfl (does_bin .eql 22 22 (.tmp 25) (.tmp 27) .u32 v1.Inc p1.Inc (.bool (v1.Inc == p1.Inc)) trivial trivial (bin_eql _ _ _ _)), ⟨⟨rfl, rfl, trivial⟩, trivial, rfl⟩, rfl,
        Step.plain rfl (does_assign (.tmp 28) (.bool (v1.Inc == p1.Inc)) trivial), ⟨⟨rfl, trivial⟩, trivial, rfl⟩, rfl, rfl⟩ ?_
      refine aw_cov (cov_prune (s1 := ⟨[(4, (.bool (v1.Inc == p1.Inc)))], [], 3⟩) ⟨rfl, trivial⟩ trivial (Nat.le_refl _)) ?_
      refine aw_ret ?_
      refine rt_then ?_
      exact fun a w hr => ⟨_, [(.bool (v1.Inc == p1.Inc))], hr, ⟨⟨_, rfl, .data _ trivial⟩, trivial⟩, by decide, by cases H; rfl⟩
    · replace H := ite_f hc H
      refine aw_skip ?_
      refine nx_seq ?_
      refine aw_seq ?_
      obtain ⟨v5, h6, H⟩ := bnd H
      refine aw_region (es := [_, _, _, _, _, _]) ⟨Step.plain rfl (does_fieldAddr 32 2 4 5 2 0 [] (.var (e_api_Peer v1)) fl32_2), ⟨⟨rfl, trivial⟩, ⟨rfl, trivial⟩, rfl⟩, rfl,
        Step.plain rfl (does_load 27 29 2 (0 + 4) [2] (.var (e_api_Peer v1)) (e_api_Id v1.Promise) ⟨rfl, Nat.le_of_ble_eq_true rfl, trivial⟩ rfl rfl ty27), ⟨⟨rfl, trivial⟩, ⟨rfl, trivial⟩, rfl⟩, rfl,
        Step.plain rfl (does_fieldAddr 32 2 4 2 0 0 [] (.var (e_api_Peer p0)) fl32_2), ⟨⟨rfl, trivial⟩, ⟨rfl, trivial⟩, rfl⟩, rfl,
        Step.plain rfl (does_load 27 31 0 (0 + 4) [2] (.var (e_api_Peer p0)) (e_api_Id p0.Promise) ⟨rfl, Nat.le_of_ble_eq_true rfl, trivial⟩ rfl rfl ty27), ⟨⟨rfl, trivial⟩, ⟨rfl, trivial⟩, rfl⟩, rfl,
        Step.plain rfl (does_call 10 0 (fun _ => .any) (.func 10) [(.tmp 30), (.tmp 32)] [(e_api_Id v1.Promise), (e_api_Id p0.Promise)] [] true [(e_api_Id v1.Promise), (e_api_Id p0.Promise)] (.int .i64 v5) _ _ rfl fo10 rfl ⟨trivial, trivial, trivial⟩ ⟨.data _ (d_api_Id v1.Promise), .data _ (d_api_Id p0.Promise), trivial⟩ (congressref07_Compare_spec v1.Promise p0.Promise _ h6) trivial), ⟨⟨rfl, rfl, trivial⟩, trivial, rfl⟩, rfl,
        Step.plain rfl (does_bin .neq 3 3 (.tmp 33) (.const (.int .i64 0)) .i64 v5 0 (.bool (v5 != 0)) trivial (fun _ => rfl) (bin_neq _ _ _ _)), ⟨⟨rfl, trivial⟩, trivial, rfl⟩, rfl, rfl⟩ ?_
      refine aw_cov (cov_prune (s1 := ⟨[(2, (.ptr 0 0 [])), (5, (.ptr 2 0 [])), (34, (.bool (v5 != 0)))], [(0, some (.var (e_api_Peer p0))), (2, some (.var (e_api_Peer v1)))], 3⟩) ⟨rfl, rfl, rfl, trivial⟩ ⟨rfl, rfl, trivial⟩ (Nat.le_refl _)) ?_
      refine aw_cond rfl (fun hc => ?_) (fun hc => ?_)
      · replace H := ite_t hc H
        obtain ⟨v7, h8, H⟩ := bnd H
        refine aw_region (es := [_, _, _, _, _, _, _]) ⟨Step.plain rfl (does_fieldAddr 32 2 4 5 2 0 [] (.var (e_api_Peer v1)) fl32_2), ⟨⟨rfl, trivial⟩, ⟨rfl, trivial⟩, rfl⟩, rfl,
          Step.plain rfl (does_load 27 35 2 (0 + 4) [2] (.var (e_api_Peer v1)) (e_api_Id v1.Promise) ⟨rfl, Nat.le_of_ble_eq_true rfl, trivial⟩ rfl rfl ty27), ⟨⟨rfl, trivial⟩, ⟨rfl, trivial⟩, rfl⟩, rfl,
          Step.plain rfl (does_fieldAddr 32 2 4 2 0 0 [] (.var (e_api_Peer p0)) fl32_2), ⟨⟨rfl, trivial⟩, ⟨rfl, trivial⟩, rfl⟩, rfl,
          Step.plain rfl (does_load 27 37 0 (0 + 4) [2] (.var (e_api_Peer p0)) (e_api_Id p0.Promise) ⟨rfl, Nat.le_of_ble_eq_true rfl, trivial⟩ rfl rfl ty27), ⟨⟨rfl, trivial⟩, ⟨rfl, trivial⟩, rfl⟩, rfl,
          Step.plain rfl (does_call 10 0 (fun _ => .any) (.func 10) [(.tmp 36), (.tmp 38)] [(e_api_Id v1.Promise), (e_api_Id p0.Promise)] [] true [(e_api_Id v1.Promise), (e_api_Id p0.Promise)] (.int .i64 v7) _ _ rfl fo10 rfl ⟨trivial, trivial, trivial⟩ ⟨.data _ (d_api_Id v1.Promise), .data _ (d_api_Id p0.Promise), trivial⟩ (congressref07_Compare_spec v1.Promise p0.Promise _ h8) trivial), ⟨⟨rfl, rfl, trivial⟩, trivial, rfl⟩, rfl,
          Step.plain rfl (does_bin .eql 3 3 (.tmp 39) (.const (.int .i64 1)) .i64 v7 1 (.bool (v7 == 1)) trivial (fun _ => rfl) (bin_eql _ _ _ _)), ⟨⟨rfl, trivial⟩, trivial, rfl⟩, rfl,
          Step.plain rfl (does_assign (.tmp 40) (.bool (v7 == 1)) trivial), ⟨⟨rfl, trivial⟩, trivial, rfl⟩, rfl, rfl⟩ ?_
        refine aw_cov (cov_prune (s1 := ⟨[(4, (.bool (v7 == 1)))], [], 3⟩) ⟨rfl, trivial⟩ trivial (Nat.le_refl _)) ?_
        refine aw_ret ?_
        refine rt_then ?_
        exact fun a w hr => ⟨_, [(.bool (v7 == 1))], hr, ⟨⟨_, rfl, .data _ trivial⟩, trivial⟩, by decide, by cases H; rfl⟩
      · replace H := ite_f hc H
        refine aw_skip ?_
        refine nx_seq ?_
        refine aw_seq ?_
        obtain ⟨v9, h10, H⟩ := bnd H
        refine aw_region (es := [_, _, _, _, _, _]) ⟨Step.plain rfl (does_fieldAddr 32 1 1 5 2 0 [] (.var (e_api_Peer v1)) fl32_1), ⟨⟨rfl, trivial⟩, ⟨rfl, trivial⟩, rfl⟩, rfl,
          Step.plain rfl (does_load 27 41 2 (0 + 1) [1] (.var (e_api_Peer v1)) (e_api_Id v1.Conf) ⟨rfl, Nat.le_of_ble_eq_true rfl, trivial⟩ rfl rfl ty27), ⟨⟨rfl, trivial⟩, ⟨rfl, trivial⟩, rfl⟩, rfl,
          Step.plain rfl (does_fieldAddr 32 1 1 2 0 0 [] (.var (e_api_Peer p0)) fl32_1), ⟨⟨rfl, trivial⟩, ⟨rfl, trivial⟩, rfl⟩, rfl,
          Step.plain rfl (does_load 27 43 0 (0 + 1) [1] (.var (e_api_Peer p0)) (e_api_Id p0.Conf) ⟨rfl, Nat.le_of_ble_eq_true rfl, trivial⟩ rfl rfl ty27), ⟨⟨rfl, trivial⟩, ⟨rfl, trivial⟩, rfl⟩, rfl,
          Step.plain rfl (does_call 10 0 (fun _ => .any) (.func 10) [(.tmp 42), (.tmp 44)] [(e_api_Id v1.Conf), (e_api_Id p0.Conf)] [] true [(e_api_Id v1.Conf), (e_api_Id p0.Conf)] (.int .i64 v9) _ _ rfl fo10 rfl ⟨trivial, trivial, trivial⟩ ⟨.data _ (d_api_Id v1.Conf), .data _ (d_api_Id p0.Conf), trivial⟩ (congressref07_Compare_spec v1.Conf p0.Conf _ h10) trivial), ⟨⟨rfl, rfl, trivial⟩, trivial, rfl⟩, rfl,
          Step.plain rfl (does_bin .neq 3 3 (.tmp 45) (.const (.int .i64 0)) .i64 v9 0 (.bool (v9 != 0)) trivial (fun _ => rfl) (bin_neq _ _ _ _)), ⟨⟨rfl, trivial⟩, trivial, rfl⟩, rfl, rfl⟩ ?_
        refine aw_cov (cov_prune (s1 := ⟨[(2, (.ptr 0 0 [])), (5, (.ptr 2 0 [])), (46, (.bool (v9 != 0)))], [(0, some (.var (e_api_Peer p0))), (2, some (.var (e_api_Peer v1)))], 3⟩) ⟨rfl, rfl, rfl, trivial⟩ ⟨rfl, rfl, trivial⟩ (Nat.le_refl _)) ?_
        refine aw_cond rfl (fun hc => ?_) (fun hc => ?_)
        · replace H := ite_t hc H
          obtain ⟨v11, h12, H⟩ := bnd H
          refine aw_region (es := [_, _, _, _, _, _, _, _, _, _, _, _, _, _, _, _]) ⟨Step.plain rfl (does_fieldAddr 32 1 1 5 2 0 [] (.var (e_api_Peer v1)) fl32_1), ⟨⟨rfl, trivial⟩, ⟨rfl, trivial⟩, rfl⟩, rfl,
            Step.plain rfl (does_load 27 47 2 (0 + 1) [1] (.var (e_api_Peer v1)) (e_api_Id v1.Conf) ⟨rfl, Nat.le_of_ble_eq_true rfl, trivial⟩ rfl rfl ty27), ⟨⟨rfl, trivial⟩, ⟨rfl, trivial⟩, rfl⟩, rfl,
            Step.plain rfl (does_fieldAddr 32 1 1 2 0 0 [] (.var (e_api_Peer p0)) fl32_1), ⟨⟨rfl, trivial⟩, ⟨rfl, trivial⟩, rfl⟩, rfl,
            Step.plain rfl (does_load 27 49 0 (0 + 1) [1] (.var (e_api_Peer p0)) (e_api_Id p0.Conf) ⟨rfl, Nat.le_of_ble_eq_true rfl, trivial⟩ rfl rfl ty27), ⟨⟨rfl, trivial⟩, ⟨rfl, trivial⟩, rfl⟩, rfl,
            Step.plain rfl (does_call 10 0 (fun _ => .any) (.func 10) [(.tmp 48), (.tmp 50)] [(e_api_Id v1.Conf), (e_api_Id p0.Conf)] [] true [(e_api_Id v1.Conf), (e_api_Id p0.Conf)] (.int .i64 v11) _ _ rfl fo10 rfl ⟨trivial, trivial, trivial⟩ ⟨.data _ (d_api_Id v1.Conf), .data _ (d_api_Id p0.Conf), trivial⟩ (congressref07_Compare_spec v1.Conf p0.Conf _ h12) trivial), ⟨⟨rfl, rfl, trivial⟩, trivial, rfl⟩, rfl,
            Step.plain rfl (does_bin .eql 3 3 (.tmp 51) (.const (.int .i64 1)) .i64 v11 1 (.bool (v11 == 1)) trivial (fun _ => rfl) (bin_eql _ _ _ _)), ⟨⟨rfl, trivial⟩, trivial, rfl⟩, rfl,
            Step.plain rfl (does_move (.tmp 52) (.bool (v11 == 1)) trivial), ⟨⟨rfl, trivial⟩, trivial, rfl⟩, rfl,
            Step.guarded rfl rfl rfl rfl (fun hc => does_fieldAddr 32 4 15 5 2 0 [] (.var (e_api_Peer v1)) fl32_4), ⟨⟨rfl, rfl, trivial⟩, ⟨rfl, trivial⟩, rfl⟩, rfl,
            Step.guarded rfl rfl rfl rfl (fun hc => Does.strip (n' := [(54, (.opt (v11 == 1) (.ptr 2 (0 + 15) [4])))]) (n := [(54, (.ptr 2 (0 + 15) [4]))]) ⟨(.opt _ _ hc), trivial⟩ (does_load 4 54 2 (0 + 15) [4] (.var (e_api_Peer v1)) (.bool v1.Ready) ⟨rfl, Nat.le_of_ble_eq_true rfl, trivial⟩ rfl rfl ty4)), ⟨⟨rfl, rfl, trivial⟩, ⟨rfl, trivial⟩, rfl⟩, rfl,
            Step.guarded rfl rfl rfl rfl (fun hc => Does.strip (n' := [(55, (.opt (v11 == 1) (.bool v1.Ready)))]) (n := [(55, (.bool v1.Ready))]) ⟨(.opt _ _ hc), trivial⟩ (does_move (.tmp 55) (.bool v1.Ready) trivial)), ⟨⟨rfl, rfl, trivial⟩, trivial, rfl⟩, rfl,
            Step.guarded rfl rfl rfl rfl (fun hc => does_fieldAddr 32 4 15 2 0 0 [] (.var (e_api_Peer p0)) fl32_4), ⟨⟨rfl, rfl, trivial⟩, ⟨rfl, trivial⟩, rfl⟩, rfl,
            Step.guarded rfl rfl rfl rfl (fun hc => Does.strip (n' := [(57, (.opt ((v11 == 1) && (!v1.Ready)) (.ptr 0 (0 + 15) [4])))]) (n := [(57, (.ptr 0 (0 + 15) [4]))]) ⟨(.opt _ _ hc), trivial⟩ (does_load 4 57 0 (0 + 15) [4] (.var (e_api_Peer p0)) (.bool p0.Ready) ⟨rfl, Nat.le_of_ble_eq_true rfl, trivial⟩ rfl rfl ty4)), ⟨⟨rfl, rfl, trivial⟩, ⟨rfl, trivial⟩, rfl⟩, rfl,
            Step.guarded rfl rfl rfl rfl (fun hc => Does.strip (n' := [(58, (.opt ((v11 == 1) && (!v1.Ready)) (.bool p0.Ready)))]) (n := [(58, (.bool p0.Ready))]) ⟨(.opt _ _ hc), trivial⟩ (does_not 4 (.tmp 58) p0.Ready trivial)), ⟨⟨rfl, rfl, trivial⟩, trivial, rfl⟩, rfl,
            Step.guarded rfl rfl rfl rfl (fun hc => Does.strip (n' := [(56, (.opt (v11 == 1) (.bool v1.Ready))), (59, (.opt ((v11 == 1) && (!v1.Ready)) (.bool (!p0.Ready))))]) (n := [(56, (.bool v1.Ready)), (59, (.opt (!v1.Ready) (.bool (!p0.Ready))))]) ⟨(.opt _ _ hc), (.half _ _ hc), trivial⟩ (does_or 56 59 v1.Ready (!p0.Ready))), ⟨⟨rfl, rfl, rfl, trivial⟩, trivial, rfl⟩, rfl,
            Step.plain rfl (does_and 53 60 (v11 == 1) (v1.Ready || (!p0.Ready))), ⟨⟨rfl, rfl, trivial⟩, trivial, rfl⟩, rfl,
            Step.plain rfl (does_assign (.tmp 61) (.bool ((v11 == 1) && (v1.Ready || (!p0.Ready)))) trivial), ⟨⟨rfl, trivial⟩, trivial, rfl⟩, rfl, rfl⟩ ?_
          refine aw_cov (cov_prune (s1 := ⟨[(4, (.bool ((v11 == 1) && (v1.Ready || (!p0.Ready)))))], [], 3⟩) ⟨rfl, trivial⟩ trivial (Nat.le_refl _)) ?_
          refine aw_ret ?_
          refine rt_then ?_
          exact fun a w hr => ⟨_, [(.bool ((v11 == 1) && (v1.Ready || (!p0.Ready))))], hr, ⟨⟨_, rfl, .data _ trivial⟩, trivial⟩, by decide, by cases H; rfl⟩
        · replace H := ite_f hc H
          refine aw_skip ?_
          refine nx_seq ?_
          refine aw_seq ?_
          refine aw_region (es := [_]) ⟨Step.plain rfl (does_assign (.const (.int .i64 0)) (.int .i64 0) (fun _ => rfl)), ⟨trivial, trivial, rfl⟩, rfl, rfl⟩ ?_
          refine aw_cov (cov_prune (s1 := ⟨[(2, (.ptr 0 0 [])), (5, (.ptr 2 0 [])), (6, (.int .i64 0))], [(0, some (.var (e_api_Peer p0))), (2, some (.var (e_api_Peer v1)))], 3⟩) ⟨rfl, rfl, rfl, trivial⟩ ⟨rfl, rfl, trivial⟩ (Nat.le_refl _)) ?_
          obtain ⟨wn14, hwn14, Hrn14⟩ := bnd H
          refine aw_meet (fun y17 : Unit => (⟨[(2, (.ptr 0 0 [])), (5, (.ptr 2 0 []))], [(0, some (.var (e_api_Peer p0))), (2, some (.var (e_api_Peer v1)))], 3⟩ : St)) (fun y17 => Fl.nx y17 = wn14) (fun y17 hy => ?_) (aw_block (aw_runs (fun x13 : Int => (⟨[(2, (.ptr 0 0 [])), (5, (.ptr 2 0 [])), (6, (.int .i64 x13))], [(0, some (.var (e_api_Peer p0))), (2, some (.var (e_api_Peer v1)))], 3⟩ : St)) hwn14 (cov_prune ⟨rfl, rfl, rfl, trivial⟩ ⟨rfl, rfl, trivial⟩ (Nat.le_of_ble_eq_true rfl)) (fun x13 st H hsn14 => ?_)))
          · have H := nx_of hy Hrn14
            refine nx_seq ?_
            refine aw_region (es := [_, _, _, _, _, _, _, _]) ⟨Step.plain rfl (does_fieldAddr 32 4 15 5 2 0 [] (.var (e_api_Peer v1)) fl32_4), ⟨⟨rfl, trivial⟩, ⟨rfl, trivial⟩, rfl⟩, rfl,
              Step.plain rfl (does_load 4 75 2 (0 + 15) [4] (.var (e_api_Peer v1)) (.bool v1.Ready) ⟨rfl, Nat.le_of_ble_eq_true rfl, trivial⟩ rfl rfl ty4), ⟨⟨rfl, trivial⟩, ⟨rfl, trivial⟩, rfl⟩, rfl,
              Step.plain rfl (does_move (.tmp 76) (.bool v1.Ready) trivial), ⟨⟨rfl, trivial⟩, trivial, rfl⟩, rfl,
              Step.guarded rfl rfl rfl rfl (fun hc => does_fieldAddr 32 4 15 2 0 0 [] (.var (e_api_Peer p0)) fl32_4), ⟨⟨rfl, rfl, trivial⟩, ⟨rfl, trivial⟩, rfl⟩, rfl,
              Step.guarded rfl rfl rfl rfl (fun hc => Does.strip (n' := [(78, (.opt (!v1.Ready) (.ptr 0 (0 + 15) [4])))]) (n := [(78, (.ptr 0 (0 + 15) [4]))]) ⟨(.opt _ _ hc), trivial⟩ (does_load 4 78 0 (0 + 15) [4] (.var (e_api_Peer p0)) (.bool p0.Ready) ⟨rfl, Nat.le_of_ble_eq_true rfl, trivial⟩ rfl rfl ty4)), ⟨⟨rfl, rfl, trivial⟩, ⟨rfl, trivial⟩, rfl⟩, rfl,
              Step.guarded rfl rfl rfl rfl (fun hc => Does.strip (n' := [(79, (.opt (!v1.Ready) (.bool p0.Ready)))]) (n := [(79, (.bool p0.Ready))]) ⟨(.opt _ _ hc), trivial⟩ (does_not 4 (.tmp 79) p0.Ready trivial)), ⟨⟨rfl, rfl, trivial⟩, trivial, rfl⟩, rfl,
              Step.plain rfl (does_or 77 80 v1.Ready (!p0.Ready)), ⟨⟨rfl, rfl, trivial⟩, trivial, rfl⟩, rfl,
              Step.plain rfl (does_assign (.tmp 81) (.bool (v1.Ready || (!p0.Ready))) trivial), ⟨⟨rfl, trivial⟩, trivial, rfl⟩, rfl, rfl⟩ ?_
            refine aw_cov (cov_prune (s1 := ⟨[(4, (.bool (v1.Ready || (!p0.Ready))))], [], 3⟩) ⟨rfl, trivial⟩ trivial (Nat.le_refl _)) ?_
            refine aw_ret ?_
            exact fun a w hr => ⟨_, [(.bool (v1.Ready || (!p0.Ready)))], hr, ⟨⟨_, rfl, .data _ trivial⟩, trivial⟩, by decide, by cases H; rfl⟩
          · refine aw_seq ?_
            refine aw_region (es := [_, _]) ⟨Step.plain rfl (does_move (.tmp 6) (.int .i64 x13) trivial), ⟨⟨rfl, trivial⟩, trivial, rfl⟩, rfl,
              Step.plain rfl (does_bin .lss 3 3 (.tmp 62) (.const (.int .i64 8)) .i64 x13 8 (.bool (decide (x13 < 8))) trivial (fun _ => rfl) (bin_lss _ _ _ _)), ⟨⟨rfl, trivial⟩, trivial, rfl⟩, rfl, rfl⟩ ?_
            refine aw_cov (cov_prune (s1 := ⟨[(2, (.ptr 0 0 [])), (5, (.ptr 2 0 [])), (6, (.int .i64 x13)), (63, (.bool (decide (x13 < 8))))], [(0, some (.var (e_api_Peer p0))), (2, some (.var (e_api_Peer v1)))], 3⟩) ⟨rfl, rfl, rfl, rfl, trivial⟩ ⟨rfl, rfl, trivial⟩ (Nat.le_refl _)) ?_
            refine aw_cond rfl (fun hc => ?_) (fun hc => ?_)
            · replace H := ite_t hc H
              refine aw_skip ?_
              refine nx_seq ?_
              refine aw_seq ?_
              refine aw_block ?_
              obtain ⟨h15, H⟩ := ib_of H
              obtain ⟨h16, H⟩ := ib_of H
              refine aw_draw (es := [_, _, _, _, _, _, _, _, _]) (mixed) ⟨Step.plain rfl (does_move (.tmp 6) (.int .i64 x13) trivial), ⟨⟨rfl, trivial⟩, trivial, rfl⟩, rfl,
                Step.plain rfl (does_fieldAddr 32 3 7 5 2 0 [] (.var (e_api_Peer v1)) fl32_3), ⟨⟨rfl, trivial⟩, ⟨rfl, trivial⟩, rfl⟩, rfl,
                Step.plain rfl (does_indexAddr 29 8 1 67 2 (0 + 7) [3] (.var (e_api_Peer v1)) (.tmp 66) .i64 x13 el29 trivial h15.1 h15.2), ⟨⟨rfl, rfl, trivial⟩, ⟨rfl, trivial⟩, rfl⟩, rfl,
                Step.plain rfl (does_load 22 68 2 ((0 + 7) + x13.toNat * 1) [3, x13.toNat] (.var (e_api_Peer v1)) (.int .u32 (v1.Cut x13.toNat)) ⟨rfl, Nat.le_of_ble_eq_true rfl, ⟨rfl, (ixl h15), trivial⟩⟩ rfl rfl ty22), ⟨⟨rfl, trivial⟩, ⟨rfl, trivial⟩, rfl⟩, rfl,
                Step.plain rfl (does_move (.tmp 6) (.int .i64 x13) trivial), ⟨⟨rfl, trivial⟩, trivial, rfl⟩, rfl,
                Step.plain rfl (does_fieldAddr 32 3 7 2 0 0 [] (.var (e_api_Peer p0)) fl32_3), ⟨⟨rfl, trivial⟩, ⟨rfl, trivial⟩, rfl⟩, rfl,
                Step.plain rfl (does_indexAddr 29 8 1 71 0 (0 + 7) [3] (.var (e_api_Peer p0)) (.tmp 70) .i64 x13 el29 trivial h16.1 h16.2), ⟨⟨rfl, rfl, trivial⟩, ⟨rfl, trivial⟩, rfl⟩, rfl,
                Step.plain rfl (does_load 22 72 0 ((0 + 7) + x13.toNat * 1) [3, x13.toNat] (.var (e_api_Peer p0)) (.int .u32 (p0.Cut x13.toNat)) ⟨rfl, Nat.le_of_ble_eq_true rfl, ⟨rfl, (ixl h16), trivial⟩⟩ rfl rfl ty22), ⟨⟨rfl, trivial⟩, ⟨rfl, trivial⟩, rfl⟩, rfl,
                Step.plain rfl (does_bin .lss 22 22 (.tmp 69) (.tmp 73) .u32 (v1.Cut x13.toNat) (p0.Cut x13.toNat) (.bool (decide ((v1.Cut x13.toNat) < (p0.Cut x13.toNat)))) trivial trivial (bin_lss _ _ _ _)), ⟨⟨rfl, rfl, trivial⟩, trivial, rfl⟩, rfl, rfl⟩ rfl ?_
              refine aw_cov (cov_prune (s1 := ⟨[(2, (.ptr 0 0 [])), (5, (.ptr 2 0 [])), (6, (.int .i64 x13)), (74, (.bool (decide ((v1.Cut x13.toNat) < (p0.Cut x13.toNat)))))], [(0, some (.var (e_api_Peer p0))), (2, some (.var (e_api_Peer v1)))], 3⟩) ⟨rfl, rfl, rfl, rfl, trivial⟩ ⟨rfl, rfl, trivial⟩ (Nat.le_refl _)) ?_
              refine aw_cond rfl (fun hc => ?_) (fun hc => ?_)
              · replace H := ite_t hc H
                refine aw_region (es := [_]) ⟨Step.plain rfl (does_assign (.const (.bool false)) (.bool false) (fun _ => rfl)), ⟨trivial, trivial, rfl⟩, rfl, rfl⟩ ?_
                refine aw_cov (cov_prune (s1 := ⟨[(4, (.bool false))], [], 3⟩) ⟨rfl, trivial⟩ trivial (Nat.le_refl _)) ?_
                refine aw_ret ?_
                replace H := rt_of H hsn14 Hrn14
                refine rt_blk ?_
                refine rt_then ?_
                refine rt_then ?_
                refine rt_blk ?_
                refine rt_then ?_
                refine rt_then ?_
                exact fun a w hr => ⟨_, [(.bool false)], hr, ⟨⟨_, rfl, .data _ trivial⟩, trivial⟩, by decide, by cases H; rfl⟩
              · replace H := ite_f hc H
                refine aw_skip ?_
                refine nx_blk ?_
                refine nx_seq ?_
                refine aw_region1 (es := [_, _, _]) ⟨Step.plain rfl (does_move (.tmp 6) (.int .i64 x13) trivial), ⟨⟨rfl, trivial⟩, trivial, rfl⟩, rfl,
                  Step.plain rfl (does_bin .add 3 3 (.tmp 64) (.const (.int .i64 1)) .i64 x13 1 (.int .i64 (IntKind.i64.wrap (x13 + 1))) trivial (fun _ => rfl) (bin_add _ _ _ _)), ⟨⟨rfl, trivial⟩, trivial, rfl⟩, rfl,
                  Step.plain rfl (does_assign (.tmp 65) (.int .i64 (IntKind.i64.wrap (x13 + 1))) trivial), ⟨⟨rfl, trivial⟩, trivial, rfl⟩, rfl, rfl⟩ ?_
                exact nx_loop ((IntKind.i64.wrap (x13 + 1))) H (cov_prune ⟨rfl, rfl, rfl, trivial⟩ ⟨rfl, rfl, trivial⟩ (Nat.le_of_ble_eq_true rfl))
            · replace H := ite_f hc H
              refine aw_exit ?_
              refine ex_then ?_
              refine ex_then ?_
              refine ex_here ?_
              exact nx_ljoin () H hsn14 (cov_prune ⟨rfl, rfl, trivial⟩ ⟨rfl, rfl, trivial⟩ (Nat.le_of_ble_eq_true rfl))

theorem congressref07_List_spec (p0 : (Nat → Int)) (r : (_root_.List Int)) (H : congressref07_List p0 = some r) : FSpecO Try.prog 30 [(e_a8_u32 p0)] [] 0 (.own 0) [(0, some (.arr 1 r.length fun j => (.int .i64 (r.getD j 0))))] 1 := by
  refine specO_of (fn := Try.f30) (args := [(e_a8_u32 p0)]) Try.func30 rfl (Nat.le_of_ble_eq_true rfl) ?_
  rintro ⟨G, w0, W, S, Sp⟩ hG
  cases hG
  unfold congressref07_List at H
  refine aw_region (es := [_, _]) ⟨Step.plain rfl (does_box 28 (.tmp 0) 0 (e_a8_u32 p0) trivial rfl), ⟨⟨rfl, trivial⟩, trivial, rfl⟩, rfl,
    Step.plain rfl (does_nil false 1 1 (fun j => (.int .i64 (([] : _root_.List Int).getD j 0)))), ⟨trivial, trivial, rfl⟩, rfl, rfl⟩ ?_
  refine aw_cov (cov_prune (s1 := ⟨[(1, (.ptr 0 0 []))], [(0, some (.var (e_a8_u32 p0)))], 2⟩) ⟨rfl, trivial⟩ ⟨rfl, trivial⟩ (Nat.le_refl _)) ?_
  refine aw_region (es := [_, _]) ⟨Step.plain rfl (does_buildOwn 63 0 1 2 (.int .i64 0) (fun j => (.int .i64 (([] : _root_.List Int).getD j 0))) #[] [] [] rfl so63 (by decide) trivial trivial (fun j h => match j, h with  | k + 0, h => absurd h (by omega))), ⟨trivial, trivial, rfl⟩, rfl,
    Step.plain rfl (does_assign (.tmp 5) (.own 2) trivial), ⟨⟨rfl, trivial⟩, trivial, rfl⟩, rfl, rfl⟩ ?_
  refine aw_cov (cov_prune (s1 := ⟨[(1, (.ptr 0 0 [])), (3, (.own 2))], [(0, some (.var (e_a8_u32 p0))), (2, some (.arr 1 ([] : _root_.List Int).length fun j => (.int .i64 (([] : _root_.List Int).getD j 0))))], 3⟩) ⟨rfl, rfl, trivial⟩ ⟨rfl, rfl, trivial⟩ (Nat.le_refl _)) ?_
  refine aw_seq ?_
  refine aw_region (es := [_]) ⟨Step.plain rfl (does_assign (.const (.int .i64 0)) (.int .i64 0) (fun _ => rfl)), ⟨trivial, trivial, rfl⟩, rfl, rfl⟩ ?_
  refine aw_cov (cov_prune (s1 := ⟨[(1, (.ptr 0 0 [])), (3, (.own 2)), (4, (.int .i64 0))], [(0, some (.var (e_a8_u32 p0))), (2, some (.arr 1 ([] : _root_.List Int).length fun j => (.int .i64 (([] : _root_.List Int).getD j 0))))], 3⟩) ⟨rfl, rfl, rfl, trivial⟩ ⟨rfl, rfl, trivial⟩ (Nat.le_refl _)) ?_
  obtain ⟨wn2, hwn2, Hrn2⟩ := bnd H
  refine aw_meet (fun y7 : _root_.List Int => (⟨[(3, (.own 2))], [(2, some (.arr 1 y7.length fun j => (.int .i64 (y7.getD j 0))))], 3⟩ : St)) (fun y7 => Fl.nx y7 = wn2) (fun y7 hy => ?_) (aw_block (aw_runs (fun x1 : Int × _root_.List Int => (⟨[(1, (.ptr 0 0 [])), (3, (.own 2)), (4, (.int .i64 x1.1))], [(0, some (.var (e_a8_u32 p0))), (2, some (.arr 1 x1.2.length fun j => (.int .i64 (x1.2.getD j 0))))], 3⟩ : St)) hwn2 (cov_prune ⟨rfl, rfl, rfl, trivial⟩ ⟨rfl, rfl, trivial⟩ (Nat.le_of_ble_eq_true rfl)) (fun x1 st H hsn2 => ?_)))
  · have H := nx_of hy Hrn2
    refine nx_seq ?_
    refine aw_region (es := [_, _]) ⟨Step.plain rfl (does_move (.tmp 3) (.own 2) trivial), ⟨⟨rfl, trivial⟩, trivial, rfl⟩, rfl,
      Step.plain rfl (does_assign (.tmp 18) (.own 2) trivial), ⟨⟨rfl, trivial⟩, trivial, rfl⟩, rfl, rfl⟩ ?_
    refine aw_cov (cov_prune (s1 := ⟨[(2, (.own 2))], [(2, some (.arr 1 y7.length fun j => (.int .i64 (y7.getD j 0))))], 3⟩) ⟨rfl, trivial⟩ ⟨rfl, trivial⟩ (Nat.le_refl _)) ?_
    refine aw_ret ?_
    exact fun a w hr => ⟨_, [(.own 0)], reach_of hr (cov_to (s1 := ⟨[(2, (.own 0))], [(0, some (.arr 1 y7.length fun j => (.int .i64 (y7.getD j 0))))], 1⟩) (fun i => match i with | 0 => 2 | k => k) [] ⟨⟨_, rfl, .own 0 _ _ (Nat.le_of_ble_eq_true rfl) rfl rfl (Box.like_refl _)⟩, trivial⟩ ⟨⟨Nat.le_of_ble_eq_true rfl, _, _, rfl, rfl, boxTo_arr (fun _ => trivial)⟩, trivial⟩ rfl rfl), ⟨rfl, trivial⟩, by decide, by cases H; rfl, by cases H; exact ⟨rfl, trivial⟩, Nat.le_of_ble_eq_true rfl⟩
  · refine aw_seq ?_
    refine aw_region (es := [_, _]) ⟨Step.plain rfl (does_move (.tmp 4) (.int .i64 x1.1) trivial), ⟨⟨rfl, trivial⟩, trivial, rfl⟩, rfl,
      Step.plain rfl (does_bin .lss 3 3 (.tmp 6) (.const (.int .i64 8)) .i64 x1.1 8 (.bool (decide (x1.1 < 8))) trivial (fun _ => rfl) (bin_lss _ _ _ _)), ⟨⟨rfl, trivial⟩, trivial, rfl⟩, rfl, rfl⟩ ?_
    refine aw_cov (cov_prune (s1 := ⟨[(1, (.ptr 0 0 [])), (3, (.own 2)), (4, (.int .i64 x1.1)), (7, (.bool (decide (x1.1 < 8))))], [(0, some (.var (e_a8_u32 p0))), (2, some (.arr 1 x1.2.length fun j => (.int .i64 (x1.2.getD j 0))))], 3⟩) ⟨rfl, rfl, rfl, rfl, trivial⟩ ⟨rfl, rfl, trivial⟩ (Nat.le_refl _)) ?_
    refine aw_cond rfl (fun hc => ?_) (fun hc => ?_)
    · replace H := ite_t hc H
      refine aw_skip ?_
      refine nx_seq ?_
      refine aw_seq ?_
      refine aw_jn (fun x6 : _root_.List Int => (⟨[(1, (.ptr 0 0 [])), (3, (.own 2)), (4, (.int .i64 x1.1))], [(0, some (.var (e_a8_u32 p0))), (2, some (.arr 1 x6.length fun j => (.int .i64 (x6.getD j 0))))], 4⟩ : St)) H (fun x6 H => ?_) (fun j3 H => ?_)
      · refine nx_seq ?_
        refine aw_region1 (es := [_, _, _]) ⟨Step.plain rfl (does_move (.tmp 4) (.int .i64 x1.1) trivial), ⟨⟨rfl, trivial⟩, trivial, rfl⟩, rfl,
          Step.plain rfl (does_bin .add 3 3 (.tmp 8) (.const (.int .i64 1)) .i64 x1.1 1 (.int .i64 (IntKind.i64.wrap (x1.1 + 1))) trivial (fun _ => rfl) (bin_add _ _ _ _)), ⟨⟨rfl, trivial⟩, trivial, rfl⟩, rfl,
          Step.plain rfl (does_assign (.tmp 9) (.int .i64 (IntKind.i64.wrap (x1.1 + 1))) trivial), ⟨⟨rfl, trivial⟩, trivial, rfl⟩, rfl, rfl⟩ ?_
        exact nx_loop ((IntKind.i64.wrap (x1.1 + 1)), x6) H (cov_of (fun i => match i with | 0 => 0 | 2 => 2 | k => k) ⟨⟨_, rfl, ⟨rfl, Nat.le_of_ble_eq_true rfl⟩⟩, ⟨_, rfl, ⟨rfl, Nat.le_of_ble_eq_true rfl⟩⟩, ⟨_, rfl, ⟨rfl, trivial⟩⟩, trivial⟩ ⟨⟨Nat.le_of_ble_eq_true rfl, _, _, rfl, rfl, .inl ⟨rfl, (d_a8_u32 _).plain⟩⟩, ⟨Nat.le_of_ble_eq_true rfl, _, _, rfl, rfl, ⟨rfl, rfl, fun _ => ⟨rfl, trivial⟩⟩⟩, trivial⟩ rfl)
      · refine aw_block ?_
        obtain ⟨h4, H⟩ := ib_of H
        refine aw_region (es := [_, _, _, _]) ⟨Step.plain rfl (does_move (.tmp 4) (.int .i64 x1.1) trivial), ⟨⟨rfl, trivial⟩, trivial, rfl⟩, rfl,
          Step.plain rfl (does_indexAddr 28 8 1 1 0 0 [] (.var (e_a8_u32 p0)) (.tmp 10) .i64 x1.1 el28 trivial h4.1 h4.2), ⟨⟨rfl, rfl, trivial⟩, ⟨rfl, trivial⟩, rfl⟩, rfl,
          Step.plain rfl (does_load 22 11 0 (0 + x1.1.toNat * 1) [x1.1.toNat] (.var (e_a8_u32 p0)) (.int .u32 (p0 x1.1.toNat)) ⟨rfl, (ixl h4), trivial⟩ rfl rfl ty22), ⟨⟨rfl, trivial⟩, ⟨rfl, trivial⟩, rfl⟩, rfl,
          Step.plain rfl (does_bin .gtr 22 22 (.tmp 12) (.const (.int .u32 0)) .u32 (p0 x1.1.toNat) 0 (.bool (decide ((p0 x1.1.toNat) > 0))) trivial (fun _ => rfl) (bin_gtr _ _ _ _)), ⟨⟨rfl, trivial⟩, trivial, rfl⟩, rfl, rfl⟩ ?_
        refine aw_cov (cov_prune (s1 := ⟨[(1, (.ptr 0 0 [])), (3, (.own 2)), (4, (.int .i64 x1.1)), (13, (.bool (decide ((p0 x1.1.toNat) > 0))))], [(0, some (.var (e_a8_u32 p0))), (2, some (.arr 1 x1.2.length fun j => (.int .i64 (x1.2.getD j 0))))], 3⟩) ⟨rfl, rfl, rfl, rfl, trivial⟩ ⟨rfl, rfl, trivial⟩ (Nat.le_refl _)) ?_
        refine aw_cond rfl (fun hc => ?_) (fun hc => ?_)
        · replace H := ite_t hc H
          obtain ⟨h5, H⟩ := fit_of H
          refine aw_region1 (es := [_, _, _, _, _]) ⟨Step.plain rfl (does_move (.tmp 3) (.own 2) trivial), ⟨⟨rfl, trivial⟩, trivial, rfl⟩, rfl,
            Step.plain rfl (does_move (.tmp 4) (.int .i64 x1.1) trivial), ⟨⟨rfl, trivial⟩, trivial, rfl⟩, rfl,
            Step.plain rfl (does_buildSl 63 1 1 (.int .i64 0) (fun j => (.int .i64 (([x1.1] : _root_.List Int).getD j 0))) #[(0, (.tmp 15))] [(0, (.tmp 15))] [(0, (.int .i64 x1.1))] rfl so63 (by decide) ⟨⟨rfl, trivial⟩, trivial⟩ ⟨⟨Nat.le_of_ble_eq_true rfl, rfl, rfl⟩, trivial⟩ (fun j h => match j, h with | 0, _ => rfl | k + 1, h => absurd h (by omega))), ⟨⟨rfl, trivial⟩, trivial, rfl⟩, rfl,
            Step.plain rfl (does_appendL (fun z => V.int .i64 z) 0 x1.2 ([x1.1] : _root_.List Int) 63 1 8 2 3 14 16 ap63 h5), ⟨⟨rfl, rfl, trivial⟩, ⟨rfl, trivial⟩, rfl⟩, rfl,
            Step.plain rfl (does_assign (.tmp 17) (.own 3) trivial), ⟨⟨rfl, trivial⟩, trivial, rfl⟩, rfl, rfl⟩ ?_
          refine nx_blk ?_
          exact nx_join ((x1.2 ++ ([x1.1] : _root_.List Int))) H (cov_of (fun i => match i with | 0 => 0 | 2 => 3 | k => k) ⟨⟨_, rfl, ⟨rfl, Nat.le_of_ble_eq_true rfl⟩⟩, ⟨_, rfl, ⟨rfl, Nat.le_of_ble_eq_true rfl⟩⟩, ⟨_, rfl, ⟨rfl, trivial⟩⟩, trivial⟩ ⟨⟨Nat.le_of_ble_eq_true rfl, _, _, rfl, rfl, .inl ⟨rfl, (d_a8_u32 _).plain⟩⟩, ⟨Nat.le_of_ble_eq_true rfl, _, _, rfl, rfl, ⟨rfl, rfl, fun _ => ⟨rfl, trivial⟩⟩⟩, trivial⟩ rfl)
        · replace H := ite_f hc H
          refine aw_skip ?_
          refine nx_blk ?_
          exact nx_join (x1.2) H (cov_of (fun i => match i with | 0 => 0 | 2 => 2 | k => k) ⟨⟨_, rfl, ⟨rfl, Nat.le_of_ble_eq_true rfl⟩⟩, ⟨_, rfl, ⟨rfl, Nat.le_of_ble_eq_true rfl⟩⟩, ⟨_, rfl, ⟨rfl, trivial⟩⟩, trivial⟩ ⟨⟨Nat.le_of_ble_eq_true rfl, _, _, rfl, rfl, .inl ⟨rfl, (d_a8_u32 _).plain⟩⟩, ⟨Nat.le_of_ble_eq_true rfl, _, _, rfl, rfl, ⟨rfl, rfl, fun _ => ⟨rfl, trivial⟩⟩⟩, trivial⟩ rfl)
    · replace H := ite_f hc H
      refine aw_exit ?_
      refine ex_then ?_
      refine ex_then ?_
      refine ex_here ?_
      exact nx_ljoin (x1.2) H hsn2 (cov_prune ⟨rfl, trivial⟩ ⟨rfl, trivial⟩ (Nat.le_of_ble_eq_true rfl))

theorem congressref07_List_data (p0 : (Nat → Int)) (r : (_root_.List Int)) (H : congressref07_List p0 = some r) : FSpec Try.prog 30 [(e_a8_u32 p0)] (e_s_i64 r) :=
  FSpecO.toData (fz := [0]) (congressref07_List_spec p0 r H) (d_s_i64 r) (.frz 0 _ _ _ rfl (fun _ => trivial) (by decide))

theorem congressref12_Propose_spec (p0 : api_Core) (p1 : (Nat → Int)) (r : api_Id × Bool) (H : congressref12_Propose p0 p1 = some r) : FSpec Try.prog 14 [(e_api_Core p0), (e_a8_u32 p1)] (resV [(e_api_Id r.1), (.bool r.2)]) := by
  refine spec_of (fn := Try.f14) (args := [(e_api_Core p0), (e_a8_u32 p1)]) Try.func14 rfl (Nat.le_of_ble_eq_true rfl) ?_
  rintro ⟨G, w0, W, S, Sp⟩ hG
  cases hG
  unfold congressref12_Propose at H
  refine aw_region (es := [_, _, _, _]) ⟨Step.plain rfl (does_box 35 (.tmp 0) 0 (e_api_Core p0) trivial rfl), ⟨⟨rfl, trivial⟩, trivial, rfl⟩, rfl,
    Step.plain rfl (does_box 28 (.tmp 1) 1 (e_a8_u32 p1) trivial rfl), ⟨⟨rfl, trivial⟩, trivial, rfl⟩, rfl,
    Step.plain rfl (does_alloc 27 2 (e_api_Id z_api_Id) zr27), ⟨trivial, trivial, rfl⟩, rfl,
    Step.plain rfl (does_assign (.const (.bool false)) (.bool false) (fun _ => rfl)), ⟨trivial, trivial, rfl⟩, rfl, rfl⟩ ?_
  refine aw_cov (cov_prune (s1 := ⟨[(2, (.ptr 0 0 [])), (3, (.ptr 1 0 [])), (4, (.ptr 2 0 []))], [(0, some (.var (e_api_Core p0))), (1, some (.var (e_a8_u32 p1))), (2, some (.var (e_api_Id z_api_Id)))], 3⟩) ⟨rfl, rfl, rfl, trivial⟩ ⟨rfl, rfl, rfl, trivial⟩ (Nat.le_refl _)) ?_
  obtain ⟨v1, h2, H⟩ := bnd H
  refine aw_region (es := [_, _, _]) ⟨Step.plain rfl (does_load 28 3 1 0 [] (.var (e_a8_u32 p1)) (e_a8_u32 p1) trivial rfl rfl ty28), ⟨⟨rfl, trivial⟩, ⟨rfl, trivial⟩, rfl⟩, rfl,
    Step.plain rfl (does_callO 30 0 (fun _ => .any) (.func 30) [(.tmp 10)] [(e_a8_u32 p1)] [] [] true [(e_a8_u32 p1)] _ (.own 3) _ 3 1 _ _ rfl fo30 rfl ⟨trivial, trivial⟩ ⟨.ro _ _ (.data _ (d_a8_u32 p1)), trivial⟩ (congressref07_List_spec p1 _ h2) rfl (by simp) rfl trivial ⟨⟨Nat.le_of_ble_eq_true rfl, _, rfl, fun _ => trivial⟩, trivial⟩ (.own 0 (Nat.le_of_ble_eq_true rfl))), ⟨⟨rfl, trivial⟩, trivial, rfl⟩, rfl,
    Step.plain rfl (does_assign (.tmp 11) (.own 3) trivial), ⟨⟨rfl, trivial⟩, trivial, rfl⟩, rfl, rfl⟩ ?_
  refine aw_cov (cov_prune (s1 := ⟨[(2, (.ptr 0 0 [])), (3, (.ptr 1 0 [])), (4, (.ptr 2 0 [])), (6, (.own 3))], [(0, some (.var (e_api_Core p0))), (1, some (.var (e_a8_u32 p1))), (2, some (.var (e_api_Id z_api_Id))), (3, some (.arr 1 v1.length fun j => (.int .i64 (v1.getD j 0))))], 4⟩) ⟨rfl, rfl, rfl, rfl, trivial⟩ ⟨rfl, rfl, rfl, rfl, trivial⟩ (Nat.le_refl _)) ?_
  refine aw_seq ?_
  obtain ⟨h3, H⟩ := ibg_of H
  refine aw_draw (es := [_, _, _, _, _, _, _, _, _, _, _, _, _, _, _, _, _]) (mixed) ⟨Step.plain rfl (does_move (.tmp 6) (.own 3) trivial), ⟨⟨rfl, trivial⟩, trivial, rfl⟩, rfl,
    Step.plain rfl (does_leno 63 1 v1.length 12 3 (fun j => (.int .i64 (v1.getD j 0))) el63), ⟨⟨rfl, trivial⟩, ⟨rfl, trivial⟩, rfl⟩, rfl,
    Step.plain rfl (does_bin .eql 3 3 (.tmp 13) (.const (.int .i64 0)) .i64 (v1.length : Int) 0 (.bool ((v1.length : Int) == 0)) trivial (fun _ => rfl) (bin_eql _ _ _ _)), ⟨⟨rfl, trivial⟩, trivial, rfl⟩, rfl,
    Step.plain rfl (does_move (.tmp 14) (.bool ((v1.length : Int) == 0)) trivial), ⟨⟨rfl, trivial⟩, trivial, rfl⟩, rfl,
    Step.guarded rfl rfl rfl rfl (fun hc => does_move (.tmp 6) (.own 3) trivial), ⟨⟨rfl, rfl, trivial⟩, trivial, rfl⟩, rfl,
    Step.guarded rfl rfl rfl rfl (fun hc => Does.strip (n' := [(16, (.opt (!((v1.length : Int) == 0)) (.own 3)))]) (n := [(16, (.own 3))]) ⟨(.opt _ _ hc), trivial⟩ (does_indexAddro 63 1 v1.length 16 3 (fun j => (.int .i64 (v1.getD j 0))) (.const (.int .i64 0)) .i64 0 el63 (fun _ => rfl) (h3 hc).1 (h3 hc).2)), ⟨⟨rfl, rfl, trivial⟩, ⟨rfl, trivial⟩, rfl⟩, rfl,
    Step.guarded rfl rfl rfl rfl (fun hc => Does.strip (n' := [(17, (.opt (!((v1.length : Int) == 0)) (.ptr 3 (0 * 1) [0])))]) (n := [(17, (.ptr 3 (0 * 1) [0]))]) ⟨(.opt _ _ hc), trivial⟩ (does_load 3 17 3 (0 * 1) [0] (.arr 1 v1.length fun j => (.int .i64 (v1.getD j 0))) (.int .i64 (v1.getD 0 0)) ⟨(ixl (h3 hc)), trivial⟩ rfl rfl ty3)), ⟨⟨rfl, rfl, trivial⟩, ⟨rfl, trivial⟩, rfl⟩, rfl,
    Step.guarded rfl rfl rfl rfl (fun hc => does_fieldAddr 35 0 0 2 0 0 [] (.var (e_api_Core p0)) fl35_0), ⟨⟨rfl, rfl, trivial⟩, ⟨rfl, trivial⟩, rfl⟩, rfl,
    Step.guarded rfl rfl rfl rfl (fun hc => Does.strip (n' := [(19, (.opt (!((v1.length : Int) == 0)) (.ptr 0 (0 + 0) [0])))]) (n := [(19, (.ptr 0 (0 + 0) [0]))]) ⟨(.opt _ _ hc), trivial⟩ (does_load 3 19 0 (0 + 0) [0] (.var (e_api_Core p0)) (.int .i64 p0.Self) ⟨rfl, Nat.le_of_ble_eq_true rfl, trivial⟩ rfl rfl ty3)), ⟨⟨rfl, rfl, trivial⟩, ⟨rfl, trivial⟩, rfl⟩, rfl,
    Step.guarded rfl rfl rfl rfl (fun hc => Does.strip (n' := [(18, (.opt (!((v1.length : Int) == 0)) (.int .i64 (v1.getD 0 0)))), (20, (.opt (!((v1.length : Int) == 0)) (.int .i64 p0.Self)))]) (n := [(18, (.int .i64 (v1.getD 0 0))), (20, (.int .i64 p0.Self))]) ⟨(.opt _ _ hc), (.opt _ _ hc), trivial⟩ (does_bin .neq 3 3 (.tmp 18) (.tmp 20) .i64 (v1.getD 0 0) p0.Self (.bool ((v1.getD 0 0) != p0.Self)) trivial trivial (bin_neq _ _ _ _))), ⟨⟨rfl, rfl, rfl, trivial⟩, trivial, rfl⟩, rfl,
    Step.plain rfl (does_or 15 21 ((v1.length : Int) == 0) ((v1.getD 0 0) != p0.Self)), ⟨⟨rfl, rfl, trivial⟩, trivial, rfl⟩, rfl,
    Step.plain rfl (does_move (.tmp 22) (.bool (((v1.length : Int) == 0) || ((v1.getD 0 0) != p0.Self))) trivial), ⟨⟨rfl, trivial⟩, trivial, rfl⟩, rfl,
    Step.guarded rfl rfl rfl rfl (fun hc => does_fieldAddr 35 13 188 2 0 0 [] (.var (e_api_Core p0)) fl35_13), ⟨⟨rfl, rfl, trivial⟩, ⟨rfl, trivial⟩, rfl⟩, rfl,
    Step.guarded rfl rfl rfl rfl (fun hc => Does.strip (n' := [(24, (.opt (!(((v1.length : Int) == 0) || ((v1.getD 0 0) != p0.Self))) (.ptr 0 (0 + 188) [13])))]) (n := [(24, (.ptr 0 (0 + 188) [13]))]) ⟨(.opt _ _ hc), trivial⟩ (does_load 22 24 0 (0 + 188) [13] (.var (e_api_Core p0)) (.int .u32 p0.Epoch) ⟨rfl, Nat.le_of_ble_eq_true rfl, trivial⟩ rfl rfl ty22)), ⟨⟨rfl, rfl, trivial⟩, ⟨rfl, trivial⟩, rfl⟩, rfl,
    Step.guarded rfl rfl rfl rfl (fun hc => Does.strip (n' := [(25, (.opt (!(((v1.length : Int) == 0) || ((v1.getD 0 0) != p0.Self))) (.int .u32 p0.Epoch)))]) (n := [(25, (.int .u32 p0.Epoch))]) ⟨(.opt _ _ hc), trivial⟩ (does_bin .add 22 22 (.tmp 25) (.const (.int .u32 1)) .u32 p0.Epoch 1 (.int .u32 (IntKind.u32.wrap (p0.Epoch + 1))) trivial (fun _ => rfl) (bin_add _ _ _ _))), ⟨⟨rfl, rfl, trivial⟩, trivial, rfl⟩, rfl,
    Step.guarded rfl rfl rfl rfl (fun hc => Does.strip (n' := [(26, (.opt (!(((v1.length : Int) == 0) || ((v1.getD 0 0) != p0.Self))) (.int .u32 (IntKind.u32.wrap (p0.Epoch + 1)))))]) (n := [(26, (.int .u32 (IntKind.u32.wrap (p0.Epoch + 1))))]) ⟨(.opt _ _ hc), trivial⟩ (does_bin .eql 22 22 (.tmp 26) (.const (.int .u32 0)) .u32 (IntKind.u32.wrap (p0.Epoch + 1)) 0 (.bool ((IntKind.u32.wrap (p0.Epoch + 1)) == 0)) trivial (fun _ => rfl) (bin_eql _ _ _ _))), ⟨⟨rfl, rfl, trivial⟩, trivial, rfl⟩, rfl,
    Step.plain rfl (does_or 23 27 (((v1.length : Int) == 0) || ((v1.getD 0 0) != p0.Self)) ((IntKind.u32.wrap (p0.Epoch + 1)) == 0)), ⟨⟨rfl, rfl, trivial⟩, trivial, rfl⟩, rfl, rfl⟩ rfl ?_
  obtain ⟨v4, hv4, H⟩ := lt_of H
  refine aw_cov (cov_prune (s1 := ⟨[(2, (.ptr 0 0 [])), (3, (.ptr 1 0 [])), (4, (.ptr 2 0 [])), (6, (.own 3)), (28, (.bool v4))], [(0, some (.var (e_api_Core p0))), (1, some (.var (e_a8_u32 p1))), (2, some (.var (e_api_Id z_api_Id))), (3, some (.arr 1 v1.length fun j => (.int .i64 (v1.getD j 0))))], 4⟩) ⟨rfl, rfl, rfl, rfl, (by subst hv4; rfl), trivial⟩ ⟨rfl, rfl, rfl, rfl, trivial⟩ (Nat.le_refl _)) ?_
  refine aw_cond rfl (fun hc => ?_) (fun hc => ?_)
  · replace H := ite_t hc H
    refine aw_region (es := [_, _, _]) ⟨Step.plain rfl (does_buildT 27 #[] [] [] (.st [1, 1, 1]) (c_api_Id z_api_Id) (c_api_Id ({ Epoch := 0, Coord := 0, Inc := 0 } : api_Id)) rfl bo27 trivial trivial (by funext j; match j with | 0 => rfl | 1 => rfl | 2 => rfl | _ + 3 => rfl)), ⟨trivial, trivial, rfl⟩, rfl,
      Step.plain rfl (does_store 27 4 (.tmp 29) 2 0 [] (.var (e_api_Id z_api_Id)) (.var (e_api_Id ({ Epoch := 0, Coord := 0, Inc := 0 } : api_Id))) (e_api_Id ({ Epoch := 0, Coord := 0, Inc := 0 } : api_Id)) true trivial rfl trivial rfl rfl rfl ty27), ⟨⟨rfl, rfl, trivial⟩, ⟨rfl, trivial⟩, rfl⟩, rfl,
      Step.plain rfl (does_assign (.const (.bool false)) (.bool false) (fun _ => rfl)), ⟨trivial, trivial, rfl⟩, rfl, rfl⟩ ?_
    refine aw_cov (cov_prune (s1 := ⟨[(4, (.ptr 2 0 [])), (5, (.bool false))], [(2, some (.var (e_api_Id ({ Epoch := 0, Coord := 0, Inc := 0 } : api_Id))))], 4⟩) ⟨rfl, rfl, trivial⟩ ⟨rfl, trivial⟩ (Nat.le_refl _)) ?_
    refine aw_ret ?_
    refine rt_then ?_
    exact fun a w hr => ⟨_, [(e_api_Id ({ Epoch := 0, Coord := 0, Inc := 0 } : api_Id)), (.bool false)], hr, ⟨⟨2, _, rfl, rfl, .data _ (d_api_Id ({ Epoch := 0, Coord := 0, Inc := 0 } : api_Id)), ty27⟩, ⟨_, rfl, .data _ trivial⟩, trivial⟩, by decide, by cases H; rfl⟩
  · replace H := ite_f hc H
    refine aw_skip ?_
    refine nx_seq ?_
    refine aw_region (es := [_, _, _, _, _, _, _, _, _, _, _, _, _, _, _, _, _, _, _, _, _, _]) ⟨Step.plain rfl (does_fieldAddr 35 8 40 2 0 0 [] (.var (e_api_Core p0)) fl35_8), ⟨⟨rfl, trivial⟩, ⟨rfl, trivial⟩, rfl⟩, rfl,
      Step.plain rfl (does_fieldAddr 27 1 1 30 0 (0 + 40) [8] (.var (e_api_Core p0)) fl27_1), ⟨⟨rfl, trivial⟩, ⟨rfl, trivial⟩, rfl⟩, rfl,
      Step.plain rfl (does_load 22 31 0 ((0 + 40) + 1) [8, 1] (.var (e_api_Core p0)) (.int .u32 p0.Promise.Coord) ⟨rfl, Nat.le_of_ble_eq_true rfl, ⟨rfl, Nat.le_of_ble_eq_true rfl, trivial⟩⟩ rfl rfl ty22), ⟨⟨rfl, trivial⟩, ⟨rfl, trivial⟩, rfl⟩, rfl,
      Step.plain rfl (does_fieldAddr 35 0 0 2 0 0 [] (.var (e_api_Core p0)) fl35_0), ⟨⟨rfl, trivial⟩, ⟨rfl, trivial⟩, rfl⟩, rfl,
      Step.plain rfl (does_load 3 33 0 (0 + 0) [0] (.var (e_api_Core p0)) (.int .i64 p0.Self) ⟨rfl, Nat.le_of_ble_eq_true rfl, trivial⟩ rfl rfl ty3), ⟨⟨rfl, trivial⟩, ⟨rfl, trivial⟩, rfl⟩, rfl,
      Step.plain rfl (does_convInt 3 22 (.tmp 34) .i64 .u32 p0.Self trivial rfl rfl), ⟨⟨rfl, trivial⟩, trivial, rfl⟩, rfl,
      Step.plain rfl (does_bin .eql 22 22 (.tmp 32) (.tmp 35) .u32 p0.Promise.Coord (IntKind.u32.wrap (p0.Self)) (.bool (p0.Promise.Coord == (IntKind.u32.wrap (p0.Self)))) trivial trivial (bin_eql _ _ _ _)), ⟨⟨rfl, rfl, trivial⟩, trivial, rfl⟩, rfl,
      Step.plain rfl (does_move (.tmp 36) (.bool (p0.Promise.Coord == (IntKind.u32.wrap (p0.Self)))) trivial), ⟨⟨rfl, trivial⟩, trivial, rfl⟩, rfl,
      Step.guarded rfl rfl rfl rfl (fun hc => does_fieldAddr 35 8 40 2 0 0 [] (.var (e_api_Core p0)) fl35_8), ⟨⟨rfl, rfl, trivial⟩, ⟨rfl, trivial⟩, rfl⟩, rfl,
      Step.guarded rfl rfl rfl rfl (fun hc => Does.strip (n' := [(38, (.opt (p0.Promise.Coord == (IntKind.u32.wrap (p0.Self))) (.ptr 0 (0 + 40) [8])))]) (n := [(38, (.ptr 0 (0 + 40) [8]))]) ⟨(.opt _ _ hc), trivial⟩ (does_fieldAddr 27 2 2 38 0 (0 + 40) [8] (.var (e_api_Core p0)) fl27_2)), ⟨⟨rfl, rfl, trivial⟩, ⟨rfl, trivial⟩, rfl⟩, rfl,
      Step.guarded rfl rfl rfl rfl (fun hc => Does.strip (n' := [(39, (.opt (p0.Promise.Coord == (IntKind.u32.wrap (p0.Self))) (.ptr 0 ((0 + 40) + 2) [8, 2])))]) (n := [(39, (.ptr 0 ((0 + 40) + 2) [8, 2]))]) ⟨(.opt _ _ hc), trivial⟩ (does_load 22 39 0 ((0 + 40) + 2) [8, 2] (.var (e_api_Core p0)) (.int .u32 p0.Promise.Inc) ⟨rfl, Nat.le_of_ble_eq_true rfl, ⟨rfl, Nat.le_of_ble_eq_true rfl, trivial⟩⟩ rfl rfl ty22)), ⟨⟨rfl, rfl, trivial⟩, ⟨rfl, trivial⟩, rfl⟩, rfl,
      Step.guarded rfl rfl rfl rfl (fun hc => does_fieldAddr 35 2 2 2 0 0 [] (.var (e_api_Core p0)) fl35_2), ⟨⟨rfl, rfl, trivial⟩, ⟨rfl, trivial⟩, rfl⟩, rfl,
      Step.guarded rfl rfl rfl rfl (fun hc => Does.strip (n' := [(41, (.opt (p0.Promise.Coord == (IntKind.u32.wrap (p0.Self))) (.ptr 0 (0 + 2) [2])))]) (n := [(41, (.ptr 0 (0 + 2) [2]))]) ⟨(.opt _ _ hc), trivial⟩ (does_load 22 41 0 (0 + 2) [2] (.var (e_api_Core p0)) (.int .u32 p0.Own) ⟨rfl, Nat.le_of_ble_eq_true rfl, trivial⟩ rfl rfl ty22)), ⟨⟨rfl, rfl, trivial⟩, ⟨rfl, trivial⟩, rfl⟩, rfl,
      Step.guarded rfl rfl rfl rfl (fun hc => Does.strip (n' := [(40, (.opt (p0.Promise.Coord == (IntKind.u32.wrap (p0.Self))) (.int .u32 p0.Promise.Inc))), (42, (.opt (p0.Promise.Coord == (IntKind.u32.wrap (p0.Self))) (.int .u32 p0.Own)))]) (n := [(40, (.int .u32 p0.Promise.Inc)), (42, (.int .u32 p0.Own))]) ⟨(.opt _ _ hc), (.opt _ _ hc), trivial⟩ (does_bin .eql 22 22 (.tmp 40) (.tmp 42) .u32 p0.Promise.Inc p0.Own (.bool (p0.Promise.Inc == p0.Own)) trivial trivial (bin_eql _ _ _ _))), ⟨⟨rfl, rfl, rfl, trivial⟩, trivial, rfl⟩, rfl,
      Step.plain rfl (does_and 37 43 (p0.Promise.Coord == (IntKind.u32.wrap (p0.Self))) (p0.Promise.Inc == p0.Own)), ⟨⟨rfl, rfl, trivial⟩, trivial, rfl⟩, rfl,
      Step.plain rfl (does_move (.tmp 44) (.bool ((p0.Promise.Coord == (IntKind.u32.wrap (p0.Self))) && (p0.Promise.Inc == p0.Own))) trivial), ⟨⟨rfl, trivial⟩, trivial, rfl⟩, rfl,
      Step.guarded rfl rfl rfl rfl (fun hc => does_fieldAddr 35 9 43 2 0 0 [] (.var (e_api_Core p0)) fl35_9), ⟨⟨rfl, rfl, trivial⟩, ⟨rfl, trivial⟩, rfl⟩, rfl,
      Step.guarded rfl rfl rfl rfl (fun hc => Does.strip (n' := [(46, (.opt ((p0.Promise.Coord == (IntKind.u32.wrap (p0.Self))) && (p0.Promise.Inc == p0.Own)) (.ptr 0 (0 + 43) [9])))]) (n := [(46, (.ptr 0 (0 + 43) [9]))]) ⟨(.opt _ _ hc), trivial⟩ (does_load 28 46 0 (0 + 43) [9] (.var (e_api_Core p0)) (e_a8_u32 p0.Wanted) ⟨rfl, Nat.le_of_ble_eq_true rfl, trivial⟩ rfl rfl ty28)), ⟨⟨rfl, rfl, trivial⟩, ⟨rfl, trivial⟩, rfl⟩, rfl,
      Step.guarded rfl rfl rfl rfl (fun hc => does_load 28 3 1 0 [] (.var (e_a8_u32 p1)) (e_a8_u32 p1) trivial rfl rfl ty28), ⟨⟨rfl, rfl, trivial⟩, ⟨rfl, trivial⟩, rfl⟩, rfl,
      Step.guarded rfl rfl rfl rfl (fun hc => Does.strip (n' := [(47, (.opt ((p0.Promise.Coord == (IntKind.u32.wrap (p0.Self))) && (p0.Promise.Inc == p0.Own)) (e_a8_u32 p0.Wanted))), (48, (.opt ((p0.Promise.Coord == (IntKind.u32.wrap (p0.Self))) && (p0.Promise.Inc == p0.Own)) (e_a8_u32 p1)))]) (n := [(47, (e_a8_u32 p0.Wanted)), (48, (e_a8_u32 p1))]) ⟨(.opt _ _ hc), (.opt _ _ hc), trivial⟩ (does_eqT false 28 28 (.tmp 47) (.tmp 48) (e_a8_u32 p0.Wanted) (e_a8_u32 p1) (e_a8_u32 (fun _ => 0)) (b_a8_u32 p0.Wanted p1) rfl rfl trivial trivial eg28 sh28 (al_a8_u32 _ _) (al_a8_u32 _ _) (q_a8_u32 _ _))), ⟨⟨rfl, rfl, rfl, trivial⟩, trivial, rfl⟩, rfl,
      Step.plain rfl (does_and 45 49 ((p0.Promise.Coord == (IntKind.u32.wrap (p0.Self))) && (p0.Promise.Inc == p0.Own)) (b_a8_u32 p0.Wanted p1)), ⟨⟨rfl, rfl, trivial⟩, trivial, rfl⟩, rfl,
      Step.plain rfl (does_assign (.tmp 50) (.bool (((p0.Promise.Coord == (IntKind.u32.wrap (p0.Self))) && (p0.Promise.Inc == p0.Own)) && (b_a8_u32 p0.Wanted p1))) trivial), ⟨⟨rfl, trivial⟩, trivial, rfl⟩, rfl, rfl⟩ ?_
    obtain ⟨v5, hv5, H⟩ := lt_of H
    refine aw_cov (cov_prune (s1 := ⟨[(2, (.ptr 0 0 [])), (3, (.ptr 1 0 [])), (4, (.ptr 2 0 [])), (6, (.own 3)), (7, (.bool v5))], [(0, some (.var (e_api_Core p0))), (1, some (.var (e_a8_u32 p1))), (2, some (.var (e_api_Id z_api_Id))), (3, some (.arr 1 v1.length fun j => (.int .i64 (v1.getD j 0))))], 4⟩) ⟨rfl, rfl, rfl, rfl, (by subst hv5; rfl), trivial⟩ ⟨rfl, rfl, rfl, rfl, trivial⟩ (Nat.le_refl _)) ?_
    refine aw_seq ?_
    refine aw_region (es := [_]) ⟨Step.plain rfl (does_assign (.const (.int .i64 1)) (.int .i64 1) (fun _ => rfl)), ⟨trivial, trivial, rfl⟩, rfl, rfl⟩ ?_
    refine aw_cov (cov_prune (s1 := ⟨[(2, (.ptr 0 0 [])), (3, (.ptr 1 0 [])), (4, (.ptr 2 0 [])), (6, (.own 3)), (7, (.bool v5)), (8, (.int .i64 1))], [(0, some (.var (e_api_Core p0))), (1, some (.var (e_a8_u32 p1))), (2, some (.var (e_api_Id z_api_Id))), (3, some (.arr 1 v1.length fun j => (.int .i64 (v1.getD j 0))))], 4⟩) ⟨rfl, rfl, rfl, rfl, rfl, rfl, trivial⟩ ⟨rfl, rfl, rfl, rfl, trivial⟩ (Nat.le_refl _)) ?_
    obtain ⟨wn7, hwn7, Hrn7⟩ := bnd H
    refine aw_meet (fun y17 : Bool => (⟨[(2, (.ptr 0 0 [])), (4, (.ptr 2 0 [])), (7, (.bool y17))], [(0, some (.var (e_api_Core p0))), (2, some (.var (e_api_Id z_api_Id)))], 4⟩ : St)) (fun y17 => Fl.nx y17 = wn7) (fun y17 hy => ?_) (aw_block (aw_runs (fun x6 : Bool × Int => (⟨[(2, (.ptr 0 0 [])), (3, (.ptr 1 0 [])), (4, (.ptr 2 0 [])), (6, (.own 3)), (7, (.bool x6.1)), (8, (.int .i64 x6.2))], [(0, some (.var (e_api_Core p0))), (1, some (.var (e_a8_u32 p1))), (2, some (.var (e_api_Id z_api_Id))), (3, some (.arr 1 v1.length fun j => (.int .i64 (v1.getD j 0))))], 4⟩ : St)) hwn7 (cov_prune ⟨rfl, rfl, rfl, rfl, rfl, rfl, trivial⟩ ⟨rfl, rfl, rfl, rfl, trivial⟩ (Nat.le_of_ble_eq_true rfl)) (fun x6 st H hsn7 => ?_)))
    · have H := nx_of hy Hrn7
      refine nx_seq ?_
      refine aw_seq ?_
      refine aw_region (es := [_]) ⟨Step.plain rfl (does_move (.tmp 7) (.bool y17) trivial), ⟨⟨rfl, trivial⟩, trivial, rfl⟩, rfl, rfl⟩ ?_
      refine aw_cov (cov_prune (s1 := ⟨[(2, (.ptr 0 0 [])), (4, (.ptr 2 0 [])), (81, (.bool y17))], [(0, some (.var (e_api_Core p0))), (2, some (.var (e_api_Id z_api_Id)))], 4⟩) ⟨rfl, rfl, rfl, trivial⟩ ⟨rfl, rfl, trivial⟩ (Nat.le_refl _)) ?_
      refine aw_cond rfl (fun hc => ?_) (fun hc => ?_)
      · replace H := ite_t hc H
        refine aw_region (es := [_, _, _]) ⟨Step.plain rfl (does_buildT 27 #[] [] [] (.st [1, 1, 1]) (c_api_Id z_api_Id) (c_api_Id ({ Epoch := 0, Coord := 0, Inc := 0 } : api_Id)) rfl bo27 trivial trivial (by funext j; match j with | 0 => rfl | 1 => rfl | 2 => rfl | _ + 3 => rfl)), ⟨trivial, trivial, rfl⟩, rfl,
          Step.plain rfl (does_store 27 4 (.tmp 82) 2 0 [] (.var (e_api_Id z_api_Id)) (.var (e_api_Id ({ Epoch := 0, Coord := 0, Inc := 0 } : api_Id))) (e_api_Id ({ Epoch := 0, Coord := 0, Inc := 0 } : api_Id)) true trivial rfl trivial rfl rfl rfl ty27), ⟨⟨rfl, rfl, trivial⟩, ⟨rfl, trivial⟩, rfl⟩, rfl,
          Step.plain rfl (does_assign (.const (.bool false)) (.bool false) (fun _ => rfl)), ⟨trivial, trivial, rfl⟩, rfl, rfl⟩ ?_
        refine aw_cov (cov_prune (s1 := ⟨[(4, (.ptr 2 0 [])), (5, (.bool false))], [(2, some (.var (e_api_Id ({ Epoch := 0, Coord := 0, Inc := 0 } : api_Id))))], 4⟩) ⟨rfl, rfl, trivial⟩ ⟨rfl, trivial⟩ (Nat.le_refl _)) ?_
        refine aw_ret ?_
        refine rt_then ?_
        exact fun a w hr => ⟨_, [(e_api_Id ({ Epoch := 0, Coord := 0, Inc := 0 } : api_Id)), (.bool false)], hr, ⟨⟨2, _, rfl, rfl, .data _ (d_api_Id ({ Epoch := 0, Coord := 0, Inc := 0 } : api_Id)), ty27⟩, ⟨_, rfl, .data _ trivial⟩, trivial⟩, by decide, by cases H; rfl⟩
      · replace H := ite_f hc H
        refine aw_skip ?_
        refine nx_seq ?_
        refine aw_region (es := [_, _, _, _, _, _, _, _, _, _, _]) ⟨Step.plain rfl (does_fieldAddr 35 13 188 2 0 0 [] (.var (e_api_Core p0)) fl35_13), ⟨⟨rfl, trivial⟩, ⟨rfl, trivial⟩, rfl⟩, rfl,
          Step.plain rfl (does_load 22 83 0 (0 + 188) [13] (.var (e_api_Core p0)) (.int .u32 p0.Epoch) ⟨rfl, Nat.le_of_ble_eq_true rfl, trivial⟩ rfl rfl ty22), ⟨⟨rfl, trivial⟩, ⟨rfl, trivial⟩, rfl⟩, rfl,
          Step.plain rfl (does_bin .add 22 22 (.tmp 84) (.const (.int .u32 1)) .u32 p0.Epoch 1 (.int .u32 (IntKind.u32.wrap (p0.Epoch + 1))) trivial (fun _ => rfl) (bin_add _ _ _ _)), ⟨⟨rfl, trivial⟩, trivial, rfl⟩, rfl,
          Step.plain rfl (does_fieldAddr 35 0 0 2 0 0 [] (.var (e_api_Core p0)) fl35_0), ⟨⟨rfl, trivial⟩, ⟨rfl, trivial⟩, rfl⟩, rfl,
          Step.plain rfl (does_load 3 86 0 (0 + 0) [0] (.var (e_api_Core p0)) (.int .i64 p0.Self) ⟨rfl, Nat.le_of_ble_eq_true rfl, trivial⟩ rfl rfl ty3), ⟨⟨rfl, trivial⟩, ⟨rfl, trivial⟩, rfl⟩, rfl,
          Step.plain rfl (does_convInt 3 22 (.tmp 87) .i64 .u32 p0.Self trivial rfl rfl), ⟨⟨rfl, trivial⟩, trivial, rfl⟩, rfl,
          Step.plain rfl (does_fieldAddr 35 2 2 2 0 0 [] (.var (e_api_Core p0)) fl35_2), ⟨⟨rfl, trivial⟩, ⟨rfl, trivial⟩, rfl⟩, rfl,
          Step.plain rfl (does_load 22 89 0 (0 + 2) [2] (.var (e_api_Core p0)) (.int .u32 p0.Own) ⟨rfl, Nat.le_of_ble_eq_true rfl, trivial⟩ rfl rfl ty22), ⟨⟨rfl, trivial⟩, ⟨rfl, trivial⟩, rfl⟩, rfl,
          Step.plain rfl (does_buildT 27 #[(0, (.tmp 85)), (1, (.tmp 88)), (2, (.tmp 90))] [(0, (.tmp 85)), (1, (.tmp 88)), (2, (.tmp 90))] [(0, (.int .u32 (IntKind.u32.wrap (p0.Epoch + 1)))), (1, (.int .u32 (IntKind.u32.wrap (p0.Self)))), (2, (.int .u32 p0.Own))] (.st [1, 1, 1]) (c_api_Id z_api_Id) (c_api_Id ({ Epoch := (IntKind.u32.wrap (p0.Epoch + 1)), Coord := (IntKind.u32.wrap (p0.Self)), Inc := p0.Own } : api_Id)) rfl bo27 ⟨⟨rfl, trivial⟩, ⟨rfl, trivial⟩, ⟨rfl, trivial⟩, trivial⟩ ⟨⟨Nat.le_of_ble_eq_true rfl, rfl, rfl⟩, ⟨Nat.le_of_ble_eq_true rfl, rfl, rfl⟩, ⟨Nat.le_of_ble_eq_true rfl, rfl, rfl⟩, trivial⟩ (by funext j; match j with | 0 => rfl | 1 => rfl | 2 => rfl | _ + 3 => rfl)), ⟨⟨rfl, rfl, rfl, trivial⟩, trivial, rfl⟩, rfl,
          Step.plain rfl (does_store 27 4 (.tmp 91) 2 0 [] (.var (e_api_Id z_api_Id)) (.var (e_api_Id ({ Epoch := (IntKind.u32.wrap (p0.Epoch + 1)), Coord := (IntKind.u32.wrap (p0.Self)), Inc := p0.Own } : api_Id))) (e_api_Id ({ Epoch := (IntKind.u32.wrap (p0.Epoch + 1)), Coord := (IntKind.u32.wrap (p0.Self)), Inc := p0.Own } : api_Id)) true trivial rfl trivial rfl rfl rfl ty27), ⟨⟨rfl, rfl, trivial⟩, ⟨rfl, trivial⟩, rfl⟩, rfl,
          Step.plain rfl (does_assign (.const (.bool true)) (.bool true) (fun _ => rfl)), ⟨trivial, trivial, rfl⟩, rfl, rfl⟩ ?_
        obtain ⟨v18, hv18, H⟩ := lt_of H
        refine aw_cov (cov_prune (s1 := ⟨[(4, (.ptr 2 0 [])), (5, (.bool true))], [(2, some (.var (e_api_Id v18)))], 4⟩) ⟨rfl, rfl, trivial⟩ ⟨(by subst hv18; rfl), trivial⟩ (Nat.le_refl _)) ?_
        refine aw_ret ?_
        exact fun a w hr => ⟨_, [(e_api_Id v18), (.bool true)], hr, ⟨⟨2, _, rfl, rfl, .data _ (d_api_Id v18), ty27⟩, ⟨_, rfl, .data _ trivial⟩, trivial⟩, by decide, by cases H; rfl⟩
    · refine aw_seq ?_
      refine aw_region (es := [_, _, _, _]) ⟨Step.plain rfl (does_move (.tmp 8) (.int .i64 x6.2) trivial), ⟨⟨rfl, trivial⟩, trivial, rfl⟩, rfl,
        Step.plain rfl (does_move (.tmp 6) (.own 3) trivial), ⟨⟨rfl, trivial⟩, trivial, rfl⟩, rfl,
        Step.plain rfl (does_leno 63 1 v1.length 52 3 (fun j => (.int .i64 (v1.getD j 0))) el63), ⟨⟨rfl, trivial⟩, ⟨rfl, trivial⟩, rfl⟩, rfl,
        Step.plain rfl (does_bin .lss 3 3 (.tmp 51) (.tmp 53) .i64 x6.2 (v1.length : Int) (.bool (decide (x6.2 < (v1.length : Int)))) trivial trivial (bin_lss _ _ _ _)), ⟨⟨rfl, rfl, trivial⟩, trivial, rfl⟩, rfl, rfl⟩ ?_
      refine aw_cov (cov_prune (s1 := ⟨[(2, (.ptr 0 0 [])), (3, (.ptr 1 0 [])), (4, (.ptr 2 0 [])), (6, (.own 3)), (7, (.bool x6.1)), (8, (.int .i64 x6.2)), (54, (.bool (decide (x6.2 < (v1.length : Int)))))], [(0, some (.var (e_api_Core p0))), (1, some (.var (e_a8_u32 p1))), (2, some (.var (e_api_Id z_api_Id))), (3, some (.arr 1 v1.length fun j => (.int .i64 (v1.getD j 0))))], 4⟩) ⟨rfl, rfl, rfl, rfl, rfl, rfl, rfl, trivial⟩ ⟨rfl, rfl, rfl, rfl, trivial⟩ (Nat.le_refl _)) ?_
      refine aw_cond rfl (fun hc => ?_) (fun hc => ?_)
      · replace H := ite_t hc H
        refine aw_skip ?_
        refine nx_seq ?_
        refine aw_seq ?_
        refine aw_jn (fun x16 : Bool => (⟨[(2, (.ptr 0 0 [])), (3, (.ptr 1 0 [])), (4, (.ptr 2 0 [])), (6, (.own 3)), (7, (.bool x16)), (8, (.int .i64 x6.2))], [(0, some (.var (e_api_Core p0))), (1, some (.var (e_a8_u32 p1))), (2, some (.var (e_api_Id z_api_Id))), (3, some (.arr 1 v1.length fun j => (.int .i64 (v1.getD j 0))))], 5⟩ : St)) H (fun x16 H => ?_) (fun j8 H => ?_)
        · refine nx_seq ?_
          refine aw_region1 (es := [_, _, _]) ⟨Step.plain rfl (does_move (.tmp 8) (.int .i64 x6.2) trivial), ⟨⟨rfl, trivial⟩, trivial, rfl⟩, rfl,
            Step.plain rfl (does_bin .add 3 3 (.tmp 55) (.const (.int .i64 1)) .i64 x6.2 1 (.int .i64 (IntKind.i64.wrap (x6.2 + 1))) trivial (fun _ => rfl) (bin_add _ _ _ _)), ⟨⟨rfl, trivial⟩, trivial, rfl⟩, rfl,
            Step.plain rfl (does_assign (.tmp 56) (.int .i64 (IntKind.i64.wrap (x6.2 + 1))) trivial), ⟨⟨rfl, trivial⟩, trivial, rfl⟩, rfl, rfl⟩ ?_
          exact nx_loop (x16, (IntKind.i64.wrap (x6.2 + 1))) H (cov_of (fun i => match i with | 0 => 0 | 1 => 1 | 2 => 2 | 3 => 3 | k => k) ⟨⟨_, rfl, ⟨rfl, Nat.le_of_ble_eq_true rfl⟩⟩, ⟨_, rfl, ⟨rfl, Nat.le_of_ble_eq_true rfl⟩⟩, ⟨_, rfl, ⟨rfl, Nat.le_of_ble_eq_true rfl⟩⟩, ⟨_, rfl, ⟨rfl, Nat.le_of_ble_eq_true rfl⟩⟩, ⟨_, rfl, ⟨rfl, trivial⟩⟩, ⟨_, rfl, ⟨rfl, trivial⟩⟩, trivial⟩ ⟨⟨Nat.le_of_ble_eq_true rfl, _, _, rfl, rfl, .inl ⟨rfl, (d_api_Core _).plain⟩⟩, ⟨Nat.le_of_ble_eq_true rfl, _, _, rfl, rfl, .inl ⟨rfl, (d_a8_u32 _).plain⟩⟩, ⟨Nat.le_of_ble_eq_true rfl, _, _, rfl, rfl, .inl ⟨rfl, (d_api_Id _).plain⟩⟩, ⟨Nat.le_of_ble_eq_true rfl, _, _, rfl, rfl, ⟨rfl, rfl, fun _ => ⟨rfl, trivial⟩⟩⟩, trivial⟩ rfl)
        · refine aw_block ?_
          obtain ⟨h9, H⟩ := ib_of H
          obtain ⟨h10, H⟩ := ib_of H
          refine aw_region (es := [_, _, _, _, _, _, _, _, _]) ⟨Step.plain rfl (does_move (.tmp 6) (.own 3) trivial), ⟨⟨rfl, trivial⟩, trivial, rfl⟩, rfl,
            Step.plain rfl (does_move (.tmp 8) (.int .i64 x6.2) trivial), ⟨⟨rfl, trivial⟩, trivial, rfl⟩, rfl,
            Step.plain rfl (does_indexAddro 63 1 v1.length 57 3 (fun j => (.int .i64 (v1.getD j 0))) (.tmp 58) .i64 x6.2 el63 trivial h9.1 h9.2), ⟨⟨rfl, rfl, trivial⟩, ⟨rfl, trivial⟩, rfl⟩, rfl,
            Step.plain rfl (does_load 3 59 3 (x6.2.toNat * 1) [x6.2.toNat] (.arr 1 v1.length fun j => (.int .i64 (v1.getD j 0))) (.int .i64 (v1.getD x6.2.toNat 0)) ⟨(ixl h9), trivial⟩ rfl rfl ty3), ⟨⟨rfl, trivial⟩, ⟨rfl, trivial⟩, rfl⟩, rfl,
            Step.plain rfl (does_fieldAddr 35 12 60 2 0 0 [] (.var (e_api_Core p0)) fl35_12), ⟨⟨rfl, trivial⟩, ⟨rfl, trivial⟩, rfl⟩, rfl,
            Step.plain rfl (does_indexAddr 33 8 16 61 0 (0 + 60) [12] (.var (e_api_Core p0)) (.tmp 60) .i64 (v1.getD x6.2.toNat 0) el33 trivial h10.1 h10.2), ⟨⟨rfl, rfl, trivial⟩, ⟨rfl, trivial⟩, rfl⟩, rfl,
            Step.plain rfl (does_load 32 62 0 ((0 + 60) + (v1.getD x6.2.toNat 0).toNat * 16) [12, (v1.getD x6.2.toNat 0).toNat] (.var (e_api_Core p0)) (e_api_Peer (p0.Peers ((v1.getD x6.2.toNat 0).toNat))) ⟨rfl, Nat.le_of_ble_eq_true rfl, ⟨rfl, (ixl h10), trivial⟩⟩ rfl rfl ty32), ⟨⟨rfl, trivial⟩, ⟨rfl, trivial⟩, rfl⟩, rfl,
            Step.plain rfl (does_alloc 32 4 (e_api_Peer z_api_Peer) zr32), ⟨trivial, trivial, rfl⟩, rfl,
            Step.plain rfl (does_store 32 9 (.tmp 63) 4 0 [] (.var (e_api_Peer z_api_Peer)) (.var (e_api_Peer (p0.Peers ((v1.getD x6.2.toNat 0).toNat)))) (e_api_Peer (p0.Peers ((v1.getD x6.2.toNat 0).toNat))) true trivial rfl trivial rfl rfl rfl ty32), ⟨⟨rfl, rfl, trivial⟩, ⟨rfl, trivial⟩, rfl⟩, rfl, rfl⟩ ?_
          refine aw_cov (cov_prune (s1 := ⟨[(2, (.ptr 0 0 [])), (3, (.ptr 1 0 [])), (4, (.ptr 2 0 [])), (6, (.own 3)), (7, (.bool x6.1)), (8, (.int .i64 x6.2)), (9, (.ptr 4 0 []))], [(0, some (.var (e_api_Core p0))), (1, some (.var (e_a8_u32 p1))), (2, some (.var (e_api_Id z_api_Id))), (3, some (.arr 1 v1.length fun j => (.int .i64 (v1.getD j 0)))), (4, some (.var (e_api_Peer (p0.Peers ((v1.getD x6.2.toNat 0).toNat)))))], 5⟩) ⟨rfl, rfl, rfl, rfl, rfl, rfl, rfl, trivial⟩ ⟨rfl, rfl, rfl, rfl, rfl, trivial⟩ (Nat.le_refl _)) ?_
          obtain ⟨h11, H⟩ := ib_of H
          obtain ⟨h12, H⟩ := ib_of H
          obtain ⟨v13, h14, H⟩ := whn_of H
          refine aw_draw (es := [_, _, _, _, _, _, _, _, _, _, _, _, _, _, _, _, _]) (mixed) ⟨Step.plain rfl (does_fieldAddr 32 0 0 9 4 0 [] (.var (e_api_Peer (p0.Peers ((v1.getD x6.2.toNat 0).toNat)))) fl32_0), ⟨⟨rfl, trivial⟩, ⟨rfl, trivial⟩, rfl⟩, rfl,
            Step.plain rfl (does_load 22 64 4 (0 + 0) [0] (.var (e_api_Peer (p0.Peers ((v1.getD x6.2.toNat 0).toNat)))) (.int .u32 ((p0.Peers ((v1.getD x6.2.toNat 0).toNat)).Inc)) ⟨rfl, Nat.le_of_ble_eq_true rfl, trivial⟩ rfl rfl ty22), ⟨⟨rfl, trivial⟩, ⟨rfl, trivial⟩, rfl⟩, rfl,
            Step.plain rfl (does_move (.tmp 6) (.own 3) trivial), ⟨⟨rfl, trivial⟩, trivial, rfl⟩, rfl,
            Step.plain rfl (does_move (.tmp 8) (.int .i64 x6.2) trivial), ⟨⟨rfl, trivial⟩, trivial, rfl⟩, rfl,
            Step.plain rfl (does_indexAddro 63 1 v1.length 66 3 (fun j => (.int .i64 (v1.getD j 0))) (.tmp 67) .i64 x6.2 el63 trivial h11.1 h11.2), ⟨⟨rfl, rfl, trivial⟩, ⟨rfl, trivial⟩, rfl⟩, rfl,
            Step.plain rfl (does_load 3 68 3 (x6.2.toNat * 1) [x6.2.toNat] (.arr 1 v1.length fun j => (.int .i64 (v1.getD j 0))) (.int .i64 (v1.getD x6.2.toNat 0)) ⟨(ixl h11), trivial⟩ rfl rfl ty3), ⟨⟨rfl, trivial⟩, ⟨rfl, trivial⟩, rfl⟩, rfl,
            Step.plain rfl (does_indexAddr 28 8 1 3 1 0 [] (.var (e_a8_u32 p1)) (.tmp 69) .i64 (v1.getD x6.2.toNat 0) el28 trivial h12.1 h12.2), ⟨⟨rfl, rfl, trivial⟩, ⟨rfl, trivial⟩, rfl⟩, rfl,
            Step.plain rfl (does_load 22 70 1 (0 + (v1.getD x6.2.toNat 0).toNat * 1) [(v1.getD x6.2.toNat 0).toNat] (.var (e_a8_u32 p1)) (.int .u32 (p1 ((v1.getD x6.2.toNat 0).toNat))) ⟨rfl, (ixl h12), trivial⟩ rfl rfl ty22), ⟨⟨rfl, trivial⟩, ⟨rfl, trivial⟩, rfl⟩, rfl,
            Step.plain rfl (does_bin .eql 22 22 (.tmp 65) (.tmp 71) .u32 ((p0.Peers ((v1.getD x6.2.toNat 0).toNat)).Inc) (p1 ((v1.getD x6.2.toNat 0).toNat)) (.bool (((p0.Peers ((v1.getD x6.2.toNat 0).toNat)).Inc) == (p1 ((v1.getD x6.2.toNat 0).toNat)))) trivial trivial (bin_eql _ _ _ _)), ⟨⟨rfl, rfl, trivial⟩, trivial, rfl⟩, rfl,
            Step.plain rfl (does_move (.tmp 72) (.bool (((p0.Peers ((v1.getD x6.2.toNat 0).toNat)).Inc) == (p1 ((v1.getD x6.2.toNat 0).toNat)))) trivial), ⟨⟨rfl, trivial⟩, trivial, rfl⟩, rfl,
            Step.guarded rfl rfl rfl rfl (fun hc => does_fieldAddr 32 2 4 9 4 0 [] (.var (e_api_Peer (p0.Peers ((v1.getD x6.2.toNat 0).toNat)))) fl32_2), ⟨⟨rfl, rfl, trivial⟩, ⟨rfl, trivial⟩, rfl⟩, rfl,
            Step.guarded rfl rfl rfl rfl (fun hc => Does.strip (n' := [(74, (.opt (((p0.Peers ((v1.getD x6.2.toNat 0).toNat)).Inc) == (p1 ((v1.getD x6.2.toNat 0).toNat))) (.ptr 4 (0 + 4) [2])))]) (n := [(74, (.ptr 4 (0 + 4) [2]))]) ⟨(.opt _ _ hc), trivial⟩ (does_load 27 74 4 (0 + 4) [2] (.var (e_api_Peer (p0.Peers ((v1.getD x6.2.toNat 0).toNat)))) (e_api_Id ((p0.Peers ((v1.getD x6.2.toNat 0).toNat)).Promise)) ⟨rfl, Nat.le_of_ble_eq_true rfl, trivial⟩ rfl rfl ty27)), ⟨⟨rfl, rfl, trivial⟩, ⟨rfl, trivial⟩, rfl⟩, rfl,
            Step.guarded rfl rfl rfl rfl (fun hc => does_fieldAddr 35 8 40 2 0 0 [] (.var (e_api_Core p0)) fl35_8), ⟨⟨rfl, rfl, trivial⟩, ⟨rfl, trivial⟩, rfl⟩, rfl,
            Step.guarded rfl rfl rfl rfl (fun hc => Does.strip (n' := [(76, (.opt (((p0.Peers ((v1.getD x6.2.toNat 0).toNat)).Inc) == (p1 ((v1.getD x6.2.toNat 0).toNat))) (.ptr 0 (0 + 40) [8])))]) (n := [(76, (.ptr 0 (0 + 40) [8]))]) ⟨(.opt _ _ hc), trivial⟩ (does_load 27 76 0 (0 + 40) [8] (.var (e_api_Core p0)) (e_api_Id p0.Promise) ⟨rfl, Nat.le_of_ble_eq_true rfl, trivial⟩ rfl rfl ty27)), ⟨⟨rfl, rfl, trivial⟩, ⟨rfl, trivial⟩, rfl⟩, rfl,
            Step.guarded rfl rfl rfl rfl (fun hc => Does.strip (n' := [(75, (.opt (((p0.Peers ((v1.getD x6.2.toNat 0).toNat)).Inc) == (p1 ((v1.getD x6.2.toNat 0).toNat))) (e_api_Id ((p0.Peers ((v1.getD x6.2.toNat 0).toNat)).Promise)))), (77, (.opt (((p0.Peers ((v1.getD x6.2.toNat 0).toNat)).Inc) == (p1 ((v1.getD x6.2.toNat 0).toNat))) (e_api_Id p0.Promise)))]) (n := [(75, (e_api_Id ((p0.Peers ((v1.getD x6.2.toNat 0).toNat)).Promise))), (77, (e_api_Id p0.Promise))]) ⟨(.opt _ _ hc), (.opt _ _ hc), trivial⟩ (does_call 10 0 (fun _ => .any) (.func 10) [(.tmp 75), (.tmp 77)] [(e_api_Id ((p0.Peers ((v1.getD x6.2.toNat 0).toNat)).Promise)), (e_api_Id p0.Promise)] [] true [(e_api_Id ((p0.Peers ((v1.getD x6.2.toNat 0).toNat)).Promise)), (e_api_Id p0.Promise)] (.int .i64 v13) _ _ rfl fo10 rfl ⟨trivial, trivial, trivial⟩ ⟨.data _ (d_api_Id ((p0.Peers ((v1.getD x6.2.toNat 0).toNat)).Promise)), .data _ (d_api_Id p0.Promise), trivial⟩ (congressref07_Compare_spec ((p0.Peers ((v1.getD x6.2.toNat 0).toNat)).Promise) p0.Promise _ (h14 hc)) trivial)), ⟨⟨rfl, rfl, rfl, trivial⟩, trivial, rfl⟩, rfl,
            Step.guarded rfl rfl rfl rfl (fun hc => Does.strip (n' := [(78, (.opt (((p0.Peers ((v1.getD x6.2.toNat 0).toNat)).Inc) == (p1 ((v1.getD x6.2.toNat 0).toNat))) (.int .i64 v13)))]) (n := [(78, (.int .i64 v13))]) ⟨(.opt _ _ hc), trivial⟩ (does_bin .eql 3 3 (.tmp 78) (.const (.int .i64 1)) .i64 v13 1 (.bool (v13 == 1)) trivial (fun _ => rfl) (bin_eql _ _ _ _))), ⟨⟨rfl, rfl, trivial⟩, trivial, rfl⟩, rfl,
            Step.plain rfl (does_and 73 79 (((p0.Peers ((v1.getD x6.2.toNat 0).toNat)).Inc) == (p1 ((v1.getD x6.2.toNat 0).toNat))) (v13 == 1)), ⟨⟨rfl, rfl, trivial⟩, trivial, rfl⟩, rfl, rfl⟩ rfl ?_
          obtain ⟨v15, hv15, H⟩ := lt_of H
          refine aw_cov (cov_prune (s1 := ⟨[(2, (.ptr 0 0 [])), (3, (.ptr 1 0 [])), (4, (.ptr 2 0 [])), (6, (.own 3)), (7, (.bool x6.1)), (8, (.int .i64 x6.2)), (80, (.bool v15))], [(0, some (.var (e_api_Core p0))), (1, some (.var (e_a8_u32 p1))), (2, some (.var (e_api_Id z_api_Id))), (3, some (.arr 1 v1.length fun j => (.int .i64 (v1.getD j 0))))], 5⟩) ⟨rfl, rfl, rfl, rfl, rfl, rfl, (by subst hv15; rfl), trivial⟩ ⟨rfl, rfl, rfl, rfl, trivial⟩ (Nat.le_refl _)) ?_
          refine aw_cond rfl (fun hc => ?_) (fun hc => ?_)
          · replace H := ite_t hc H
            refine aw_region1 (es := [_]) ⟨Step.plain rfl (does_assign (.const (.bool false)) (.bool false) (fun _ => rfl)), ⟨trivial, trivial, rfl⟩, rfl, rfl⟩ ?_
            refine nx_blk ?_
            exact nx_join (false) H (cov_prune ⟨rfl, rfl, rfl, rfl, rfl, rfl, trivial⟩ ⟨rfl, rfl, rfl, rfl, trivial⟩ (Nat.le_of_ble_eq_true rfl))
          · replace H := ite_f hc H
            refine aw_skip ?_
            refine nx_blk ?_
            exact nx_join (x6.1) H (cov_prune ⟨rfl, rfl, rfl, rfl, rfl, rfl, trivial⟩ ⟨rfl, rfl, rfl, rfl, trivial⟩ (Nat.le_of_ble_eq_true rfl))
      · replace H := ite_f hc H
        refine aw_exit ?_
        refine ex_then ?_
        refine ex_then ?_
        refine ex_here ?_
        exact nx_ljoin (x6.1) H hsn7 (cov_prune ⟨rfl, rfl, rfl, trivial⟩ ⟨rfl, rfl, trivial⟩ (Nat.le_of_ble_eq_true rfl))

theorem congressref12_Adopt_spec (p0 : api_Id) (p1 : Int) (p2 : Int) (p3 : api_Packet) (r : Bool) (H : congressref12_Adopt p0 p1 p2 p3 = some r) : FSpec Try.prog 15 [(e_api_Id p0), (.int .i64 p1), (.int .u32 p2), (e_api_Packet p3)] (.bool r) := by
  refine spec_of (fn := Try.f15) (args := [(e_api_Id p0), (.int .i64 p1), (.int .u32 p2), (e_api_Packet p3)]) Try.func15 rfl (Nat.le_of_ble_eq_true rfl) ?_
  rintro ⟨G, w0, W, S, Sp⟩ hG
  cases hG
  unfold congressref12_Adopt at H
  refine aw_region (es := [_, _, _]) ⟨Step.plain rfl (does_box 27 (.tmp 0) 0 (e_api_Id p0) trivial rfl), ⟨⟨rfl, trivial⟩, trivial, rfl⟩, rfl,
    Step.plain rfl (does_box 43 (.tmp 3) 1 (e_api_Packet p3) trivial rfl), ⟨⟨rfl, trivial⟩, trivial, rfl⟩, rfl,
    Step.plain rfl (does_assign (.const (.bool false)) (.bool false) (fun _ => rfl)), ⟨trivial, trivial, rfl⟩, rfl, rfl⟩ ?_
  refine aw_cov (cov_prune (s1 := ⟨[(1, (.int .i64 p1)), (2, (.int .u32 p2)), (4, (.ptr 0 0 [])), (7, (.ptr 1 0 []))], [(0, some (.var (e_api_Id p0))), (1, some (.var (e_api_Packet p3)))], 2⟩) ⟨rfl, rfl, rfl, rfl, trivial⟩ ⟨rfl, rfl, trivial⟩ (Nat.le_refl _)) ?_
  refine aw_seq ?_
  refine aw_region (es := [_, _, _, _, _, _, _, _, _, _]) ⟨Step.plain rfl (does_move (.tmp 1) (.int .i64 p1) trivial), ⟨⟨rfl, trivial⟩, trivial, rfl⟩, rfl,
    Step.plain rfl (does_bin .lss 3 3 (.tmp 9) (.const (.int .i64 0)) .i64 p1 0 (.bool (decide (p1 < 0))) trivial (fun _ => rfl) (bin_lss _ _ _ _)), ⟨⟨rfl, trivial⟩, trivial, rfl⟩, rfl,
    Step.plain rfl (does_move (.tmp 10) (.bool (decide (p1 < 0))) trivial), ⟨⟨rfl, trivial⟩, trivial, rfl⟩, rfl,
    Step.guarded rfl rfl rfl rfl (fun hc => does_move (.tmp 1) (.int .i64 p1) trivial), ⟨⟨rfl, rfl, trivial⟩, trivial, rfl⟩, rfl,
    Step.guarded rfl rfl rfl rfl (fun hc => Does.strip (n' := [(12, (.opt (!(decide (p1 < 0))) (.int .i64 p1)))]) (n := [(12, (.int .i64 p1))]) ⟨(.opt _ _ hc), trivial⟩ (does_bin .gtr 3 3 (.tmp 12) (.const (.int .i64 7)) .i64 p1 7 (.bool (decide (p1 > 7))) trivial (fun _ => rfl) (bin_gtr _ _ _ _))), ⟨⟨rfl, rfl, trivial⟩, trivial, rfl⟩, rfl,
    Step.plain rfl (does_or 11 13 (decide (p1 < 0)) (decide (p1 > 7))), ⟨⟨rfl, rfl, trivial⟩, trivial, rfl⟩, rfl,
    Step.plain rfl (does_move (.tmp 14) (.bool ((decide (p1 < 0)) || (decide (p1 > 7)))) trivial), ⟨⟨rfl, trivial⟩, trivial, rfl⟩, rfl,
    Step.guarded rfl rfl rfl rfl (fun hc => does_move (.tmp 2) (.int .u32 p2) trivial), ⟨⟨rfl, rfl, trivial⟩, trivial, rfl⟩, rfl,
    Step.guarded rfl rfl rfl rfl (fun hc => Does.strip (n' := [(16, (.opt (!((decide (p1 < 0)) || (decide (p1 > 7)))) (.int .u32 p2)))]) (n := [(16, (.int .u32 p2))]) ⟨(.opt _ _ hc), trivial⟩ (does_bin .eql 22 22 (.tmp 16) (.const (.int .u32 0)) .u32 p2 0 (.bool (p2 == 0)) trivial (fun _ => rfl) (bin_eql _ _ _ _))), ⟨⟨rfl, rfl, trivial⟩, trivial, rfl⟩, rfl,
    Step.plain rfl (does_or 15 17 ((decide (p1 < 0)) || (decide (p1 > 7))) (p2 == 0)), ⟨⟨rfl, rfl, trivial⟩, trivial, rfl⟩, rfl, rfl⟩ ?_
  refine aw_cov (cov_prune (s1 := ⟨[(1, (.int .i64 p1)), (2, (.int .u32 p2)), (4, (.ptr 0 0 [])), (7, (.ptr 1 0 [])), (18, (.bool (((decide (p1 < 0)) || (decide (p1 > 7))) || (p2 == 0))))], [(0, some (.var (e_api_Id p0))), (1, some (.var (e_api_Packet p3)))], 2⟩) ⟨rfl, rfl, rfl, rfl, rfl, trivial⟩ ⟨rfl, rfl, trivial⟩ (Nat.le_refl _)) ?_
  refine aw_cond rfl (fun hc => ?_) (fun hc => ?_)
  · replace H := ite_t hc H
    refine aw_region (es := [_]) ⟨Step.plain rfl (does_assign (.const (.bool false)) (.bool false) (fun _ => rfl)), ⟨trivial, trivial, rfl⟩, rfl, rfl⟩ ?_
    refine aw_cov (cov_prune (s1 := ⟨[(8, (.bool false))], [], 2⟩) ⟨rfl, trivial⟩ trivial (Nat.le_refl _)) ?_
    refine aw_ret ?_
    refine rt_then ?_
    exact fun a w hr => ⟨_, [(.bool false)], hr, ⟨⟨_, rfl, .data _ trivial⟩, trivial⟩, by decide, by cases H; rfl⟩
  · replace H := ite_f hc H
    refine aw_skip ?_
    refine nx_seq ?_
    obtain ⟨v1, h2, H⟩ := bnd H
    obtain ⟨h3, H⟩ := ibg_of H
    refine aw_region (es := [_, _, _, _, _, _, _, _, _, _, _, _, _, _]) ⟨Step.plain rfl (does_fieldAddr 43 5 21 7 1 0 [] (.var (e_api_Packet p3)) fl43_5), ⟨⟨rfl, trivial⟩, ⟨rfl, trivial⟩, rfl⟩, rfl,
      Step.plain rfl (does_load 27 19 1 (0 + 21) [5] (.var (e_api_Packet p3)) (e_api_Id p3.Promise) ⟨rfl, Nat.le_of_ble_eq_true rfl, trivial⟩ rfl rfl ty27), ⟨⟨rfl, trivial⟩, ⟨rfl, trivial⟩, rfl⟩, rfl,
      Step.plain rfl (does_load 27 4 0 0 [] (.var (e_api_Id p0)) (e_api_Id p0) trivial rfl rfl ty27), ⟨⟨rfl, trivial⟩, ⟨rfl, trivial⟩, rfl⟩, rfl,
      Step.plain rfl (does_call 10 0 (fun _ => .any) (.func 10) [(.tmp 20), (.tmp 21)] [(e_api_Id p3.Promise), (e_api_Id p0)] [] true [(e_api_Id p3.Promise), (e_api_Id p0)] (.int .i64 v1) _ _ rfl fo10 rfl ⟨trivial, trivial, trivial⟩ ⟨.data _ (d_api_Id p3.Promise), .data _ (d_api_Id p0), trivial⟩ (congressref07_Compare_spec p3.Promise p0 _ h2) trivial), ⟨⟨rfl, rfl, trivial⟩, trivial, rfl⟩, rfl,
      Step.plain rfl (does_bin .eql 3 3 (.tmp 22) (.const (.int .i64 1)) .i64 v1 1 (.bool (v1 == 1)) trivial (fun _ => rfl) (bin_eql _ _ _ _)), ⟨⟨rfl, trivial⟩, trivial, rfl⟩, rfl,
      Step.plain rfl (does_move (.tmp 23) (.bool (v1 == 1)) trivial), ⟨⟨rfl, trivial⟩, trivial, rfl⟩, rfl,
      Step.guarded rfl rfl rfl rfl (fun hc => does_move (.tmp 1) (.int .i64 p1) trivial), ⟨⟨rfl, rfl, trivial⟩, trivial, rfl⟩, rfl,
      Step.guarded rfl rfl rfl rfl (fun hc => does_fieldAddr 43 6 24 7 1 0 [] (.var (e_api_Packet p3)) fl43_6), ⟨⟨rfl, rfl, trivial⟩, ⟨rfl, trivial⟩, rfl⟩, rfl,
      Step.guarded rfl rfl rfl rfl (fun hc => Does.strip (n' := [(26, (.opt (v1 == 1) (.ptr 1 (0 + 24) [6]))), (25, (.opt (v1 == 1) (.int .i64 p1)))]) (n := [(26, (.ptr 1 (0 + 24) [6])), (25, (.int .i64 p1))]) ⟨(.opt _ _ hc), (.opt _ _ hc), trivial⟩ (does_indexAddr 28 8 1 26 1 (0 + 24) [6] (.var (e_api_Packet p3)) (.tmp 25) .i64 p1 el28 trivial (h3 hc).1 (h3 hc).2)), ⟨⟨rfl, rfl, rfl, trivial⟩, ⟨rfl, trivial⟩, rfl⟩, rfl,
      Step.guarded rfl rfl rfl rfl (fun hc => Does.strip (n' := [(27, (.opt (v1 == 1) (.ptr 1 ((0 + 24) + p1.toNat * 1) [6, p1.toNat])))]) (n := [(27, (.ptr 1 ((0 + 24) + p1.toNat * 1) [6, p1.toNat]))]) ⟨(.opt _ _ hc), trivial⟩ (does_load 22 27 1 ((0 + 24) + p1.toNat * 1) [6, p1.toNat] (.var (e_api_Packet p3)) (.int .u32 (p3.Wanted p1.toNat)) ⟨rfl, Nat.le_of_ble_eq_true rfl, ⟨rfl, (ixl (h3 hc)), trivial⟩⟩ rfl rfl ty22)), ⟨⟨rfl, rfl, trivial⟩, ⟨rfl, trivial⟩, rfl⟩, rfl,
      Step.guarded rfl rfl rfl rfl (fun hc => does_move (.tmp 2) (.int .u32 p2) trivial), ⟨⟨rfl, rfl, trivial⟩, trivial, rfl⟩, rfl,
      Step.guarded rfl rfl rfl rfl (fun hc => Does.strip (n' := [(28, (.opt (v1 == 1) (.int .u32 (p3.Wanted p1.toNat)))), (29, (.opt (v1 == 1) (.int .u32 p2)))]) (n := [(28, (.int .u32 (p3.Wanted p1.toNat))), (29, (.int .u32 p2))]) ⟨(.opt _ _ hc), (.opt _ _ hc), trivial⟩ (does_bin .eql 22 22 (.tmp 28) (.tmp 29) .u32 (p3.Wanted p1.toNat) p2 (.bool ((p3.Wanted p1.toNat) == p2)) trivial trivial (bin_eql _ _ _ _))), ⟨⟨rfl, rfl, rfl, trivial⟩, trivial, rfl⟩, rfl,
      Step.plain rfl (does_and 24 30 (v1 == 1) ((p3.Wanted p1.toNat) == p2)), ⟨⟨rfl, rfl, trivial⟩, trivial, rfl⟩, rfl,
      Step.plain rfl (does_assign (.tmp 31) (.bool ((v1 == 1) && ((p3.Wanted p1.toNat) == p2))) trivial), ⟨⟨rfl, trivial⟩, trivial, rfl⟩, rfl, rfl⟩ ?_
    refine aw_cov (cov_prune (s1 := ⟨[(8, (.bool ((v1 == 1) && ((p3.Wanted p1.toNat) == p2))))], [], 2⟩) ⟨rfl, trivial⟩ trivial (Nat.le_refl _)) ?_
    refine aw_ret ?_
    exact fun a w hr => ⟨_, [(.bool ((v1 == 1) && ((p3.Wanted p1.toNat) == p2)))], hr, ⟨⟨_, rfl, .data _ trivial⟩, trivial⟩, by decide, by cases H; rfl⟩

theorem congressref11_Union_spec (p0 : (_root_.List (Nat → Int))) (r : (Nat → Int)) (H : congressref11_Union p0 = some r) : FSpec Try.prog 31 [(e_s_a8_u32 p0)] (e_a8_u32 r) := by
  refine spec_of (fn := Try.f31) (args := [(e_s_a8_u32 p0)]) Try.func31 rfl (Nat.le_of_ble_eq_true rfl) ?_
  rintro ⟨G, w0, W, S, Sp⟩ hG
  cases hG
  unfold congressref11_Union at H
  refine aw_region (es := [_]) ⟨Step.plain rfl (does_alloc 29 0 (e_a8_u32 (fun _ => 0)) zr29), ⟨trivial, trivial, rfl⟩, rfl, rfl⟩ ?_
  refine aw_cov (cov_prune (s1 := ⟨[(0, (e_s_a8_u32 p0)), (2, (.ptr 0 0 []))], [(0, some (.var (e_a8_u32 (fun _ => 0))))], 1⟩) ⟨rfl, rfl, trivial⟩ ⟨rfl, trivial⟩ (Nat.le_refl _)) ?_
  refine aw_region (es := [_, _, _]) ⟨Step.plain rfl (does_buildT 29 #[] [] [] (.ar 8 1) (fun j => (.int .u32 ((fun _ => 0) j))) (fun j => (.int .u32 ((aset (fun _ => 0) []) j))) rfl bo29 trivial trivial (setAll_map (fun z => V.int .u32 z) [] _)), ⟨trivial, trivial, rfl⟩, rfl,
    Step.plain rfl (does_alloc 29 1 (e_a8_u32 (fun _ => 0)) zr29), ⟨trivial, trivial, rfl⟩, rfl,
    Step.plain rfl (does_store 29 3 (.tmp 6) 1 0 [] (.var (e_a8_u32 (fun _ => 0))) (.var (e_a8_u32 (aset (fun _ => 0) []))) (e_a8_u32 (aset (fun _ => 0) [])) true trivial rfl trivial rfl rfl rfl ty29), ⟨⟨rfl, rfl, trivial⟩, ⟨rfl, trivial⟩, rfl⟩, rfl, rfl⟩ ?_
  refine aw_cov (cov_prune (s1 := ⟨[(0, (e_s_a8_u32 p0)), (2, (.ptr 0 0 [])), (3, (.ptr 1 0 []))], [(0, some (.var (e_a8_u32 (fun _ => 0)))), (1, some (.var (e_a8_u32 (aset (fun _ => 0) []))))], 2⟩) ⟨rfl, rfl, rfl, trivial⟩ ⟨rfl, rfl, trivial⟩ (Nat.le_refl _)) ?_
  refine aw_seq ?_
  refine aw_region (es := [_]) ⟨Step.plain rfl (does_assign (.const (.int .i64 0)) (.int .i64 0) (fun _ => rfl)), ⟨trivial, trivial, rfl⟩, rfl, rfl⟩ ?_
  refine aw_cov (cov_prune (s1 := ⟨[(0, (e_s_a8_u32 p0)), (2, (.ptr 0 0 [])), (3, (.ptr 1 0 [])), (4, (.int .i64 0))], [(0, some (.var (e_a8_u32 (fun _ => 0)))), (1, some (.var (e_a8_u32 (aset (fun _ => 0) []))))], 2⟩) ⟨rfl, rfl, rfl, rfl, trivial⟩ ⟨rfl, rfl, trivial⟩ (Nat.le_refl _)) ?_
  obtain ⟨wn2, hwn2, Hrn2⟩ := bnd H
  refine aw_meet (fun y15 : (Nat → Int) => (⟨[(2, (.ptr 0 0 [])), (3, (.ptr 1 0 []))], [(0, some (.var (e_a8_u32 (fun _ => 0)))), (1, some (.var (e_a8_u32 y15)))], 2⟩ : St)) (fun y15 => Fl.nx y15 = wn2) (fun y15 hy => ?_) (aw_block (aw_runs (fun x1 : Int × (Nat → Int) => (⟨[(0, (e_s_a8_u32 p0)), (2, (.ptr 0 0 [])), (3, (.ptr 1 0 [])), (4, (.int .i64 x1.1))], [(0, some (.var (e_a8_u32 (fun _ => 0)))), (1, some (.var (e_a8_u32 x1.2)))], 2⟩ : St)) hwn2 (cov_prune ⟨rfl, rfl, rfl, rfl, trivial⟩ ⟨rfl, rfl, trivial⟩ (Nat.le_of_ble_eq_true rfl)) (fun x1 st H hsn2 => ?_)))
  · have H := nx_of hy Hrn2
    refine nx_seq ?_
    refine aw_region (es := [_, _]) ⟨Step.plain rfl (does_load 29 3 1 0 [] (.var (e_a8_u32 y15)) (e_a8_u32 y15) trivial rfl rfl ty29), ⟨⟨rfl, trivial⟩, ⟨rfl, trivial⟩, rfl⟩, rfl,
      Step.plain rfl (does_store 29 2 (.tmp 35) 0 0 [] (.var (e_a8_u32 (fun _ => 0))) (.var (e_a8_u32 y15)) (e_a8_u32 y15) true trivial rfl trivial rfl rfl rfl ty29), ⟨⟨rfl, rfl, trivial⟩, ⟨rfl, trivial⟩, rfl⟩, rfl, rfl⟩ ?_
    refine aw_cov (cov_prune (s1 := ⟨[(2, (.ptr 0 0 []))], [(0, some (.var (e_a8_u32 y15)))], 2⟩) ⟨rfl, trivial⟩ ⟨rfl, trivial⟩ (Nat.le_refl _)) ?_
    refine aw_ret ?_
    exact fun a w hr => ⟨_, [(e_a8_u32 y15)], hr, ⟨⟨0, _, rfl, rfl, .data _ (d_a8_u32 y15), ty29⟩, trivial⟩, by decide, by cases H; rfl⟩
  · refine aw_seq ?_
    refine aw_region (es := [_, _, _, _]) ⟨Step.plain rfl (does_move (.tmp 4) (.int .i64 x1.1) trivial), ⟨⟨rfl, trivial⟩, trivial, rfl⟩, rfl,
      Step.plain rfl (does_move (.tmp 0) (e_s_a8_u32 p0) trivial), ⟨⟨rfl, trivial⟩, trivial, rfl⟩, rfl,
      Step.plain rfl (does_lens 67 8 p0.length 8 (fun j => (e_a8_u32 (p0.getD j (fun _ => 0)))) el67), ⟨⟨rfl, trivial⟩, trivial, rfl⟩, rfl,
      Step.plain rfl (does_bin .lss 3 3 (.tmp 7) (.tmp 9) .i64 x1.1 (p0.length : Int) (.bool (decide (x1.1 < (p0.length : Int)))) trivial trivial (bin_lss _ _ _ _)), ⟨⟨rfl, rfl, trivial⟩, trivial, rfl⟩, rfl, rfl⟩ ?_
    refine aw_cov (cov_prune (s1 := ⟨[(0, (e_s_a8_u32 p0)), (2, (.ptr 0 0 [])), (3, (.ptr 1 0 [])), (4, (.int .i64 x1.1)), (10, (.bool (decide (x1.1 < (p0.length : Int)))))], [(0, some (.var (e_a8_u32 (fun _ => 0)))), (1, some (.var (e_a8_u32 x1.2)))], 2⟩) ⟨rfl, rfl, rfl, rfl, rfl, trivial⟩ ⟨rfl, rfl, trivial⟩ (Nat.le_refl _)) ?_
    refine aw_cond rfl (fun hc => ?_) (fun hc => ?_)
    · replace H := ite_t hc H
      refine aw_skip ?_
      refine nx_seq ?_
      refine aw_seq ?_
      refine aw_block ?_
      refine aw_region (es := [_]) ⟨Step.plain rfl (does_assign (.const (.int .i64 0)) (.int .i64 0) (fun _ => rfl)), ⟨trivial, trivial, rfl⟩, rfl, rfl⟩ ?_
      refine aw_cov (cov_prune (s1 := ⟨[(0, (e_s_a8_u32 p0)), (2, (.ptr 0 0 [])), (3, (.ptr 1 0 [])), (4, (.int .i64 x1.1)), (5, (.int .i64 0))], [(0, some (.var (e_a8_u32 (fun _ => 0)))), (1, some (.var (e_a8_u32 x1.2)))], 2⟩) ⟨rfl, rfl, rfl, rfl, rfl, trivial⟩ ⟨rfl, rfl, trivial⟩ (Nat.le_refl _)) ?_
      obtain ⟨wn4, hwn4, Hrn4⟩ := bnd H
      refine aw_meet (fun y14 : (Nat → Int) => (⟨[(0, (e_s_a8_u32 p0)), (2, (.ptr 0 0 [])), (3, (.ptr 1 0 [])), (4, (.int .i64 x1.1))], [(0, some (.var (e_a8_u32 (fun _ => 0)))), (1, some (.var (e_a8_u32 y14)))], 2⟩ : St)) (fun y14 => Fl.nx y14 = wn4) (fun y14 hy => ?_) (aw_block (aw_runs (fun x3 : Int × (Nat → Int) => (⟨[(0, (e_s_a8_u32 p0)), (2, (.ptr 0 0 [])), (3, (.ptr 1 0 [])), (4, (.int .i64 x1.1)), (5, (.int .i64 x3.1))], [(0, some (.var (e_a8_u32 (fun _ => 0)))), (1, some (.var (e_a8_u32 x3.2)))], 2⟩ : St)) hwn4 (cov_prune ⟨rfl, rfl, rfl, rfl, rfl, trivial⟩ ⟨rfl, rfl, trivial⟩ (Nat.le_of_ble_eq_true rfl)) (fun x3 st H hsn4 => ?_)))
      · have H := nx_of hy Hrn4
        refine nx_blk ?_
        refine nx_seq ?_
        refine aw_region1 (es := [_, _, _]) ⟨Step.plain rfl (does_move (.tmp 4) (.int .i64 x1.1) trivial), ⟨⟨rfl, trivial⟩, trivial, rfl⟩, rfl,
          Step.plain rfl (does_bin .add 3 3 (.tmp 11) (.const (.int .i64 1)) .i64 x1.1 1 (.int .i64 (IntKind.i64.wrap (x1.1 + 1))) trivial (fun _ => rfl) (bin_add _ _ _ _)), ⟨⟨rfl, trivial⟩, trivial, rfl⟩, rfl,
          Step.plain rfl (does_assign (.tmp 12) (.int .i64 (IntKind.i64.wrap (x1.1 + 1))) trivial), ⟨⟨rfl, trivial⟩, trivial, rfl⟩, rfl, rfl⟩ ?_
        exact nx_loop ((IntKind.i64.wrap (x1.1 + 1)), y14) H (cov_prune ⟨rfl, rfl, rfl, rfl, trivial⟩ ⟨rfl, rfl, trivial⟩ (Nat.le_of_ble_eq_true rfl))
      · refine aw_seq ?_
        refine aw_region (es := [_, _]) ⟨Step.plain rfl (does_move (.tmp 5) (.int .i64 x3.1) trivial), ⟨⟨rfl, trivial⟩, trivial, rfl⟩, rfl,
          Step.plain rfl (does_bin .lss 3 3 (.tmp 13) (.const (.int .i64 8)) .i64 x3.1 8 (.bool (decide (x3.1 < 8))) trivial (fun _ => rfl) (bin_lss _ _ _ _)), ⟨⟨rfl, trivial⟩, trivial, rfl⟩, rfl, rfl⟩ ?_
        refine aw_cov (cov_prune (s1 := ⟨[(0, (e_s_a8_u32 p0)), (2, (.ptr 0 0 [])), (3, (.ptr 1 0 [])), (4, (.int .i64 x1.1)), (5, (.int .i64 x3.1)), (14, (.bool (decide (x3.1 < 8))))], [(0, some (.var (e_a8_u32 (fun _ => 0)))), (1, some (.var (e_a8_u32 x3.2)))], 2⟩) ⟨rfl, rfl, rfl, rfl, rfl, rfl, trivial⟩ ⟨rfl, rfl, trivial⟩ (Nat.le_refl _)) ?_
        refine aw_cond rfl (fun hc => ?_) (fun hc => ?_)
        · replace H := ite_t hc H
          refine aw_skip ?_
          refine nx_seq ?_
          refine aw_seq ?_
          refine aw_jn (fun x13 : (Nat → Int) => (⟨[(0, (e_s_a8_u32 p0)), (2, (.ptr 0 0 [])), (3, (.ptr 1 0 [])), (4, (.int .i64 x1.1)), (5, (.int .i64 x3.1))], [(0, some (.var (e_a8_u32 (fun _ => 0)))), (1, some (.var (e_a8_u32 x13)))], 2⟩ : St)) H (fun x13 H => ?_) (fun j5 H => ?_)
          · refine nx_seq ?_
            refine aw_region1 (es := [_, _, _]) ⟨Step.plain rfl (does_move (.tmp 5) (.int .i64 x3.1) trivial), ⟨⟨rfl, trivial⟩, trivial, rfl⟩, rfl,
              Step.plain rfl (does_bin .add 3 3 (.tmp 15) (.const (.int .i64 1)) .i64 x3.1 1 (.int .i64 (IntKind.i64.wrap (x3.1 + 1))) trivial (fun _ => rfl) (bin_add _ _ _ _)), ⟨⟨rfl, trivial⟩, trivial, rfl⟩, rfl,
              Step.plain rfl (does_assign (.tmp 16) (.int .i64 (IntKind.i64.wrap (x3.1 + 1))) trivial), ⟨⟨rfl, trivial⟩, trivial, rfl⟩, rfl, rfl⟩ ?_
            exact nx_loop ((IntKind.i64.wrap (x3.1 + 1)), x13) H (cov_prune ⟨rfl, rfl, rfl, rfl, rfl, trivial⟩ ⟨rfl, rfl, trivial⟩ (Nat.le_of_ble_eq_true rfl))
          · refine aw_block ?_
            obtain ⟨h6, H⟩ := ib_of H
            obtain ⟨h7, H⟩ := ib_of H
            obtain ⟨h8, H⟩ := ib_of H
            refine aw_draw (es := [_, _, _, _, _, _, _, _, _, _]) (mixed) ⟨Step.plain rfl (does_move (.tmp 0) (e_s_a8_u32 p0) trivial), ⟨⟨rfl, trivial⟩, trivial, rfl⟩, rfl,
              Step.plain rfl (does_move (.tmp 4) (.int .i64 x1.1) trivial), ⟨⟨rfl, trivial⟩, trivial, rfl⟩, rfl,
              Step.plain rfl (does_move (.tmp 5) (.int .i64 x3.1) trivial), ⟨⟨rfl, trivial⟩, trivial, rfl⟩, rfl,
              Step.plain rfl (does_indexAddrs 67 8 p0.length 17 (fun j => (e_a8_u32 (p0.getD j (fun _ => 0)))) (.tmp 18) .i64 x1.1 el67 trivial h6.1 h6.2), ⟨⟨rfl, rfl, trivial⟩, trivial, rfl⟩, rfl,
              Step.plain rfl (does_indexAddrc 29 8 1 20 (fun j => (.int .u32 ((p0.getD x1.1.toNat (fun _ => 0)) j))) (.tmp 19) .i64 x3.1 el29 trivial h7.1 h7.2), ⟨⟨rfl, rfl, trivial⟩, trivial, rfl⟩, rfl,
              Step.plain rfl (does_loadc 22 21 (.int .u32 ((p0.getD x1.1.toNat (fun _ => 0)) x3.1.toNat)) ty22), ⟨⟨rfl, trivial⟩, trivial, rfl⟩, rfl,
              Step.plain rfl (does_move (.tmp 5) (.int .i64 x3.1) trivial), ⟨⟨rfl, trivial⟩, trivial, rfl⟩, rfl,
              Step.plain rfl (does_indexAddr 29 8 1 3 1 0 [] (.var (e_a8_u32 x3.2)) (.tmp 23) .i64 x3.1 el29 trivial h8.1 h8.2), ⟨⟨rfl, rfl, trivial⟩, ⟨rfl, trivial⟩, rfl⟩, rfl,
              Step.plain rfl (does_load 22 24 1 (0 + x3.1.toNat * 1) [x3.1.toNat] (.var (e_a8_u32 x3.2)) (.int .u32 (x3.2 x3.1.toNat)) ⟨rfl, (ixl h8), trivial⟩ rfl rfl ty22), ⟨⟨rfl, trivial⟩, ⟨rfl, trivial⟩, rfl⟩, rfl,
              Step.plain rfl (does_bin .gtr 22 22 (.tmp 22) (.tmp 25) .u32 ((p0.getD x1.1.toNat (fun _ => 0)) x3.1.toNat) (x3.2 x3.1.toNat) (.bool (decide (((p0.getD x1.1.toNat (fun _ => 0)) x3.1.toNat) > (x3.2 x3.1.toNat)))) trivial trivial (bin_gtr _ _ _ _)), ⟨⟨rfl, rfl, trivial⟩, trivial, rfl⟩, rfl, rfl⟩ rfl ?_
            obtain ⟨v9, hv9, H⟩ := lt_of H
            refine aw_cov (cov_prune (s1 := ⟨[(0, (e_s_a8_u32 p0)), (2, (.ptr 0 0 [])), (3, (.ptr 1 0 [])), (4, (.int .i64 x1.1)), (5, (.int .i64 x3.1)), (26, (.bool v9))], [(0, some (.var (e_a8_u32 (fun _ => 0)))), (1, some (.var (e_a8_u32 x3.2)))], 2⟩) ⟨rfl, rfl, rfl, rfl, rfl, (by subst hv9; rfl), trivial⟩ ⟨rfl, rfl, trivial⟩ (Nat.le_refl _)) ?_
            refine aw_cond rfl (fun hc => ?_) (fun hc => ?_)
            · replace H := ite_t hc H
              obtain ⟨h10, H⟩ := ib_of H
              obtain ⟨h11, H⟩ := ib_of H
              obtain ⟨h12, H⟩ := ib_of H
              refine aw_region1 (es := [_, _, _, _, _, _, _, _, _]) ⟨Step.plain rfl (does_move (.tmp 5) (.int .i64 x3.1) trivial), ⟨⟨rfl, trivial⟩, trivial, rfl⟩, rfl,
                Step.plain rfl (does_move (.tmp 0) (e_s_a8_u32 p0) trivial), ⟨⟨rfl, trivial⟩, trivial, rfl⟩, rfl,
                Step.plain rfl (does_move (.tmp 4) (.int .i64 x1.1) trivial), ⟨⟨rfl, trivial⟩, trivial, rfl⟩, rfl,
                Step.plain rfl (does_move (.tmp 5) (.int .i64 x3.1) trivial), ⟨⟨rfl, trivial⟩, trivial, rfl⟩, rfl,
                Step.plain rfl (does_indexAddrs 67 8 p0.length 28 (fun j => (e_a8_u32 (p0.getD j (fun _ => 0)))) (.tmp 29) .i64 x1.1 el67 trivial h10.1 h10.2), ⟨⟨rfl, rfl, trivial⟩, trivial, rfl⟩, rfl,
                Step.plain rfl (does_indexAddrc 29 8 1 31 (fun j => (.int .u32 ((p0.getD x1.1.toNat (fun _ => 0)) j))) (.tmp 30) .i64 x3.1 el29 trivial h11.1 h11.2), ⟨⟨rfl, rfl, trivial⟩, trivial, rfl⟩, rfl,
                Step.plain rfl (does_loadc 22 32 (.int .u32 ((p0.getD x1.1.toNat (fun _ => 0)) x3.1.toNat)) ty22), ⟨⟨rfl, trivial⟩, trivial, rfl⟩, rfl,
                Step.plain rfl (does_indexAddr 29 8 1 3 1 0 [] (.var (e_a8_u32 x3.2)) (.tmp 27) .i64 x3.1 el29 trivial h12.1 h12.2), ⟨⟨rfl, rfl, trivial⟩, ⟨rfl, trivial⟩, rfl⟩, rfl,
                Step.plain rfl (does_store 22 34 (.tmp 33) 1 (0 + x3.1.toNat * 1) [x3.1.toNat] (.var (e_a8_u32 x3.2)) (.var (e_a8_u32 (aupd x3.2 x3.1.toNat ((p0.getD x1.1.toNat (fun _ => 0)) x3.1.toNat)))) (.int .u32 ((p0.getD x1.1.toNat (fun _ => 0)) x3.1.toNat)) false trivial rfl ⟨rfl, (ixl h12), trivial⟩ rfl rfl (congrArg Box.var (set_cons rfl (vupd_map (fun z => V.int .u32 z) _ _ _))) ty22), ⟨⟨rfl, rfl, trivial⟩, ⟨rfl, trivial⟩, rfl⟩, rfl, rfl⟩ ?_
              refine nx_blk ?_
              exact nx_join (aupd x3.2 x3.1.toNat ((p0.getD x1.1.toNat (fun _ => 0)) x3.1.toNat)) H (cov_prune ⟨rfl, rfl, rfl, rfl, rfl, trivial⟩ ⟨rfl, rfl, trivial⟩ (Nat.le_of_ble_eq_true rfl))
            · replace H := ite_f hc H
              refine aw_skip ?_
              refine nx_blk ?_
              exact nx_join (x3.2) H (cov_prune ⟨rfl, rfl, rfl, rfl, rfl, trivial⟩ ⟨rfl, rfl, trivial⟩ (Nat.le_of_ble_eq_true rfl))
        · replace H := ite_f hc H
          refine aw_exit ?_
          refine ex_then ?_
          refine ex_then ?_
          refine ex_here ?_
          exact nx_ljoin (x3.2) H hsn4 (cov_prune ⟨rfl, rfl, rfl, rfl, trivial⟩ ⟨rfl, rfl, trivial⟩ (Nat.le_of_ble_eq_true rfl))
    · replace H := ite_f hc H
      refine aw_exit ?_
      refine ex_then ?_
      refine ex_then ?_
      refine ex_here ?_
      exact nx_ljoin (x1.2) H hsn2 (cov_prune ⟨rfl, rfl, trivial⟩ ⟨rfl, rfl, trivial⟩ (Nat.le_of_ble_eq_true rfl))

theorem congressref12_Update_spec (p0 : api_Peer) (p1 : api_Packet) (r : api_Peer) (H : congressref12_Update p0 p1 = some r) : FSpec Try.prog 16 [(e_api_Peer p0), (e_api_Packet p1)] (e_api_Peer r) := by
  refine spec_of (fn := Try.f16) (args := [(e_api_Peer p0), (e_api_Packet p1)]) Try.func16 rfl (Nat.le_of_ble_eq_true rfl) ?_
  rintro ⟨G, w0, W, S, Sp⟩ hG
  cases hG
  unfold congressref12_Update at H
  refine aw_region (es := [_, _, _]) ⟨Step.plain rfl (does_box 32 (.tmp 0) 0 (e_api_Peer p0) trivial rfl), ⟨⟨rfl, trivial⟩, trivial, rfl⟩, rfl,
    Step.plain rfl (does_box 43 (.tmp 1) 1 (e_api_Packet p1) trivial rfl), ⟨⟨rfl, trivial⟩, trivial, rfl⟩, rfl,
    Step.plain rfl (does_alloc 32 2 (e_api_Peer z_api_Peer) zr32), ⟨trivial, trivial, rfl⟩, rfl, rfl⟩ ?_
  refine aw_cov (cov_prune (s1 := ⟨[(2, (.ptr 0 0 [])), (3, (.ptr 1 0 [])), (4, (.ptr 2 0 []))], [(0, some (.var (e_api_Peer p0))), (1, some (.var (e_api_Packet p1))), (2, some (.var (e_api_Peer z_api_Peer)))], 3⟩) ⟨rfl, rfl, rfl, trivial⟩ ⟨rfl, rfl, rfl, trivial⟩ (Nat.le_refl _)) ?_
  refine aw_seq ?_
  refine aw_region (es := [_, _, _, _, _]) ⟨Step.plain rfl (does_fieldAddr 43 1 1 3 1 0 [] (.var (e_api_Packet p1)) fl43_1), ⟨⟨rfl, trivial⟩, ⟨rfl, trivial⟩, rfl⟩, rfl,
    Step.plain rfl (does_load 22 7 1 (0 + 1) [1] (.var (e_api_Packet p1)) (.int .u32 p1.Inc) ⟨rfl, Nat.le_of_ble_eq_true rfl, trivial⟩ rfl rfl ty22), ⟨⟨rfl, trivial⟩, ⟨rfl, trivial⟩, rfl⟩, rfl,
    Step.plain rfl (does_fieldAddr 32 0 0 2 0 0 [] (.var (e_api_Peer p0)) fl32_0), ⟨⟨rfl, trivial⟩, ⟨rfl, trivial⟩, rfl⟩, rfl,
    Step.plain rfl (does_load 22 9 0 (0 + 0) [0] (.var (e_api_Peer p0)) (.int .u32 p0.Inc) ⟨rfl, Nat.le_of_ble_eq_true rfl, trivial⟩ rfl rfl ty22), ⟨⟨rfl, trivial⟩, ⟨rfl, trivial⟩, rfl⟩, rfl,
    Step.plain rfl (does_bin .lss 22 22 (.tmp 8) (.tmp 10) .u32 p1.Inc p0.Inc (.bool (decide (p1.Inc < p0.Inc))) trivial trivial (bin_lss _ _ _ _)), ⟨⟨rfl, rfl, trivial⟩, trivial, rfl⟩, rfl, rfl⟩ ?_
  refine aw_cov (cov_prune (s1 := ⟨[(2, (.ptr 0 0 [])), (3, (.ptr 1 0 [])), (4, (.ptr 2 0 [])), (11, (.bool (decide (p1.Inc < p0.Inc))))], [(0, some (.var (e_api_Peer p0))), (1, some (.var (e_api_Packet p1))), (2, some (.var (e_api_Peer z_api_Peer)))], 3⟩) ⟨rfl, rfl, rfl, rfl, trivial⟩ ⟨rfl, rfl, rfl, trivial⟩ (Nat.le_refl _)) ?_
  refine aw_cond rfl (fun hc => ?_) (fun hc => ?_)
  · replace H := ite_t hc H
    refine aw_region (es := [_, _]) ⟨Step.plain rfl (does_load 32 2 0 0 [] (.var (e_api_Peer p0)) (e_api_Peer p0) trivial rfl rfl ty32), ⟨⟨rfl, trivial⟩, ⟨rfl, trivial⟩, rfl⟩, rfl,
      Step.plain rfl (does_store 32 4 (.tmp 12) 2 0 [] (.var (e_api_Peer z_api_Peer)) (.var (e_api_Peer p0)) (e_api_Peer p0) true trivial rfl trivial rfl rfl rfl ty32), ⟨⟨rfl, rfl, trivial⟩, ⟨rfl, trivial⟩, rfl⟩, rfl, rfl⟩ ?_
    refine aw_cov (cov_prune (s1 := ⟨[(4, (.ptr 2 0 []))], [(2, some (.var (e_api_Peer p0)))], 3⟩) ⟨rfl, trivial⟩ ⟨rfl, trivial⟩ (Nat.le_refl _)) ?_
    refine aw_ret ?_
    refine rt_then ?_
    exact fun a w hr => ⟨_, [(e_api_Peer p0)], hr, ⟨⟨2, _, rfl, rfl, .data _ (d_api_Peer p0), ty32⟩, trivial⟩, by decide, by cases H; rfl⟩
  · replace H := ite_f hc H
    refine aw_skip ?_
    refine nx_seq ?_
    obtain ⟨v1, h2, H⟩ := bnd H
    refine aw_region (es := [_, _, _, _, _, _]) ⟨Step.plain rfl (does_fieldAddr 43 5 21 3 1 0 [] (.var (e_api_Packet p1)) fl43_5), ⟨⟨rfl, trivial⟩, ⟨rfl, trivial⟩, rfl⟩, rfl,
      Step.plain rfl (does_load 27 13 1 (0 + 21) [5] (.var (e_api_Packet p1)) (e_api_Id p1.Promise) ⟨rfl, Nat.le_of_ble_eq_true rfl, trivial⟩ rfl rfl ty27), ⟨⟨rfl, trivial⟩, ⟨rfl, trivial⟩, rfl⟩, rfl,
      Step.plain rfl (does_fieldAddr 32 2 4 2 0 0 [] (.var (e_api_Peer p0)) fl32_2), ⟨⟨rfl, trivial⟩, ⟨rfl, trivial⟩, rfl⟩, rfl,
      Step.plain rfl (does_load 27 15 0 (0 + 4) [2] (.var (e_api_Peer p0)) (e_api_Id p0.Promise) ⟨rfl, Nat.le_of_ble_eq_true rfl, trivial⟩ rfl rfl ty27), ⟨⟨rfl, trivial⟩, ⟨rfl, trivial⟩, rfl⟩, rfl,
      Step.plain rfl (does_call 10 0 (fun _ => .any) (.func 10) [(.tmp 14), (.tmp 16)] [(e_api_Id p1.Promise), (e_api_Id p0.Promise)] [] true [(e_api_Id p1.Promise), (e_api_Id p0.Promise)] (.int .i64 v1) _ _ rfl fo10 rfl ⟨trivial, trivial, trivial⟩ ⟨.data _ (d_api_Id p1.Promise), .data _ (d_api_Id p0.Promise), trivial⟩ (congressref07_Compare_spec p1.Promise p0.Promise _ h2) trivial), ⟨⟨rfl, rfl, trivial⟩, trivial, rfl⟩, rfl,
      Step.plain rfl (does_assign (.tmp 17) (.int .i64 v1) trivial), ⟨⟨rfl, trivial⟩, trivial, rfl⟩, rfl, rfl⟩ ?_
    refine aw_cov (cov_prune (s1 := ⟨[(2, (.ptr 0 0 [])), (3, (.ptr 1 0 [])), (4, (.ptr 2 0 [])), (5, (.int .i64 v1))], [(0, some (.var (e_api_Peer p0))), (1, some (.var (e_api_Packet p1))), (2, some (.var (e_api_Peer z_api_Peer)))], 3⟩) ⟨rfl, rfl, rfl, rfl, trivial⟩ ⟨rfl, rfl, rfl, trivial⟩ (Nat.le_refl _)) ?_
    refine aw_seq ?_
    refine aw_region (es := [_, _, _, _, _, _, _, _, _]) ⟨Step.plain rfl (does_fieldAddr 43 1 1 3 1 0 [] (.var (e_api_Packet p1)) fl43_1), ⟨⟨rfl, trivial⟩, ⟨rfl, trivial⟩, rfl⟩, rfl,
      Step.plain rfl (does_load 22 18 1 (0 + 1) [1] (.var (e_api_Packet p1)) (.int .u32 p1.Inc) ⟨rfl, Nat.le_of_ble_eq_true rfl, trivial⟩ rfl rfl ty22), ⟨⟨rfl, trivial⟩, ⟨rfl, trivial⟩, rfl⟩, rfl,
      Step.plain rfl (does_fieldAddr 32 0 0 2 0 0 [] (.var (e_api_Peer p0)) fl32_0), ⟨⟨rfl, trivial⟩, ⟨rfl, trivial⟩, rfl⟩, rfl,
      Step.plain rfl (does_load 22 20 0 (0 + 0) [0] (.var (e_api_Peer p0)) (.int .u32 p0.Inc) ⟨rfl, Nat.le_of_ble_eq_true rfl, trivial⟩ rfl rfl ty22), ⟨⟨rfl, trivial⟩, ⟨rfl, trivial⟩, rfl⟩, rfl,
      Step.plain rfl (does_bin .gtr 22 22 (.tmp 19) (.tmp 21) .u32 p1.Inc p0.Inc (.bool (decide (p1.Inc > p0.Inc))) trivial trivial (bin_gtr _ _ _ _)), ⟨⟨rfl, rfl, trivial⟩, trivial, rfl⟩, rfl,
      Step.plain rfl (does_move (.tmp 22) (.bool (decide (p1.Inc > p0.Inc))) trivial), ⟨⟨rfl, trivial⟩, trivial, rfl⟩, rfl,
      Step.guarded rfl rfl rfl rfl (fun hc => does_move (.tmp 5) (.int .i64 v1) trivial), ⟨⟨rfl, rfl, trivial⟩, trivial, rfl⟩, rfl,
      Step.guarded rfl rfl rfl rfl (fun hc => Does.strip (n' := [(24, (.opt (!(decide (p1.Inc > p0.Inc))) (.int .i64 v1)))]) (n := [(24, (.int .i64 v1))]) ⟨(.opt _ _ hc), trivial⟩ (does_bin .eql 3 3 (.tmp 24) (.const (.int .i64 1)) .i64 v1 1 (.bool (v1 == 1)) trivial (fun _ => rfl) (bin_eql _ _ _ _))), ⟨⟨rfl, rfl, trivial⟩, trivial, rfl⟩, rfl,
      Step.plain rfl (does_or 23 25 (decide (p1.Inc > p0.Inc)) (v1 == 1)), ⟨⟨rfl, rfl, trivial⟩, trivial, rfl⟩, rfl, rfl⟩ ?_
    refine aw_cov (cov_prune (s1 := ⟨[(2, (.ptr 0 0 [])), (3, (.ptr 1 0 [])), (4, (.ptr 2 0 [])), (5, (.int .i64 v1)), (26, (.bool ((decide (p1.Inc > p0.Inc)) || (v1 == 1))))], [(0, some (.var (e_api_Peer p0))), (1, some (.var (e_api_Packet p1))), (2, some (.var (e_api_Peer z_api_Peer)))], 3⟩) ⟨rfl, rfl, rfl, rfl, rfl, trivial⟩ ⟨rfl, rfl, rfl, trivial⟩ (Nat.le_refl _)) ?_
    refine aw_cond rfl (fun hc => ?_) (fun hc => ?_)
    · replace H := ite_t hc H
      refine aw_region (es := [_, _, _, _, _, _, _, _, _, _, _, _]) ⟨Step.plain rfl (does_fieldAddr 43 1 1 3 1 0 [] (.var (e_api_Packet p1)) fl43_1), ⟨⟨rfl, trivial⟩, ⟨rfl, trivial⟩, rfl⟩, rfl,
        Step.plain rfl (does_load 22 27 1 (0 + 1) [1] (.var (e_api_Packet p1)) (.int .u32 p1.Inc) ⟨rfl, Nat.le_of_ble_eq_true rfl, trivial⟩ rfl rfl ty22), ⟨⟨rfl, trivial⟩, ⟨rfl, trivial⟩, rfl⟩, rfl,
        Step.plain rfl (does_fieldAddr 43 2 2 3 1 0 [] (.var (e_api_Packet p1)) fl43_2), ⟨⟨rfl, trivial⟩, ⟨rfl, trivial⟩, rfl⟩, rfl,
        Step.plain rfl (does_load 27 29 1 (0 + 2) [2] (.var (e_api_Packet p1)) (e_api_Id p1.Conf) ⟨rfl, Nat.le_of_ble_eq_true rfl, trivial⟩ rfl rfl ty27), ⟨⟨rfl, trivial⟩, ⟨rfl, trivial⟩, rfl⟩, rfl,
        Step.plain rfl (does_fieldAddr 43 5 21 3 1 0 [] (.var (e_api_Packet p1)) fl43_5), ⟨⟨rfl, trivial⟩, ⟨rfl, trivial⟩, rfl⟩, rfl,
        Step.plain rfl (does_load 27 31 1 (0 + 21) [5] (.var (e_api_Packet p1)) (e_api_Id p1.Promise) ⟨rfl, Nat.le_of_ble_eq_true rfl, trivial⟩ rfl rfl ty27), ⟨⟨rfl, trivial⟩, ⟨rfl, trivial⟩, rfl⟩, rfl,
        Step.plain rfl (does_fieldAddr 43 4 13 3 1 0 [] (.var (e_api_Packet p1)) fl43_4), ⟨⟨rfl, trivial⟩, ⟨rfl, trivial⟩, rfl⟩, rfl,
        Step.plain rfl (does_load 29 33 1 (0 + 13) [4] (.var (e_api_Packet p1)) (e_a8_u32 p1.Count) ⟨rfl, Nat.le_of_ble_eq_true rfl, trivial⟩ rfl rfl ty29), ⟨⟨rfl, trivial⟩, ⟨rfl, trivial⟩, rfl⟩, rfl,
        Step.plain rfl (does_fieldAddr 43 7 32 3 1 0 [] (.var (e_api_Packet p1)) fl43_7), ⟨⟨rfl, trivial⟩, ⟨rfl, trivial⟩, rfl⟩, rfl,
        Step.plain rfl (does_load 4 35 1 (0 + 32) [7] (.var (e_api_Packet p1)) (.bool p1.Ready) ⟨rfl, Nat.le_of_ble_eq_true rfl, trivial⟩ rfl rfl ty4), ⟨⟨rfl, trivial⟩, ⟨rfl, trivial⟩, rfl⟩, rfl,
        Step.plain rfl (does_buildT 32 #[(0, (.tmp 28)), (1, (.tmp 30)), (2, (.tmp 32)), (3, (.tmp 34)), (4, (.tmp 36))] [(0, (.tmp 28)), (1, (.tmp 30)), (2, (.tmp 32)), (3, (.tmp 34)), (4, (.tmp 36))] [(0, (.int .u32 p1.Inc)), (1, (e_api_Id p1.Conf)), (2, (e_api_Id p1.Promise)), (3, (e_a8_u32 p1.Count)), (4, (.bool p1.Ready))] (.st [1, 3, 3, 8, 1]) (c_api_Peer z_api_Peer) (c_api_Peer ({ Inc := p1.Inc, Conf := p1.Conf, Promise := p1.Promise, Cut := p1.Count, Ready := p1.Ready } : api_Peer)) rfl bo32 ⟨⟨rfl, trivial⟩, ⟨rfl, trivial⟩, ⟨rfl, trivial⟩, ⟨rfl, trivial⟩, ⟨rfl, trivial⟩, trivial⟩ ⟨⟨Nat.le_of_ble_eq_true rfl, rfl, rfl⟩, ⟨Nat.le_of_ble_eq_true rfl, rfl, rfl⟩, ⟨Nat.le_of_ble_eq_true rfl, rfl, rfl⟩, ⟨Nat.le_of_ble_eq_true rfl, rfl, rfl⟩, ⟨Nat.le_of_ble_eq_true rfl, rfl, rfl⟩, trivial⟩ (by funext j; match j with | 0 => rfl | 1 => rfl | 2 => rfl | 3 => rfl | 4 => rfl | _ + 5 => rfl)), ⟨⟨rfl, rfl, rfl, rfl, rfl, trivial⟩, trivial, rfl⟩, rfl,
        Step.plain rfl (does_store 32 4 (.tmp 37) 2 0 [] (.var (e_api_Peer z_api_Peer)) (.var (e_api_Peer ({ Inc := p1.Inc, Conf := p1.Conf, Promise := p1.Promise, Cut := p1.Count, Ready := p1.Ready } : api_Peer))) (e_api_Peer ({ Inc := p1.Inc, Conf := p1.Conf, Promise := p1.Promise, Cut := p1.Count, Ready := p1.Ready } : api_Peer)) true trivial rfl trivial rfl rfl rfl ty32), ⟨⟨rfl, rfl, trivial⟩, ⟨rfl, trivial⟩, rfl⟩, rfl, rfl⟩ ?_
      obtain ⟨v3, hv3, H⟩ := lt_of H
      refine aw_cov (cov_prune (s1 := ⟨[(4, (.ptr 2 0 []))], [(2, some (.var (e_api_Peer v3)))], 3⟩) ⟨rfl, trivial⟩ ⟨(by subst hv3; rfl), trivial⟩ (Nat.le_refl _)) ?_
      refine aw_ret ?_
      refine rt_then ?_
      exact fun a w hr => ⟨_, [(e_api_Peer v3)], hr, ⟨⟨2, _, rfl, rfl, .data _ (d_api_Peer v3), ty32⟩, trivial⟩, by decide, by cases H; rfl⟩
    · replace H := ite_f hc H
      refine aw_skip ?_
      refine nx_seq ?_
      refine aw_seq ?_
      refine aw_region (es := [_, _]) ⟨Step.plain rfl (does_move (.tmp 5) (.int .i64 v1) trivial), ⟨⟨rfl, trivial⟩, trivial, rfl⟩, rfl,
        Step.plain rfl (does_bin .eql 3 3 (.tmp 38) (.const (.int .i64 (-1))) .i64 v1 (-1) (.bool (v1 == (-1))) trivial (fun _ => rfl) (bin_eql _ _ _ _)), ⟨⟨rfl, trivial⟩, trivial, rfl⟩, rfl, rfl⟩ ?_
      refine aw_cov (cov_prune (s1 := ⟨[(2, (.ptr 0 0 [])), (3, (.ptr 1 0 [])), (4, (.ptr 2 0 [])), (39, (.bool (v1 == (-1))))], [(0, some (.var (e_api_Peer p0))), (1, some (.var (e_api_Packet p1))), (2, some (.var (e_api_Peer z_api_Peer)))], 3⟩) ⟨rfl, rfl, rfl, rfl, trivial⟩ ⟨rfl, rfl, rfl, trivial⟩ (Nat.le_refl _)) ?_
      refine aw_cond rfl (fun hc => ?_) (fun hc => ?_)
      · replace H := ite_t hc H
        refine aw_region (es := [_, _]) ⟨Step.plain rfl (does_load 32 2 0 0 [] (.var (e_api_Peer p0)) (e_api_Peer p0) trivial rfl rfl ty32), ⟨⟨rfl, trivial⟩, ⟨rfl, trivial⟩, rfl⟩, rfl,
          Step.plain rfl (does_store 32 4 (.tmp 40) 2 0 [] (.var (e_api_Peer z_api_Peer)) (.var (e_api_Peer p0)) (e_api_Peer p0) true trivial rfl trivial rfl rfl rfl ty32), ⟨⟨rfl, rfl, trivial⟩, ⟨rfl, trivial⟩, rfl⟩, rfl, rfl⟩ ?_
        refine aw_cov (cov_prune (s1 := ⟨[(4, (.ptr 2 0 []))], [(2, some (.var (e_api_Peer p0)))], 3⟩) ⟨rfl, trivial⟩ ⟨rfl, trivial⟩ (Nat.le_refl _)) ?_
        refine aw_ret ?_
        refine rt_then ?_
        exact fun a w hr => ⟨_, [(e_api_Peer p0)], hr, ⟨⟨2, _, rfl, rfl, .data _ (d_api_Peer p0), ty32⟩, trivial⟩, by decide, by cases H; rfl⟩
      · replace H := ite_f hc H
        refine aw_skip ?_
        refine nx_seq ?_
        obtain ⟨v4, h5, H⟩ := bnd H
        refine aw_region (es := [_, _, _, _, _, _]) ⟨Step.plain rfl (does_fieldAddr 43 2 2 3 1 0 [] (.var (e_api_Packet p1)) fl43_2), ⟨⟨rfl, trivial⟩, ⟨rfl, trivial⟩, rfl⟩, rfl,
          Step.plain rfl (does_load 27 41 1 (0 + 2) [2] (.var (e_api_Packet p1)) (e_api_Id p1.Conf) ⟨rfl, Nat.le_of_ble_eq_true rfl, trivial⟩ rfl rfl ty27), ⟨⟨rfl, trivial⟩, ⟨rfl, trivial⟩, rfl⟩, rfl,
          Step.plain rfl (does_fieldAddr 32 1 1 2 0 0 [] (.var (e_api_Peer p0)) fl32_1), ⟨⟨rfl, trivial⟩, ⟨rfl, trivial⟩, rfl⟩, rfl,
          Step.plain rfl (does_load 27 43 0 (0 + 1) [1] (.var (e_api_Peer p0)) (e_api_Id p0.Conf) ⟨rfl, Nat.le_of_ble_eq_true rfl, trivial⟩ rfl rfl ty27), ⟨⟨rfl, trivial⟩, ⟨rfl, trivial⟩, rfl⟩, rfl,
          Step.plain rfl (does_call 10 0 (fun _ => .any) (.func 10) [(.tmp 42), (.tmp 44)] [(e_api_Id p1.Conf), (e_api_Id p0.Conf)] [] true [(e_api_Id p1.Conf), (e_api_Id p0.Conf)] (.int .i64 v4) _ _ rfl fo10 rfl ⟨trivial, trivial, trivial⟩ ⟨.data _ (d_api_Id p1.Conf), .data _ (d_api_Id p0.Conf), trivial⟩ (congressref07_Compare_spec p1.Conf p0.Conf _ h5) trivial), ⟨⟨rfl, rfl, trivial⟩, trivial, rfl⟩, rfl,
          Step.plain rfl (does_assign (.tmp 45) (.int .i64 v4) trivial), ⟨⟨rfl, trivial⟩, trivial, rfl⟩, rfl, rfl⟩ ?_
        refine aw_cov (cov_prune (s1 := ⟨[(2, (.ptr 0 0 [])), (3, (.ptr 1 0 [])), (4, (.ptr 2 0 [])), (6, (.int .i64 v4))], [(0, some (.var (e_api_Peer p0))), (1, some (.var (e_api_Packet p1))), (2, some (.var (e_api_Peer z_api_Peer)))], 3⟩) ⟨rfl, rfl, rfl, rfl, trivial⟩ ⟨rfl, rfl, rfl, trivial⟩ (Nat.le_refl _)) ?_
        refine aw_seq ?_
        refine aw_region (es := [_, _]) ⟨Step.plain rfl (does_move (.tmp 6) (.int .i64 v4) trivial), ⟨⟨rfl, trivial⟩, trivial, rfl⟩, rfl,
          Step.plain rfl (does_bin .eql 3 3 (.tmp 46) (.const (.int .i64 0)) .i64 v4 0 (.bool (v4 == 0)) trivial (fun _ => rfl) (bin_eql _ _ _ _)), ⟨⟨rfl, trivial⟩, trivial, rfl⟩, rfl, rfl⟩ ?_
        refine aw_cov (cov_prune (s1 := ⟨[(2, (.ptr 0 0 [])), (3, (.ptr 1 0 [])), (4, (.ptr 2 0 [])), (6, (.int .i64 v4)), (47, (.bool (v4 == 0)))], [(0, some (.var (e_api_Peer p0))), (1, some (.var (e_api_Packet p1))), (2, some (.var (e_api_Peer z_api_Peer)))], 3⟩) ⟨rfl, rfl, rfl, rfl, rfl, trivial⟩ ⟨rfl, rfl, rfl, trivial⟩ (Nat.le_refl _)) ?_
        refine aw_jn (fun x9 : api_Peer => (⟨[(2, (.ptr 0 0 [])), (3, (.ptr 1 0 [])), (4, (.ptr 2 0 [])), (6, (.int .i64 v4))], [(0, some (.var (e_api_Peer x9))), (1, some (.var (e_api_Packet p1))), (2, some (.var (e_api_Peer z_api_Peer)))], 3⟩ : St)) H (fun x9 H => ?_) (fun j6 H => ?_)
        · refine nx_seq ?_
          refine aw_seq ?_
          refine aw_region (es := [_, _]) ⟨Step.plain rfl (does_move (.tmp 6) (.int .i64 v4) trivial), ⟨⟨rfl, trivial⟩, trivial, rfl⟩, rfl,
            Step.plain rfl (does_bin .eql 3 3 (.tmp 55) (.const (.int .i64 1)) .i64 v4 1 (.bool (v4 == 1)) trivial (fun _ => rfl) (bin_eql _ _ _ _)), ⟨⟨rfl, trivial⟩, trivial, rfl⟩, rfl, rfl⟩ ?_
          refine aw_cov (cov_prune (s1 := ⟨[(2, (.ptr 0 0 [])), (3, (.ptr 1 0 [])), (4, (.ptr 2 0 [])), (56, (.bool (v4 == 1)))], [(0, some (.var (e_api_Peer x9))), (1, some (.var (e_api_Packet p1))), (2, some (.var (e_api_Peer z_api_Peer)))], 3⟩) ⟨rfl, rfl, rfl, rfl, trivial⟩ ⟨rfl, rfl, rfl, trivial⟩ (Nat.le_refl _)) ?_
          refine aw_jn (fun x11 : api_Peer => (⟨[(2, (.ptr 0 0 [])), (3, (.ptr 1 0 [])), (4, (.ptr 2 0 []))], [(0, some (.var (e_api_Peer x11))), (1, some (.var (e_api_Packet p1))), (2, some (.var (e_api_Peer z_api_Peer)))], 3⟩ : St)) H (fun x11 H => ?_) (fun j10 H => ?_)
          · refine nx_seq ?_
            refine aw_seq ?_
            refine aw_region (es := [_, _]) ⟨Step.plain rfl (does_fieldAddr 43 7 32 3 1 0 [] (.var (e_api_Packet p1)) fl43_7), ⟨⟨rfl, trivial⟩, ⟨rfl, trivial⟩, rfl⟩, rfl,
              Step.plain rfl (does_load 4 63 1 (0 + 32) [7] (.var (e_api_Packet p1)) (.bool p1.Ready) ⟨rfl, Nat.le_of_ble_eq_true rfl, trivial⟩ rfl rfl ty4), ⟨⟨rfl, trivial⟩, ⟨rfl, trivial⟩, rfl⟩, rfl, rfl⟩ ?_
            refine aw_cov (cov_prune (s1 := ⟨[(2, (.ptr 0 0 [])), (4, (.ptr 2 0 [])), (64, (.bool p1.Ready))], [(0, some (.var (e_api_Peer x11))), (2, some (.var (e_api_Peer z_api_Peer)))], 3⟩) ⟨rfl, rfl, rfl, trivial⟩ ⟨rfl, rfl, trivial⟩ (Nat.le_refl _)) ?_
            refine aw_jn (fun x13 : api_Peer => (⟨[(2, (.ptr 0 0 [])), (4, (.ptr 2 0 []))], [(0, some (.var (e_api_Peer x13))), (2, some (.var (e_api_Peer z_api_Peer)))], 3⟩ : St)) H (fun x13 H => ?_) (fun j12 H => ?_)
            · refine nx_seq ?_
              refine aw_region (es := [_, _]) ⟨Step.plain rfl (does_load 32 2 0 0 [] (.var (e_api_Peer x13)) (e_api_Peer x13) trivial rfl rfl ty32), ⟨⟨rfl, trivial⟩, ⟨rfl, trivial⟩, rfl⟩, rfl,
                Step.plain rfl (does_store 32 4 (.tmp 66) 2 0 [] (.var (e_api_Peer z_api_Peer)) (.var (e_api_Peer x13)) (e_api_Peer x13) true trivial rfl trivial rfl rfl rfl ty32), ⟨⟨rfl, rfl, trivial⟩, ⟨rfl, trivial⟩, rfl⟩, rfl, rfl⟩ ?_
              refine aw_cov (cov_prune (s1 := ⟨[(4, (.ptr 2 0 []))], [(2, some (.var (e_api_Peer x13)))], 3⟩) ⟨rfl, trivial⟩ ⟨rfl, trivial⟩ (Nat.le_refl _)) ?_
              refine aw_ret ?_
              exact fun a w hr => ⟨_, [(e_api_Peer x13)], hr, ⟨⟨2, _, rfl, rfl, .data _ (d_api_Peer x13), ty32⟩, trivial⟩, by decide, by cases H; rfl⟩
            · refine aw_cond rfl (fun hc => ?_) (fun hc => ?_)
              · replace H := ite_t hc H
                refine aw_region1 (es := [_, _]) ⟨Step.plain rfl (does_fieldAddr 32 4 15 2 0 0 [] (.var (e_api_Peer x11)) fl32_4), ⟨⟨rfl, trivial⟩, ⟨rfl, trivial⟩, rfl⟩, rfl,
                  Step.plain rfl (does_store 4 65 (.const (.bool true)) 0 (0 + 15) [4] (.var (e_api_Peer x11)) (.var (e_api_Peer ({ x11 with Ready := true }))) (.bool true) false (fun _ => rfl) rfl ⟨rfl, Nat.le_of_ble_eq_true rfl, trivial⟩ rfl rfl (congrArg Box.var (set_cons rfl (st_api_Peer_4 _ _))) ty4), ⟨⟨rfl, trivial⟩, ⟨rfl, trivial⟩, rfl⟩, rfl, rfl⟩ ?_
                exact nx_join ({ x11 with Ready := true }) H (cov_prune ⟨rfl, rfl, trivial⟩ ⟨rfl, rfl, trivial⟩ (Nat.le_of_ble_eq_true rfl))
              · replace H := ite_f hc H
                refine aw_skip ?_
                exact nx_join (x11) H (cov_prune ⟨rfl, rfl, trivial⟩ ⟨rfl, rfl, trivial⟩ (Nat.le_of_ble_eq_true rfl))
          · refine aw_cond rfl (fun hc => ?_) (fun hc => ?_)
            · replace H := ite_t hc H
              refine aw_region (es := [_, _, _, _]) ⟨Step.plain rfl (does_fieldAddr 43 2 2 3 1 0 [] (.var (e_api_Packet p1)) fl43_2), ⟨⟨rfl, trivial⟩, ⟨rfl, trivial⟩, rfl⟩, rfl,
                Step.plain rfl (does_load 27 57 1 (0 + 2) [2] (.var (e_api_Packet p1)) (e_api_Id p1.Conf) ⟨rfl, Nat.le_of_ble_eq_true rfl, trivial⟩ rfl rfl ty27), ⟨⟨rfl, trivial⟩, ⟨rfl, trivial⟩, rfl⟩, rfl,
                Step.plain rfl (does_fieldAddr 32 1 1 2 0 0 [] (.var (e_api_Peer x9)) fl32_1), ⟨⟨rfl, trivial⟩, ⟨rfl, trivial⟩, rfl⟩, rfl,
                Step.plain rfl (does_store 27 59 (.tmp 58) 0 (0 + 1) [1] (.var (e_api_Peer x9)) (.var (e_api_Peer ({ x9 with Conf := p1.Conf }))) (e_api_Id p1.Conf) true trivial rfl ⟨rfl, Nat.le_of_ble_eq_true rfl, trivial⟩ rfl rfl (congrArg Box.var (set_cons rfl (st_api_Peer_1 _ _))) ty27), ⟨⟨rfl, rfl, trivial⟩, ⟨rfl, trivial⟩, rfl⟩, rfl, rfl⟩ ?_
              refine aw_cov (cov_prune (s1 := ⟨[(2, (.ptr 0 0 [])), (3, (.ptr 1 0 [])), (4, (.ptr 2 0 []))], [(0, some (.var (e_api_Peer ({ x9 with Conf := p1.Conf })))), (1, some (.var (e_api_Packet p1))), (2, some (.var (e_api_Peer z_api_Peer)))], 3⟩) ⟨rfl, rfl, rfl, trivial⟩ ⟨rfl, rfl, rfl, trivial⟩ (Nat.le_refl _)) ?_
              refine aw_region1 (es := [_, _, _, _]) ⟨Step.plain rfl (does_fieldAddr 43 4 13 3 1 0 [] (.var (e_api_Packet p1)) fl43_4), ⟨⟨rfl, trivial⟩, ⟨rfl, trivial⟩, rfl⟩, rfl,
                Step.plain rfl (does_load 29 60 1 (0 + 13) [4] (.var (e_api_Packet p1)) (e_a8_u32 p1.Count) ⟨rfl, Nat.le_of_ble_eq_true rfl, trivial⟩ rfl rfl ty29), ⟨⟨rfl, trivial⟩, ⟨rfl, trivial⟩, rfl⟩, rfl,
                Step.plain rfl (does_fieldAddr 32 3 7 2 0 0 [] (.var (e_api_Peer ({ x9 with Conf := p1.Conf }))) fl32_3), ⟨⟨rfl, trivial⟩, ⟨rfl, trivial⟩, rfl⟩, rfl,
                Step.plain rfl (does_store 29 62 (.tmp 61) 0 (0 + 7) [3] (.var (e_api_Peer ({ x9 with Conf := p1.Conf }))) (.var (e_api_Peer ({ { x9 with Conf := p1.Conf } with Cut := p1.Count }))) (e_a8_u32 p1.Count) true trivial rfl ⟨rfl, Nat.le_of_ble_eq_true rfl, trivial⟩ rfl rfl (congrArg Box.var (set_cons rfl (st_api_Peer_3 _ _))) ty29), ⟨⟨rfl, rfl, trivial⟩, ⟨rfl, trivial⟩, rfl⟩, rfl, rfl⟩ ?_
              exact nx_join ({ { x9 with Conf := p1.Conf } with Cut := p1.Count }) H (cov_prune ⟨rfl, rfl, rfl, trivial⟩ ⟨rfl, rfl, rfl, trivial⟩ (Nat.le_of_ble_eq_true rfl))
            · replace H := ite_f hc H
              refine aw_skip ?_
              exact nx_join (x9) H (cov_prune ⟨rfl, rfl, rfl, trivial⟩ ⟨rfl, rfl, rfl, trivial⟩ (Nat.le_of_ble_eq_true rfl))
        · refine aw_cond rfl (fun hc => ?_) (fun hc => ?_)
          · replace H := ite_t hc H
            obtain ⟨v7, h8, H⟩ := bnd H
            refine aw_region1 (es := [_, _, _, _, _, _, _, _]) ⟨Step.plain rfl (does_fieldAddr 32 3 7 2 0 0 [] (.var (e_api_Peer p0)) fl32_3), ⟨⟨rfl, trivial⟩, ⟨rfl, trivial⟩, rfl⟩, rfl,
              Step.plain rfl (does_load 29 48 0 (0 + 7) [3] (.var (e_api_Peer p0)) (e_a8_u32 p0.Cut) ⟨rfl, Nat.le_of_ble_eq_true rfl, trivial⟩ rfl rfl ty29), ⟨⟨rfl, trivial⟩, ⟨rfl, trivial⟩, rfl⟩, rfl,
              Step.plain rfl (does_fieldAddr 43 4 13 3 1 0 [] (.var (e_api_Packet p1)) fl43_4), ⟨⟨rfl, trivial⟩, ⟨rfl, trivial⟩, rfl⟩, rfl,
              Step.plain rfl (does_load 29 50 1 (0 + 13) [4] (.var (e_api_Packet p1)) (e_a8_u32 p1.Count) ⟨rfl, Nat.le_of_ble_eq_true rfl, trivial⟩ rfl rfl ty29), ⟨⟨rfl, trivial⟩, ⟨rfl, trivial⟩, rfl⟩, rfl,
              Step.plain rfl (does_buildSl 67 2 8 (e_a8_u32 (fun _ => 0)) (fun j => (e_a8_u32 (([p0.Cut, p1.Count] : _root_.List (Nat → Int)).getD j (fun _ => 0)))) #[(0, (.tmp 49)), (1, (.tmp 51))] [(0, (.tmp 49)), (1, (.tmp 51))] [(0, (e_a8_u32 p0.Cut)), (1, (e_a8_u32 p1.Count))] rfl so67 (by decide) ⟨⟨rfl, trivial⟩, ⟨rfl, trivial⟩, trivial⟩ ⟨⟨Nat.le_of_ble_eq_true rfl, rfl, rfl⟩, ⟨Nat.le_of_ble_eq_true rfl, rfl, rfl⟩, trivial⟩ (fun j h => match j, h with | 0, _ => rfl | 1, _ => rfl | k + 2, h => absurd h (by omega))), ⟨⟨rfl, rfl, trivial⟩, trivial, rfl⟩, rfl,
              Step.plain rfl (does_call 31 0 (fun _ => .any) (.func 31) [(.tmp 52)] [(e_s_a8_u32 ([p0.Cut, p1.Count] : _root_.List (Nat → Int)))] [] true [(e_s_a8_u32 ([p0.Cut, p1.Count] : _root_.List (Nat → Int)))] (e_a8_u32 v7) _ _ rfl fo31 rfl ⟨trivial, trivial⟩ ⟨.data _ (d_s_a8_u32 ([p0.Cut, p1.Count] : _root_.List (Nat → Int))), trivial⟩ (congressref11_Union_spec ([p0.Cut, p1.Count] : _root_.List (Nat → Int)) _ h8) (f_a8_u32 v7)), ⟨⟨rfl, trivial⟩, trivial, rfl⟩, rfl,
              Step.plain rfl (does_fieldAddr 32 3 7 2 0 0 [] (.var (e_api_Peer p0)) fl32_3), ⟨⟨rfl, trivial⟩, ⟨rfl, trivial⟩, rfl⟩, rfl,
              Step.plain rfl (does_store 29 54 (.tmp 53) 0 (0 + 7) [3] (.var (e_api_Peer p0)) (.var (e_api_Peer ({ p0 with Cut := v7 }))) (e_a8_u32 v7) true trivial rfl ⟨rfl, Nat.le_of_ble_eq_true rfl, trivial⟩ rfl rfl (congrArg Box.var (set_cons rfl (st_api_Peer_3 _ _))) ty29), ⟨⟨rfl, rfl, trivial⟩, ⟨rfl, trivial⟩, rfl⟩, rfl, rfl⟩ ?_
            exact nx_join ({ p0 with Cut := v7 }) H (cov_prune ⟨rfl, rfl, rfl, rfl, trivial⟩ ⟨rfl, rfl, rfl, trivial⟩ (Nat.le_of_ble_eq_true rfl))
          · replace H := ite_f hc H
            refine aw_skip ?_
            exact nx_join (p0) H (cov_prune ⟨rfl, rfl, rfl, rfl, trivial⟩ ⟨rfl, rfl, rfl, trivial⟩ (Nat.le_of_ble_eq_true rfl))
end Go.Proofs.Yteajgbkgijaebaa
