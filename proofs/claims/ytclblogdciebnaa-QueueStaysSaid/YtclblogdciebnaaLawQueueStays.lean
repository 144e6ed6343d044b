/- Printed by gen.py. Conditions: none. -/
import Derived.Test.YtclblogdciebnaaRows
import Derived.Test.YtclblogdciebnaaSp7
import Derived.Test.YtclblogdciebnaaPureQueueStays
import Derived.WalkKit
import Derived.ProofKit
import Derived.OpenShut
import Derived.ShutString
import Derived.ChangeOld
import Derived.Below
import Derived.Carry
import Derived.SizedLaws
import Derived.KernelRfl
set_option linter.unusedVariables false
namespace Go.Proofs.Ytclblogdciebnaa
open Go.Eng
namespace queueStays
open Go.ChangeShapes Go.WideShapes Go.ChangeAt Go.RowKit
theorem own : ownKnob Try.prog.godebug = none := by kernel_rfl
theorem laidOut : laidOutB Try.prog = true := by kernel_rfl
set_option maxRecDepth 100000 in
theorem lifted (os : Os) (started : os.Started) (H : Type) (enc : TypeId × Value → H) :
    ReturnsInHanded {} Try.checked os 4 .any (Rows.queueStaysSpec.pre6 enc Try.prog Try.f4 Rows.queueStaysRow.domain false) (Rows.queueStaysSpec.post enc Try.prog Try.f4 false true false false) := by
  refine returnsInHanded_of_change_sized (C := Try.checked) own started (by kernel_rfl) Try.func4
    (ChangeSpec.witness6 (enc := enc) (C := Try.checked) false ⟨#[], #[.slice none 0 0, .agg #[.int .i64 0, .int .u32 0, .slice none 0 0], .agg #[.int .u32 0, .int .u32 0, .int .u32 0, .int .u32 0, .int .u32 0, .int .u32 0, .int .u32 0, .int .u32 0, .int .u32 0, .int .u32 0, .int .u32 0, .int .u32 0, .int .u32 0, .int .u32 0, .int .u32 0, .int .u32 0]], []⟩ 8 (by kernel_rfl) (by kernel_rfl) (by kernel_rfl) (by kernel_rfl)) ?_
  intro W base args ds gs before hval0 hW hcnd hsz0 _
  have hval : ∀ (j : Nat) t v, Try.f4.params[j]? = some t → args[j]? = some v → Value.okWide Try.prog W .any base t v := hval0
  have hW' := hW
  obtain ⟨p, q, hA0, hV, rfl, hfz, hnd⟩ := hW
  have hA : DataW.TrodAll enc Try.prog W 0 (fun _ => true) true Try.f4.params.toList args.toList ds p := hA0
  rw [Try.params4] at hA hval
  obtain ⟨v0, vs0, d0, ds0, p0, q0, hargs, rfl, rfl, h0, r0⟩ := trodAll_cons hA
  obtain ⟨v1, vs1, d1, ds1, p1, q1, rfl, rfl, rfl, h1, r1⟩ := trodAll_cons r0
  obtain ⟨v2, vs2, d2, ds2, p2, q2, rfl, rfl, rfl, h2, r2⟩ := trodAll_cons r1
  obtain ⟨rfl, rfl, rfl⟩ := trodAll_nil r2
  obtain rfl : args = #[v0, v1, v2] := by cases args; simp_all
  obtain ⟨rfl, rfl⟩ := trodVars_none hV
  have lt0 : ∀ x ∈ p0, x.block < W.heap.size := by obtain ⟨m, hm⟩ := h0; exact DataW.trod_lt m _ _ _ hm
  have hwt0 : ∀ n ∈ d0.weights Try.prog 22, n ≤ reachBytes := fun n hn => by have := List.all_eq_true.1 hsz0 n (DataW.weights_mem_each (j := 0) rfl rfl n hn); simpa using this
  obtain ⟨a0, w0, R0⟩ := in22.arg (ag := false) (fun _ => rfl) (VOk.sl (by kernel_rfl : Try.prog.underlying 22 = some (.slice 47)) (hval 0 22 v0 rfl rfl)) h0 hwt0
  have lt1 : ∀ x ∈ p1, x.block < W.heap.size := by obtain ⟨m, hm⟩ := h1; exact DataW.trod_lt m _ _ _ hm
  have hwt1 : ∀ n ∈ d1.weights Try.prog 26, n ≤ reachBytes := fun n hn => by have := List.all_eq_true.1 hsz0 n (DataW.weights_mem_each (j := 1) rfl rfl n hn); simpa using this
  obtain ⟨a1, w1, R1⟩ := in26.arg (ag := true) (fun _ => rfl) (VOk.st sk26 (hval 1 26 v1 rfl rfl)) h1 hwt1
  have lt2 : ∀ x ∈ p2, x.block < W.heap.size := by obtain ⟨m, hm⟩ := h2; exact DataW.trod_lt m _ _ _ hm
  have hwt2 : ∀ n ∈ d2.weights Try.prog 31, n ≤ reachBytes := fun n hn => by have := List.all_eq_true.1 hsz0 n (DataW.weights_mem_each (j := 2) rfl rfl n hn); simpa using this
  obtain ⟨a2, w2, R2⟩ := in31.arg (ag := true) (fun _ => rfl) (VOk.st sk31 (hval 2 31 v2 rfl rfl)) h2 hwt2
  clear hA0 hval0 hsz0
  refine (FSpec.law (congresslaw22_QueueStays_spec a0 a1 a2 true (pure_queueStays a0 a1 a2 w0 w1 w2)) W _ (ArgsAre.of (xs := [v0, v1, v2]) ⟨R0, R1, R2, trivial⟩)).mono fun e W' ⟨he, bel⟩ => ?_
  subst he
  exact ⟨_, rfl, _, _, _, [], _, [], hW', trodAll_mk1 (shut_bool Try.underlying4 _), (trodAll_cons_mk (Below.trod laidOut (by kernel_rfl) (of_decide_eq_true (by kernel_rfl)) h0 bel lt0) (trodAll_cons_mk (Below.trod laidOut (by kernel_rfl) (of_decide_eq_true (by kernel_rfl)) h1 bel lt1) (trodAll_cons_mk (Below.trod laidOut (by kernel_rfl) (of_decide_eq_true (by kernel_rfl)) h2 bel lt2) trodAll_mk0))), rfl, bel.frame _, fun h => by cases h⟩
theorem over : Rows.queueStaysRow.holds Try.pinned (OpenSpec.ofChange Rows.queueStaysSpec) :=
  OpenClaim.holds_of_wide 4 Try.f4 rfl rfl rfl rfl rfl rfl rfl ⟨rfl, rfl, rfl, rfl, rfl⟩ rfl rfl rfl rfl rfl (by kernel_rfl) Try.func4 (by kernel_rfl)
    (of_decide_eq_true (by kernel_rfl)) (by unfold Func.isWrapper; first | (rw [if_pos (by decide +kernel)]; kernel_rfl) | (rw [if_neg (by decide +kernel)]; exact ⟨rfl, rfl⟩))
    (fun os started H enc _ => lifted os started H enc)
theorem proved : Rows.QueueStaysSaid := over
end queueStays
/-- The row, under a short name, for the claim. -/
theorem queueStays_holds : Rows.QueueStaysSaid := queueStays.proved
end Go.Proofs.Ytclblogdciebnaa
