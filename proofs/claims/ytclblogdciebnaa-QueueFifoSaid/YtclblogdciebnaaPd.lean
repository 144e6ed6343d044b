/- Chapter 22: order in the queue; the laws that tell, that stay, that end. Conditions: none. -/
import Derived.Test.YtclblogdciebnaaPc
set_option linter.unusedVariables false
set_option linter.unusedSimpArgs false
namespace Go.Proofs.Ytclblogdciebnaa
open Go.Eng R9
abbrev wA : api_Wait := { Place := { Round := 1, From := 0, Slot := 1 }, Entry := { Kind := 1, Service := 3, Group := 0, Session := 0, Number := 0, Text := (⟨#[97]⟩ : ByteArray) } }
abbrev wB : api_Wait := { Place := { Round := 2, From := 0, Slot := 0 }, Entry := { Kind := 1, Service := 2, Group := 0, Session := 0, Number := 0, Text := (⟨#[98]⟩ : ByteArray) } }
theorem two_eq : congresslaw22_two = some [wA, wB] := by
  unfold congresslaw22_two
  rw [add_eq _ _ _ _ (by decide)]
  simp only [Option.bind_some]
  have e1 : addF [] 0 2 [({ Kind := 1, Service := 2, Group := 0, Session := 0, Number := 0, Text := (⟨#[98]⟩ : ByteArray) } : api_Entry)] ([({ Kind := 1, Service := 2, Group := 0, Session := 0, Number := 0, Text := (⟨#[98]⟩ : ByteArray) } : api_Entry)] : _root_.List api_Entry).length = [wB] := rfl
  rw [e1, add_eq _ _ _ _ (by decide)]
  rfl
theorem fixed_eq : congresslaw22_fixed = some true := by
  have wq : wfQ [wA, wB] := by
    intro w hw
    rcases List.mem_cons.1 hw with rfl | hw
    · rfl
    · rcases List.mem_cons.1 hw with rfl | hw
      · rfl
      · cases hw
  unfold congresslaw22_fixed
  rw [two_eq]
  simp only [Option.bind_some]
  rw [ready_eq wq (by decide)]
  simp only [Option.bind_some]
  rw [ready_eq wq (by decide)]
  have r1 : rdF (aset (fun _ => 0) [(0, 2), (1, 2)]) (aset (fun _ => 0) [(0, 1), (1, 1)]) false [wA, wB] = ([wA, wB], []) := rfl
  have r2 : rdF (aset (fun _ => 0) [(0, 1), (1, 1)]) (aset (fun _ => 0) [(0, 1), (1, 1)]) false [wA, wB] = ([], [wA, wB]) := rfl
  have m1 : mayB [wA, wB] = true := rfl
  rw [r1, r2]
  simp only [Option.bind_some, may_eq _ (show ([wA, wB] : Ws).length ≤ 1000000000000000000 by decide), m1, flush_eq _ (show ([wA, wB] : Ws).length ≤ 1000000 by decide)]
  rfl

def Bef (a b : api_Wait) : Prop := befF a.Place b.Place = true
theorem Bef.tr {a b c : api_Wait} (h1 : Bef a b) (h2 : Bef b c) : Bef a c := bef_trans h1 h2
theorem Bef.irr {a : api_Wait} (h : Bef a a) : False := by
  unfold Bef at h; rw [bef_iff] at h; omega
theorem may_iff {q : Ws} : mayB q = true ↔ (∀ w ∈ q, w.Entry ≠ zE) ∧ q.Pairwise Bef := by
  unfold mayB
  rw [List.all_eq_true]
  constructor
  · intro h
    have h' : ∀ i, i < q.length → (q.getD i z_api_Wait).Entry ≠ zE ∧ (0 < i → Bef (q.getD (i - 1) z_api_Wait) (q.getD i z_api_Wait)) := by
      intro i hi
      have := h i (List.mem_range.2 hi)
      rw [Bool.not_eq_true', Bool.or_eq_false_iff] at this
      refine ⟨fun e => ?_, fun h0 => ?_⟩
      · have := this.1; rw [beqE.2 e] at this; cases this
      · have h2 := this.2
        rw [decide_eq_true h0, Bool.true_and, Bool.not_eq_false'] at h2; exact h2
    refine ⟨fun w hw => ?_, ?_⟩
    · obtain ⟨i, hi, rfl⟩ := List.getElem_of_mem hw
      have := (h' i hi).1
      rw [List.getD_eq_getElem?_getD, List.getElem?_eq_getElem hi] at this; exact this
    · rw [List.pairwise_iff_getElem]
      have key : ∀ d i, i + d + 1 < q.length → Bef (q.getD i z_api_Wait) (q.getD (i + d + 1) z_api_Wait) := by
        intro d
        induction d with
        | zero => intro i hi; exact (h' (i + 1) hi).2 (by omega)
        | succ d ih => intro i hi; exact (ih i (by omega)).tr ((h' (i + (d + 1) + 1) hi).2 (by omega))
      intro i j hi hj hij
      have := key (j - i - 1) i (by omega)
      rw [show i + (j - i - 1) + 1 = j by omega, List.getD_eq_getElem?_getD, List.getD_eq_getElem?_getD, List.getElem?_eq_getElem hi, List.getElem?_eq_getElem hj] at this
      exact this
  · rintro ⟨h1, h2⟩ i hi
    have hi := List.mem_range.1 hi
    rw [Bool.not_eq_true', Bool.or_eq_false_iff]
    refine ⟨?_, ?_⟩
    · cases hh : b_api_Entry (q.getD i z_api_Wait).Entry zE with
      | false => rfl
      | true => exact absurd (beqE.1 hh) (h1 _ (getD_in hi))
    · by_cases h0 : 0 < i
      · rw [decide_eq_true h0, Bool.true_and, Bool.not_eq_false']
        have := List.pairwise_iff_getElem.1 h2 (i - 1) i (by omega) hi (by omega)
        rw [List.getD_eq_getElem?_getD, List.getD_eq_getElem?_getD, List.getElem?_eq_getElem hi, List.getElem?_eq_getElem (show i - 1 < q.length by omega)]
        exact this
      · rw [decide_eq_false h0]; rfl
theorem insW_perm (w : api_Wait) (t : Ws) : (insW w t).Perm (w :: t) := by
  unfold insW
  have := List.takeWhile_append_dropWhile (p := fun x : api_Wait => !befF w.Place x.Place) (l := t)
  exact List.perm_middle.trans (by rw [this])
theorem mem_insW {w x : api_Wait} {t : Ws} : x ∈ insW w t ↔ x = w ∨ x ∈ t := by
  rw [(insW_perm w t).mem_iff, List.mem_cons]
theorem drop_bef (w : api_Wait) : ∀ (t : Ws), t.Pairwise Bef → ∀ x ∈ t.dropWhile (fun x => !befF w.Place x.Place), Bef w x
  | [], _, x, hx => by cases hx
  | y :: t, h, x, hx => by
    cases hy : befF w.Place y.Place with
    | false =>
      rw [List.dropWhile_cons_of_pos (by rw [hy]; rfl)] at hx
      exact drop_bef w t (List.pairwise_cons.1 h).2 x hx
    | true =>
      rw [List.dropWhile_cons_of_neg (by rw [hy]; decide)] at hx
      rcases List.mem_cons.1 hx with rfl | hx
      · exact hy
      · exact Bef.tr hy ((List.pairwise_cons.1 h).1 x hx)
theorem take_bef (w : api_Wait) : ∀ (t : Ws), ∀ x ∈ t.takeWhile (fun x => !befF w.Place x.Place), ¬ Bef w x
  | [], x, hx => by cases hx
  | y :: t, x, hx => by
    cases hy : befF w.Place y.Place with
    | true => rw [List.takeWhile_cons_of_neg (by rw [hy]; decide)] at hx; cases hx
    | false =>
      rw [List.takeWhile_cons_of_pos (by rw [hy]; rfl)] at hx
      rcases List.mem_cons.1 hx with rfl | hx
      · unfold Bef; rw [hy]; decide
      · exact take_bef w t x hx
theorem has_not {w : api_Wait} {t : Ws} (h : hasP w t = false) : ∀ x ∈ t, x.Place ≠ w.Place := by
  intro x hx e
  have : hasP w t = true := List.any_eq_true.2 ⟨x, hx, beqP.2 e⟩
  rw [h] at this; cases this
theorem insW_sorted {w : api_Wait} {t : Ws} (h : t.Pairwise Bef) (hp : hasP w t = false) : (insW w t).Pairwise Bef := by
  unfold insW
  have hn := has_not hp
  have hlt : ∀ x ∈ t.takeWhile (fun x => !befF w.Place x.Place), Bef x w := by
    intro x hx
    have h1 := take_bef w t x hx
    rcases bef_tri w.Place x.Place with h2 | h2 | h2
    · exact absurd h2 h1
    · exact h2
    · exact absurd h2.symm (hn x (List.takeWhile_sublist _ |>.mem hx))
  have hgt := drop_bef w t h
  rw [List.pairwise_append]
  refine ⟨h.sublist (List.takeWhile_sublist _), List.pairwise_cons.2 ⟨hgt, h.sublist (List.dropWhile_sublist _)⟩, fun x hx y hy => ?_⟩
  rcases List.mem_cons.1 hy with rfl | hy
  · exact hlt x hx
  · exact (hlt x hx).tr (hgt y hy)
theorem putF_sorted {w : api_Wait} {t : Ws} (h : t.Pairwise Bef) : (putF t w).Pairwise Bef := by
  unfold putF
  split
  · exact h
  · next hh => exact insW_sorted h (by simpa using hh)
theorem addF_sorted {q : Ws} (h : q.Pairwise Bef) (f r : Int) (es : _root_.List api_Entry) : ∀ n, (addF q f r es n).Pairwise Bef
  | 0 => h
  | n + 1 => by
    unfold addF
    split
    · exact addF_sorted h f r es n
    · exact putF_sorted (addF_sorted h f r es n)
theorem mem_putF {w x : api_Wait} {t : Ws} (h : x ∈ putF t w) : x = w ∨ x ∈ t := by
  unfold putF at h
  split at h
  · exact .inr h
  · exact mem_insW.1 h
theorem putF_mem {w x : api_Wait} {t : Ws} (h : x ∈ t) : x ∈ putF t w := by
  unfold putF
  split
  · exact h
  · exact mem_insW.2 (.inr h)
theorem mem_addF {q : Ws} {f r : Int} {es : _root_.List api_Entry} {x : api_Wait} : ∀ n, x ∈ addF q f r es n → x ∈ q ∨ ∃ j, j < n ∧ x = mkW f r es j ∧ es.getD j z_api_Entry ≠ zE
  | 0, h => .inl h
  | n + 1, h => by
    unfold addF at h
    split at h
    · rcases mem_addF n h with h | ⟨j, h1, h2⟩
      · exact .inl h
      · exact .inr ⟨j, by omega, h2⟩
    · next hz =>
      rcases mem_putF h with rfl | h
      · exact .inr ⟨n, by omega, rfl, fun e => hz (beqE.2 e)⟩
      · rcases mem_addF n h with h | ⟨j, h1, h2⟩
        · exact .inl h
        · exact .inr ⟨j, by omega, h2⟩
theorem addF_mem {q : Ws} {f r : Int} {es : _root_.List api_Entry} {x : api_Wait} (h : x ∈ q) : ∀ n, x ∈ addF q f r es n
  | 0 => h
  | n + 1 => by
    unfold addF
    split
    · exact addF_mem h n
    · exact putF_mem (addF_mem h n)
theorem rd_perm (c m : Nat → Int) : ∀ (q : Ws) (h : Bool), ((rdF c m h q).1 ++ (rdF c m h q).2).Perm q
  | [], h => .refl _
  | x :: q, h => by
    have ih := rd_perm c m q (h || badB c m x)
    simp only [rdF]
    split
    · exact .cons x ih
    · exact List.perm_middle.trans (.cons x ih)
theorem rd_sub1 (c m : Nat → Int) : ∀ (q : Ws) (h : Bool), (rdF c m h q).1.Sublist q
  | [], h => .slnil
  | x :: q, h => by
    have ih := rd_sub1 c m q (h || badB c m x)
    simp only [rdF]
    split
    · exact .cons_cons x ih
    · exact .cons x ih
theorem rd_sub2 (c m : Nat → Int) : ∀ (q : Ws) (h : Bool), (rdF c m h q).2.Sublist q
  | [], h => .slnil
  | x :: q, h => by
    have ih := rd_sub2 c m q (h || badB c m x)
    simp only [rdF]
    split
    · exact .cons x ih
    · exact .cons_cons x ih
theorem sorted_nodup {q : Ws} (h : q.Pairwise Bef) : q.Nodup := h.imp fun {a b} hab e => by subst e; exact hab.irr
theorem wfQ_of {a0 : Ws} (h : ∀ j, j < a0.length → w_api_Wait (a0.getD j z_api_Wait)) : wfQ a0 := by
  intro w hw
  obtain ⟨i, hi, rfl⟩ := List.getElem_of_mem hw
  have := h i hi
  rw [List.getD_eq_getElem?_getD, List.getElem?_eq_getElem hi] at this
  exact this.1.1
theorem wfQ_add {q : Ws} (h : wfQ q) {f r : Int} {es : _root_.List api_Entry} (hr : (Lit.int .u32 r).wf = true) (n : Nat) : wfQ (addF q f r es n) := by
  intro w hw
  rcases mem_addF n hw with hw | ⟨j, _, rfl, _⟩
  · exact h w hw
  · exact hr
theorem pure_queueTells (a0 : (_root_.List api_Wait)) (a1 : congresslaw22_Frame) (a2 : congresslaw22_Where) (w0 : (a0.length ≤ maxLen ∧ a0.length * 80 ≤ 140737488351232) ∧ ∀ j, j < a0.length → w_api_Wait (a0.getD j z_api_Wait)) (w1 : w_congresslaw22_Frame a1) (w2 : w_congresslaw22_Where a2) : congresslaw22_QueueTells a0 a1 a2 = some true := by
  unfold congresslaw22_QueueTells
  simp only [lt, fixed_eq, Option.bind_some]
  by_cases hb : ((decide ((a0.length : Int) > 100)) || (decide ((a1.L.length : Int) > 20))) = true
  · rw [if_pos hb]
  · rw [if_neg hb]
    rw [Bool.not_eq_true, Bool.or_eq_false_iff, decide_eq_false_iff_not, decide_eq_false_iff_not] at hb
    have hq := wfQ_of w0.2
    have hl := rdF_len a2.C a2.M a0 false
    have ha := addF_len a0 a1.From a1.Round a1.L a1.L.length
    rw [ready_eq hq (by omega), rready_eq w2.1 w2.2 hq (by omega), add_eq _ _ _ _ (by omega), radd_eq _ _ _ _ (by omega)]
    simp only [Option.bind_some, whn, if_true]
    rw [same_refl _ (by omega), same_refl _ (by omega), same_refl _ (by omega), flush_eq _ (by omega)]
    simp only [Option.bind_some, whn, if_true, Bool.and_self]
    rw [same_refl _ (by omega), may_eq _ (by omega), rmay_eq _ (by omega)]
    simp
theorem pure_queueStays (a0 : (_root_.List api_Wait)) (a1 : congresslaw22_Frame) (a2 : congresslaw22_Where) (w0 : (a0.length ≤ maxLen ∧ a0.length * 80 ≤ 140737488351232) ∧ ∀ j, j < a0.length → w_api_Wait (a0.getD j z_api_Wait)) (w1 : w_congresslaw22_Frame a1) (w2 : w_congresslaw22_Where a2) : congresslaw22_QueueStays a0 a1 a2 = some true := by
  have hm : a0.length ≤ 1759218604390 := by have := w0.1.2; omega
  unfold congresslaw22_QueueStays
  simp only [fixed_eq, Option.bind_some, Bool.not_true, Bool.not_false, whn, if_true, may_eq a0 (by omega), lt, Bool.false_or]
  by_cases hb : (((!mayB a0) || (decide ((a0.length : Int) > 100))) || (decide ((a1.L.length : Int) > 20))) = true
  · rw [if_pos hb]
  · rw [if_neg hb]
    rw [Bool.not_eq_true, Bool.or_eq_false_iff, Bool.or_eq_false_iff, decide_eq_false_iff_not, decide_eq_false_iff_not, Bool.not_eq_false'] at hb
    obtain ⟨⟨hmay, hb1⟩, hb2⟩ := hb
    obtain ⟨hz, hs⟩ := may_iff.1 hmay
    have hq := wfQ_of w0.2
    have ha := addF_len a0 a1.From a1.Round a1.L a1.L.length
    rw [add_eq _ _ _ _ (by omega)]
    simp only [Option.bind_some]
    have hq1 : wfQ (addF a0 a1.From a1.Round a1.L a1.L.length) := wfQ_add hq w1.2.1 _
    have hs1 := addF_sorted hs a1.From a1.Round a1.L a1.L.length
    have hz1 : ∀ w ∈ addF a0 a1.From a1.Round a1.L a1.L.length, w.Entry ≠ zE := by
      intro w hw
      rcases mem_addF _ hw with hw | ⟨j, _, rfl, h⟩
      · exact hz w hw
      · exact h
    have hmem : ∀ w ∈ a0, w ∈ addF a0 a1.From a1.Round a1.L a1.L.length := fun w hw => addF_mem hw _
    generalize addF a0 a1.From a1.Round a1.L a1.L.length = q1 at *
    rw [ready_eq hq1 (by omega)]
    simp only [Option.bind_some]
    have hl := rdF_len a2.C a2.M q1 false
    have hp := rd_perm a2.C a2.M q1 false
    have hA := rd_sub1 a2.C a2.M q1 false
    have hB := rd_sub2 a2.C a2.M q1 false
    generalize (rdF a2.C a2.M false q1).1 = A at *
    generalize (rdF a2.C a2.M false q1).2 = B at *
    have m1 : mayB q1 = true := may_iff.2 ⟨hz1, hs1⟩
    have m2 : mayB A = true := may_iff.2 ⟨fun w hw => hz1 w (hA.mem hw), hs1.sublist hA⟩
    have m3 : mayB B = true := may_iff.2 ⟨fun w hw => hz1 w (hB.mem hw), hs1.sublist hB⟩
    have e1 : IntKind.i64.wrap ((A.length : Int) + (B.length : Int)) = (q1.length : Int) := by rw [w64] <;> omega
    rw [may_eq q1 (by omega), may_eq A (by omega), may_eq B (by omega)]
    simp only [Option.bind_some, m1, m2, m3, e1, Bool.not_true, Bool.not_false, if_true, Bool.or_self, Bool.false_or, bne_self_eq_false, Bool.false_eq_true, if_false]
    rw [scan (fun i => !hasB q1 (a0.getD i z_api_Wait)) a0.length (fun n hn => by
      have hn' : (n : Int) < (a0.length : Int) := by omega
      have e1 : IntKind.i64.wrap ((n : Int) + 1) = ((n + 1 : Nat) : Int) := by rw [w64] <;> omega
      simp only [hn', decide_true, if_true, ib_n hn, Option.bind_some, Int.toNat_natCast, e1, has_eq q1 _ (show q1.length ≤ 1000000 by omega)]) (by simp)]
    rw [if_pos (List.all_eq_true.2 fun i hi => by rw [Bool.not_not]; exact has_iff.2 (hmem _ (getD_in (List.mem_range.1 hi))))]
    simp only [Option.bind_some, Fl.elim]
    rw [scan (fun i => hasB A (q1.getD i z_api_Wait) == hasB B (q1.getD i z_api_Wait)) q1.length (fun n hn => by
      have hn' : (n : Int) < (q1.length : Int) := by omega
      have e1 : IntKind.i64.wrap ((n : Int) + 1) = ((n + 1 : Nat) : Int) := by rw [w64] <;> omega
      simp only [hn', decide_true, if_true, ib_n hn, Option.bind_some, Int.toNat_natCast, e1, has_eq A _ (show A.length ≤ 1000000 by omega), has_eq B _ (show B.length ≤ 1000000 by omega)]) (by simp)]
    rw [if_pos]
    · rfl
    · rw [List.all_eq_true]
      intro i hi
      have hx := getD_in (d := z_api_Wait) (List.mem_range.1 hi)
      have hnd : (A ++ B).Nodup := (hp.nodup_iff).2 (sorted_nodup hs1)
      have hdis := (List.nodup_append.1 hnd).2.2
      have hor := List.mem_append.1 ((hp.mem_iff).2 hx)
      rw [Bool.not_eq_true', beq_eq_false_iff_ne]
      intro e
      rcases hor with h | h
      · have h2 := has_iff.2 h
        rw [h2] at e
        exact hdis _ h _ (has_iff.1 e.symm) rfl
      · have h2 := has_iff.2 h
        rw [h2] at e
        exact hdis _ (has_iff.1 e) _ h rfl
theorem rd_all {c m : Nat → Int} : ∀ (q : Ws), (∀ w ∈ q, isB c m w = true) → rdF c m false q = (q, [])
  | [], _ => rfl
  | x :: q, h => by
    have hx := h x (by simp)
    have ih := rd_all q (fun w hw => h w (by simp [hw]))
    have hb : badB c m x = false := by unfold badB; rw [hx]; simp
    have ho : okB c m false x = true := by unfold okB; rw [hx]; simp
    simp only [rdF, hb, Bool.or_self, ih, ho, if_true]
theorem and7 {x : Int} (h0 : 0 ≤ x) (h8 : x < 8) : iand .i64 x 7 = x := by
  obtain ⟨d, rfl⟩ : ∃ d : Nat, x = (d : Int) := ⟨x.toNat, by omega⟩
  have h : d < 8 := by omega
  match d, h with
  | 0, _ => decide
  | 1, _ => decide
  | 2, _ => decide
  | 3, _ => decide
  | 4, _ => decide
  | 5, _ => decide
  | 6, _ => decide
  | 7, _ => decide
theorem and7_in (x : Int) : 0 ≤ iand .i64 x 7 ∧ iand .i64 x 7 < 8 := by
  have e : iand .i64 x 7 = IntKind.i64.wrap ((BitVec.ofInt 64 x &&& BitVec.ofInt 64 7).toNat : Int) := rfl
  have h7 : (BitVec.ofInt 64 7 : BitVec 64).toNat = 7 := by decide
  have hle : (BitVec.ofInt 64 x &&& BitVec.ofInt 64 7).toNat ≤ 7 := by
    rw [BitVec.toNat_and, h7]; exact Nat.and_le_right
  rw [e, w64 (by omega) (by omega)]; omega
theorem pure_queueEnds (a0 : (_root_.List api_Wait)) (a1 : (Nat → Int)) (w0 : (a0.length ≤ maxLen ∧ a0.length * 80 ≤ 140737488351232) ∧ ∀ j, j < a0.length → w_api_Wait (a0.getD j z_api_Wait)) (w1 : ∀ j, j < 8 → (Lit.int .u32 (a1 j)).wf = true) : congresslaw22_QueueEnds a0 a1 = some true := by
  unfold congresslaw22_QueueEnds
  simp only [fixed_eq, Option.bind_some, Bool.not_true, Bool.false_or]
  by_cases hb : (a0.length : Int) > 100
  · rw [if_pos (decide_eq_true hb)]
  · rw [if_neg (by simpa using hb)]
    obtain ⟨P, hP⟩ : ∃ P : api_Wait → Bool, P = fun w => (((((((decide (((w.Place).From) < 0)) || (decide (((w.Place).From) > 7))) || ((a1 ((iand .i64 ((w.Place).From) 7).toNat)) == 0)) || (decide (((w.Place).Round) < 1))) || (decide (((w.Place).Round) > 1000))) || ((((w.Entry).Kind) == 1) && ((decide (((w.Entry).Service) < 0)) || (decide (((w.Entry).Service) > 3)))))) := ⟨_, rfl⟩
    rw [loop_find a0.length (fun i => P (a0.getD i z_api_Wait)) (fun _ => true) (fun n hn => by
      have hn' : (n : Int) < (a0.length : Int) := by omega
      have e1 : IntKind.i64.wrap ((n : Int) + 1) = ((n + 1 : Nat) : Int) := by rw [w64] <;> omega
      have ibt : ∀ g x, ibg g (iand .i64 x 7) 8 = some () := fun g x => ibg_t (fun _ => and7_in x)
      simp only [hn', decide_true, if_true, ib_n hn, ibt, Option.bind_some, Int.toNat_natCast, e1, lt, hP]) (by simp)]
    cases hf : (List.range a0.length).find? (fun i => P (a0.getD i z_api_Wait)) with
    | some i => rfl
    | none =>
      simp only [Option.bind_some, Fl.elim]
      rw [List.find?_eq_none] at hf
      have hg : ∀ w ∈ a0, P w = false := by
        intro w hw
        obtain ⟨i, hi, rfl⟩ := List.getElem_of_mem hw
        have := hf i (List.mem_range.2 hi)
        rw [List.getD_eq_getElem?_getD, List.getElem?_eq_getElem hi] at this
        simpa using this
      refine loop_cb (fun n s => s.1 = (n : Int) ∧ ∀ j, j < n → s.2 j = 1002) (fun w => ∃ f, w = .nx f ∧ ∀ j, j < 8 → f j = 1002) 8 (s0 := ((0 : Int), aset (fun _ => 0) [])) ⟨rfl, fun j hj => absurd hj (by omega)⟩
        (fun n s hn hs => by
          obtain ⟨s1, s2⟩ := s
          obtain ⟨h1, h2⟩ := hs
          simp only at h1 h2
          subst h1
          have hn' : (n : Int) < 8 := by omega
          have e1 : IntKind.i64.wrap ((n : Int) + 1) = ((n + 1 : Nat) : Int) := by rw [w64] <;> omega
          left
          refine ⟨(((n + 1 : Nat) : Int), aupd s2 n 1002), by simp only [hn', decide_true, if_true, ib_n hn, Option.bind_some, Int.toNat_natCast, e1], rfl, fun j hj => ?_⟩
          simp only [aupd]
          by_cases hjn : j = n
          · rw [if_pos hjn]
          · rw [if_neg hjn]; exact h2 j (by omega))
        (fun s hs => by
          obtain ⟨s1, s2⟩ := s
          obtain ⟨h1, h2⟩ := hs
          simp only at h1 h2
          subst h1
          exact ⟨.nx s2, rfl, s2, rfl, h2⟩)
        (fun w hw => by
          obtain ⟨f, rfl, hf⟩ := hw
          simp only [Fl.elim]
          have hq := wfQ_of w0.2
          have u0 : U32 f := fun j hj => by rw [hf j hj]; rfl
          have hall : rdF f a1 false a0 = (a0, []) := rd_all a0 fun w hw => by
            have h := hg w hw
            rw [hP] at h
            simp only [Bool.or_eq_false_iff, decide_eq_false_iff_not] at h
            obtain ⟨⟨⟨⟨⟨h1, h2⟩, h3⟩, h4⟩, h5⟩, h6⟩ := h
            rw [and7 (by omega) (by omega), beq_eq_false_iff_ne] at h3
            have hf8 : w.Place.From.toNat < 8 := by omega
            have hask : askF f a1 w.Place = true := askF_iff.2 ⟨by omega, by omega, h3, by omega, by rw [hf _ hf8]; omega⟩
            have hle : (1002 : Int) ≤ (leastF f a1).1 := (least_le u0 hf8 h3 1002).2 fun i hi _ => by rw [hf i hi]; omega
            have hah : aheadF f a1 w.Place w.Place.From.toNat = true := ahead_iff.2 fun j hj hn => by rw [hf j (by omega)]; omega
            have h3' : servF f a1 w.Place 3 = true := by rw [s3, hask, decide_eq_true (by omega)]; rfl
            have h2' := serv32 u0 h3'
            have h1' := serv21 h2'
            have h0' := serv10 h1'
            unfold isB srvB
            by_cases hk : w.Entry.Kind = 1
            · rw [if_pos hk]
              rw [hk] at h6
              simp only [beq_self_eq_true, Bool.true_and, Bool.or_eq_false_iff, decide_eq_false_iff_not] at h6
              rcases (show w.Entry.Service = 0 ∨ w.Entry.Service = 1 ∨ w.Entry.Service = 2 ∨ w.Entry.Service = 3 by omega) with e | e | e | e <;> rw [e] <;> assumption
            · rw [if_neg hk]; exact h2'
          rw [ready_eq hq (by omega), hall]
          simp only [Option.bind_some]
          rw [same_refl a0 (by omega)]
          rfl)
end Go.Proofs.Ytclblogdciebnaa
