/- Chapter 22: the queue's functions in closed form. Conditions: none. -/
import Derived.Test.YtclblogdciebnaaPb
set_option linter.unusedVariables false
set_option linter.unusedSimpArgs false
namespace Go.Proofs.Ytclblogdciebnaa
open Go.Eng R9
abbrev Ws := _root_.List api_Wait
abbrev U32a (f : Nat → Int) : Prop := ∀ j, j < 8 → (Lit.int .u32 (f j)).wf = true
abbrev zE : api_Entry := { Kind := 0, Service := 0, Group := 0, Session := 0, Number := 0, Text := ByteArray.empty }
theorem beqE {p q : api_Entry} : b_api_Entry p q = true ↔ p = q := by
  cases p; cases q; simp only [b_api_Entry, Bool.and_eq_true, beq_iff_eq, bq_iff, api_Entry.mk.injEq]
theorem beqW {p q : api_Wait} : b_api_Wait p q = true ↔ p = q := by
  cases p; cases q; simp only [b_api_Wait, Bool.and_eq_true, beqP, beqE, api_Wait.mk.injEq]
def insW (w : api_Wait) (t : Ws) : Ws := t.takeWhile (fun x => !befF w.Place x.Place) ++ w :: t.dropWhile (fun x => !befF w.Place x.Place)
def hasP (w : api_Wait) (t : Ws) : Bool := t.any fun x => b_api_Place x.Place w.Place
def putF (q : Ws) (w : api_Wait) : Ws := if hasP w q = true then q else insW w q
theorem fidx_any {α : Type} (l : _root_.List α) (d : α) (P : α → Bool) : decide (fidx l d P ≥ 0) = l.any P := by
  rcases fidx_spec l d P with ⟨h1, h2, h3⟩ | ⟨i, h1, h2, h3, h4, h5⟩
  · have e : decide ((-1 : Int) ≥ 0) = false := by decide
    rw [h1, e]
    symm
    rw [Bool.eq_false_iff]
    intro h
    obtain ⟨x, hx, hp⟩ := List.any_eq_true.1 h
    rw [List.find?_eq_none] at h2
    exact h2 x hx hp
  · rw [h2, decide_eq_true (by omega)]
    symm
    exact List.any_eq_true.2 ⟨_, getD_in h1, h3⟩
theorem put_eq (q : Ws) (w : api_Wait) (h : q.length ≤ 1000000) : queue_put q w = some (putF q w) := by
  have hm : (9223372036854775807 : Nat) ≤ maxLen := by decide
  have hm2 := maxLen_le
  unfold queue_put slices_ContainsFunc_api_Wait_api_Wait
  have e1 : slices_IndexFunc_api_Wait_api_Wait q (fun z0 => queue_put_1 z0 w) = some (fidx q z_api_Wait fun x => b_api_Place x.Place w.Place) := idxG_eq z_api_Wait q (fun z0 => queue_put_1 z0 w) (fun x => b_api_Place x.Place w.Place) (fun x => rfl) (by omega)
  have e2 : slices_IndexFunc_api_Wait_api_Wait q (fun z0 => queue_put_2 z0 w) = some (fidx q z_api_Wait fun x => befF w.Place x.Place) := idxG_eq z_api_Wait q (fun z0 => queue_put_2 z0 w) (fun x => befF w.Place x.Place) (fun x => by simp only [queue_put_2, before_eq, Option.bind_some]) (by omega)
  rw [e1, e2]
  simp only [Option.bind_some, fidx_any]
  unfold putF hasP
  split
  · rfl
  · simp only [jn, decide_eq_true_eq]
    have e3 : ∀ (c : Prop) [Decidable c] (a b : Int) (f : Int → Option Ws), (if c then f a else f b) = f (if c then a else b) := by intro c _ a b f; split <;> rfl
    rw [e3 _ _ _ (fun x => (slices_Insert_api_Wait_api_Wait q x [w]).bind fun v7 => some v7), fidx_tw]
    have hle : (q.takeWhile fun x => !befF w.Place x.Place).length ≤ q.length := (List.takeWhile_sublist _).length_le
    have e4 : slices_Insert_api_Wait_api_Wait q (((q.takeWhile fun x => !befF w.Place x.Place).length : Nat) : Int) [w] = some (insW w q) := by
      have := insG_eq z_api_Wait 80 q (q.takeWhile fun x => !befF w.Place x.Place).length w hle (by omega) (by omega)
      rw [(tw_take _ q).1, (tw_take _ q).2] at this
      exact this
    rw [e4]; rfl
theorem insW_len (w : api_Wait) (t : Ws) : (insW w t).length = t.length + 1 := by
  unfold insW
  have := congrArg List.length (List.takeWhile_append_dropWhile (p := fun x : api_Wait => !befF w.Place x.Place) (l := t))
  simp only [List.length_append, List.length_cons] at *
  omega
theorem putF_len (w : api_Wait) (t : Ws) : (putF t w).length ≤ t.length + 1 := by
  unfold putF; split
  · omega
  · rw [insW_len]; omega
def mkW (f r : Int) (es : _root_.List api_Entry) (n : Nat) : api_Wait := { Place := { Round := r, From := f, Slot := (n : Int) }, Entry := es.getD n z_api_Entry }
def addF (q : Ws) (f r : Int) (es : _root_.List api_Entry) : Nat → Ws
  | 0 => q
  | n + 1 => if b_api_Entry (es.getD n z_api_Entry) zE = true then addF q f r es n else putF (addF q f r es n) (mkW f r es n)
theorem addF_len (q : Ws) (f r : Int) (es : _root_.List api_Entry) : ∀ n, (addF q f r es n).length ≤ q.length + n
  | 0 => Nat.le_refl _
  | n + 1 => by
    have := addF_len q f r es n
    unfold addF
    split
    · omega
    · have := putF_len (mkW f r es n) (addF q f r es n); omega
theorem clone_eq (q : Ws) (h : q.length ≤ 1000000) : slices_Clone_api_Wait_api_Wait q = some q := by
  have hm : (9223372036854775807 : Nat) ≤ maxLen := by decide
  exact cloneG_eq (by omega) (by omega)
theorem flush_eq (q : Ws) (h : q.length ≤ 1000000) : queue_Flush q = some q := by
  unfold queue_Flush; rw [clone_eq q h]; rfl
theorem add_eq (q : Ws) (f r : Int) (es : _root_.List api_Entry) (h : q.length + es.length ≤ 900000) : queue_Add q f r es = some (addF q f r es es.length) := by
  unfold queue_Add
  rw [clone_eq q (by omega)]
  simp only [Option.bind_some]
  rw [loop_seq (s0 := ((0 : Int), q)) (fun n => ((n : Int), addF q f r es n)) es.length (w := .nx (addF q f r es es.length)) rfl (fun n hn => by
    have hn' : (n : Int) < (es.length : Int) := by omega
    have e1 : IntKind.i64.wrap ((n : Int) + 1) = ((n + 1 : Nat) : Int) := by rw [w64] <;> omega
    have hl := addF_len q f r es n
    have hp : queue_put (addF q f r es n) { Place := { Round := r, From := f, Slot := (n : Int) }, Entry := es.getD n z_api_Entry } = some (putF (addF q f r es n) (mkW f r es n)) := put_eq _ _ (by omega)
    simp only [hn', decide_true, if_true, jn, ib_n hn, Option.bind_some, Int.toNat_natCast, e1, lt, hp, addF]
    by_cases hz : b_api_Entry (es.getD n z_api_Entry) zE = true
    · rw [if_pos hz, if_neg (by rw [hz]; decide)]
    · rw [if_neg hz, if_pos (by rw [Bool.not_eq_true] at hz; rw [hz]; rfl)]) (by simp)]
  rfl

/-- The reference's walk: what is laid behind so many. -/
def laidW (m : api_Wait) (t : Ws) : Bool := t.any fun x => befF m.Place x.Place
theorem tw_all {p : api_Wait → Bool} : ∀ (l : Ws), (∀ x ∈ l, p x = true) → l.takeWhile p = l ∧ l.dropWhile p = []
  | [], _ => ⟨rfl, rfl⟩
  | x :: l, h => by
    obtain ⟨h1, h2⟩ := tw_all l (fun y hy => h y (by simp [hy]))
    rw [List.takeWhile_cons_of_pos (h x (by simp)), List.dropWhile_cons_of_pos (h x (by simp)), h1, h2]
    exact ⟨rfl, rfl⟩
theorem tw_app {p : api_Wait → Bool} (r : Ws) : ∀ (l : Ws), (∃ x ∈ l, p x = false) → (l ++ r).takeWhile p = l.takeWhile p ∧ (l ++ r).dropWhile p = l.dropWhile p ++ r
  | [], h => by obtain ⟨x, hx, _⟩ := h; cases hx
  | x :: l, h => by
    by_cases hx : p x = true
    · have h2 : ∃ y ∈ l, p y = false := by
        obtain ⟨y, hy, hp⟩ := h
        rcases List.mem_cons.1 hy with rfl | q
        · rw [hx] at hp; cases hp
        · exact ⟨y, q, hp⟩
      obtain ⟨h3, h4⟩ := tw_app r l h2
      rw [List.cons_append, List.takeWhile_cons_of_pos hx, List.dropWhile_cons_of_pos hx, List.takeWhile_cons_of_pos hx, List.dropWhile_cons_of_pos hx, h3, h4]
      exact ⟨rfl, rfl⟩
    · rw [List.cons_append, List.takeWhile_cons_of_neg hx, List.dropWhile_cons_of_neg hx, List.takeWhile_cons_of_neg hx, List.dropWhile_cons_of_neg hx]
      exact ⟨rfl, rfl⟩
theorem laid_ex {m : api_Wait} {t : Ws} (h : laidW m t = true) : ∃ x ∈ t, (!befF m.Place x.Place) = false := by
  obtain ⟨x, h1, h2⟩ := List.any_eq_true.1 h
  exact ⟨x, h1, by rw [h2]; rfl⟩
theorem laid_all {m : api_Wait} {t : Ws} (h : laidW m t = false) : ∀ x ∈ t, (!befF m.Place x.Place) = true := by
  intro x hx
  cases hh : befF m.Place x.Place with
  | false => rfl
  | true =>
    have : laidW m t = true := List.any_eq_true.2 ⟨x, hx, hh⟩
    rw [h] at this; cases this
theorem ins_laid {m x : api_Wait} {t : Ws} (h : laidW m t = true) : insW m (t ++ [x]) = insW m t ++ [x] := by
  obtain ⟨h1, h2⟩ := tw_app (p := fun x => !befF m.Place x.Place) [x] t (laid_ex h)
  unfold insW
  rw [h1, h2]; simp
theorem ins_not {m : api_Wait} {t : Ws} (h : laidW m t = false) : insW m t = t ++ [m] := by
  obtain ⟨h1, h2⟩ := tw_all (p := fun x => !befF m.Place x.Place) t (laid_all h)
  unfold insW
  rw [h1, h2]
theorem ins_now {m x : api_Wait} {t : Ws} (h : laidW m t = false) (hx : befF m.Place x.Place = true) : insW m (t ++ [x]) = t ++ [m] ++ [x] := by
  have hl : ∀ (t : Ws), (∀ y ∈ t, (!befF m.Place y.Place) = true) → (t ++ [x]).takeWhile (fun y => !befF m.Place y.Place) = t ∧ (t ++ [x]).dropWhile (fun y => !befF m.Place y.Place) = [x] := by
    intro t
    induction t with
    | nil => intro _; exact ⟨by rw [List.nil_append, List.takeWhile_cons_of_neg (by rw [hx]; decide)], by rw [List.nil_append, List.dropWhile_cons_of_neg (by rw [hx]; decide)]⟩
    | cons y t ih =>
      intro hh
      obtain ⟨h3, h4⟩ := ih (fun z hz => hh z (by simp [hz]))
      have hy := hh y (by simp)
      rw [List.cons_append, List.takeWhile_cons_of_pos (by exact hy), List.dropWhile_cons_of_pos (by exact hy), h3, h4]
      exact ⟨rfl, rfl⟩
  obtain ⟨h1, h2⟩ := hl t (laid_all h)
  unfold insW
  rw [h1, h2]; simp
/-- How far the reference has laid out. -/
def layF (w : api_Wait) (b : Bool) (t : Ws) : Ws := if b = true then t else if laidW w t = true then insW w t else t
theorem layF_s (w x : api_Wait) (b : Bool) (t : Ws) : layF w b (t ++ [x]) = (if ((!(b || laidW w t)) && befF w.Place x.Place) = true then layF w b t ++ [w] else layF w b t) ++ [x] := by
  unfold layF
  cases b with
  | true => simp
  | false =>
    simp only [Bool.false_eq_true, if_false, Bool.false_or]
    have e : laidW w (t ++ [x]) = (laidW w t || befF w.Place x.Place) := by simp [laidW]
    cases hl : laidW w t with
    | true => rw [if_pos (by rw [e, hl]; rfl), ins_laid hl]; simp
    | false =>
      rw [e, hl]
      cases hb : befF w.Place x.Place with
      | true => rw [if_pos (by rfl), ins_now hl hb]; simp
      | false => simp
theorem layF_len (w : api_Wait) (b : Bool) (t : Ws) : (layF w b t).length ≤ t.length + 1 := by
  unfold layF
  split
  · omega
  · split
    · rw [insW_len]; omega
    · omega
theorem lay_end (w : api_Wait) (q : Ws) : (if (!(hasP w q || laidW w q)) = true then layF w (hasP w q) q ++ [w] else layF w (hasP w q) q) = putF q w := by
  unfold putF layF
  cases hb : hasP w q with
  | true => simp
  | false =>
    cases hl : laidW w q with
    | true => simp
    | false => simp [ins_not hl]
theorem radd_eq (q : Ws) (f r : Int) (es : _root_.List api_Entry) (h : q.length + es.length ≤ 900000) : congressref22_Add q f r es = some (addF q f r es es.length) := by
  have hm : (9223372036854775807 : Nat) ≤ maxLen := by decide
  unfold congressref22_Add
  rw [loop_seq (s0 := (q, f, r, es, (0 : Int))) (fun n => (addF q f r es n, f, r, es, (n : Int))) es.length (w := .nx (addF q f r es es.length)) rfl (fun n hn => by
    have hn' : (n : Int) < (es.length : Int) := by omega
    have e1 : IntKind.i64.wrap ((n : Int) + 1) = ((n + 1 : Nat) : Int) := by rw [w64] <;> omega
    have hl := addF_len q f r es n
    obtain ⟨t, ht⟩ : ∃ t, t = addF q f r es n := ⟨_, rfl⟩
    have ew : ({ Place := { Round := r, From := f, Slot := (n : Int) }, Entry := es.getD n z_api_Entry } : api_Wait) = mkW f r es n := rfl
    simp only [hn', decide_true, if_true, jn, ib_n hn, Option.bind_some, Int.toNat_natCast, e1, lt, addF, ew, ← ht]
    rw [← ht] at hl
    by_cases hz : b_api_Entry (es.getD n z_api_Entry) zE = true
    · rw [if_pos hz, if_pos hz]
    · rw [if_neg hz, if_neg hz]
      obtain ⟨w, hw⟩ : ∃ w, w = mkW f r es n := ⟨_, rfl⟩
      have ep : ({ Round := r, From := f, Slot := (n : Int) } : api_Place) = w.Place := by rw [hw]; rfl
      rw [← hw]
      simp only [ep]
      rw [loop_seq (s0 := (false, (0 : Int))) (fun i => (hasP w (t.take i), (i : Int))) t.length (w := .nx (hasP w t)) rfl (fun i hi => by
        have hi' : (i : Int) < (t.length : Int) := by omega
        have e2 : IntKind.i64.wrap ((i : Int) + 1) = ((i + 1 : Nat) : Int) := by rw [w64] <;> omega
        have ibt : ∀ g, ibg g (i : Int) t.length = some () := fun g => ibg_t (fun _ => by omega)
        simp only [hi', decide_true, if_true, ibt, Option.bind_some, Int.toNat_natCast, e2]
        rw [take_s (d := z_api_Wait) hi]
        simp [hasP]) (by simp)]
      simp only [Option.bind_some, Fl.elim]
      rw [loop_seq (s0 := (hasP w t, (0 : Int), ([] : Ws))) (fun i => (hasP w t || laidW w (t.take i), (i : Int), layF w (hasP w t) (t.take i))) t.length (w := .nx (hasP w t || laidW w t, layF w (hasP w t) t)) (by simp [laidW, layF]) (fun i hi => by
        have hi' : (i : Int) < (t.length : Int) := by omega
        have e2 : IntKind.i64.wrap ((i : Int) + 1) = ((i + 1 : Nat) : Int) := by rw [w64] <;> omega
        have ibt : ∀ g, ibg g (i : Int) t.length = some () := fun g => ibg_t (fun _ => by omega)
        have hll := layF_len w (hasP w t) (t.take i)
        have htl : (t.take i).length ≤ t.length := by simp; omega
        have ef : ∀ x : Ws, x.length ≤ (t.take i).length + 3 → fit x.length 80 = some () := fun x hx => R9.fit_t (by omega) (by omega)
        simp only [hi', decide_true, if_true, ibt, ib_n hi, Option.bind_some, Int.toNat_natCast, e2, rbefore_eq, jn, whn]
        rw [ef _ (by simp only [List.length_append, List.length_cons, List.length_nil]; omega)]
        rw [take_s (d := z_api_Wait) hi, layF_s]
        have el : laidW w (t.take i ++ [t.getD i z_api_Wait]) = (laidW w (t.take i) || befF w.Place (t.getD i z_api_Wait).Place) := by simp [laidW]
        rw [el]
        generalize hB : (hasP w t || laidW w (t.take i)) = B
        have hC : (hasP w t || (laidW w (t.take i) || befF w.Place (t.getD i z_api_Wait).Place)) = (B || befF w.Place (t.getD i z_api_Wait).Place) := by rw [← hB, Bool.or_assoc]
        rw [hC]
        generalize befF w.Place (t.getD i z_api_Wait).Place = C
        cases B <;> cases C <;> simp only [Bool.not_true, Bool.not_false, Bool.false_and, Bool.true_and, if_true, Bool.false_eq_true, if_false, Option.bind_some, Bool.or_true, Bool.or_false, Bool.true_or, Bool.false_or]
        all_goals first
          | (rw [ef _ (by simp only [List.length_append, List.length_cons, List.length_nil]; omega)]; rfl)
          | rfl) (by simp)]
      simp only [Option.bind_some, Fl.elim]
      have hll := layF_len w (hasP w t) t
      have ef : fit (layF w (hasP w t) t ++ [w]).length 80 = some () := R9.fit_t (by simp only [List.length_append, List.length_cons, List.length_nil]; omega) (by omega)
      have := lay_end w t
      by_cases hc : (!(hasP w t || laidW w t)) = true
      · rw [if_pos hc] at this
        rw [if_pos hc, ef, ← this]; rfl
      · rw [if_neg hc] at this
        rw [if_neg hc, ← this]) (by simp)]
  rfl

def srvB (e : api_Entry) : Int := if e.Kind = 1 then e.Service else 2
def isB (c m : Nat → Int) (w : api_Wait) : Bool := servF c m w.Place (srvB w.Entry)
def ordB (e : api_Entry) : Bool := ((e.Kind != 1) || (e.Service == 2)) || (e.Service == 3)
def badB (c m : Nat → Int) (w : api_Wait) : Bool := ordB w.Entry && !isB c m w
def okB (c m : Nat → Int) (h : Bool) (w : api_Wait) : Bool := isB c m w && !(ordB w.Entry && h)
def rdF (c m : Nat → Int) : Bool → Ws → Ws × Ws
  | _, [] => ([], [])
  | h, w :: q => if okB c m h w = true then (w :: (rdF c m (h || badB c m w) q).1, (rdF c m (h || badB c m w) q).2) else ((rdF c m (h || badB c m w) q).1, w :: (rdF c m (h || badB c m w) q).2)
theorem rdF_s (c m : Nat → Int) (w : api_Wait) : ∀ (q : Ws) (h : Bool), rdF c m h (q ++ [w]) = if okB c m (h || q.any (badB c m)) w = true then ((rdF c m h q).1 ++ [w], (rdF c m h q).2) else ((rdF c m h q).1, (rdF c m h q).2 ++ [w])
  | [], h => by
    simp only [List.nil_append, List.any_nil, Bool.or_false, rdF]
  | x :: q, h => by
    have ih := rdF_s c m w q (h || badB c m x)
    simp only [List.cons_append, rdF, ih, List.any_cons, Bool.or_assoc]
    by_cases h2 : okB c m (h || (badB c m x || q.any (badB c m))) w = true
    · simp only [if_pos h2]
      split <;> rfl
    · simp only [if_neg h2]
      split <;> rfl
theorem rdF_len (c m : Nat → Int) : ∀ (q : Ws) (h : Bool), (rdF c m h q).1.length + (rdF c m h q).2.length = q.length
  | [], h => rfl
  | x :: q, h => by
    have ih := rdF_len c m q (h || badB c m x)
    simp only [rdF]
    split <;> simp only [List.length_cons] <;> omega
theorem service_eq (e : api_Entry) : queue_service e = some (srvB e) := by
  unfold queue_service srvB
  by_cases h : e.Kind = 1 <;> simp [h]
theorem ordered_eq (e : api_Entry) : queue_ordered e = some (ordB e) := rfl
theorem rordered_eq (e : api_Entry) : congressref22_Ordered e = some (ordB e) := rfl
theorem ris_eq {c m : Nat → Int} (w0 : U32 c) (w1 : U32 m) (w : api_Wait) (w2 : (Lit.int .u32 w.Place.Round).wf = true) : congressref22_Is w c m = some (isB c m w) := by
  unfold congressref22_Is isB srvB
  simp only [jn, rserv_eq w0 w1 w2, Option.bind_some, beq_iff_eq]
  split <;> rfl
def wfQ (q : Ws) : Prop := ∀ w ∈ q, (Lit.int .u32 w.Place.Round).wf = true
theorem ready_eq {c m : Nat → Int} {q : Ws} (hq : wfQ q) (hl : q.length ≤ 900000) : queue_Ready q c m = some (rdF c m false q) := by
  have hm : (9223372036854775807 : Nat) ≤ maxLen := by decide
  unfold queue_Ready
  rw [loop_seq (s0 := (false, (0 : Int), ([] : Ws), ([] : Ws))) (fun n => ((q.take n).any (badB c m), (n : Int), (rdF c m false (q.take n)).1, (rdF c m false (q.take n)).2)) q.length (w := .nx (rdF c m false q)) rfl (fun n hn => by
    have hn' : (n : Int) < (q.length : Int) := by omega
    have e1 : IntKind.i64.wrap ((n : Int) + 1) = ((n + 1 : Nat) : Int) := by rw [w64] <;> omega
    have hw := hq _ (getD_in (d := z_api_Wait) hn)
    have hll := rdF_len c m (q.take n) false
    have htl : (q.take n).length ≤ q.length := by simp; omega
    have ef : ∀ x : Ws, x.length ≤ (q.take n).length + 1 → fit x.length 80 = some () := fun x hx => R9.fit_t (by omega) (by omega)
    simp only [hn', decide_true, if_true, jn, ib_n hn, Option.bind_some, Int.toNat_natCast, e1, service_eq, ordered_eq, serv_eq _ _ _ _ hw]
    rw [take_s (d := z_api_Wait) hn, rdF_s, ef _ (by simp only [List.length_append, List.length_cons, List.length_nil]; omega), ef _ (by simp only [List.length_append, List.length_cons, List.length_nil]; omega)]
    simp only [Option.bind_some, Bool.false_or, List.any_append, List.any_cons, List.any_nil, Bool.or_false]
    have ei : servF c m (q.getD n z_api_Wait).Place (srvB (q.getD n z_api_Wait).Entry) = isB c m (q.getD n z_api_Wait) := rfl
    rw [ei]
    unfold okB badB
    generalize isB c m (q.getD n z_api_Wait) = A
    generalize ordB (q.getD n z_api_Wait).Entry = B
    generalize (q.take n).any (fun w => ordB w.Entry && !isB c m w) = C
    cases A <;> cases B <;> cases C <;> rfl) (by simp)]
  rfl
theorem rready_eq {c m : Nat → Int} {q : Ws} (w0 : U32 c) (w1 : U32 m) (hq : wfQ q) (hl : q.length ≤ 900000) : congressref22_Ready q c m = some (rdF c m false q) := by
  have hm : (9223372036854775807 : Nat) ≤ maxLen := by decide
  unfold congressref22_Ready
  rw [loop_seq (s0 := ((0 : Int), ([] : Ws), ([] : Ws))) (fun n => ((n : Int), (rdF c m false (q.take n)).1, (rdF c m false (q.take n)).2)) q.length (w := .nx (rdF c m false q)) rfl (fun n hn => by
    have hn' : (n : Int) < (q.length : Int) := by omega
    have e1 : IntKind.i64.wrap ((n : Int) + 1) = ((n + 1 : Nat) : Int) := by rw [w64] <;> omega
    have hw := hq _ (getD_in (d := z_api_Wait) hn)
    have hll := rdF_len c m (q.take n) false
    have htl : (q.take n).length ≤ q.length := by simp; omega
    have ef : ∀ x : Ws, x.length ≤ (q.take n).length + 1 → fit x.length 80 = some () := fun x hx => R9.fit_t (by omega) (by omega)
    simp only [hn', decide_true, if_true, jn, ib_n hn, Option.bind_some, Int.toNat_natCast, e1, ris_eq w0 w1 _ hw]
    rw [loop_cb (r := .next (((n + 1 : Nat) : Int), (rdF c m false (q.take (n + 1))).1, (rdF c m false (q.take (n + 1))).2)) (fun i s => s = (isB c m (q.getD n z_api_Wait) && !(ordB (q.getD n z_api_Wait).Entry && (q.take i).any (badB c m)), (i : Int)) ∧ i ≤ n)
      (fun w => w = .nx (okB c m ((q.take n).any (badB c m)) (q.getD n z_api_Wait))) n (s0 := (isB c m (q.getD n z_api_Wait), (0 : Int))) ⟨by simp, Nat.zero_le _⟩
      (fun i s hi hs => by
        obtain ⟨rfl, _⟩ := hs
        have hi' : (i : Int) < (n : Int) := by omega
        have hi2 : i < q.length := by omega
        have e2 : IntKind.i64.wrap ((i : Int) + 1) = ((i + 1 : Nat) : Int) := by rw [w64] <;> omega
        have ibt : ∀ g, ibg g (i : Int) q.length = some () := fun g => ibg_t (fun _ => by omega)
        have ibt2 : ∀ g, ibg g (n : Int) q.length = some () := fun g => ibg_t (fun _ => by omega)
        have hw2 := hq _ (getD_in (d := z_api_Wait) hi2)
        simp only [hi', decide_true, Bool.true_and, ibt, ibt2, Option.bind_some, Int.toNat_natCast, e2, whn, if_true, rordered_eq, ib_n hi2, ris_eq w0 w1 _ hw2]
        by_cases ho : ordB (q.getD n z_api_Wait).Entry = true
        · left
          refine ⟨(isB c m (q.getD n z_api_Wait) && !(ordB (q.getD n z_api_Wait).Entry && (q.take (i + 1)).any (badB c m)), ((i + 1 : Nat) : Int)), ?_, rfl, hi⟩
          rw [if_pos ho, take_s (d := z_api_Wait) hi2]
          simp only [ho, Bool.true_and, List.any_append, List.any_cons, List.any_nil, Bool.or_false]
          unfold badB
          generalize isB c m (q.getD n z_api_Wait) = A
          generalize isB c m (q.getD i z_api_Wait) = D
          generalize ordB (q.getD i z_api_Wait).Entry = B
          generalize (q.take i).any (fun w => ordB w.Entry && !isB c m w) = C
          cases A <;> cases B <;> cases C <;> cases D <;> rfl
        · right
          rw [if_neg ho]
          rw [Bool.not_eq_true] at ho
          exact ⟨_, rfl, by simp only [okB, ho, Bool.false_and, Bool.not_false]⟩)
      (fun s hs => by
        obtain ⟨rfl, _⟩ := hs
        have ibt : ∀ g, ibg g (n : Int) q.length = some () := fun g => ibg_t (fun _ => by omega)
        refine ⟨_, ?_, rfl⟩
        simp only [Int.lt_irrefl, decide_false, Bool.false_and, ibt, Option.bind_some, whn, Bool.false_eq_true, if_false]
        rfl)
      (fun w hw => by
        subst hw
        simp only [Fl.elim]
        rw [take_s (d := z_api_Wait) hn, rdF_s, ef _ (by simp only [List.length_append, List.length_cons, List.length_nil]; omega), ef _ (by simp only [List.length_append, List.length_cons, List.length_nil]; omega)]
        simp only [Option.bind_some, Bool.false_or]
        split <;> rfl)]) (by simp)]
  rfl

def mayB (q : Ws) : Bool := (List.range q.length).all fun i => !(b_api_Entry (q.getD i z_api_Wait).Entry zE || (decide (0 < i) && !befF (q.getD (i - 1) z_api_Wait).Place (q.getD i z_api_Wait).Place))
theorem may_eq (q : Ws) (hl : q.length ≤ 1000000000000000000) : queue_May q = some (mayB q) := by
  unfold queue_May
  rw [scan (fun i => b_api_Entry (q.getD i z_api_Wait).Entry zE || (decide (0 < i) && !befF (q.getD (i - 1) z_api_Wait).Place (q.getD i z_api_Wait).Place)) q.length (fun n hn => by
    have hn' : (n : Int) < (q.length : Int) := by omega
    have e1 : IntKind.i64.wrap ((n : Int) + 1) = ((n + 1 : Nat) : Int) := by rw [w64] <;> omega
    have ibt : ∀ g, ibg (g && decide ((n : Int) > 0)) (IntKind.i64.wrap ((n : Int) - 1)) q.length = some () := fun g => ibg_t (fun h => by
      simp only [Bool.and_eq_true, decide_eq_true_eq] at h
      rw [w64] <;> omega)
    simp only [hn', decide_true, if_true, ib_n hn, ibt, Option.bind_some, Int.toNat_natCast, e1, before_eq, whn, lt]
    by_cases h0 : n = 0
    · subst h0
      simp only [Int.natCast_zero, gt_iff_lt, Int.lt_irrefl, decide_false, Bool.and_false, Bool.false_and, Nat.lt_irrefl, Bool.false_eq_true, if_false, Option.bind_some, Bool.or_false]
    · have e2 : (IntKind.i64.wrap ((n : Int) - 1)).toNat = n - 1 := by rw [w64] <;> omega
      have e3 : decide ((n : Int) > 0) = true := decide_eq_true (by omega)
      have e4 : decide (0 < n) = true := decide_eq_true (by omega)
      simp only [e2, e3, e4, Bool.and_true, Bool.true_and]
      cases b_api_Entry (q.getD n z_api_Wait).Entry zE <;> cases befF (q.getD (n - 1) z_api_Wait).Place (q.getD n z_api_Wait).Place <;> rfl) (by simp)]
  have e : mayB q = ((List.range q.length).all fun i => !(b_api_Entry (q.getD i z_api_Wait).Entry zE || (decide (0 < i) && !befF (q.getD (i - 1) z_api_Wait).Place (q.getD i z_api_Wait).Place))) := rfl
  rw [← e]
  cases mayB q <;> rfl
theorem rmay_eq (q : Ws) (hl : q.length ≤ 1000000000000000000) : congressref22_May q = some (mayB q) := by
  unfold congressref22_May
  rw [scan (fun i => b_api_Entry (q.getD i z_api_Wait).Entry zE || (decide (0 < i) && !befF (q.getD (i - 1) z_api_Wait).Place (q.getD i z_api_Wait).Place)) q.length (fun n hn => by
    have hn' : (n : Int) < (q.length : Int) := by omega
    have e1 : IntKind.i64.wrap ((n : Int) + 1) = ((n + 1 : Nat) : Int) := by rw [w64] <;> omega
    have ibt : ∀ g, ibg (g && decide ((n : Int) > 0)) (IntKind.i64.wrap ((n : Int) - 1)) q.length = some () := fun g => ibg_t (fun h => by
      simp only [Bool.and_eq_true, decide_eq_true_eq] at h
      rw [w64] <;> omega)
    have ibt2 : ∀ g, ibg g (n : Int) q.length = some () := fun g => ibg_t (fun _ => by omega)
    simp only [hn', decide_true, if_true, ib_n hn, ibt, ibt2, Option.bind_some, Int.toNat_natCast, e1, rbefore_eq, whn, lt]
    by_cases h0 : n = 0
    · subst h0
      simp only [Int.natCast_zero, gt_iff_lt, Int.lt_irrefl, decide_false, Bool.and_false, Bool.false_and, Nat.lt_irrefl, Bool.false_eq_true, if_false, Option.bind_some, Bool.or_false]
    · have e2 : (IntKind.i64.wrap ((n : Int) - 1)).toNat = n - 1 := by rw [w64] <;> omega
      have e3 : decide ((n : Int) > 0) = true := decide_eq_true (by omega)
      have e4 : decide (0 < n) = true := decide_eq_true (by omega)
      simp only [e2, e3, e4, Bool.and_true, Bool.true_and]
      cases b_api_Entry (q.getD n z_api_Wait).Entry zE <;> cases befF (q.getD (n - 1) z_api_Wait).Place (q.getD n z_api_Wait).Place <;> rfl) (by simp)]
  have e : mayB q = ((List.range q.length).all fun i => !(b_api_Entry (q.getD i z_api_Wait).Entry zE || (decide (0 < i) && !befF (q.getD (i - 1) z_api_Wait).Place (q.getD i z_api_Wait).Place))) := rfl
  rw [← e]
  cases mayB q <;> rfl
theorem same_refl (q : Ws) (hl : q.length ≤ 1000000) : congressref22_Same q q = some true := by
  unfold congressref22_Same
  rw [if_neg (by simp)]
  rw [loop_seq (s0 := (0 : Int)) (fun n => (n : Int)) q.length (w := .nx ()) rfl (fun n hn => by
    have hn' : (n : Int) < (q.length : Int) := by omega
    have e1 : IntKind.i64.wrap ((n : Int) + 1) = ((n + 1 : Nat) : Int) := by rw [w64] <;> omega
    have e2 : b_api_Wait (q.getD n z_api_Wait) (q.getD n z_api_Wait) = true := beqW.2 rfl
    simp only [hn', decide_true, if_true, ib_n hn, Option.bind_some, Int.toNat_natCast, e1, lt, e2, Bool.not_true, Bool.false_eq_true, if_false]) (by simp)]
  rfl
def hasB (q : Ws) (w : api_Wait) : Bool := q.any fun x => b_api_Wait x w
theorem has_iff {q : Ws} {w : api_Wait} : hasB q w = true ↔ w ∈ q := by
  unfold hasB
  rw [List.any_eq_true]
  constructor
  · rintro ⟨x, hx, h⟩; rw [beqW.1 h] at hx; exact hx
  · intro h; exact ⟨w, h, beqW.2 rfl⟩
theorem has_eq (q : Ws) (w : api_Wait) (hl : q.length ≤ 1000000) : congressref22_Has q w = some (hasB q w) := by
  unfold congressref22_Has
  rw [loop_find q.length (fun i => b_api_Wait (q.getD i z_api_Wait) w) (fun _ => true) (fun n hn => by
    have hn' : (n : Int) < (q.length : Int) := by omega
    have e1 : IntKind.i64.wrap ((n : Int) + 1) = ((n + 1 : Nat) : Int) := by rw [w64] <;> omega
    simp only [hn', decide_true, if_true, ib_n hn, Option.bind_some, Int.toNat_natCast, e1]) (by simp)]
  have := fidx_any q z_api_Wait (fun x => b_api_Wait x w)
  unfold fidx at this
  unfold hasB
  rw [← this]
  cases (List.range q.length).find? (fun i => b_api_Wait (q.getD i z_api_Wait) w) with
  | none => rfl
  | some i => simp [Fl.elim]
end Go.Proofs.Ytclblogdciebnaa
