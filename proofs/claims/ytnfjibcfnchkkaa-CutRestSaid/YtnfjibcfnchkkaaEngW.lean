/- Words for pure laws over lists: what is found first, copies, what is deleted, all that are alike. Conditions: none. -/
import Derived.Test.YtnfjibcfnchkkaaEngR
import Derived.Test.YtnfjibcfnchkkaaEngZ
namespace Go.Eng
theorem bq_iff (a b : ByteArray) : (a == b) = true ↔ a = b := by
  obtain ⟨a⟩ := a
  obtain ⟨b⟩ := b
  have h : ((⟨a⟩ : ByteArray) == ⟨b⟩) = (a == b) := rfl
  rw [h, beq_iff_eq]
  simp
theorem bq_refl (a : ByteArray) : (a == a) = true := (bq_iff a a).2 rfl

/-- The first place at which something holds; -1: there is none. -/
def fidx {α : Type} (l : _root_.List α) (d : α) (P : α → Bool) : Int :=
  match (List.range l.length).find? (fun i => P (l.getD i d)) with
  | some i => i
  | none => -1

theorem loop_find {ρ : Type} {body : Int → Option (Stp Int (Fl ρ Unit))} (N : Nat) (P : Nat → Bool) (g : Nat → ρ) (h : ∀ n, n < N → body (n : Int) = if P n = true then some (.done (.rt (g n))) else some (.next ((n + 1 : Nat) : Int)))
    (hl : body (N : Int) = some (.done (.nx ()))) : loop body 0 = some (match (List.range N).find? P with | some i => .rt (g i) | none => .nx ()) := by
  obtain ⟨w, hw, hp⟩ := loop_count (body := body) (fun n s => s = (n : Int) ∧ ∀ j, j < n → P j = false) (fun w => w = (match (List.range N).find? P with | some i => .rt (g i) | none => .nx ())) N (s0 := 0) ⟨rfl, fun j hj => absurd hj (by omega)⟩
    (fun n s hn hs => by
      obtain ⟨rfl, hs⟩ := hs
      by_cases hP : P n = true
      · right
        refine ⟨.rt (g n), by rw [h n hn, if_pos hP], ?_⟩
        have : (List.range N).find? P = some n := by
          rw [List.find?_range_eq_some]
          exact ⟨hP, by simpa using hn, fun j hj => by simp [hs j hj]⟩
        rw [this]
      · left
        refine ⟨_, by rw [h n hn, if_neg hP], rfl, fun j hj => ?_⟩
        by_cases hjn : j = n
        · subst hjn; simpa using hP
        · exact hs j (by omega))
    (fun s hs => by
      obtain ⟨rfl, hs⟩ := hs
      refine ⟨.nx (), hl, ?_⟩
      have : (List.range N).find? P = none := by
        rw [List.find?_eq_none]
        intro j hj
        rw [hs j (List.mem_range.1 hj)]; simp
      rw [this])
  rw [hw, hp]

theorem fidx_spec {α : Type} (l : _root_.List α) (d : α) (P : α → Bool) : (fidx l d P = -1 ∧ l.find? P = none ∧ ∀ i, i < l.length → P (l.getD i d) = false) ∨
    ∃ i : Nat, i < l.length ∧ fidx l d P = i ∧ P (l.getD i d) = true ∧ l.find? P = some (l.getD i d) ∧ ∀ j, j < i → P (l.getD j d) = false := by
  unfold fidx
  cases h : (List.range l.length).find? (fun i => P (l.getD i d)) with
  | none =>
    left
    rw [List.find?_eq_none] at h
    have h' : ∀ i, i < l.length → P (l.getD i d) = false := fun i hi => by have := h i (List.mem_range.2 hi); simpa using this
    refine ⟨rfl, ?_, h'⟩
    rw [List.find?_eq_none]
    intro x hx
    obtain ⟨i, hi, rfl⟩ := List.getElem_of_mem hx
    have := h' i hi
    rw [List.getD_eq_getElem?_getD, List.getElem?_eq_getElem hi] at this
    simpa using this
  | some i =>
    right
    rw [List.find?_range_eq_some] at h
    obtain ⟨h1, h2, h3⟩ := h
    have hlt : i < l.length := by simpa using h2
    have h3' : ∀ j, j < i → P (l.getD j d) = false := fun j hj => by have := h3 j hj; simpa using this
    refine ⟨i, hlt, rfl, h1, ?_, h3'⟩
    rw [List.find?_eq_some_iff_getElem]
    rw [List.getD_eq_getElem?_getD, List.getElem?_eq_getElem hlt] at h1 ⊢
    refine ⟨h1, i, hlt, rfl, fun j hj => ?_⟩
    have := h3' j hj
    rw [List.getD_eq_getElem?_getD, List.getElem?_eq_getElem (by omega)] at this
    simp at this; simp [this]

/-- slices.IndexFunc, as it is printed. -/
noncomputable def idxG {α : Type} (d : α) (p0 : _root_.List α) (p1 : α → Option Bool) : Option Int :=
  (loop (ω := Fl (Int) (Unit)) (fun (x1 : Int) =>
    if (decide (x1 < (p0.length : Int))) then
      (ib x1 p0.length).bind fun _ =>
      (p1 (p0.getD x1.toNat d)).bind fun v4 =>
      if v4 then
        some (.done (.rt x1))
      else
        some (.next ((IntKind.i64.wrap (x1 + 1))))
    else
      some (.done (.nx ()))) (0)).bind fun wn2 => Fl.elim wn2 (fun _ =>
    some (-1)) (fun r => some r)

/-- A loop that counts, and what stands behind it. -/
theorem loop_cb {σ ω β : Type} {body : σ → Option (Stp σ ω)} {f : ω → Option β} {r : β} (I : Nat → σ → Prop) (Post : ω → Prop) (N : Nat) {s0 : σ} (h0 : I 0 s0)
    (step : ∀ n s, n < N → I n s → (∃ s', body s = some (.next s') ∧ I (n + 1) s') ∨ (∃ w, body s = some (.done w) ∧ Post w)) (last : ∀ s, I N s → ∃ w, body s = some (.done w) ∧ Post w) (fin : ∀ w, Post w → f w = some r) : (loop body s0).bind f = some r := by
  obtain ⟨w, hw, hp⟩ := loop_count I Post N h0 step last
  rw [hw]; exact fin w hp
theorem maxLen_le : maxLen ≤ 9223372036854775807 := by decide
theorem idxG_eq {α : Type} (d : α) (l : _root_.List α) (f : α → Option Bool) (P : α → Bool) (hf : ∀ x, f x = some (P x)) (hl : l.length ≤ maxLen) : idxG d l f = some (fidx l d P) := by
  have hm := maxLen_le
  unfold idxG
  rw [loop_find l.length (fun i => P (l.getD i d)) (fun i => (i : Int))]
  · unfold fidx
    cases (List.range l.length).find? (fun i => P (l.getD i d)) <;> rfl
  · intro n hn
    rw [if_pos (by simp; omega), ib_n hn]
    simp only [Option.bind_some, hf, Int.toNat_natCast]
    split
    · rfl
    · rw [w64 (by omega) (by omega)]; rfl
  · rw [if_neg (by simp)]

/-- slices.Clone, as it is printed. -/
noncomputable def cloneG {α : Type} (by_ : Nat) (p0 : _root_.List α) : Option (_root_.List α) :=
  nilq p0.length (
    some ([] : _root_.List α)) (
    (fit (([] : _root_.List α) ++ p0).length by_).bind fun _ =>
    some (([] : _root_.List α) ++ p0))
theorem fit_t {n b : Nat} (h1 : n ≤ maxLen) (h2 : n * b ≤ 140737488355328) : fit n b = some () := by simp only [fit, if_pos (And.intro h1 h2)]
theorem cloneG_eq {α : Type} {by_ : Nat} {l : _root_.List α} (h1 : l.length ≤ maxLen) (h2 : l.length * by_ ≤ 140737488355328) : cloneG by_ l = some l := by
  unfold cloneG
  refine nilq_t (fun h => ?_) ?_
  · rw [List.length_eq_zero_iff.1 h]
  · simp only [List.nil_append]
    rw [fit_t h1 h2]; rfl

/-- slices.DeleteFunc, as it is printed. -/
noncomputable def delG {α : Type} (d : α) (p0 : _root_.List α) (p1 : α → Option Bool) : Option (_root_.List α) :=
  (idxG d p0 p1).bind fun v1 =>
  if (v1 == (-1)) then
    some p0
  else
    (loop (ω := Fl ((_root_.List α)) (Int × _root_.List α)) (fun (x3 : Int × Int × _root_.List α) =>
      if (decide (x3.2.1 < (x3.2.2.length : Int))) then
        jn (fun x10 : Int × _root_.List α =>
          some (.next (x10.1, (IntKind.i64.wrap (x3.2.1 + 1)), x10.2))) fun j5 =>
        (ib x3.2.1 x3.2.2.length).bind fun _ =>
        (p1 (x3.2.2.getD x3.2.1.toNat d)).bind fun v7 =>
        if (!v7) then
          (ib x3.1 x3.2.2.length).bind fun _ =>
          j5 ((IntKind.i64.wrap (x3.1 + 1)), x3.2.2.set x3.1.toNat (x3.2.2.getD x3.2.1.toNat d))
        else
          j5 (x3.1, x3.2.2)
      else
        some (.done (.nx (x3.1, x3.2.2)))) (v1, (IntKind.i64.wrap (v1 + 1)), p0)).bind fun wn4 => Fl.elim wn4 (fun y11 =>
      (sb y11.1 (y11.2.length : Int) y11.2.length).bind fun _ =>
      (inb (y11.1.toNat + (y11.2.length - y11.1.toNat)) y11.2.length).bind fun _ =>
      (sb 0 y11.1 ((clr y11.2 d y11.1.toNat (y11.2.length - y11.1.toNat)).length)).bind fun _ =>
      (inb (y11.1.toNat - 0) (clr y11.2 d y11.1.toNat (y11.2.length - y11.1.toNat)).length).bind fun _ =>
      some ((clr y11.2 d y11.1.toNat (y11.2.length - y11.1.toNat)).take (y11.1.toNat - 0))) (fun r => some r)

theorem getD_set {α : Type} (l : _root_.List α) (i j : Nat) (v d : α) : (l.set i v).getD j d = if i = j ∧ i < l.length then v else l.getD j d := by
  simp only [List.getD_eq_getElem?_getD, List.getElem?_set]
  by_cases h : i = j
  · subst h
    by_cases h2 : i < l.length
    · simp [h2]
    · simp [h2]
  · simp [h]
theorem take_ext {α : Type} {l m : _root_.List α} {d : α} {n : Nat} (h1 : n ≤ l.length) (h2 : n ≤ m.length) (h : ∀ j, j < n → l.getD j d = m.getD j d) : l.take n = m.take n := by
  apply List.ext_getElem
  · simp; omega
  · intro i q1 q2
    simp only [List.length_take] at q1
    simp only [List.getElem_take]
    have := h i (by omega)
    rw [List.getD_eq_getElem?_getD, List.getD_eq_getElem?_getD, List.getElem?_eq_getElem (by omega), List.getElem?_eq_getElem (by omega)] at this
    simpa using this

theorem delG_eq {α : Type} (d : α) (l : _root_.List α) (f : α → Option Bool) (P : α → Bool) (hf : ∀ x, f x = some (P x)) (hl : l.length ≤ maxLen) : delG d l f = some (l.filter fun x => !P x) := by
  have hm := maxLen_le
  unfold delG
  rw [idxG_eq d l f P hf hl]
  simp only [Option.bind_some]
  rcases fidx_spec l d P with ⟨h1, _, h3⟩ | ⟨i0, h1, h2, h3, _, h4⟩
  · rw [h1]
    simp only [beq_self_eq_true, if_true]
    congr 1
    symm
    rw [List.filter_eq_self]
    intro x hx
    obtain ⟨i, hi, rfl⟩ := List.getElem_of_mem hx
    have := h3 i hi
    rw [List.getD_eq_getElem?_getD, List.getElem?_eq_getElem hi] at this
    simp at this; simp [this]
  · rw [h2, if_neg (by simp only [beq_iff_eq]; omega)]
    obtain ⟨w, hw, c, i, hwi, hci, hcl, hct⟩ := loop_inv (σ := Int × Int × _root_.List α) (ω := Fl (_root_.List α) (Int × _root_.List α)) (body := fun (x3 : Int × Int × _root_.List α) =>
      if (decide (x3.2.1 < (x3.2.2.length : Int))) then
        jn (fun x10 : Int × _root_.List α =>
          some (.next (x10.1, (IntKind.i64.wrap (x3.2.1 + 1)), x10.2))) fun j5 =>
        (ib x3.2.1 x3.2.2.length).bind fun _ =>
        (f (x3.2.2.getD x3.2.1.toNat d)).bind fun v7 =>
        if (!v7) then
          (ib x3.1 x3.2.2.length).bind fun _ =>
          j5 ((IntKind.i64.wrap (x3.1 + 1)), x3.2.2.set x3.1.toNat (x3.2.2.getD x3.2.1.toNat d))
        else
          j5 (x3.1, x3.2.2)
      else
        some (.done (.nx (x3.1, x3.2.2))))
      (fun s => ∃ i j : Nat, s.1 = i ∧ s.2.1 = j ∧ i < j ∧ j ≤ l.length ∧ s.2.2.length = l.length ∧ s.2.2.take i = (l.take j).filter (fun x => !P x) ∧ ∀ k, j ≤ k → s.2.2.getD k d = l.getD k d)
      (fun s => (l.length - s.2.1).toNat) (fun w => ∃ (c : _root_.List α) (i : Nat), w = .nx ((i : Int), c) ∧ i ≤ l.length ∧ c.length = l.length ∧ c.take i = l.filter (fun x => !P x)) (s0 := ((i0 : Int), IntKind.i64.wrap ((i0 : Int) + 1), l))
      ⟨i0, i0 + 1, rfl, by rw [w64 (by omega) (by omega)]; rfl, by omega, by omega, rfl, by
        rw [take_s (d := d) h1, List.filter_append]
        have e1 : (l.take i0).filter (fun x => !P x) = l.take i0 := by
          rw [List.filter_eq_self]
          intro x hx
          obtain ⟨i, hi, rfl⟩ := List.getElem_of_mem hx
          have hi' : i < i0 ∧ i < l.length := by simp only [List.length_take] at hi; omega
          have := h4 i hi'.1
          rw [List.getD_eq_getElem?_getD, List.getElem?_eq_getElem hi'.2] at this
          simp at this; simp [this]
        rw [e1, List.filter_cons_of_neg (by simp only [h3]; simp)]; simp, fun _ _ => rfl⟩
      (fun s hs => by
        obtain ⟨i, j, q1, q2, q3, q4, q5, q6, q7⟩ := hs
        obtain ⟨si, sj, c⟩ := s
        simp only at q1 q2 q5 q6 q7
        subst q1; subst q2
        by_cases hj : j < l.length
        · left
          have hPj := q7 j (Nat.le_refl _)
          simp only
          rw [if_pos (by simp; omega), jn, ib_n (show j < c.length by omega)]
          simp only [Option.bind_some, hf, Int.toNat_natCast, hPj]
          by_cases hP : P (l.getD j d) = true
          · rw [hP]
            refine ⟨(i, ((j + 1 : Nat) : Int), c), by simp only [Bool.not_true, Bool.false_eq_true, if_false]; rw [w64 (by omega) (by omega)]; rfl, ⟨i, j + 1, rfl, rfl, by omega, by omega, q5, ?_, fun k hk => q7 k (by omega)⟩, by simp only; omega⟩
            rw [take_s (d := d) hj, List.filter_append, List.filter_cons_of_neg (by simp only [hP]; simp)]; simp [q6]
          · have hP' : P (l.getD j d) = false := by simpa using hP
            rw [hP', ib_n (show i < c.length by omega)]
            refine ⟨(((i + 1 : Nat) : Int), ((j + 1 : Nat) : Int), c.set i (l.getD j d)), by simp only [Bool.not_false, if_true, Option.bind_some, Int.toNat_natCast]; rw [w64 (by omega) (by omega), w64 (by omega) (by omega)]; rfl, ⟨i + 1, j + 1, rfl, rfl, by omega, by omega, by simpa using q5, ?_, fun k hk => ?_⟩, by simp only; omega⟩
            · rw [take_s (d := d) hj, List.filter_append, List.filter_cons_of_pos (by simp only [hP']; simp), ← q6]
              rw [take_s (d := d) (by simpa using (show i < c.length by omega)), getD_set, if_pos ⟨rfl, by omega⟩]
              congr 1
              rw [List.take_set_of_le (Nat.le_refl _)]
            · rw [getD_set, if_neg (by omega)]; exact q7 k (by omega)
        · right
          have hjl : j = l.length := by omega
          subst hjl
          simp only
          rw [if_neg (by simp; omega)]
          exact ⟨_, rfl, c, i, rfl, by omega, q5, by rw [q6, List.take_length]⟩)
    rw [hw]
    subst hwi
    simp only [Option.bind_some, Fl.elim, Int.toNat_natCast]
    rw [sb_t ⟨by omega, by omega, by omega⟩]
    simp only [Option.bind_some]
    rw [inb_t (by omega)]
    simp only [Option.bind_some, clr_len]
    rw [sb_t ⟨by omega, by omega, by omega⟩]
    simp only [Option.bind_some, Nat.sub_zero]
    rw [inb_t (by omega)]
    simp only [Option.bind_some, Option.some.injEq]
    rw [← hct]
    refine take_ext (d := d) (by rw [clr_len]; omega) (by omega) (fun k hk => ?_)
    rw [clr_get _ _ _ _ _ (by omega), if_neg (by omega)]

theorem ext_d {α : Type} {l m : _root_.List α} (d : α) (h : l.length = m.length) (hj : ∀ j, j < l.length → l.getD j d = m.getD j d) : l = m := by
  apply List.ext_getElem h
  intro i h1 h2
  have := hj i h1
  simpa [List.getD_eq_getElem?_getD, h1, h2] using this
theorem getD_app {α : Type} (l m : _root_.List α) (d : α) (j : Nat) : (l ++ m).getD j d = if j < l.length then l.getD j d else m.getD (j - l.length) d := by
  simp only [List.getD_eq_getElem?_getD]
  by_cases h : j < l.length
  · rw [if_pos h, List.getElem?_append_left h]
  · rw [if_neg h, List.getElem?_append_right (by omega)]
theorem getD_take' {α : Type} (l : _root_.List α) (d : α) (n j : Nat) : (l.take n).getD j d = if j < n then l.getD j d else d := by
  simp only [List.getD_eq_getElem?_getD, List.getElem?_take]
  split <;> rfl
theorem getD_drop {α : Type} (l : _root_.List α) (d : α) (n j : Nat) : (l.drop n).getD j d = l.getD (n + j) d := by
  simp only [List.getD_eq_getElem?_getD, List.getElem?_drop]
theorem getD_cons {α : Type} (x : α) (l : _root_.List α) (d : α) (j : Nat) : (x :: l).getD j d = if j = 0 then x else l.getD (j - 1) d := by
  cases j <;> simp
/-- slices.Insert, as it is printed. -/
noncomputable def insG {α : Type} (d : α) (by_ : Nat) (p0 : (_root_.List α)) (p1 : Int) (p2 : (_root_.List α)) : Option ((_root_.List α)) :=
  (sb p1 ((p0.length : Nat) : Int) p0.length).bind fun _ =>
  if ((p2.length : Int) == 0) then
    some p0
  else
    if (p1 == (p0.length : Int)) then
      (fit (p0 ++ p2).length by_).bind fun _ =>
      some (p0 ++ p2)
    else
      bth (
        (sb 0 p1 p0.length).bind fun _ =>
        (inb (p1.toNat - 0) p0.length).bind fun _ =>
        (vz (p1.toNat - 0) (IntKind.i64.wrap ((IntKind.i64.wrap ((p0.length : Int) + (p2.length : Int))) - p1)) (IntKind.i64.wrap ((p0.length : Int) + (p2.length : Int))) by_).bind fun _ =>
        lt ((p0.take (p1.toNat - 0) ++ _root_.List.replicate (IntKind.i64.wrap ((IntKind.i64.wrap ((p0.length : Int) + (p2.length : Int))) - p1)).toNat d) : _root_.List α) fun v6 =>
        (sb p1 ((v6.length : Nat) : Int) v6.length).bind fun _ =>
        (inb (p1.toNat + min p2.length (v6.length - p1.toNat)) v6.length).bind fun _ =>
        (sb (IntKind.i64.wrap (p1 + (p2.length : Int))) (((ovl v6 p1.toNat (p2.take (v6.length - p1.toNat))).length : Nat) : Int) ((ovl v6 p1.toNat (p2.take (v6.length - p1.toNat))).length)).bind fun _ =>
        (sb p1 ((p0.length : Nat) : Int) p0.length).bind fun _ =>
        (inb (((IntKind.i64.wrap (p1 + (p2.length : Int))).toNat) + min (p0.length - p1.toNat) (((ovl v6 p1.toNat (p2.take (v6.length - p1.toNat))).length) - ((IntKind.i64.wrap (p1 + (p2.length : Int))).toNat))) (ovl v6 p1.toNat (p2.take (v6.length - p1.toNat))).length).bind fun _ =>
        (inb (p1.toNat + (p0.length - p1.toNat)) p0.length).bind fun _ =>
        lt ((ovl (ovl v6 p1.toNat (p2.take (v6.length - p1.toNat))) ((IntKind.i64.wrap (p1 + (p2.length : Int))).toNat) (((p0.drop p1.toNat).take (p0.length - p1.toNat)).take (((ovl v6 p1.toNat (p2.take (v6.length - p1.toNat))).length) - ((IntKind.i64.wrap (p1 + (p2.length : Int))).toNat)))) : _root_.List α) fun v14 =>
        some v14) (
        (ile ((p0.length : Nat) : Int) (IntKind.i64.wrap ((p0.length : Int) + (p2.length : Int)))).bind fun _ =>
        (sb (IntKind.i64.wrap (p1 + (p2.length : Int))) ((((IntKind.i64.wrap ((p0.length : Int) + (p2.length : Int))).toNat) : Nat) : Int) ((IntKind.i64.wrap ((p0.length : Int) + (p2.length : Int))).toNat)).bind fun _ =>
        (inb (((IntKind.i64.wrap (p1 + (p2.length : Int))).toNat) + (((IntKind.i64.wrap ((p0.length : Int) + (p2.length : Int))).toNat) - ((IntKind.i64.wrap (p1 + (p2.length : Int))).toNat))) ((IntKind.i64.wrap ((p0.length : Int) + (p2.length : Int))).toNat)).bind fun _ =>
        (sb (IntKind.i64.wrap (p1 + (p2.length : Int))) ((((IntKind.i64.wrap ((p0.length : Int) + (p2.length : Int))).toNat) : Nat) : Int) ((IntKind.i64.wrap ((p0.length : Int) + (p2.length : Int))).toNat)).bind fun _ =>
        (sb p1 ((((IntKind.i64.wrap ((p0.length : Int) + (p2.length : Int))).toNat) : Nat) : Int) ((IntKind.i64.wrap ((p0.length : Int) + (p2.length : Int))).toNat)).bind fun _ =>
        (cup ((IntKind.i64.wrap (p1 + (p2.length : Int))).toNat) p0.length (min (((IntKind.i64.wrap ((p0.length : Int) + (p2.length : Int))).toNat) - p1.toNat) (((IntKind.i64.wrap ((p0.length : Int) + (p2.length : Int))).toNat) - ((IntKind.i64.wrap (p1 + (p2.length : Int))).toNat))) ((IntKind.i64.wrap ((p0.length : Int) + (p2.length : Int))).toNat) p1.toNat).bind fun _ =>
        lt ((p0.take ((IntKind.i64.wrap (p1 + (p2.length : Int))).toNat) ++ (p0.drop p1.toNat).take (min (((IntKind.i64.wrap ((p0.length : Int) + (p2.length : Int))).toNat) - p1.toNat) (((IntKind.i64.wrap ((p0.length : Int) + (p2.length : Int))).toNat) - ((IntKind.i64.wrap (p1 + (p2.length : Int))).toNat)))) : _root_.List α) fun v22 =>
        (sb p1 ((v22.length : Nat) : Int) v22.length).bind fun _ =>
        (inb (p1.toNat + min p2.length (v22.length - p1.toNat)) v22.length).bind fun _ =>
        some (ovl v22 p1.toNat (p2.take (v22.length - p1.toNat))))
theorem insG_eq {α : Type} (d : α) (by_ : Nat) (l : _root_.List α) (i : Nat) (x : α) (hi : i ≤ l.length) (hl : l.length < 1000000000000000000) (hb : (l.length + 1) * by_ ≤ 140737488355328) : insG d by_ l (i : Int) [x] = some (l.take i ++ x :: l.drop i) := by
  have hm : (9223372036854775807 : Nat) ≤ maxLen := by decide
  unfold insG
  rw [sb_t ⟨by omega, by omega, by omega⟩]
  simp only [Option.bind_some]
  rw [if_neg (by simp)]
  by_cases he : i = l.length
  · subst he
    rw [if_pos (by simp), fit_t (by simp; omega) (by simpa using hb)]
    simp
  · have e1 : IntKind.i64.wrap ((l.length : Int) + (([x] : _root_.List α).length : Int)) = ((l.length + 1 : Nat) : Int) := by rw [w64] <;> simp <;> omega
    have e2 : IntKind.i64.wrap (((l.length + 1 : Nat) : Int) - (i : Int)) = ((l.length + 1 - i : Nat) : Int) := by rw [w64] <;> omega
    have e3 : IntKind.i64.wrap ((i : Int) + (([x] : _root_.List α).length : Int)) = ((i + 1 : Nat) : Int) := by rw [w64] <;> simp <;> omega
    rw [if_neg (by simp only [beq_iff_eq]; omega), e1, e2, e3]
    simp only [Int.toNat_natCast, Nat.sub_zero]
    have hta : (l.take i).length = i := by simp; omega
    apply bth_t
    · have hv : ∃ v : _root_.List α, v = l.take i ++ _root_.List.replicate (l.length + 1 - i) d := ⟨_, rfl⟩
      obtain ⟨v, hv⟩ := hv
      have hvl : v.length = l.length + 1 := by rw [hv]; simp; omega
      rw [sb_t ⟨by omega, by omega, by omega⟩]
      simp only [Option.bind_some]
      rw [inb_t (by omega)]
      simp only [Option.bind_some]
      have hbb : (i + (((l.length + 1 - i : Nat) : Int)).toNat) * by_ ≤ 140737488355328 := by
        rw [Int.toNat_natCast, show i + (l.length + 1 - i) = l.length + 1 by omega]; exact hb
      rw [vz_t ⟨by omega, by omega, by omega, hbb⟩]
      simp only [Option.bind_some, lt, ← hv]
      have hx : ([x] : _root_.List α).take (v.length - i) = [x] := List.take_of_length_le (by simp; omega)
      rw [hx]
      have ho : (ovl v i [x]).length = l.length + 1 := by rw [ovl_len v i [x] (by simp; omega), hvl]
      rw [ho, hvl]
      rw [sb_t ⟨by omega, by omega, by omega⟩]
      simp only [Option.bind_some]
      rw [inb_t (by simp; omega)]
      simp only [Option.bind_some]
      rw [sb_t ⟨by omega, by omega, by omega⟩]
      simp only [Option.bind_some]
      rw [inb_t (by omega)]
      simp only [Option.bind_some]
      rw [inb_t (by omega)]
      simp only [Option.bind_some, Option.some.injEq]
      have hd : ((l.drop i).take (l.length - i)).take (l.length + 1 - (i + 1)) = l.drop i := by
        rw [List.take_of_length_le (by simp), List.take_of_length_le (by simp)]
      rw [hd]
      have hdl : (l.drop i).length = l.length - i := by simp
      apply ext_d d
      · rw [ovl_len _ _ _ (by omega), ho]; simp; omega
      · intro j hj
        have hc : (x :: l.drop i).getD (j - i) d = if j - i = 0 then x else l.getD (i + (j - i - 1)) d := by rw [getD_cons, getD_drop]
        rw [ovl_get _ _ _ d (by omega), hdl, getD_app, hta, hc, getD_take', getD_drop]
        by_cases q : j < i
        · rw [if_neg (by omega), if_pos q, if_pos q, ovl_get _ _ _ d (by simp; omega), if_neg (by omega), hv, getD_app, hta, if_pos q, getD_take', if_pos q]
        · rw [if_neg q]
          by_cases q2 : j = i
          · subst q2
            rw [if_neg (by omega), if_pos (by omega), ovl_get _ _ _ d (by simp; omega), if_pos (by simp)]
            simp
          · rw [ovl_len _ _ _ (by omega), ho] at hj
            rw [if_pos (by omega), if_neg (by omega)]
            congr 1

    · have hv : ∃ v : _root_.List α, v = l.take (i + 1) ++ (l.drop i).take (min (l.length + 1 - i) (l.length + 1 - (i + 1))) := ⟨_, rfl⟩
      obtain ⟨v, hv⟩ := hv
      have hta2 : (l.take (i + 1)).length = i + 1 := by simp; omega
      have hvl : v.length = l.length + 1 := by rw [hv]; simp; omega
      rw [ile_t (by omega)]
      simp only [Option.bind_some]
      rw [sb_t ⟨by omega, by omega, by omega⟩]
      simp only [Option.bind_some]
      rw [inb_t (by omega)]
      simp only [Option.bind_some]
      rw [sb_t ⟨by omega, by omega, by omega⟩]
      simp only [Option.bind_some]
      rw [cup_t ⟨by omega, by omega, by omega, by omega⟩]
      simp only [Option.bind_some, lt, ← hv, hvl]
      rw [sb_t ⟨by omega, by omega, by omega⟩]
      simp only [Option.bind_some]
      rw [inb_t (by simp; omega)]
      simp only [Option.bind_some, Option.some.injEq]
      have hx : ([x] : _root_.List α).take (l.length + 1 - i) = [x] := List.take_of_length_le (by simp; omega)
      rw [hx]
      apply ext_d d
      · rw [ovl_len _ _ _ (by simp; omega), hvl]; simp; omega
      · intro j hj
        have hc : (x :: l.drop i).getD (j - i) d = if j - i = 0 then x else l.getD (i + (j - i - 1)) d := by rw [getD_cons, getD_drop]
        rw [ovl_get _ _ _ d (by simp; omega), getD_app, hta, hc, getD_take']
        by_cases q : j < i
        · rw [if_neg (by omega), if_pos q, if_pos q, hv, getD_app, hta2, if_pos (by omega), getD_take', if_pos (by omega)]
        · rw [if_neg q]
          by_cases q2 : j = i
          · subst q2
            rw [if_pos (by simp), if_pos (by omega)]; simp
          · rw [ovl_len _ _ _ (by simp; omega), hvl] at hj
            rw [if_neg (by simp; omega), if_neg (by omega), hv, getD_app, hta2, if_neg (by omega), getD_take', if_pos (by omega), getD_drop]
            congr 1
theorem tw_len {α : Type} (d : α) (p : α → Bool) : ∀ (l : _root_.List α) (n : Nat), n ≤ l.length → (∀ j, j < n → p (l.getD j d) = true) → (n < l.length → p (l.getD n d) = false) → (l.takeWhile p).length = n
  | [], n, h, _, _ => by simp at h; subst h; rfl
  | x :: l, 0, h, _, h2 => by
    have := h2 (by simp)
    simp only [List.getD_cons_zero] at this
    rw [List.takeWhile_cons_of_neg (by simp [this])]; rfl
  | x :: l, n + 1, h, h1, h2 => by
    have h0 := h1 0 (by omega)
    simp only [List.getD_cons_zero] at h0
    rw [List.takeWhile_cons_of_pos h0, List.length_cons, tw_len d p l n (by simpa using h) (fun j hj => by simpa using h1 (j + 1) (by omega)) (fun hn => by simpa using h2 (by simpa using hn))]
theorem tw_take {α : Type} (p : α → Bool) (l : _root_.List α) : l.take (l.takeWhile p).length = l.takeWhile p ∧ l.drop (l.takeWhile p).length = l.dropWhile p := by
  have h := List.takeWhile_append_dropWhile (p := p) (l := l)
  have h1 : (l.takeWhile p ++ l.dropWhile p).take (l.takeWhile p).length = l.takeWhile p := List.take_left' rfl
  have h2 : (l.takeWhile p ++ l.dropWhile p).drop (l.takeWhile p).length = l.dropWhile p := List.drop_left' rfl
  rw [h] at h1 h2
  exact ⟨h1, h2⟩
theorem fidx_tw {α : Type} (l : _root_.List α) (d : α) (P : α → Bool) : (if fidx l d P < 0 then (l.length : Int) else fidx l d P) = ((l.takeWhile fun x => !P x).length : Nat) := by
  rcases fidx_spec l d P with ⟨h1, h2, h3⟩ | ⟨i, h1, h2, h3, h4, h5⟩
  · rw [h1, if_pos (by omega), tw_len d (fun x => !P x) l l.length (Nat.le_refl _) (fun j hj => by rw [h3 j hj]; rfl) (fun h => by omega)]
  · rw [h2, if_neg (by omega), tw_len d (fun x => !P x) l i (by omega) (fun j hj => by rw [h5 j hj]; rfl) (fun _ => by rw [h3]; rfl)]
end Go.Eng
