/- What a law's arguments tell: from the readings of its input to typed values. Conditions: none. -/
import Derived.Test.YtnfjibcfnchkkaaEngV
import Derived.OpenShut
import Derived.ChangeOld
import Derived.Below
import Derived.SizedLaws
namespace Go.Eng

/-- Cells that hold a value. -/
def Holds (e : Env) (v : V) (cs : List Value) : Prop := cs.length = v.size ∧ AllOne cs.toArray ∧ R e v (piece v cs.toArray 0 v.size)

/-- The environment of a law's call. -/
abbrev Env.outer (w : World) : Env := Env.bare w (fun _ => False) (fun _ => False)

/-- Whatever is read at a type is one of a typed make. -/
structure InOk {α : Type} (P : Program) (T : TypeId) (E : α → V) (wf : α → Prop) (sz : Nat) : Prop where
  cells : P.cellsOf T = sz
  size : ∀ x, (E x).size = sz
  inn : ∀ {H : Type} (enc : TypeId × Value → H) (w : World) (spare : Nat → Bool) (held : Bool) (fuel : Nat) (cs : List Value) (y : DataW H × List MemPlace), DataW.trod enc P w 0 spare held fuel T cs = some y → (∀ n ∈ y.1.weights P T, n ≤ reachBytes) → ∃ x, wf x ∧ Holds (Env.outer w) (E x) cs

theorem InOk.int {P : Program} {T : TypeId} (k : IntKind) (ht : P.underlying T = some (.int k)) (hc : P.cellsOf T = 1) : InOk P T (fun n => V.int k n) (fun n => (Lit.int k n).wf = true) 1 := by
  refine ⟨hc, fun _ => rfl, fun enc w spare held fuel cs y h _ => ?_⟩
  obtain ⟨n, rfl, _, hw⟩ := DataW.trod_int ht h
  refine ⟨n, hw, rfl, ?_, rfl⟩
  intro c hc; simp at hc; subst hc; rfl
theorem InOk.bool {P : Program} {T : TypeId} (ht : P.underlying T = some .bool) (hc : P.cellsOf T = 1) : InOk P T (fun n => V.bool n) (fun _ => True) 1 := by
  refine ⟨hc, fun _ => rfl, fun enc w spare held fuel cs y h _ => ?_⟩
  obtain ⟨n, rfl, _⟩ := DataW.trod_bool ht h
  refine ⟨n, trivial, rfl, ?_, rfl⟩
  intro c hc; simp at hc; subst hc; rfl
theorem InOk.str {P : Program} {T : TypeId} (ht : P.underlying T = some .string) (hc : P.cellsOf T = 1) : InOk P T (fun n => V.str n) (fun s => s.size ≤ 140737488351232) 1 := by
  refine ⟨hc, fun _ => rfl, fun enc w spare held fuel cs y h hwt => ?_⟩
  obtain ⟨n, rfl, hy, hm⟩ := DataW.trod_string ht h
  have hz : n.size ≤ 140737488351232 := by
    have := hwt n.data.toList.length (by rw [hy]; simp [DataW.weights])
    have h2 : n.data.toList.length = n.size := by simp
    rw [h2] at this; exact this
  refine ⟨n, hz, rfl, ?_, rfl⟩
  intro c hc; simp at hc; subst hc; rfl

/-- A part of cells, as the whole's own view has it. -/
theorem Holds.part {e : Env} {v : V} {cs : List Value} {o s : Nat} (h : Holds e v ((cs.drop o).take s)) (hs : v.size = s) (hb : o + s ≤ cs.length) : R e v (piece v cs.toArray o s) := by
  obtain ⟨h1, _, h3⟩ := h
  rw [hs] at h3
  have : piece v ((cs.drop o).take s).toArray 0 s = piece v cs.toArray o s := by
    unfold piece
    split
    · congr 1
      apply Array.ext
      · simp
      · intro i hi1 hi2
        simp
    · rename_i ha
      have : s = 1 := by rw [← hs]; exact size_pos (by simpa using ha)
      subst this
      have hlt : o < cs.length := by omega
      simp only [Array.getD_eq_getD_getElem?, List.getElem?_toArray, List.getElem?_take, List.getElem?_drop, Nat.add_zero]
      simp
  rw [← this]; exact h3

theorem Holds.agg {e : Env} {L : Lay} {f : Nat → V} {cs : List Value} (hc : cs.length = L.tot) (h1 : AllOne cs.toArray) (h : ∀ j, j < L.cnt → (f j).size = L.sz j ∧ Holds e (f j) ((cs.drop (L.off j)).take (L.sz j))) : Holds e (.agg L f) cs := by
  refine ⟨hc, h1, cs.toArray, ?_, by simpa using hc, h1, fun j hj => ?_⟩
  · simp [piece, V.isAgg, V.size, ← hc]
  · exact ⟨(h j hj).1, (h j hj).2.part (h j hj).1 (by rw [hc]; exact L.fits hj)⟩

theorem choose_list {α : Type} (d : α) {p : Nat → α → Prop} : ∀ (n : Nat), (∀ i, i < n → ∃ x, p i x) → ∃ l : List α, l.length = n ∧ ∀ i, i < n → p i (l.getD i d)
  | 0, _ => ⟨[], rfl, fun i hi => absurd hi (by omega)⟩
  | n + 1, h => by
    obtain ⟨l, h1, h2⟩ := choose_list d n (fun i hi => h i (by omega))
    obtain ⟨x, hx⟩ := h n (by omega)
    refine ⟨l ++ [x], by simp [h1], fun i hi => ?_⟩
    by_cases hi2 : i < n
    · have := h2 i hi2
      simpa [List.getD_eq_getElem?_getD, List.getElem?_append_left (show i < l.length by omega)] using this
    · obtain rfl : i = n := by omega
      simpa [List.getD_eq_getElem?_getD, List.getElem?_append_right (show l.length ≤ i by omega), h1] using hx

theorem all_of_parts {cs : List Value} {n es : Nat} (hl : cs.length = n * es) (h : ∀ i, i < n → AllOne ((cs.drop (i * es)).take es).toArray) : AllOne cs.toArray := by
  intro c hc
  simp only [List.mem_toArray] at hc
  obtain ⟨k, hk, rfl⟩ := List.getElem_of_mem hc
  have hes : 0 < es := by
    rcases Nat.eq_zero_or_pos es with h0 | h0
    · subst h0; omega
    · exact h0
  have hq : k / es < n := Nat.div_lt_of_lt_mul (by rw [Nat.mul_comm]; omega)
  have hm := Nat.mod_lt k hes
  have he : k / es * es + k % es = k := by rw [Nat.mul_comm]; exact Nat.div_add_mod k es
  refine h (k / es) hq _ ?_
  simp only [List.mem_toArray]
  refine List.mem_iff_getElem?.2 ⟨k % es, ?_⟩
  rw [List.getElem?_take, if_pos hm, List.getElem?_drop, he]
  exact List.getElem?_eq_getElem hk

theorem weights_all {H : Type} {P : Program} {e : TypeId} : ∀ {ds : List (DataW H)} {d : DataW H}, d ∈ ds → ∀ n ∈ d.weights P e, n ∈ DataW.weightsAll P e ds
  | d0 :: ds, d, hd, n, hn => by
    simp only [DataW.weightsAll, List.mem_append]
    cases hd with
    | head => exact .inl hn
    | tail _ hd => exact .inr (weights_all hd n hn)
  | [], _, hd, _, _ => by cases hd

theorem InOk.arr {α : Type} {P : Program} {T e : TypeId} {n es : Nat} {E : α → V} {wf : α → Prop} (d : α) (ht : P.underlying T = some (.array n e)) (hc : P.cellsOf T = n * es) (hE : InOk P e E wf es) :
    InOk P T (fun f : Nat → α => .agg (.ar n es) fun j => E (f j)) (fun f => ∀ j, j < n → wf (f j)) (n * es) := by
  refine ⟨hc, fun _ => rfl, fun enc w spare held fuel cs y h hwt => ?_⟩
  obtain ⟨xs, m, _, hy, hl, hxs, hel⟩ := DataW.trod_array ht h
  subst hy
  rw [hc] at hl
  rw [hE.cells] at hel
  obtain ⟨l, h1, h2⟩ := choose_list d (p := fun i x => wf x ∧ Holds (Env.outer w) (E x) ((cs.drop (i * es)).take es)) n (fun i hi => by
    have := hel i hi
    rw [List.getElem?_eq_getElem (by omega)] at this
    refine hE.inn enc w spare held m _ _ this (fun n hn => hwt n ?_)
    simp only [DataW.weights, ht]
    exact weights_all (List.mem_map.2 ⟨_, List.getElem_mem _, rfl⟩) n hn)
  refine ⟨fun j => l.getD j d, fun j hj => (h2 j hj).1, Holds.agg hl (all_of_parts hl fun i hi => (h2 i hi).2.2.1) fun j hj => ⟨hE.size _, (h2 j hj).2⟩⟩

/-- A struct's fields. -/
def StOk (P : Program) (T : TypeId) (l : List (Nat × Nat)) (sz : Nat) : Prop := (∃ fs, P.underlying T = some (.struct fs) ∧ fs.toList.map (fun f => (f.type, f.offset)) = l) ∧ P.cellsOf T = sz
def stB (P : Program) (T : TypeId) (l : List (Nat × Nat)) (sz : Nat) : Bool :=
  (match P.underlying T with
  | some (.struct fs) => fs.toList.map (fun f => (f.type, f.offset)) == l
  | _ => false) && P.cellsOf T == sz
theorem StOk.of {P : Program} {T : TypeId} {l : List (Nat × Nat)} {sz : Nat} (h : stB P T l sz = true) : StOk P T l sz := by
  unfold stB at h
  rw [Bool.and_eq_true] at h
  obtain ⟨h1, h2⟩ := h
  refine ⟨?_, by simpa using h2⟩
  split at h1
  · rename_i fs hf; exact ⟨fs, hf, by simpa using h1⟩
  · cases h1

theorem InOk.st {α : Type} {P : Program} {T : TypeId} {szs : List Nat} {c : α → Nat → V} {wf : α → Prop} {l : List (Nat × Nat)} (hS : StOk P T l szs.sum)
    (h : ∀ {H : Type} (enc : TypeId × Value → H) (w : World) (spare : Nat → Bool) (held : Bool) (m : Nat) (cs : List Value),
      (∀ (j t off : Nat), l[j]? = some (t, off) → ∃ y, DataW.trod enc P w 0 spare held m t ((cs.drop off).take (P.cellsOf t)) = some y ∧ ∀ n ∈ y.1.weights P t, n ≤ reachBytes) →
      ∃ x, wf x ∧ ∀ j, j < szs.length → (c x j).size = (Lay.st szs).sz j ∧ Holds (Env.outer w) (c x j) ((cs.drop ((Lay.st szs).off j)).take ((Lay.st szs).sz j))) :
    InOk P T (fun x => .agg (.st szs) (c x)) wf szs.sum := by
  obtain ⟨⟨fs, hu, hl⟩, hc⟩ := hS
  refine ⟨hc, fun _ => rfl, fun enc w spare held fuel cs y ht hwt => ?_⟩
  obtain ⟨xs, m, _, hy, hlen, hxs, hel⟩ := DataW.trod_struct hu ht
  subst hy
  rw [hc] at hlen
  obtain ⟨x, hw, hx⟩ := h enc w spare held m cs (fun j t off hj => by
    rw [← hl, List.getElem?_map] at hj
    cases hf : fs.toList[j]? with
    | none => rw [hf] at hj; cases hj
    | some f =>
      rw [hf] at hj
      simp only [Option.map_some, Option.some.injEq, Prod.mk.injEq] at hj
      obtain ⟨rfl, rfl⟩ := hj
      have hf' : fs[j]? = some f := by simpa using hf
      have hlt : j < xs.length := by rw [hxs]; exact (Array.getElem?_eq_some_iff.1 hf').1
      refine ⟨_, (hel j f hf').trans (List.getElem?_eq_getElem hlt), fun n hn => hwt n ?_⟩
      simp only [DataW.weights, hu]
      refine DataW.weights_mem_each (j := j) (t := f.type) (d := xs[j].1) ?_ ?_ n hn
      · simp [hf']
      · simp [hlt])
  refine ⟨x, hw, Holds.agg hlen ?_ hx⟩
  intro v hv
  simp only [List.mem_toArray] at hv
  obtain ⟨k, hk, rfl⟩ := List.getElem_of_mem hv
  -- the part in which a cell lies
  have key : ∀ (l : List Nat) (k : Nat), k < l.sum → ∃ j, j < l.length ∧ (l.take j).sum ≤ k ∧ k < (l.take j).sum + l.getD j 0 := by
    intro l
    induction l with
    | nil => intro k hk; simp at hk
    | cons a l ih =>
      intro k hk
      by_cases h : k < a
      · exact ⟨0, by simp, by simp, by simpa using h⟩
      · simp only [List.sum_cons] at hk
        obtain ⟨j, h1, h2, h3⟩ := ih (k - a) (by omega)
        refine ⟨j + 1, by simpa using h1, ?_, ?_⟩
        · simp only [List.take_succ_cons, List.sum_cons]; omega
        · simp only [List.take_succ_cons, List.sum_cons, List.getD_cons_succ]; omega
  obtain ⟨j, h1, h2, h3⟩ := key szs k (by omega)
  refine (hx j h1).2.2.1 _ ?_
  simp only [List.mem_toArray]
  refine List.mem_iff_getElem?.2 ⟨k - (szs.take j).sum, ?_⟩
  simp only [Lay.off, Lay.sz]
  rw [List.getElem?_take, if_pos (by omega), List.getElem?_drop, show (szs.take j).sum + (k - (szs.take j).sum) = k by omega]
  exact List.getElem?_eq_getElem hk

theorem InOk.fld {α : Type} {H : Type} {enc : TypeId × Value → H} {P : Program} {w : World} {spare : Nat → Bool} {held : Bool} {m : Nat} {cs : List Value} {l : List (Nat × Nat)}
    (h : ∀ (j t off : Nat), l[j]? = some (t, off) → ∃ y, DataW.trod enc P w 0 spare held m t ((cs.drop off).take (P.cellsOf t)) = some y ∧ ∀ n ∈ y.1.weights P t, n ≤ reachBytes) {E : α → V} {wf : α → Prop} {sz : Nat} (j : Nat) {t off : Nat} (hE : InOk P t E wf sz) (hl : l[j]? = some (t, off)) :
    ∃ x, wf x ∧ ((E x).size = sz ∧ Holds (Env.outer w) (E x) ((cs.drop off).take sz)) := by
  obtain ⟨y, hy, hwt⟩ := h j t off hl
  rw [hE.cells] at hy
  obtain ⟨x, h1, h2⟩ := hE.inn enc w spare held m _ _ hy hwt
  exact ⟨x, h1, hE.size x, h2⟩

theorem cells?_some {w : World} {a : Addr} {n : Nat} {cs : List Value} (h : w.cells? 0 a n = some cs) : cs.length = n ∧ ∀ i, i < n → w.cell? (a.add i) = cs[i]? := by
  simp only [World.cells?, Nat.zero_le, if_true] at h
  exact ⟨by simpa using mapM_some_length h, fun i hi => mapM_some_get h i i (by simp [hi])⟩

theorem cell?_some {w : World} {a : Addr} {v : Value} (h : w.cell? a = some v) : a.spot = none ∧ a.block < w.heap.size := by
  simp only [World.cell?] at h
  split at h
  · rename_i c _ _ hb
    refine ⟨?_, (Array.getElem?_eq_some_iff.1 hb).1⟩
    cases hs : a.spot with
    | none => rfl
    | some q => rw [hs] at h; simp at h
  · cases h

theorem InOk.sl {α : Type} {P : Program} {T e : TypeId} {es by_ : Nat} {E : α → V} {wf : α → Prop} (d : α) (ht : P.underlying T = some (.slice e)) (hc : P.cellsOf T = 1) (hby : P.bytesOf e = by_) (hE : InOk P e E wf es) (hes : 0 < es) :
    InOk P T (fun l : List α => .sl es l.length fun j => E (l.getD j d)) (fun l => (l.length ≤ maxLen ∧ l.length * by_ ≤ 140737488351232) ∧ ∀ j, j < l.length → wf (l.getD j d)) 1 := by
  refine ⟨hc, fun _ => rfl, fun enc w spare held fuel cs y h hwt => ?_⟩
  have one : ∀ v : Value, v.oneCell' = true → AllOne [v].toArray := by intro v hv c hc; simp at hc; subst hc; exact hv
  rcases DataW.trod_slice ht h with ⟨rfl, _⟩ | ⟨a, len, cap, elems, rest, m, _, rfl, hy, _, hl, hm, hlen, hel, _⟩
  · exact ⟨[], ⟨⟨Nat.zero_le _, by simp⟩, fun j hj => absurd hj (by simp)⟩, rfl, one _ rfl, none, 0, rfl, Nat.le_refl _, .inl rfl⟩
  · subst hy
    simp only [DataW.weights, ht] at hwt
    have hrow : (elems.length + rest.length) * by_ ≤ reachBytes := by have := hwt _ (List.mem_cons_self ..); simpa [hby] using this
    rw [hE.cells] at hel
    obtain ⟨l, h1, h2⟩ := choose_list d (p := fun i x => wf x ∧ ∃ cs, w.cells? 0 (a.add (i * es)) es = some cs ∧ Holds (Env.outer w) (E x) cs) len (fun i hi => by
      have := hel i hi
      rw [List.getElem?_eq_getElem (by omega)] at this
      cases hcs : w.cells? 0 (a.add (i * es)) es with
      | none => rw [hcs] at this; cases this
      | some cs =>
        rw [hcs] at this
        obtain ⟨x, q1, q2⟩ := hE.inn enc w spare held m _ _ this (fun n hn => hwt n (List.mem_cons_of_mem _ (List.mem_append_left _ (weights_all (List.mem_map.2 ⟨_, List.getElem_mem _, rfl⟩) n hn))))
        exact ⟨x, q1, cs, rfl, q2⟩)
    subst h1
    refine ⟨l, ⟨⟨by omega, Nat.le_trans (Nat.mul_le_mul_right _ (by omega)) (Nat.le_trans hrow (by decide))⟩, fun j hj => (h2 j hj).1⟩, rfl, one _ rfl, some a, cap, rfl, hl, ?_⟩
    by_cases h0 : l.length = 0
    · exact .inl h0
    right
    -- all the cells, in one row
    have cell : ∀ k, k < l.length * es → ∃ v, w.cell? ⟨a.block, a.off + k, none⟩ = some v := by
      intro k hk
      have hq : k / es < l.length := Nat.div_lt_of_lt_mul (by rw [Nat.mul_comm]; exact hk)
      have hmod := Nat.mod_lt k hes
      obtain ⟨_, cs, hcs, hh⟩ := h2 _ hq
      obtain ⟨q1, q2⟩ := cells?_some hcs
      have := q2 (k % es) hmod
      rw [List.getElem?_eq_getElem (by omega)] at this
      have he : k / es * es + k % es = k := by rw [Nat.mul_comm]; exact Nat.div_add_mod k es
      refine ⟨cs[k % es]'(by omega), ?_⟩
      rw [← this]
      have hsp : a.spot = none := by
        obtain ⟨_, cs0, hcs0, _⟩ := h2 0 (by omega)
        obtain ⟨p1, p2⟩ := cells?_some hcs0
        have := p2 0 hes
        rw [List.getElem?_eq_getElem (by omega)] at this
        have := (cell?_some this).1
        simpa [Addr.add] using this
      obtain ⟨b, o, sp⟩ := a
      simp only at hsp; subst hsp
      rw [Addr.add_lit, Addr.add_lit, Nat.add_assoc, he]
    have hsp : a.spot = none := by
      obtain ⟨_, cs0, hcs0, _⟩ := h2 0 (by omega)
      obtain ⟨p1, p2⟩ := cells?_some hcs0
      have := p2 0 hes
      rw [List.getElem?_eq_getElem (by omega)] at this
      have := (cell?_some this).1
      simpa [Addr.add] using this
    have hblk : a.block < w.heap.size := by
      obtain ⟨v, hv⟩ := cell 0 (Nat.mul_pos (by omega) hes)
      exact (cell?_some hv).2
    obtain ⟨cl, c1, c2⟩ := choose_list undef (p := fun k v => w.cell? ⟨a.block, a.off + k, none⟩ = some v) (l.length * es) cell
    have hpart : ∀ j, j < l.length → ∀ cs, w.cells? 0 (a.add (j * es)) es = some cs → (cl.drop (j * es)).take es = cs := by
      intro j hj cs hcs
      obtain ⟨q1, q2⟩ := cells?_some hcs
      have hb : (j + 1) * es ≤ l.length * es := Nat.mul_le_mul_right _ hj
      rw [Nat.succ_mul] at hb
      apply List.ext_getElem?
      intro i
      by_cases hi : i < es
      · rw [List.getElem?_take, if_pos hi, List.getElem?_drop, ← q2 i hi]
        have := c2 (j * es + i) (by omega)
        rw [List.getD_eq_getElem?_getD, List.getElem?_eq_getElem (by omega)] at this
        rw [List.getElem?_eq_getElem (by omega)]
        obtain ⟨b, o, sp⟩ := a
        simp only at hsp; subst hsp
        rw [Addr.add_lit, Addr.add_lit, Nat.add_assoc, this]; rfl
      · rw [List.getElem?_take, if_neg hi, List.getElem?_eq_none (by omega)]
    refine ⟨a, cl.toArray, rfl, fun h => h, fun h => h, ?_, by simpa using c1, ⟨hsp, hblk, fun i hi => ?_⟩, ?_, fun j hj => ?_⟩
    · rintro ⟨_, _, h, _⟩; cases h
    · have hi' : i < cl.length := by simpa using hi
      have q := c2 i (by omega)
      rw [List.getD_eq_getElem?_getD, List.getElem?_eq_getElem hi'] at q
      exact q.trans (by simp [hi'])
    · refine all_of_parts (n := l.length) (es := es) c1 fun i hi => ?_
      obtain ⟨_, cs, hcs, hh⟩ := h2 i hi
      rw [hpart i hi cs hcs]; exact hh.2.1
    · obtain ⟨_, cs, hcs, hh⟩ := h2 j hj
      refine ⟨hE.size _, ?_⟩
      rw [← hpart j hj cs hcs] at hh
      have hb : (j + 1) * es ≤ l.length * es := Nat.mul_le_mul_right _ hj
      rw [Nat.succ_mul] at hb
      exact hh.part (hE.size _) (by omega)

/-- A value that is given in a law's input. -/
def VOk (ag : Bool) (v : Value) : Prop := match ag with
  | true => ∃ cs, v = .agg cs
  | false => v.cells = #[v]
theorem VOk.int {P : Program} {w : World} {r : Go.Reach} {b0 : Nat} {t : TypeId} {k : IntKind} {v : Value} (ht : P.underlying t = some (.int k)) (hval : Value.okWide P w r b0 t v) : VOk false v := by
  obtain ⟨n, rfl⟩ := WideShapes.okWide_int ht hval; rfl
theorem VOk.sl {P : Program} {w : World} {r : Go.Reach} {b0 : Nat} {t e : TypeId} {v : Value} (ht : P.underlying t = some (.slice e)) (hval : Value.okWide P w r b0 t v) : VOk false v := by
  obtain ⟨n, a, c, rfl⟩ := WideShapes.okWide_slice ht hval; rfl
theorem VOk.arr {P : Program} {w : World} {r : Go.Reach} {b0 : Nat} {t e : TypeId} {n : Nat} {v : Value} (ht : P.underlying t = some (.array n e)) (hval : Value.okWide P w r b0 t v) : VOk true v := by
  unfold Value.okWide at hval; rw [ht] at hval; obtain ⟨cs, rfl, _⟩ := hval; exact ⟨cs, rfl⟩
theorem VOk.st {P : Program} {w : World} {r : Go.Reach} {b0 : Nat} {t : TypeId} {l : List (Nat × Nat)} {sz : Nat} {v : Value} (ht : StOk P t l sz) (hval : Value.okWide P w r b0 t v) : VOk true v := by
  obtain ⟨⟨fs, hu, _⟩, _⟩ := ht
  unfold Value.okWide at hval; rw [hu] at hval; obtain ⟨cs, rfl, _⟩ := hval; exact ⟨cs, rfl⟩
theorem VOk.boolT {P : Program} {w : World} {r : Go.Reach} {b0 : Nat} {t : TypeId} {v : Value} (ht : P.underlying t = some .bool) (hval : Value.okWide P w r b0 t v) : VOk false v := by
  obtain ⟨n, rfl⟩ := WideShapes.okWide_bool ht hval; rfl

theorem InOk.arg {α : Type} {H : Type} {enc : TypeId × Value → H} {P : Program} {T : TypeId} {E : α → V} {wf : α → Prop} {sz : Nat} (hE : InOk P T E wf sz) {ag : Bool} (ha : ∀ x, (E x).isAgg = ag) {w : World} {spare : Nat → Bool} {held : Bool} {v : Value} {d : DataW H} {ps : List MemPlace}
    (hv : VOk ag v) (h : DataW.Trod enc P w 0 spare held T v d ps) (hwt : ∀ n ∈ d.weights P T, n ≤ reachBytes) : ∃ x, wf x ∧ R (Env.outer w) (E x) v := by
  obtain ⟨fuel, h⟩ := h
  obtain ⟨x, hw, h1, _, h3⟩ := hE.inn enc w spare held fuel _ _ h hwt
  refine ⟨x, hw, ?_⟩
  have e1 : v.cells.toList.toArray = v.cells := by simp
  rw [e1] at h3
  cases ag with
  | true =>
    obtain ⟨cs, rfl⟩ := hv
    have : piece (E x) (Value.agg cs).cells 0 (E x).size = .agg cs := by
      have hs : cs.size = (E x).size := by simpa [Value.cells] using h1
      simp [piece, ha, Value.cells, ← hs]
    rw [this] at h3; exact h3
  | false =>
    have : piece (E x) v.cells 0 (E x).size = v := by
      simp only [VOk] at hv
      rw [hv]; simp [piece, ha]
    rw [this] at h3; exact h3

def AllR (e : Env) : List V → List Value → Prop
  | [], [] => True
  | v :: vs, x :: xs => R e v x ∧ AllR e vs xs
  | _, _ => False
theorem AllR.get {e : Env} : ∀ {vs : List V} {xs : List Value}, AllR e vs xs → xs.length = vs.length ∧ ∀ (i : Nat) (v : V), vs[i]? = some v → R e v (xs.getD i undef)
  | [], [], _ => ⟨rfl, fun i v h => by simp at h⟩
  | [], _ :: _, h => h.elim
  | _ :: _, [], h => h.elim
  | v :: vs, x :: xs, ⟨h1, h2⟩ => by
    obtain ⟨q1, q2⟩ := h2.get
    refine ⟨by simp [q1], fun i u hu => ?_⟩
    cases i with
    | zero => simp at hu; subst hu; simpa using h1
    | succ i => simp at hu; simpa using q2 i u hu
theorem ArgsAre.of {e : Env} {vs : List V} {xs : List Value} (h : AllR e vs xs) : ArgsAre e vs xs.toArray := by
  obtain ⟨h1, h2⟩ := h.get
  refine ⟨by simpa using h1, fun i v hv => ?_⟩
  have := h2 i v hv
  simpa [Array.getD_eq_getD_getElem?, List.getD_eq_getElem?_getD] using this

/-- A law's call, as the row's frame asks it. -/
theorem FSpec.law {P : Program} {K : FuncId} {args : List V} (h : FSpec P K args (.bool true)) (w : World) (xs : Array Value) (ha : ArgsAre (Env.outer w) args xs) :
    Calls P K xs w fun e w' => e = .returned (.bool true) ∧ Go.RowKit.Below w.heap.size w w' := by
  refine (h w (fun _ => False) (fun _ => False) xs (fun b hb => by rcases hb with h | h <;> exact h.elim) ha).mono ?_
  rintro e w' ⟨x, rfl, hx, hf⟩
  have : x = .bool true := hx
  subst this
  exact ⟨rfl, hf.os, hf.tape, hf.output, hf.size, fun k hk => hf.block k hk (fun h => h)⟩
end Go.Eng
