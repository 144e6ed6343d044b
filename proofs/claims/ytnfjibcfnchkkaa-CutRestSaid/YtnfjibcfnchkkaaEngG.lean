/- The engine's laws on operations that make a variable, or write into one. Conditions: none. -/
import Derived.Test.YtnfjibcfnchkkaaEngF
namespace Go.Eng

/-- A box lies in cells. -/
def Lies (e : Env) (o : Box) (cells : Array Value) (kp : Nat) : Prop :=
  AllOne cells ∧ match o with
  | .var v => cells.size = v.size ∧ R e v (piece v cells 0 v.size)
  | .arr es n f => cells.size = kp * es ∧ n ≤ kp ∧ ∀ j, j < n → (f j).size = es ∧ R e (f j) (piece (f j) cells (j * es) es)

theorem Lies.keep {e e' : Env} (F : Follows e e') (I : IdKeeps e e') {o : Box} {cells : Array Value} {kp : Nat} (h : Lies e o cells kp) : Lies e' o cells kp := by
  cases o with
  | var v => exact ⟨h.1, h.2.1, R.keep F v (.inl I) _ h.2.2⟩
  | arr es n f => exact ⟨h.1, h.2.1, h.2.2.1, fun j hj => ⟨(h.2.2.2 j hj).1, R.keep F _ (.inl I) _ (h.2.2.2 j hj).2⟩⟩

theorem Row.set {w : World} {b : Nat} {cs cs' : Array Value} {T : Nat × TypeId × Nat × Nat} (h : Row w b cs T) (hs : cs'.size = cs.size) : Row (w.setRow b cs') b cs' T := ⟨setRow_heap _ _ _ _ _ _ h.1, h.2.imp_right fun q => hs ▸ q⟩
theorem run_storeRow {P : Program} (g o : Nat) (t : Nat × TypeId × Nat × Nat) : ∀ (vs : List Value) (i : Nat) (cur : Array Value) (w : World), Row w g cur t → o + i + vs.length ≤ cur.size → (∀ v ∈ vs, v.oneCell' = true) →
    (storeCells ⟨g, o, none⟩ vs i).run P w = .ok () (w.setRow g (cur.toList.take (o + i) ++ vs ++ cur.toList.drop (o + i + vs.length)).toArray)
  | [], i, cur, w, hg, _, _ => by
    simp only [storeCells, List.append_nil, List.length_nil, Nat.add_zero, List.take_append_drop, Array.toArray_toList]
    rw [setRow_self w g cur t.2.1 t.2.2 hg.1]
    rfl
  | v :: rest, i, cur, w, hg, hl, h1 => by
    have hi : o + i < cur.size := by simp at hl; omega
    have hadd : (⟨g, o, none⟩ : Addr).add i = ⟨g, o + i, none⟩ := by unfold Addr.add; split <;> simp_all
    have hcell : w.cell? ⟨g, o + i, none⟩ = some cur[o + i] := by simp [World.cell?, hg.1, hi]
    have hfro : w.frozen? ⟨g, o + i, none⟩ = false := hg.thaw hi
    have hst : (store ((⟨g, o, none⟩ : Addr).add i) v).run P w = .ok () (w.setRow g (cur.setIfInBounds (o + i) v)) := by
      rw [hadd, run_store P w _ v _ (h1 v (by simp)), hcell]
      simp [hfro, setCell_eq_setRow w g (o + i) cur t.2.1 t.2.2 v hg.1]
    have ih := run_storeRow (P := P) g o t rest (i + 1) (cur.setIfInBounds (o + i) v) (w.setRow g (cur.setIfInBounds (o + i) v)) (hg.set (by simp)) (by simp at hl ⊢; omega) (fun x hx => h1 x (by simp [hx]))
    simp only [storeCells, Sem.run_bind, hst, Result.andThen_ok, ih, setRow_setRow]
    congr 3
    have e := list_seg_step cur.toList (o + i) v rest (by simp at hl ⊢; omega)
    simpa [Array.toList_setIfInBounds, Nat.add_assoc] using e

theorem Lies.held {e : Env} {id b : Nat} {o : Box} {cells : Array Value} {T : TypeId × Nat × Nat} (h : Lies e o cells (e.kap id)) (hb : e.th id = some b) (hh : Row e.w b cells (o.es, T)) : Held e id o := by
  cases o with
  | var v => exact ⟨b, cells, T, hb, hh, h.2.1, h.1, h.2.2⟩
  | arr es n f => simp only [Held, hb]; exact ⟨cells, T, hh, h.2.1, h.2.2.1, h.1, h.2.2.2⟩

theorem Held.lies {e : Env} {id b : Nat} {o : Box} (h : Held e id o) (hb : e.th id = some b) : ∃ cells T, Row e.w b cells (o.es, T) ∧ Lies e o cells (e.kap id) := by
  cases o with
  | var v =>
    obtain ⟨b', cs, T, h1, h2, h3, h4, h5⟩ := h
    rw [hb] at h1; cases h1
    exact ⟨cs, T, h2, h4, h3, h5⟩
  | arr es n f =>
    simp only [Held, hb] at h
    obtain ⟨cs, T, h2, h3, h4, h5, h6⟩ := h
    exact ⟨cs, T, h2, h5, h3, h4, h6⟩

/-- A block that is no own one's, or an own one's that stays. -/
theorem Held.keep {e e' : Env} (F : Follows e e') (I : IdKeeps e e') {id : Nat} {o : Box} (h : Held e id o) (ht : e'.th id = e.th id) (hk : e'.kap id = e.kap id)
    (hb : ∀ b, e.th id = some b → e'.w.heap[b]? = e.w.heap[b]?) : Held e' id o := by
  cases hth : e.th id with
  | none =>
    cases o with
    | var v => obtain ⟨b', cs, T, h1, _⟩ := h; rw [hth] at h1; cases h1
    | arr es n f => simp only [Held, hth] at h; simp only [Held, ht, hth]; exact h
  | some b =>
    obtain ⟨cells, T, h1, h2⟩ := h.lies hth
    exact Lies.held (T := T) (by rw [hk]; exact h2.keep F I) (ht.trans hth) (h1.heap (hb b hth))

def Env.make (e : Env) (id : Nat) (o : Box) (cells : Array Value) (T : TypeId) (kp : Nat) : Env :=
  { e with w := e.w.alloc (.cells cells T (0, 0)), th := fun k => if k = id then some e.w.heap.size else e.th k, kap := fun k => if k = id then kp else e.kap k,
           ob := fun k => if k = id then some o else e.ob k, us := fun k => e.us k ∨ k = id }

theorem heap_alloc_at (w : World) (o : Obj) (k : Nat) : (w.alloc o).heap[k]? = if k = w.heap.size then some o else w.heap[k]? := by
  show (w.heap.push o)[k]? = _
  rw [Array.getElem?_push]

theorem idKeeps_make {e : Env} {id : Nat} (hid : ¬ e.us id) (o : Box) (cells : Array Value) (T : TypeId) (kp : Nat) : IdKeeps e (e.make id o cells T kp) := by
  intro k hu
  have hne : k ≠ id := fun h => hid (h ▸ hu)
  refine ⟨.inl hu, fun o' ho' => ?_⟩
  simp only [Env.make, hne, if_false] at ho' ⊢
  exact ⟨trivial, trivial, o', ho', o'.like_refl⟩

theorem follows_make (e : Env) (id : Nat) (o : Box) (cells : Array Value) (T : TypeId) (kp : Nat) : Follows e (e.make id o cells T kp) where
  size := by simp [Env.make]
  heap := fun b hb _ => by simp only [Env.make]; rw [heap_alloc_at]; simp; omega
  own := by
    rintro b hb ⟨k, o', h1, h2⟩
    simp only [Env.make] at h1 h2
    by_cases hk : k = id
    · simp only [hk, if_true, Option.some.injEq] at h2; omega
    · simp only [hk, if_false] at h1 h2; exact ⟨k, o', h1, h2⟩
  S := fun _ _ h => h
  Sp := fun _ _ h => h

theorem grow_make {G : Glob} {e : Env} (ok : Ok G e) {id : Nat} (hid : ¬ e.us id) {o : Box} {cells : Array Value} {T : TypeId} {kp : Nat} (h : Lies e o cells kp) : Grow G e (e.make id o cells T kp) := by
  have F := follows_make e id o cells T kp
  have I := idKeeps_make hid o cells T kp
  refine ⟨⟨?_, ok.S, ok.Sp, ?_, ?_, ?_, ?_, ok.low⟩, F, I⟩
  · refine ok.fr.trans ⟨rfl, rfl, rfl, by simp [Env.make], Nat.le_refl _, fun k hk _ => ?_⟩
    simp only [Env.make]; rw [heap_alloc_at]; simp; omega
  · intro k o' ho'
    by_cases hk : k = id
    · subst hk
      simp only [Env.make, if_true, Option.some.injEq] at ho'
      subst ho'
      refine Lies.held (b := e.w.heap.size) (T := (T, (0, 0))) (cells := cells) ?_ (by simp [Env.make]) (Row.of (by simp only [Env.make]; rw [heap_alloc_at]; simp))
      simp only [Env.make, if_true]
      exact h.keep F I
    · simp only [Env.make, hk, if_false] at ho'
      have hh := ok.held k o' ho'
      refine hh.keep F I (by simp [Env.make, hk]) (by simp [Env.make, hk]) (fun b hb => ?_)
      have hlt := hh.lt hb
      simp only [Env.make]; rw [heap_alloc_at]; simp; omega
  · intro i j oi oj b h1 h2 h3 h4
    simp only [Env.make] at h1 h2 h3 h4
    by_cases hi : i = id <;> by_cases hj : j = id
    · rw [hi, hj]
    · simp only [hi, hj, if_true, if_false, Option.some.injEq] at h1 h2 h3 h4
      have := (ok.held j oj h2).lt h4; omega
    · simp only [hi, hj, if_true, if_false, Option.some.injEq] at h1 h2 h3 h4
      have := (ok.held i oi h1).lt h3; omega
    · simp only [hi, hj, if_false] at h1 h2 h3 h4
      exact ok.inj i j oi oj b h1 h2 h3 h4
  · intro i o' b h1 h2
    simp only [Env.make] at h1 h2
    by_cases hi : i = id
    · simp only [hi, if_true, Option.some.injEq] at h2; left; have := ok.fr.size; omega
    · simp only [hi, if_false] at h1 h2; exact ok.fresh i o' b h1 h2
  · intro i o' h1
    simp only [Env.make] at h1 ⊢
    by_cases hi : i = id
    · exact .inr hi
    · simp only [hi, if_false] at h1; exact .inl (ok.used i o' h1)

/-- An own block is written. -/
def Env.write (e : Env) (id b : Nat) (o : Box) (cells : Array Value) : Env :=
  { e with w := e.w.setRow b cells, ob := fun k => if k = id then some o else e.ob k }

theorem heap_setRow_at (w : World) (b : Nat) (cs : Array Value) (k : Nat) (h : k ≠ b) : (w.setRow b cs).heap[k]? = w.heap[k]? := by
  simp only [World.setRow, Array.getElem?_modify]
  rw [if_neg (by omega)]
theorem size_setRow (w : World) (b : Nat) (cs : Array Value) : (w.setRow b cs).heap.size = w.heap.size := by simp [World.setRow]

theorem write_keeps {e : Env} {id b : Nat} {o0 o : Box} (cells : Array Value) (h0 : e.ob id = some o0) (hb : e.th id = some b)
    (hk : o0.like o) : Follows e (e.write id b o cells) ∧ IdKeeps e (e.write id b o cells) := by
  refine ⟨⟨by simp only [Env.write, size_setRow]; exact Nat.le_refl _, fun k hk' hO => ?_, ?_, fun _ _ h => h, fun _ _ h => h⟩, ?_⟩
  · simp only [Env.write]
    exact heap_setRow_at _ _ _ _ (fun h => hO ⟨id, o0, h0, by rw [h]; exact hb⟩)
  · rintro k hk' ⟨i, o', h1, h2⟩
    simp only [Env.write] at h1 h2
    by_cases hi : i = id
    · subst hi; exact ⟨i, o0, h0, h2⟩
    · simp only [hi, if_false] at h1; exact ⟨i, o', h1, h2⟩
  · intro k hu
    refine ⟨hu, fun o' ho' => ⟨rfl, rfl, ?_⟩⟩
    simp only [Env.write] at ho'
    by_cases hi : k = id
    · subst hi
      simp only [if_true, Option.some.injEq] at ho'
      subst ho'
      exact ⟨o0, h0, hk⟩
    · simp only [hi, if_false] at ho'
      exact ⟨o', ho', o'.like_refl⟩

theorem grow_write {G : Glob} {e : Env} (ok : Ok G e) {id b : Nat} {o0 o : Box} {cells : Array Value} {c0 : Array Value} {T : TypeId × Nat × Nat} (h0 : e.ob id = some o0) (hb : e.th id = some b) (hh : Row e.w b c0 (o0.es, T)) (hcs : cells.size = c0.size)
    (hk : o0.like o) (h : Lies e o cells (e.kap id)) : Grow G e (e.write id b o cells) := by
  obtain ⟨F, I⟩ := write_keeps cells h0 hb hk
  refine ⟨⟨?_, ok.S, ok.Sp, ?_, ?_, ?_, ?_, ok.low⟩, F, I⟩
  · refine ⟨ok.fr.os, ok.fr.tape, ok.fr.output, by simp only [Env.write, size_setRow]; exact ok.fr.size, ok.fr.drawn, fun k hk' hW => ?_⟩
    simp only [Env.write]
    rw [heap_setRow_at _ _ _ _ ?_]
    · exact ok.fr.block k hk' hW
    · intro hkb
      subst hkb
      rcases ok.fresh id o0 k h0 hb with h1 | h1
      · omega
      · exact hW h1
  · intro k o' ho'
    simp only [Env.write] at ho'
    by_cases hi : k = id
    · subst hi
      simp only [if_true, Option.some.injEq] at ho'
      subst ho'
      refine Lies.held (b := b) (T := T) (cells := cells) (h.keep F I) hb ?_
      simp only [Env.write]
      rw [Box.like_es hk]; exact hh.set hcs
    · simp only [hi, if_false] at ho'
      refine (ok.held k o' ho').keep F I rfl rfl (fun b' hb' => ?_)
      simp only [Env.write]
      exact heap_setRow_at _ _ _ _ (fun h => hi (ok.inj k id o' o0 b' ho' h0 hb' (h ▸ hb)))
  · intro i j oi oj b' h1 h2 h3 h4
    simp only [Env.write] at h1 h2 h3 h4
    have get : ∀ k ok', (if k = id then some o else e.ob k) = some ok' → ∃ o', e.ob k = some o' := by
      intro k ok' hk'
      by_cases hkk : k = id
      · exact ⟨o0, hkk ▸ h0⟩
      · simp only [hkk, if_false] at hk'; exact ⟨ok', hk'⟩
    obtain ⟨oi', h1'⟩ := get i oi h1
    obtain ⟨oj', h2'⟩ := get j oj h2
    exact ok.inj i j oi' oj' b' h1' h2' h3 h4
  · intro i o' b' h1 h2
    simp only [Env.write] at h1 h2
    by_cases hi : i = id
    · subst hi; exact ok.fresh i o0 b' h0 h2
    · simp only [hi, if_false] at h1; exact ok.fresh i o' b' h1 h2
  · intro i o' h1
    simp only [Env.write] at h1 ⊢
    by_cases hi : i = id
    · subst hi; exact ok.used i o0 h0
    · simp only [hi, if_false] at h1; exact ok.used i o' h1

theorem appOb_one (id : Nat) (o : Option Box) (ob : Nat → Option Box) : appOb [(id, o)] ob = fun k => if k = id then o else ob k := by
  funext k
  rw [appOb, lk_cons]
  by_cases h : k = id
  · subst h; simp
  · rw [if_neg (Ne.symm h), if_neg h]; rfl

/-- A type's zero value. -/
structure ZeroOk (P : Program) (T : TypeId) (v : V) : Prop where
  has : ∃ z, (P.info? T).map (·.zero) = some (some z) ∧ chk v z = true
  solid : v.solid = true

section
variable {G : Glob} {dst : Option Tmp} {ty : TypeId} {pos : String} {af : Array Edge} {g : Option (Nat × Bool)}

theorem upon_make {G : Glob} {e : Env} {a : Act} (ok : Ok G e) {id : Nat} (hid : ¬ e.us id) {v : V} {x : Value} (hv : v.solid = true) (hr : R e v x) (T : TypeId) {K : Act → World → Prop} {dst : Option Tmp}
    (hK : Gives G e a dst { v := .ptr id 0 [], upd := [(id, some (.var v))], new := [id] } K) : K (a.put dst (.pointer (some ⟨e.w.heap.size, 0, none⟩))) (e.w.alloc (.cells x.cells T (0, 0))) := by
  obtain ⟨h1, h2, h3⟩ := R.cells hv hr
  have hl : Lies e (.var v) x.cells 0 := ⟨h2, h1, by rw [h3]; exact hr⟩
  refine hK _ (e.make id (.var v) x.cells T 0) (grow_make ok hid hl) ?_ ?_ ?_
  · rw [appOb_one]; rfl
  · intro k; simp [Env.make]
  · refine ⟨.inr rfl, fun o ho => ⟨e.w.heap.size, by simp [Env.make], rfl⟩⟩

theorem does_alloc (T : TypeId) (id : Nat) (v : V) (h : ZeroOk G.P T v) : Does G ⟨dst, .alloc T, ty, pos, af, g⟩ { eff := { v := .ptr id 0 [], upd := [(id, some (.var v))], new := [id] } } := by
  intro e a ok hn K Q hK
  obtain ⟨z, hz, hc⟩ := h.has
  have hr := chk_sound e v z hc
  have hid := hn.2.2 id (by simp)
  unfold Oper.wp
  have hzv : (zeroValue T).run G.P e.w = .ok z e.w := by
    cases hq : G.P.info? T with
    | none => simp [hq] at hz
    | some i => simp [hq] at hz; simp [zeroValue, typeInfo, hq, hz]
  have := upon_make (G := G) (a := a) ok hid h.solid hr T hK
  simp only [execOp, Instr.alloc, Sem.run_bind, hzv, Result.andThen_ok, newVar, newRow, run_newObj, Sem.run_pure]
  exact this

theorem does_box (T : TypeId) (x : Operand) (id : Nat) (v : V) (hc : cOk x v) (hs : v.solid = true) : Does G ⟨dst, .box T x, ty, pos, af, g⟩ { need := nd x v, eff := { v := .ptr id 0 [], upd := [(id, some (.var v))], new := [id] } } := by
  intro e a ok hn K Q hK
  have hr : R e v (a.eval x) := R.operand hn.1 hc (fun _ h => h)
  have hid := hn.2.2 id (by simp)
  unfold Oper.wp
  have := upon_make (G := G) (a := a) ok hid hs hr T hK
  simp only [execOp, Instr.box, Sem.run_bind, newVar, newRow, run_newObj, Result.andThen_ok, Sem.run_pure]
  exact this

def Box.set : Box → List Nat → V → Box
  | .var v, p, u => .var (setp v p u)
  | .arr es n f, j :: p, u => .arr es n (vupd f j (setp (f j) p u))
  | .arr es n f, [], _ => .arr es n f

theorem splice_get (cs vals : Array Value) (q : Nat) (hb : q + vals.size ≤ cs.size) :
    (cs.toList.take q ++ vals.toList ++ cs.toList.drop (q + vals.toList.length)).toArray.size = cs.size ∧
    (∀ k, k < q ∨ q + vals.size ≤ k → (cs.toList.take q ++ vals.toList ++ cs.toList.drop (q + vals.toList.length)).toArray[k]? = cs[k]?) ∧
    (∀ k, k < vals.size → (cs.toList.take q ++ vals.toList ++ cs.toList.drop (q + vals.toList.length)).toArray[q + k]? = vals[k]?) := by
  have hq : (cs.toList.take q).length = q := by simp; omega
  refine ⟨by simp; omega, fun k hk => ?_, fun k hk => ?_⟩
  · simp only [List.getElem?_toArray]
    rcases hk with hk | hk
    · rw [List.append_assoc, List.getElem?_append_left (by omega)]
      rw [List.getElem?_take]; simp [hk]
    · rw [List.getElem?_append_right (by simp; omega), List.getElem?_drop]
      simp only [List.length_append, hq, Array.length_toList]
      rw [← Array.getElem?_toList]
      congr 1; omega
  · simp only [List.getElem?_toArray]
    rw [List.append_assoc, List.getElem?_append_right (by omega), hq, List.getElem?_append_left (by simp; omega)]
    rw [Array.getElem?_toList]; congr 1; omega

theorem piece_of_cells {u : V} {x : Value} {cs' : Array Value} {q : Nat} (hs : x.cells.size = u.size) (hp : piece u x.cells 0 u.size = x) (hz : cs'.size ≥ q + u.size) (h : ∀ k, k < u.size → cs'[q + k]? = x.cells[k]?) : piece u cs' q u.size = x := by
  rw [← hp]
  unfold piece
  split
  · congr 1
    apply Array.ext
    · simp; omega
    · intro k h1 h2
      simp only [Array.size_extract] at h1 h2
      simp only [Array.getElem_extract]
      have := h k (by omega)
      rw [Array.getElem?_eq_getElem (by omega), Array.getElem?_eq_getElem (by omega)] at this
      simpa using Option.some.inj this
  · rename_i hv
    have := h 0 (by rw [size_pos (by simpa using hv)]; omega)
    simp only [Array.getD_eq_getD_getElem?]
    rw [Nat.add_zero] at this
    rw [this]

theorem does_store (T : TypeId) (t : Nat) (x : Operand) (id off : Nat) (path : List Nat) (o o' : Box) (u : V) (ag : Bool) (hc : cOk x u) (hs : u.solid = true) (hp : o.okp path) (hoff : o.off path = off) (hz : (o.get path).size = u.size)
    (ho' : o.set path u = o') (hT : TyOk G.P T ag u.size) :
    Does G ⟨dst, .store T (.tmp t) x, ty, pos, af, g⟩ { need := (t, .ptr id off path) :: nd x u, nob := [(id, o)], eff := { v := .any, upd := [(id, some o')] } } := by
  intro e a ok hn K Q hK
  have hr : R e u (a.eval x) := R.operand hn.1 hc (fun _ h => List.mem_cons_of_mem _ h)
  obtain ⟨hu, hx⟩ := hn.1 (t, .ptr id off path) (by simp)
  have hob := hn.2.1 (id, o) (by simp)
  obtain ⟨b, hb, hx⟩ := hx o hob
  have hx' : a.eval (.tmp t) = .pointer (some ⟨b, off, none⟩) := hx
  obtain ⟨c1, c2, c3⟩ := R.cells hs hr
  have hheld := ok.held id o hob
  obtain ⟨b', cs, T', e1, e2, e3, _⟩ := hheld.get hp
  obtain rfl : b = b' := by rw [hb] at e1; exact Option.some.inj e1
  subst hoff
  rw [hz] at e3
  have hsp := splice_get cs (a.eval x).cells (o.off path) (by rw [c1]; exact e3)
  obtain ⟨s1, s2, s3⟩ := hsp
  generalize hcs' : (cs.toList.take (o.off path) ++ (a.eval x).cells.toList ++ cs.toList.drop (o.off path + (a.eval x).cells.toList.length)).toArray = cs' at s1 s2 s3
  have hrun : (storeVar T ⟨b, o.off path, none⟩ (a.eval x)).run G.P e.w = .ok () (e.w.setRow b cs') := by
    have h1 := run_storeRow (P := G.P) b (o.off path) T' (a.eval x).cells.toList 0 cs e.w e2 (by simp; omega) (fun v hv => c2 v (by simpa using hv))
    simp only [Nat.add_zero] at h1
    rw [hcs'] at h1
    simp [storeVar, hT.run_sizeOf, c1, h1]
  have hpu : piece u cs' (o.off path) u.size = a.eval x := piece_of_cells c1 c3 (by rw [s1]; exact e3) (fun k hk => s3 k (by omega))
  have hone : AllOne cs → AllOne cs' := by
    intro h c hc'
    subst hcs'
    simp only [List.mem_toArray, List.mem_append] at hc'
    rcases hc' with (h1 | h1) | h1
    · exact h c (by simpa using List.mem_of_mem_take h1)
    · exact c2 c (by simpa using h1)
    · exact h c (by simpa using List.mem_of_mem_drop h1)
  obtain ⟨cs2, T2, l1, l2⟩ := hheld.lies hb
  obtain rfl := e2.uniq l1
  have hl : Lies e o' cs' (e.kap id) := by
    subst ho'
    cases o with
    | var v =>
      have := R.setp (e := e) (u := u) s1 (hone l2.1) path 0 v hp (by rw [l2.2.1]; omega) hz.symm l2.2.2 (by
        have h0 : piece u cs' (poff 0 v path) u.size = a.eval x := hpu
        rw [h0]; exact hr) (fun k _ _ h => s2 k (by rw [c1]; exact h))
      exact ⟨hone l2.1, by rw [s1, l2.2.1]; exact this.1.symm, by have h2 := this.2; rw [← this.1] at h2; exact h2⟩
    | arr es n f =>
      cases path with
      | nil => exact hp.elim
      | cons j p =>
        obtain ⟨hj, hp⟩ := hp
        obtain ⟨l3, l4, l5, l6⟩ := l2
        refine ⟨hone l3, by rw [s1]; exact l4, l5, fun k hk => ?_⟩
        obtain ⟨hzk, hrk⟩ := l6 k hk
        obtain ⟨hzj, hrj⟩ := l6 j hj
        have bnd : ∀ i, i < n → i * es + es ≤ cs.size := by
          intro i hi
          have : (i + 1) * es ≤ e.kap id * es := Nat.mul_le_mul_right _ (by omega)
          rw [Nat.succ_mul] at this; omega
        have hrj' : R e (f j) (piece (f j) cs (j * es) (f j).size) := by rw [hzj]; exact hrj
        have inner := poff_le p (j * es) (f j) cs e hp (by rw [hzj]; exact bnd j hj) hrj'
        by_cases hkj : k = j
        · subst hkj
          have := R.setp (e := e) (u := u) s1 (hone l3) p (k * es) (f k) hp (by rw [hzk]; exact bnd k hk) hz.symm hrj' (by
            have : piece u cs' (poff (k * es) (f k) p) u.size = a.eval x := hpu
            rw [this]; exact hr) (fun i _ _ h => s2 i (by rw [c1]; exact h))
          have e5 : vupd f k (setp (f k) p u) k = setp (f k) p u := by simp [vupd]
          rw [e5]
          exact ⟨this.1.trans hzk, by have h2 := this.2; rw [hzk] at h2; exact h2⟩
        · have e5 : vupd f j (setp (f j) p u) k = f k := by simp [vupd, hkj]
          rw [e5]
          refine ⟨hzk, ?_⟩
          rw [piece_other (f k) cs cs' (k * es) es s1 (bnd k hk) (fun ha => by rw [← hzk, size_pos ha]; omega) ?_]
          · exact hrk
          · intro i hi1 hi2
            refine s2 i ?_
            rw [c1, ← hz]
            have a1 := inner.1
            have a2 := inner.2.1
            rw [hzj] at a2
            simp only [Box.off, Box.get]
            rcases Nat.lt_or_gt_of_ne hkj with h | h
            · have : (k + 1) * es ≤ j * es := Nat.mul_le_mul_right _ h
              rw [Nat.succ_mul] at this; left; omega
            · have : (j + 1) * es ≤ k * es := Nat.mul_le_mul_right _ h
              rw [Nat.succ_mul] at this; right; omega
  have gr := grow_write ok (o := o') hob hb l1 s1 (by subst ho'; cases o with | var v => trivial | arr es n f => cases path with | nil => exact ⟨rfl, rfl⟩ | cons j p => exact ⟨rfl, rfl⟩) hl
  unfold Oper.wp
  simp only [execOp, Sem.run_bind, hx', Instr.storeAt, Instr.sureAddr, Sem.run_pure, Result.andThen_ok, hrun]
  exact hK undef (e.write id b o' cs') gr (by rw [appOb_one]; rfl) (by intro k; simp [Env.write]) trivial
end
end Go.Eng
