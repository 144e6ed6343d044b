/- The engine's laws: aggregates built of parts, slices laid, own arrays begun and grown. Conditions: none. -/
import Derived.Test.YtnfjibcfnchkkaaEngJ
import Derived.Laws.AppendOwn
namespace Go.Eng

theorem foldl_set (off : Nat) : ∀ (l : List Value) (k : Nat) (cs : Array Value), off + k + l.length ≤ cs.size →
    (l.zipIdx k).foldl (fun (cs : Array Value) (p : Value × Nat) => cs.setIfInBounds (off + p.2) p.1) cs = (cs.toList.take (off + k) ++ l ++ cs.toList.drop (off + k + l.length)).toArray
  | [], k, cs, _ => by simp
  | v :: l, k, cs, h => by
    simp only [List.length_cons] at h
    simp only [List.zipIdx_cons, List.foldl_cons]
    rw [foldl_set off l (k + 1) _ (by simp; omega)]
    apply Array.ext'
    simp only [Array.toList_setIfInBounds, List.length_cons]
    have e := list_seg_step cs.toList (off + k) v l (by simp; omega)
    rw [show off + (k + 1) = off + k + 1 by omega]
    have h2 : off + k + (l.length + 1) = off + k + 1 + l.length := by omega
    rw [h2]
    simpa [Nat.add_assoc, Nat.add_comm 1] using e

theorem R.put {e : Env} {L : Lay} {f : Nat → V} {cs : Array Value} (h : R e (.agg L f) (.agg cs)) {j : Nat} (hj : j < L.cnt) {u : V} {x : Value} (hu : R e u x) (hs : u.solid = true) (hz : u.size = L.sz j) :
    R e (.agg L (vupd f j u)) (.agg (cs.toList.take (L.off j) ++ x.cells.toList ++ cs.toList.drop (L.off j + x.cells.toList.length)).toArray) := by
  obtain ⟨cs', hcs, hsz, h1, hr⟩ := h
  cases hcs
  obtain ⟨c1, c2, c3⟩ := R.cells hs hu
  have hfit := L.fits hj
  obtain ⟨s1, s2, s3⟩ := splice_get cs x.cells (L.off j) (by rw [c1, hz]; omega)
  have hone : AllOne (cs.toList.take (L.off j) ++ x.cells.toList ++ cs.toList.drop (L.off j + x.cells.toList.length)).toArray := by
    intro c hc
    simp only [List.mem_toArray, List.mem_append] at hc
    rcases hc with (q | q) | q
    · exact h1 c (by simpa using List.mem_of_mem_take q)
    · exact c2 c (by simpa using q)
    · exact h1 c (by simpa using List.mem_of_mem_drop q)
  generalize (cs.toList.take (L.off j) ++ x.cells.toList ++ cs.toList.drop (L.off j + x.cells.toList.length)).toArray = cs' at s1 s2 s3 hone
  have hp : piece u cs' (L.off j) u.size = x := piece_of_cells c1 c3 (by rw [s1, hz]; omega) (fun k hk => s3 k (by omega))
  refine ⟨cs', rfl, s1.trans hsz, hone, fun k hk => ?_⟩
  by_cases hkj : k = j
  · subst hkj
    simp only [vupd, if_true]
    exact ⟨hz, by rw [← hz, hp]; exact hu⟩
  · simp only [vupd, hkj, if_false]
    obtain ⟨r1, r2⟩ := hr k hk
    refine ⟨r1, ?_⟩
    have hfk := L.fits hk
    rw [piece_other (f k) cs cs' (L.off k) (L.sz k) s1 (by omega) (fun ha => by rw [← r1, size_pos ha]; omega) ?_]
    · exact r2
    · intro i hi1 hi2
      refine s2 i ?_
      rw [c1, hz]
      rcases Nat.lt_or_gt_of_ne hkj with q | q
      · have := L.apart q hj; left; omega
      · have := L.apart q hk; right; omega

def setAll (f : Nat → V) : List (Nat × V) → (Nat → V)
  | [] => f
  | (j, u) :: l => setAll (vupd f j u) l

/-- Parts that are laid in. -/
def PartsOk (L : Lay) : List (Nat × V) → Prop
  | [] => True
  | (j, u) :: l => (j < L.cnt ∧ u.solid = true ∧ u.size = L.sz j) ∧ PartsOk L l

theorem fill_sound {e : Env} {L : Lay} {place : Nat → Option (Nat × Nat)} (hpl : ∀ j, j < L.cnt → place j = some (L.off j, L.sz j)) : ∀ (ps : List (Nat × V)) (xs : List (Nat × Value)) (f : Nat → V) (cs : Array Value), PartsOk L ps →
    ps.map (·.1) = xs.map (·.1) → (∀ (i : Nat) (p : Nat × V) (q : Nat × Value), ps[i]? = some p → xs[i]? = some q → R e p.2 q.2) → R e (.agg L f) (.agg cs) → ∃ cs', Instr.fill place cs xs = some cs' ∧ R e (.agg L (setAll f ps)) (.agg cs')
  | [], xs, f, cs, _, hm, _, hr => by
    have : xs = [] := by cases xs <;> simp_all
    subst this
    exact ⟨cs, rfl, hr⟩
  | (j, u) :: ps, [], _, _, _, hm, _, _ => by simp at hm
  | (j, u) :: ps, (j', x) :: xs, f, cs, ⟨⟨hj, hs, hz⟩, hps⟩, hm, hR, hr => by
    simp only [List.map_cons, List.cons.injEq] at hm
    obtain ⟨rfl, hm⟩ := hm
    have hu : R e u x := hR 0 (j, u) (j, x) (by simp) (by simp)
    obtain ⟨c1, c2, c3⟩ := R.cells hs hu
    have hput := R.put hr hj hu hs hz
    have hsz : cs.size = L.tot := by obtain ⟨_, h, h2, _⟩ := hr; cases h; exact h2
    have hfit := L.fits hj
    obtain ⟨cs', h1, h2⟩ := fill_sound hpl ps xs (vupd f j u) _ hps hm (fun i p q hp hq => hR (i + 1) p q (by simpa using hp) (by simpa using hq)) hput
    refine ⟨cs', ?_, h2⟩
    simp only [Instr.fill, hpl j hj]
    rw [if_neg (by simp [c1, hz]; omega)]
    rw [← h1]
    congr 1
    have := foldl_set (L.off j) x.cells.toList 0 cs (by simp [c1, hz]; omega)
    simp only [Nat.add_zero] at this
    rw [← this, ← Array.foldl_toList]
    simp

/-- A struct's or an array's row, its zero value, and where its parts lie. -/
structure BldOk (P : Program) (T : TypeId) (L : Lay) (f0 : Nat → V) : Prop where
  zero : ∃ z, (P.info? T).map (·.zero) = some (some z) ∧ chk (.agg L f0) z = true
  und : (∃ fields, P.underlying T = some (.struct fields) ∧ ∃ places, fields.toList.mapM (fun f => (P.info? f.type).map fun i => (f.offset, i.size)) = some places ∧ ∀ j, j < L.cnt → places[j]? = some (L.off j, L.sz j)) ∨
    (∃ n m E i, P.underlying T = some (.array n E) ∧ P.info? E = some i ∧ L = .ar m i.size)

def ndp : List (Nat × Operand) → List (Nat × V) → List (Nat × V)
  | (_, x) :: xs, (_, v) :: vs => nd x v ++ ndp xs vs
  | _, _ => []
def cOkp : List (Nat × Operand) → List (Nat × V) → Prop
  | [], [] => True
  | (i, x) :: xs, (j, v) :: vs => (i = j ∧ cOk x v) ∧ cOkp xs vs
  | _, _ => False

theorem parts_of {e : Env} {a : Act} {need : List (Nat × V)} (hn : ∀ p ∈ need, R e p.2 (a.tmps.getD p.1 undef)) : ∀ (xs : List (Nat × Operand)) (ps : List (Nat × V)), cOkp xs ps → (∀ p ∈ ndp xs ps, p ∈ need) →
    ps.map (·.1) = (xs.map fun p => (p.1, a.eval p.2)).map (·.1) ∧ ∀ (i : Nat) (p : Nat × V) (q : Nat × Value), ps[i]? = some p → (xs.map fun p => (p.1, a.eval p.2))[i]? = some q → R e p.2 q.2
  | [], [], _, _ => ⟨rfl, fun i p q h => by simp at h⟩
  | (i, x) :: xs, (j, v) :: ps, ⟨⟨hij, h1⟩, h2⟩, hs => by
    obtain ⟨a1, a2⟩ := parts_of hn xs ps h2 (fun p hp => hs p (List.mem_append_right _ hp))
    refine ⟨by simp only [List.map_cons, hij, a1], fun k p q hp hq => ?_⟩
    cases k with
    | zero => simp at hp hq; subst hp; subst hq; exact R.operand hn h1 (fun p hp => hs p (List.mem_append_left _ hp))
    | succ k => simp at hp hq; exact a2 k p q hp (by simpa using hq)
  | [], _ :: _, h, _ => h.elim
  | _ :: _, [], h, _ => h.elim

section
variable {G : Glob} {dst : Option Tmp} {ty : TypeId} {pos : String} {af : Array Edge} {g : Option (Nat × Bool)}

theorem does_build (T : TypeId) (parts : Array (Nat × Operand)) (xs : List (Nat × Operand)) (ps : List (Nat × V)) (L : Lay) (f0 : Nat → V) (hx : parts.toList = xs) (hB : BldOk G.P T L f0) (hc : cOkp xs ps) (hp : PartsOk L ps) :
    Does G ⟨dst, .build T parts, ty, pos, af, g⟩ { need := ndp xs ps, eff := { v := .agg L (setAll f0 ps) } } :=
  does_value rfl rfl fun e a ok hn _ => by
    obtain ⟨z, hz, hck⟩ := hB.zero
    have hr0 := chk_sound e _ z hck
    obtain ⟨cs0, rfl, hs0⟩ := hr0
    have hr0 : R e (.agg L f0) (.agg cs0) := ⟨cs0, rfl, hs0⟩
    obtain ⟨a1, a2⟩ := parts_of hn xs ps hc (fun _ h => h)
    cases hi : G.P.info? T with
    | none => simp [hi] at hz
    | some inf =>
      simp [hi] at hz
      rcases hB.und with ⟨fields, hu, places, hpl, hat⟩ | ⟨n, m, E, i, hu, hiE, hL⟩
      · obtain ⟨cs', h1, h2⟩ := fill_sound (place := (places.toArray[·]?)) (fun j hj => by simpa using hat j hj) ps _ f0 cs0 hp a1 a2 hr0
        refine ⟨.agg cs', ?_, h2⟩
        have := run_build (P := G.P) e.w T (parts.map fun p => (p.1, a.eval p.2)) cs' (by
          simp only [Program.built, hi, hu, hz, hpl]
          rw [Array.toList_map, hx]; exact h1)
        simp only [execOp, Sem.run_bind, this, Result.andThen_ok, Sem.run_pure]
      · subst hL
        obtain ⟨cs', h1, h2⟩ := fill_sound (place := fun k => some (k * i.size, i.size)) (fun j hj => rfl) ps _ f0 cs0 hp a1 a2 hr0
        refine ⟨.agg cs', ?_, h2⟩
        have := run_build (P := G.P) e.w T (parts.map fun p => (p.1, a.eval p.2)) cs' (by
          simp only [Program.built, hi, hu, hz, hiE]
          rw [Array.toList_map, hx]; exact h1)
        simp only [execOp, Sem.run_bind, this, Result.andThen_ok, Sem.run_pure]

/-- A slice type's row, its element's zero. -/
structure SlOk (P : Program) (T : TypeId) (es : Nat) (z0 : V) : Prop where
  has : ∃ E i z, P.underlying T = some (.slice E) ∧ P.info? E = some i ∧ i.size = es ∧ i.zero = some z ∧ chk z0 z = true ∧ z.cells.size = es
  solid : z0.solid = true
  pos : 0 < es
  size : z0.size = es

theorem zeros_R {e : Env} {z0 : V} {z : Value} {es : Nat} (hck : chk z0 z = true) (hs : z0.solid = true) (hz : z0.size = es) (n : Nat) (hes : 0 < es) :
    R e (.agg (.ar n es) (fun _ => z0)) (.agg ((Array.range (n * es)).map fun k => z.cells[k % z.cells.size]!)) := by
  have hr := chk_sound e z0 z hck
  obtain ⟨c1, c2, c3⟩ := R.cells hs hr
  have hsz : z.cells.size = es := c1.trans hz
  have hget : ∀ j k, j < n → k < es → ((Array.range (n * es)).map fun k => z.cells[k % z.cells.size]!)[j * es + k]? = z.cells[k]? := by
    intro j k hj hk
    have hlt : j * es + k < n * es := by
      have : (j + 1) * es ≤ n * es := Nat.mul_le_mul_right _ hj
      rw [Nat.succ_mul] at this; omega
    have hm : (j * es + k) % es = k := by rw [Nat.add_comm, Nat.add_mul_mod_self_right, Nat.mod_eq_of_lt hk]
    simp [hlt, hsz, hm, hk]
  refine ⟨_, rfl, by simp [Lay.tot], ?_, fun j hj => ⟨hz, ?_⟩⟩
  · intro c hc
    simp only [Array.mem_map, Array.mem_range] at hc
    obtain ⟨k, hk, rfl⟩ := hc
    have : k % z.cells.size < z.cells.size := Nat.mod_lt _ (by omega)
    rw [getElem!_pos z.cells (k % z.cells.size) this]
    exact c2 _ (Array.getElem_mem _)
  · simp only [Lay.cnt] at hj
    simp only [Lay.off, Lay.sz]
    have hfit := (Lay.ar n es).fits (j := j) hj
    simp only [Lay.off, Lay.sz, Lay.tot] at hfit
    rw [← hz, piece_of_cells c1 c3 (by rw [hz]; simp; omega) (fun k hk => by rw [hz] at hk ⊢; exact hget j k hj hk)]
    exact hr

theorem frame_alloc (w : World) (o : Obj) : Frame0 (fun _ => False) w (w.alloc o) := ⟨rfl, rfl, rfl, by simp, Nat.le_refl _, fun k hk _ => by rw [heap_alloc_at]; simp; omega⟩

theorem buildSlice_run {e : Env} {a : Act} {T : TypeId} {es n : Nat} {z0 : V} (hB : SlOk G.P T es z0) (hn : n * es ≤ 2 ^ 24) {parts : Array (Nat × Operand)} {xs : List (Nat × Operand)} {ps : List (Nat × V)} (hx : parts.toList = xs)
    (hc : cOkp xs ps) (hp : PartsOk (.ar n es) ps) {need : List (Nat × V)} (hnd : ∀ p ∈ need, R e p.2 (a.tmps.getD p.1 undef)) (hs : ∀ p ∈ ndp xs ps, p ∈ need) :
    ∃ cs E, (Instr.buildSlice T n (parts.map fun p => (p.1, a.eval p.2))).run G.P e.w = .ok (.slice (some ⟨e.w.heap.size, 0, none⟩) n n) (e.w.alloc (.cells cs E (0, 0))) ∧ R e (.agg (.ar n es) (setAll (fun _ => z0) ps)) (.agg cs) := by
  obtain ⟨E, i, z, hu, hi, hes, hz, hck, hzs⟩ := hB.has
  obtain ⟨a1, a2⟩ := parts_of hnd xs ps hc hs
  have hr0 := zeros_R (e := e) hck hB.solid hB.size n hB.pos
  obtain ⟨cs', h1, h2⟩ := fill_sound (place := fun k => some (k * es, es)) (fun j hj => rfl) ps _ _ _ hp a1 a2 hr0
  refine ⟨cs', E, ?_, h2⟩
  have hmap : (parts.map fun p => (p.1, a.eval p.2)).toList = xs.map fun p => (p.1, a.eval p.2) := by rw [Array.toList_map, hx]
  have hlim : ¬ (n * es > 2 ^ 24) := by omega
  by_cases hn0 : n * es = 0
  · have hn1 : n = 0 := by
      rcases Nat.mul_eq_zero.1 hn0 with q | q
      · exact q
      · have := hB.pos; omega
    subst hn1
    have hps : ps = [] := by
      cases ps with
      | nil => rfl
      | cons p ps => exact absurd hp.1.1 (by simp [Lay.cnt])
    subst hps
    have hxs : xs = [] := by
      cases xs with
      | nil => rfl
      | cons p xs => exact hc.elim
    subst hxs
    have hpe : parts = #[] := by apply Array.ext'; simpa using hx
    simp only [List.map_nil, Instr.fill, Option.some.injEq] at h1
    subst h1
    simp [Instr.buildSlice, run_underlying hu, sizeOf, typeInfo, hi, hpe, Instr.fill, newRow, show Array.range 0 = #[] from rfl]
  · simp only [Instr.buildSlice, Sem.run_bind, run_underlying hu, Result.andThen_ok, sizeOf, typeInfo, run_program, hi, Sem.run_pure, hes, if_neg hlim, if_neg hn0, zeroValue, hz, hmap]
    simp only [h1, newRow, Sem.run_bind, run_newObj, Result.andThen_ok, Sem.run_pure]
    rfl

theorem arr_lies {e : Env} {n es : Nat} {f : Nat → V} {cs : Array Value} (h : R e (.agg (.ar n es) f) (.agg cs)) : cs.size = n * es ∧ AllOne cs ∧ ∀ j, j < n → (f j).size = es ∧ R e (f j) (piece (f j) cs (j * es) es) := by
  obtain ⟨cs', hc, h1, h2, h3⟩ := h
  cases hc
  exact ⟨h1, h2, h3⟩

theorem notFar {e : Env} (ok : Ok G e) : ¬ e.S e.w.heap.size ∧ ¬ e.Sp e.w.heap.size ∧ ¬ e.Own e.w.heap.size := by
  have hs := ok.fr.size
  refine ⟨fun h => ?_, fun h => ?_, fun h => ?_⟩
  · have := ok.low _ (.inl (ok.S ▸ h)); omega
  · have := ok.low _ (.inr (ok.Sp ▸ h)); omega
  · have := ok.own_lt h; omega

/-- A slice laid that is only read. -/
theorem does_buildSl (T : TypeId) (n es : Nat) (z0 : V) (f : Nat → V) (parts : Array (Nat × Operand)) (xs : List (Nat × Operand)) (ps : List (Nat × V)) (hx : parts.toList = xs) (hB : SlOk G.P T es z0) (hn : n * es ≤ 2 ^ 24) (hc : cOkp xs ps)
    (hp : PartsOk (.ar n es) ps) (hf : ∀ j, j < n → setAll (fun _ => z0) ps j = f j) : Does G ⟨dst, .buildSlice T n parts, ty, pos, af, g⟩ { need := ndp xs ps, eff := { v := .sl es n f } } := by
  intro e a ok hnd K Q hK
  obtain ⟨cs, E, hrun, hr⟩ := buildSlice_run (e := e) (a := a) hB hn hx hc hp hnd.1 (fun _ h => h)
  obtain ⟨l1, l2, l3⟩ := arr_lies hr
  have gr := grow_world ok (frame_alloc e.w (.cells cs E (0, 0)))
  obtain ⟨n1, n2, n3⟩ := notFar ok
  unfold Oper.wp
  simp only [execOp, Sem.run_bind, hrun, Result.andThen_ok, Sem.run_pure]
  refine hK _ { e with w := e.w.alloc (.cells cs E (0, 0)) } gr (by funext id; simp [appOb, lk]) (by simp) ⟨_, n, rfl, Nat.le_refl _, .inr ⟨_, cs, rfl, n1, n2, n3, l1, ⟨rfl, by simp, fun i hi => by simp⟩, l2, fun j hj => ?_⟩⟩
  rw [← hf j hj]
  exact ⟨(l3 j hj).1, gr.keep (l3 j hj).2⟩

/-- A slice laid that is to be grown. -/
theorem does_buildOwn (T : TypeId) (n es id : Nat) (z0 : V) (f : Nat → V) (parts : Array (Nat × Operand)) (xs : List (Nat × Operand)) (ps : List (Nat × V)) (hx : parts.toList = xs) (hB : SlOk G.P T es z0) (hn : n * es ≤ 2 ^ 24) (hc : cOkp xs ps)
    (hp : PartsOk (.ar n es) ps) (hf : ∀ j, j < n → setAll (fun _ => z0) ps j = f j) : Does G ⟨dst, .buildSlice T n parts, ty, pos, af, g⟩ { need := ndp xs ps, eff := { v := .own id, upd := [(id, some (.arr es n f))], new := [id] } } := by
  intro e a ok hnd K Q hK
  obtain ⟨cs, E, hrun, hr⟩ := buildSlice_run (e := e) (a := a) hB hn hx hc hp hnd.1 (fun _ h => h)
  obtain ⟨l1, l2, l3⟩ := arr_lies hr
  have hid := hnd.2.2 id (by simp)
  have hl : Lies e (.arr es n f) cs n := ⟨l2, l1, Nat.le_refl _, fun j hj => by rw [← hf j hj]; exact l3 j hj⟩
  unfold Oper.wp
  simp only [execOp, Sem.run_bind, hrun, Result.andThen_ok, Sem.run_pure]
  refine hK _ (e.make id (.arr es n f) cs E n) (grow_make ok hid hl) (by rw [appOb_one]; rfl) (by intro k; simp [Env.make]) ⟨.inr rfl, fun es' n' f' ho => ?_⟩
  simp only [Env.make, if_true, Option.some.injEq, Box.arr.injEq] at ho ⊢
  obtain ⟨_, rfl, _⟩ := ho
  rfl

/-- A name for an array of no elements. -/
def Env.void (e : Env) (id es : Nat) (f : Nat → V) : Env :=
  { e with th := fun k => if k = id then none else e.th k, ob := fun k => if k = id then some (.arr es 0 f) else e.ob k, us := fun k => e.us k ∨ k = id }

theorem grow_void {e : Env} (ok : Ok G e) {id : Nat} (hid : ¬ e.us id) (es : Nat) (f : Nat → V) : Grow G e (e.void id es f) := by
  have F : Follows e (e.void id es f) := by
    refine ⟨Nat.le_refl _, fun _ _ _ => rfl, ?_, fun _ _ h => h, fun _ _ h => h⟩
    rintro b _ ⟨k, o, h1, h2⟩
    simp only [Env.void] at h1 h2
    by_cases hk : k = id
    · simp [hk] at h2
    · simp only [hk, if_false] at h1 h2; exact ⟨k, o, h1, h2⟩
  have I : IdKeeps e (e.void id es f) := by
    intro k hu
    have hne : k ≠ id := fun h => hid (h ▸ hu)
    refine ⟨.inl hu, fun o' ho' => ?_⟩
    simp only [Env.void, hne, if_false] at ho' ⊢
    exact ⟨trivial, trivial, o', ho', o'.like_refl⟩
  refine ⟨⟨ok.fr, ok.S, ok.Sp, ?_, ?_, ?_, ?_, ok.low⟩, F, I⟩
  · intro k o' ho'
    by_cases hk : k = id
    · subst hk
      simp only [Env.void, if_true, Option.some.injEq] at ho'
      subst ho'
      simp [Held, Env.void]
    · simp only [Env.void, hk, if_false] at ho'
      exact (ok.held k o' ho').keep F I (by simp [Env.void, hk]) rfl (fun b hb => rfl)
  · intro i j oi oj b h1 h2 h3 h4
    simp only [Env.void] at h1 h2 h3 h4
    by_cases hi : i = id
    · simp [hi] at h3
    · by_cases hj : j = id
      · simp [hj] at h4
      · simp only [hi, hj, if_false] at h1 h2 h3 h4
        exact ok.inj i j oi oj b h1 h2 h3 h4
  · intro i o' b h1 h2
    simp only [Env.void] at h1 h2
    by_cases hi : i = id
    · simp [hi] at h2
    · simp only [hi, if_false] at h1 h2; exact ok.fresh i o' b h1 h2
  · intro i o' h1
    simp only [Env.void] at h1 ⊢
    by_cases hi : i = id
    · exact .inr hi
    · simp only [hi, if_false] at h1; exact .inl (ok.used i o' h1)

theorem does_nil (mv : Bool) (id es : Nat) (f : Nat → V) :
    Does G ⟨dst, if mv then .move (.const (.slice none 0 0)) else .assign (.const (.slice none 0 0)), ty, pos, af, g⟩ { eff := { v := .own id, upd := [(id, some (.arr es 0 f))], new := [id] } } := by
  intro e a ok hnd K Q hK
  have hid := hnd.2.2 id (by simp)
  have : K (a.put dst (.slice none 0 0)) e.w := by
    refine hK _ (e.void id es f) (grow_void ok hid es f) (by rw [appOb_one]; rfl) (by intro k; simp [Env.void]) ⟨.inr rfl, fun es' n' f' ho => ?_⟩
    simp only [Env.void, if_true, Option.some.injEq, Box.arr.injEq] at ho ⊢
    exact ⟨ho.2.1.symm, none, rfl⟩
  unfold Oper.wp
  cases mv with
  | true => exact this
  | false => exact this

/-- An own array whose elder name goes, and which has a new name and perhaps a new place. -/
theorem grow_rename {e : Env} (ok : Ok G e) {id id' : Nat} (hid : ¬ e.us id') {es n m : Nat} {f h : Nat → V} (h0 : e.ob id = some (.arr es n f)) {w' : World} {th' : Option Nat} {kp : Nat}
    (hfr : Frame0 (fun b => e.th id = some b) e.w w') (hth : ∀ b, th' = some b → e.th id = some b ∨ (e.w.heap.size ≤ b ∧ b < w'.heap.size))
    (hheld : ∀ e' : Env, Follows e e' → IdKeeps e e' → e'.w = w' → e'.th id' = th' → e'.kap id' = kp → Held e' id' (.arr es m h)) :
    Grow G e { e with w := w', th := fun k => if k = id' then th' else e.th k, kap := fun k => if k = id' then kp else e.kap k, ob := fun k => if k = id' then some (.arr es m h) else if k = id then none else e.ob k, us := fun k => e.us k ∨ k = id' } := by
  have hne : id' ≠ id := fun hh => hid (hh ▸ ok.used id _ h0)
  generalize he' : ({ e with w := w', th := fun k => if k = id' then th' else e.th k, kap := fun k => if k = id' then kp else e.kap k, ob := fun k => if k = id' then some (.arr es m h) else if k = id then none else e.ob k, us := fun k => e.us k ∨ k = id' } : Env) = e'
  have F : Follows e e' := by
    subst he'
    refine ⟨hfr.size, fun b hb hO => hfr.block b hb (fun hh => hO ⟨id, _, h0, hh⟩), ?_, fun _ _ h => h, fun _ _ h => h⟩
    rintro b hb ⟨k, o, h1, h2⟩
    simp only at h1 h2
    by_cases hk : k = id'
    · simp only [hk, if_true] at h2
      rcases hth b h2 with q | q
      · exact ⟨id, _, h0, q⟩
      · omega
    · by_cases hk2 : k = id
      · simp [hk2, Ne.symm hne] at h1
      · simp only [hk, hk2, if_false] at h1 h2; exact ⟨k, o, h1, h2⟩
  have I : IdKeeps e e' := by
    subst he'
    intro k hu
    have hk : k ≠ id' := fun hh => hid (hh ▸ hu)
    refine ⟨.inl hu, fun o' ho' => ?_⟩
    by_cases hk2 : k = id
    · simp [hk2, Ne.symm hne] at ho'
    · simp only [hk, hk2, if_false] at ho' ⊢
      exact ⟨trivial, trivial, o', ho', o'.like_refl⟩
  refine ⟨⟨?_, ?_, ?_, ?_, ?_, ?_, ?_, ok.low⟩, F, I⟩
  · subst he'
    refine ⟨hfr.os.trans ok.fr.os, hfr.tape.trans ok.fr.tape, hfr.output.trans ok.fr.output, Nat.le_trans ok.fr.size hfr.size, Nat.le_trans ok.fr.drawn hfr.drawn, fun k hk hW => ?_⟩
    refine (hfr.block k (Nat.lt_of_lt_of_le hk ok.fr.size) (fun hh => ?_)).trans (ok.fr.block k hk hW)
    rcases ok.fresh id _ k h0 hh with q | q
    · omega
    · exact hW q
  · subst he'; exact ok.S
  · subst he'; exact ok.Sp
  · intro k o' ho'
    by_cases hk : k = id'
    · have : o' = .arr es m h := by subst he'; simp [hk] at ho'; exact ho'.symm
      subst this; subst hk
      exact hheld e' F I (by subst he'; rfl) (by subst he'; simp) (by subst he'; simp)
    · have hk2 : k ≠ id := by intro hh; subst he'; simp [hh, Ne.symm hne] at ho'
      have ho : e.ob k = some o' := by subst he'; simpa [hk, hk2] using ho'
      refine (ok.held k o' ho).keep F I (by subst he'; simp [hk]) (by subst he'; simp [hk]) (fun b hb => ?_)
      have : e'.w = w' := by subst he'; rfl
      rw [this]
      exact hfr.block b ((ok.held k o' ho).lt hb) (fun hh => hk2 (ok.inj k id o' _ b ho h0 hb hh))
  · intro i j oi oj b h1 h2 h3 h4
    subst he'
    simp only at h1 h2 h3 h4
    have other : ∀ k o, k ≠ id' → (if k = id then none else e.ob k) = some o → e.th k = some b → th' = some b → False := by
      intro k o hk ho hb hb'
      by_cases hk2 : k = id
      · simp [hk2] at ho
      · simp only [hk2, if_false] at ho
        rcases hth b hb' with q | q
        · exact hk2 (ok.inj k id o _ b ho h0 hb q)
        · have := (ok.held k o ho).lt hb; omega
    by_cases hi : i = id' <;> by_cases hj : j = id'
    · rw [hi, hj]
    · simp only [hi, hj, if_true, if_false] at h1 h2 h3 h4; exact (other j oj hj h2 h4 h3).elim
    · simp only [hi, hj, if_true, if_false] at h1 h2 h3 h4; exact (other i oi hi h1 h3 h4).elim
    · simp only [hi, hj, if_false] at h1 h2 h3 h4
      have g1 : e.ob i = some oi := by by_cases q : i = id <;> simp_all
      have g2 : e.ob j = some oj := by by_cases q : j = id <;> simp_all
      exact ok.inj i j oi oj b g1 g2 h3 h4
  · intro i o' b h1 h2
    subst he'
    simp only at h1 h2
    by_cases hi : i = id'
    · simp only [hi, if_true] at h2
      rcases hth b h2 with q | q
      · exact ok.fresh id _ b h0 q
      · left; have := ok.fr.size; omega
    · simp only [hi, if_false] at h1 h2
      have g1 : e.ob i = some o' := by by_cases q : i = id <;> simp_all
      exact ok.fresh i o' b g1 h2
  · intro i o' h1
    subst he'
    simp only at h1 ⊢
    by_cases hi : i = id'
    · exact .inr hi
    · simp only [hi, if_false] at h1
      have g1 : e.ob i = some o' := by by_cases q : i = id <;> simp_all
      exact .inl (ok.used i o' g1)

end
end Go.Eng
