/- The engine's laws: equality of aggregates, elements' addresses, lengths, aggregates built, slices laid and grown. Conditions: none. -/
import Derived.Test.YtnfjibcfnchkkaaEngI
import Derived.ChangeKeysEq
namespace Go.Eng

/-- Are two values of one make the same? -/
def eqV : V → V → Bool
  | .int _ a, .int _ b => a == b
  | .bool a, .bool b => a == b
  | .str a, .str b => a == b
  | .agg L f, .agg _ g => (List.range L.cnt).all fun j => eqV (f j) (g j)
  | _, _ => false

/-- Two values of the make that a type's row tells, in the order in which '==' goes through them. -/
inductive Shp (P : Program) : Nat → V → V → TypeId → Prop where
  | int (d : Nat) (k q : IntKind) (n m : Int) (T : TypeId) (h : P.underlying T = some (.int q)) : Shp P (d + 1) (.int k n) (.int k m) T
  | bool (d : Nat) (a b : Bool) (T : TypeId) (h : P.underlying T = some .bool) : Shp P (d + 1) (.bool a) (.bool b) T
  | str (d : Nat) (a b : ByteArray) (T : TypeId) (h : P.underlying T = some .string) : Shp P (d + 1) (.str a) (.str b) T
  | st (d : Nat) (szs : List Nat) (f g : Nat → V) (T : TypeId) (fields : Array Field) (hs : P.stoodInHeld T = false) (hu : P.underlying T = some (.struct fields)) (hn : fields.size = szs.length)
      (hf : ∀ j fd, fields[j]? = some fd → fd.name ≠ "_" ∧ fd.offset = (Lay.st szs).off j ∧ TyOk P fd.type (f j).isAgg (f j).size ∧ (g j).isAgg = (f j).isAgg ∧ (g j).size = (f j).size)
      (h : ∀ j fd, fields[j]? = some fd → Shp P d (f j) (g j) fd.type) : Shp P (d + 1) (.agg (.st szs) f) (.agg (.st szs) g) T
  | ar (d n es : Nat) (f g : Nat → V) (T E : TypeId) (h0 : 0 < n) (hu : P.underlying T = some (.array n E))
      (hf : ∀ j, j < n → TyOk P E (f j).isAgg es ∧ (f j).size = es ∧ (g j).isAgg = (f j).isAgg ∧ (g j).size = es)
      (h : ∀ j, j < n → Shp P d (f j) (g j) E) : Shp P (d + 1) (.agg (.ar n es) f) (.agg (.ar n es) g) T

theorem run_part_piece {P : Program} {w : World} {T : TypeId} {v : V} {cs : Array Value} {o : Nat} (hT : TyOk P T v.isAgg v.size) (hb : o + v.size ≤ cs.size) : (Go.part T cs o).run P w = .ok (piece v cs o v.size) w := by
  unfold Go.part piece
  cases hv : v.isAgg with
  | true =>
    rw [hv] at hT
    simp [Sem.run_bind, hT.run_isAgg, hT.run_sizeOf]
  | false =>
    rw [hv] at hT
    have h1 : v.size = 1 := size_pos hv
    have : cs[o]? = some (cs.getD o undef) := by simp [Array.getD, show o < cs.size by omega]
    simp only [Sem.run_bind, hT.run_isAgg, Result.andThen_ok, Bool.false_eq_true, if_false]
    rw [this]; rfl

theorem run_equalIn {P : Program} {e e' : Env} {d : Nat} {v u : V} {T : TypeId} (h : Shp P d v u T) : ∀ (w : World) (x y : Value), R e v x → R e' u y → (Op.equalIn d T x y).run P w = .ok (eqV v u) w := by
  induction h with
  | int d k q n m T h =>
    intro w x y hx hy
    obtain rfl : x = .int k n := hx
    obtain rfl : y = .int k m := hy
    rw [run_equalIn_int w d T k q n m h]; rfl
  | bool d a b T h =>
    intro w x y hx hy
    obtain rfl : x = .bool a := hx
    obtain rfl : y = .bool b := hy
    rw [run_equalIn_bool w d T a b h]; rfl
  | str d a b T h =>
    intro w x y hx hy
    obtain rfl : x = .string a := hx
    obtain rfl : y = .string b := hy
    rw [run_equalIn_string w d T a b h, ← beq_toListBytes]; rfl
  | st d szs f g T fields hst hu hn hf h ih =>
    intro w x y hx hy
    obtain ⟨xs, rfl, sx, _, rx⟩ := hx
    obtain ⟨ys, rfl, sy, _, ry⟩ := hy
    have hfo : P.fieldsOf T = fields := by simp [Program.fieldsOf, hu]
    rw [run_equalIn_struct w d T xs ys (by rw [hfo]; exact hu) hst, hfo]
    simp only [eqV, Lay.cnt]
    have key : ∀ (l : List Field) (k : Nat), (∀ i fd, l[i]? = some fd → fields[k + i]? = some fd) → k + l.length = szs.length →
        (Op.eqFields d xs ys l).run P w = .ok ((List.range' k l.length).all fun j => eqV (f j) (g j)) w := by
      intro l
      induction l with
      | nil => intro k _ _; simp [Op.eqFields]
      | cons fd l ihl =>
        intro k hk hlen
        have hkd : fields[k]? = some fd := by have := hk 0 fd (by simp); simpa using this
        obtain ⟨hname, hoff, hT, ha, hsz⟩ := hf k fd hkd
        have hklt : k < szs.length := by simp at hlen; omega
        obtain ⟨zx, hrx⟩ := rx k hklt
        obtain ⟨zy, hry⟩ := ry k hklt
        have hfit := (Lay.st szs).fits (j := k) hklt
        have p1 := run_part_piece (P := P) (w := w) (T := fd.type) (v := f k) (cs := xs) (o := fd.offset) hT (by rw [hoff, zx]; omega)
        have p2 := run_part_piece (P := P) (w := w) (T := fd.type) (v := g k) (cs := ys) (o := fd.offset) (by rw [ha, hsz]; exact hT) (by rw [hoff, zy]; omega)
        rw [hoff, zx] at p1
        rw [hoff, zy] at p2
        have q := ih k fd hkd w _ _ hrx hry
        have ih' := ihl (k + 1) (fun i fd' hi => by have := hk (i + 1) fd' (by simpa using hi); rw [show k + 1 + i = k + (i + 1) by omega]; exact this) (by simp at hlen; omega)
        simp only [Op.eqFields, if_pos hname, Sem.run_bind, hoff, p1, p2, Result.andThen_ok, q, List.length_cons, List.range'_succ, List.all_cons]
        cases eqV (f k) (g k) with
        | true => simp only [Bool.not_true, Bool.false_eq_true, if_false, Bool.true_and]; exact ih'
        | false => simp
    have := key fields.toList 0 (fun i fd hi => by simpa using hi) (by simp [hn])
    rw [this, List.range_eq_range']
    simp [hn]
  | ar d n es f g T E h0 hu hf h ih =>
    intro w x y hx hy
    obtain ⟨xs, rfl, sx, _, rx⟩ := hx
    obtain ⟨ys, rfl, sy, _, ry⟩ := hy
    simp only [eqV, Lay.cnt]
    obtain ⟨hT0, hz0, _⟩ := hf 0 h0
    obtain ⟨i, hi, hisz⟩ : ∃ i, P.info? E = some i ∧ i.size = es := by
      cases hq : P.info? E with
      | none => have := hT0.size; simp [hq] at this
      | some i => have := hT0.size; simp [hq] at this; exact ⟨i, rfl, this⟩
    have hcell : P.cellsOf E = es := by simp [Program.cellsOf, hi, hisz]
    rw [run_equalIn_array w d xs ys hu hi, hcell]
    have key : ∀ (l : List Nat), (∀ j ∈ l, j < n) → (Op.eqItems d E es xs ys l).run P w = .ok (l.all fun j => eqV (f j) (g j)) w := by
      intro l
      induction l with
      | nil => intro _; simp [Op.eqItems]
      | cons j l ihl =>
        intro hl
        have hj := hl j (by simp)
        obtain ⟨hT, hzf, ha, hzg⟩ := hf j hj
        obtain ⟨zx, hrx⟩ := rx j hj
        obtain ⟨zy, hry⟩ := ry j hj
        have hfit := (Lay.ar n es).fits (j := j) hj
        simp only [Lay.off, Lay.sz, Lay.tot] at hfit hrx hry sx sy
        have p1 := run_part_piece (P := P) (w := w) (T := E) (v := f j) (cs := xs) (o := j * es) (by rw [hzf]; exact hT) (by rw [hzf]; omega)
        have p2 := run_part_piece (P := P) (w := w) (T := E) (v := g j) (cs := ys) (o := j * es) (by rw [ha, hzg]; exact hT) (by rw [hzg]; omega)
        rw [hzf] at p1
        rw [hzg] at p2
        have q := ih j hj w _ _ hrx hry
        simp only [Op.eqItems, Sem.run_bind, p1, p2, Result.andThen_ok, q, List.all_cons]
        cases eqV (f j) (g j) with
        | true => simpa using ihl (fun i hi => hl i (by simp [hi]))
        | false => simp
    exact key _ (fun j hj => by simpa using hj)

section
variable {G : Glob} {dst : Option Tmp} {ty : TypeId} {pos : String} {af : Array Edge} {g : Option (Nat × Bool)}

/-- '==' and '!=' on structs and arrays. -/
theorem does_eqAgg (neq : Bool) (T yT : TypeId) (x y : Operand) (L : Lay) (f f' : Nat → V) (hx : cOk x (.agg L f)) (hy : cOk y (.agg L f')) (hg : G.P.eqGuardType G.P.depth T = false) (hs : Shp G.P 10000 (.agg L f) (.agg L f') T) :
    Does G ⟨dst, .binOp (if neq then .neq else .eql) T x y yT, ty, pos, af, g⟩ { need := nd x (.agg L f) ++ nd y (.agg L f'), eff := { v := .bool (if neq then !eqV (.agg L f) (.agg L f') else eqV (.agg L f) (.agg L f')) } } :=
  does_value rfl rfl fun e a _ hn _ => by
    have h1 : R e (.agg L f) (a.eval x) := R.operand hn hx (fun _ h => List.mem_append_left _ h)
    have h2 : R e (.agg L f') (a.eval y) := R.operand hn hy (fun _ h => List.mem_append_right _ h)
    have q := run_equalIn hs e.w _ _ h1 h2
    obtain ⟨xs, hx', _⟩ := h1
    obtain ⟨ys, hy', _⟩ := h2
    rw [hx', hy'] at q
    cases neq with
    | true =>
      refine ⟨.bool (!eqV (.agg L f) (.agg L f')), ?_, rfl⟩
      simp only [execOp, hx', hy', Sem.run_bind, if_true, run_eqGuard_agg e.w _ T x y xs ys hg, Result.andThen_ok, run_neq_struct e.w T xs ys, q, Sem.run_pure]
    | false =>
      refine ⟨.bool (eqV (.agg L f) (.agg L f')), ?_, rfl⟩
      simp only [execOp, hx', hy', Sem.run_bind, Bool.false_eq_true, if_false, run_eqGuard_agg e.w _ T x y xs ys hg, Result.andThen_ok, run_eql_struct e.w T xs ys, q, Sem.run_pure]

theorem does_eqBool (neq : Bool) (T yT : TypeId) (x y : Operand) (b c : Bool) (hx : cOk x (.bool b)) (hy : cOk y (.bool c)) (hT : G.P.underlying T = some .bool) :
    Does G ⟨dst, .binOp (if neq then .neq else .eql) T x y yT, ty, pos, af, g⟩ { need := nd x (.bool b) ++ nd y (.bool c), eff := { v := .bool (if neq then b != c else b == c) } } :=
  does_value rfl rfl fun e a _ hn _ => by
    have h1 : a.eval x = .bool b := R.operand hn hx (fun _ h => List.mem_append_left _ h)
    have h2 : a.eval y = .bool c := R.operand hn hy (fun _ h => List.mem_append_right _ h)
    refine ⟨.bool (if neq then b != c else b == c), ?_, rfl⟩
    cases neq <;> simp [execOp, h1, h2, eqGuard_at_bool, binOp, Op.equal, Op.maxDepth, run_equalIn_bool e.w 9999 T b c hT, bne]

theorem does_eqStr (neq : Bool) (T yT : TypeId) (x y : Operand) (b c : ByteArray) (hx : cOk x (.str b)) (hy : cOk y (.str c)) :
    Does G ⟨dst, .binOp (if neq then .neq else .eql) T x y yT, ty, pos, af, g⟩ { need := nd x (.str b) ++ nd y (.str c), eff := { v := .bool (if neq then b != c else b == c) } } :=
  does_value rfl rfl fun e a _ hn _ => by
    have h1 : a.eval x = .string b := R.operand hn hx (fun _ h => List.mem_append_left _ h)
    have h2 : a.eval y = .string c := R.operand hn hy (fun _ h => List.mem_append_right _ h)
    refine ⟨.bool (if neq then b != c else b == c), ?_, rfl⟩
    cases neq <;> simp [execOp, h1, h2, eqGuard_at_string, binOp, Op.stringOp, bne, beq_toListBytes]

/-- An element type's row. -/
structure ElOk (P : Program) (T : TypeId) (n : Option Nat) (es : Nat) : Prop where
  has : ∃ E i, P.underlying T = some (match n with | some n => .array n E | none => .slice E) ∧ P.info? E = some i ∧ i.size = es

theorem ElOk.runArr {P : Program} {T n es : Nat} (h : ElOk P T (some n) es) (w : World) (b o : Nat) (k : IntKind) (i : Int) (h0 : 0 ≤ i) (h1 : i < n) :
    (Instr.indexAt T (.pointer (some ⟨b, o, none⟩)) (.int k i)).run P w = .ok (.pointer (some ⟨b, o + i.toNat * es, none⟩)) w := by
  obtain ⟨E, inf, hu, hi, hs⟩ := h.has
  simp [Instr.indexAt, run_underlying hu, Instr.sureAddr, asIntOf, h0, h1, sizeOf, typeInfo, hi, hs, Addr.add_lit]
theorem ElOk.runSl {P : Program} {T es : Nat} (h : ElOk P T none es) (w : World) (b o : Nat) (n c : Nat) (k : IntKind) (i : Int) (h0 : 0 ≤ i) (h1 : i < n) :
    (Instr.indexAt T (.slice (some ⟨b, o, none⟩) n c) (.int k i)).run P w = .ok (.pointer (some ⟨b, o + i.toNat * es, none⟩)) w := by
  obtain ⟨E, inf, hu, hi, hs⟩ := h.has
  simp [Instr.indexAt, run_underlying hu, asIntOf, h0, h1, sizeOf, typeInfo, hi, hs, Addr.add_lit]

/-- &a[i], a an own variable's array. -/
theorem does_indexAddr (T n es t id off : Nat) (path : List Nat) (o : Box) (x : Operand) (k : IntKind) (i : Int) (hE : ElOk G.P T (some n) es) (hx : cOk x (.int k i)) (h0 : 0 ≤ i) (h1 : i < n) :
    Does G ⟨dst, .indexAddr T (.tmp t) x, ty, pos, af, g⟩ { need := (t, .ptr id off path) :: nd x (.int k i), nob := [(id, o)], eff := { v := .ptr id (off + i.toNat * es) (path ++ [i.toNat]) } } :=
  does_value rfl rfl fun e a ok hn ho => by
    obtain ⟨hu, hp⟩ := hn (t, .ptr id off path) (by simp)
    obtain ⟨b, hb, hp⟩ := hp o (ho (id, o) (by simp))
    have h2 : a.eval x = .int k i := R.operand hn hx (fun _ h => List.mem_cons_of_mem _ h)
    have h3 : a.eval (.tmp t) = .pointer (some ⟨b, off, none⟩) := hp
    exact ⟨_, by simp [execOp, h2, h3, hE.runArr e.w b off k i h0 h1], hu, fun o' ho' => ⟨b, hb, rfl⟩⟩

/-- A part of an array that lies in place. -/
theorem cptr_elem {e : Env} {L : Lay} {f : Nat → V} {b o : Nat} {cs : Array Value} (hs : cs.size = L.tot) (hc : CellsAt e.w ⟨b, o, none⟩ cs) (h1 : AllOne cs) (hP : ¬ e.Sp b) (hO : ¬ e.Own b) (hr : R e (.agg L f) (piece (.agg L f) cs 0 L.tot)) {j : Nat} (hj : j < L.cnt) :
    R e (.cptr (f j)) (.pointer (some ⟨b, o + L.off j, none⟩)) := by
  obtain ⟨hz, hr'⟩ := R.part (o := 0) (by rw [Nat.zero_add, hs]; exact Nat.le_refl _) hr hj
  have hfit := L.fits hj
  simp only [Nat.zero_add] at hr'
  refine ⟨_, cs.extract (L.off j) (L.off j + (f j).size), rfl, hP, hO, by simp; omega, ⟨rfl, hc.2.1, fun i hi => ?_⟩, allOne_extract h1 _ _, ?_⟩
  · simp only [Array.size_extract] at hi
    have hc2 := hc.2.2 (L.off j + i) (by omega)
    simp only at hc2 ⊢
    rw [Nat.add_assoc, hc2, Array.getElem?_extract]
    simp only [show i < min (L.off j + (f j).size) cs.size - L.off j by omega, if_true]
  · rw [sub_piece (by omega), hz]; exact hr'

/-- &a[i], a an array that lies in place. -/
theorem does_indexAddrc (T n es t : Nat) (f : Nat → V) (x : Operand) (k : IntKind) (i : Int) (hE : ElOk G.P T (some n) es) (hx : cOk x (.int k i)) (h0 : 0 ≤ i) (h1 : i < n) :
    Does G ⟨dst, .indexAddr T (.tmp t) x, ty, pos, af, g⟩ { need := (t, .cptr (.agg (.ar n es) f)) :: nd x (.int k i), eff := { v := .cptr (f i.toNat) } } :=
  does_value rfl rfl fun e a ok hn ho => by
    obtain ⟨ad, cs, hp, hP, hO, hs, hc, h1', hr⟩ := hn (t, .cptr (.agg (.ar n es) f)) (by simp)
    obtain ⟨b, o, s⟩ := ad
    obtain rfl : s = none := hc.1
    have h2 : a.eval x = .int k i := R.operand hn hx (fun _ h => List.mem_cons_of_mem _ h)
    have h3 : a.eval (.tmp t) = .pointer (some ⟨b, o, none⟩) := hp
    exact ⟨_, by simp [execOp, h2, h3, hE.runArr e.w b o k i h0 h1]; rfl, cptr_elem (L := .ar n es) hs hc h1' hP hO hr (by simp only [Lay.cnt]; omega)⟩

/-- &s[i], s a slice that lies in place. -/
theorem does_indexAddrs (T es n t : Nat) (f : Nat → V) (x : Operand) (k : IntKind) (i : Int) (hE : ElOk G.P T none es) (hx : cOk x (.int k i)) (h0 : 0 ≤ i) (h1 : i < n) :
    Does G ⟨dst, .indexAddr T (.tmp t) x, ty, pos, af, g⟩ { need := (t, .sl es n f) :: nd x (.int k i), eff := { v := .cptr (f i.toNat) } } :=
  does_value rfl rfl fun e a ok hn ho => by
    obtain ⟨ad, cap, hp, hcap, hor⟩ := hn (t, .sl es n f) (by simp)
    rcases hor with h00 | ⟨ad', cs, rfl, hS, hP, hO, hs, hc, h1', hr⟩
    · omega
    obtain ⟨b, o, s⟩ := ad'
    obtain rfl : s = none := hc.1
    have h2 : a.eval x = .int k i := R.operand hn hx (fun _ h => List.mem_cons_of_mem _ h)
    have h3 : a.eval (.tmp t) = .slice (some ⟨b, o, none⟩) n cap := hp
    refine ⟨_, by simp [execOp, h2, h3, hE.runSl e.w b o n cap k i h0 h1]; rfl, ?_⟩
    have hj : i.toNat < n := by omega
    obtain ⟨hz, hrj⟩ := hr _ hj
    have hfit := (Lay.ar n es).fits (j := i.toNat) hj
    simp only [Lay.off, Lay.sz, Lay.tot] at hfit
    refine ⟨_, cs.extract (i.toNat * es) (i.toNat * es + (f i.toNat).size), rfl, hP, hO, by simp; omega, ⟨rfl, hc.2.1, fun m hi => ?_⟩, allOne_extract h1' _ _, ?_⟩
    · simp only [Array.size_extract] at hi
      have hc2 := hc.2.2 (i.toNat * es + m) (by omega)
      simp only at hc2 ⊢
      rw [Nat.add_assoc, hc2, Array.getElem?_extract]
      simp only [show m < min (i.toNat * es + (f i.toNat).size) cs.size - i.toNat * es by omega, if_true]
    · rw [sub_piece (by omega), hz]; exact hrj

/-- &s[i], s an own array. -/
theorem does_indexAddro (T es n t id : Nat) (f : Nat → V) (x : Operand) (k : IntKind) (i : Int) (hE : ElOk G.P T none es) (hx : cOk x (.int k i)) (h0 : 0 ≤ i) (h1 : i < n) :
    Does G ⟨dst, .indexAddr T (.tmp t) x, ty, pos, af, g⟩ { need := (t, .own id) :: nd x (.int k i), nob := [(id, .arr es n f)], eff := { v := .ptr id (i.toNat * es) [i.toNat] } } :=
  does_value rfl rfl fun e a ok hn ho => by
    obtain ⟨hu, hp⟩ := hn (t, .own id) (by simp)
    have hob := ho (id, .arr es n f) (by simp)
    have hp := hp es n f hob
    have h2 : a.eval x = .int k i := R.operand hn hx (fun _ h => List.mem_cons_of_mem _ h)
    cases hth : e.th id with
    | none => rw [hth] at hp; omega
    | some b =>
      rw [hth] at hp
      have h3 : a.eval (.tmp t) = .slice (some ⟨b, 0, none⟩) n (e.kap id) := hp
      refine ⟨_, by simp [execOp, h2, h3, hE.runSl e.w b 0 n (e.kap id) k i h0 h1]; rfl, hu, fun o' ho' => ⟨b, hth, ?_⟩⟩
      simp

theorem does_lens (T es n t : Nat) (f : Nat → V) (hE : ElOk G.P T none es) : Does G ⟨dst, .call { callee := .builtin .len, args := #[.tmp t], argTypes := #[T] }, ty, pos, af, g⟩ { need := [(t, .sl es n f)], eff := { v := .int .i64 n } } :=
  does_value rfl rfl fun e a ok hn ho => by
    obtain ⟨ad, cap, hp, _⟩ := hn (t, .sl es n f) (by simp)
    obtain ⟨E, inf, hu, hi, hs⟩ := hE.has
    have h3 : a.eval (.tmp t) = .slice ad n cap := hp
    exact ⟨.int .i64 n, by simp [execOp, resolve, invoke, builtin, h3, Builtin.len_, run_underlying hu, goInt], rfl⟩
theorem does_leno (T es n t id : Nat) (f : Nat → V) (hE : ElOk G.P T none es) : Does G ⟨dst, .call { callee := .builtin .len, args := #[.tmp t], argTypes := #[T] }, ty, pos, af, g⟩ { need := [(t, .own id)], nob := [(id, .arr es n f)], eff := { v := .int .i64 n } } :=
  does_value rfl rfl fun e a ok hn ho => by
    obtain ⟨hu', hp⟩ := hn (t, .own id) (by simp)
    have hp := hp es n f (ho (id, .arr es n f) (by simp))
    obtain ⟨E, inf, hu, hi, hs⟩ := hE.has
    refine ⟨.int .i64 n, ?_, rfl⟩
    cases hth : e.th id with
    | none =>
      rw [hth] at hp
      obtain ⟨h0, a', hp⟩ := hp
      have h3 : a.eval (.tmp t) = .slice a' 0 0 := hp
      simp [execOp, resolve, invoke, builtin, h3, Builtin.len_, run_underlying hu, goInt, h0]
    | some b =>
      rw [hth] at hp
      have h3 : a.eval (.tmp t) = .slice (some ⟨b, 0, none⟩) n (e.kap id) := hp
      simp [execOp, resolve, invoke, builtin, h3, Builtin.len_, run_underlying hu, goInt]
theorem does_lenstr (T t : Nat) (s : ByteArray) (hT : G.P.underlying T = some .string) : Does G ⟨dst, .call { callee := .builtin .len, args := #[.tmp t], argTypes := #[T] }, ty, pos, af, g⟩ { need := [(t, .str s)], eff := { v := .int .i64 s.size } } :=
  does_value rfl rfl fun e a ok hn ho => by
    have h3 : a.eval (.tmp t) = .string s := hn (t, .str s) (by simp)
    exact ⟨.int .i64 s.size, by simp [execOp, resolve, invoke, builtin, h3, Builtin.len_, run_underlying hT, goInt], rfl⟩

/-- min and max of whole numbers. -/
theorem does_min (args : Array Operand) (ats : Array TypeId) (x y : Operand) (ha : args = #[x, y]) (k : IntKind) (p q : Int) (hx : cOk x (.int k p)) (hy : cOk y (.int k q)) :
    Does G ⟨dst, .call { callee := .builtin .min, args := args, argTypes := ats }, ty, pos, af, g⟩ { need := nd x (.int k p) ++ nd y (.int k q), eff := { v := .int k (if q < p then q else p) } } :=
  does_value rfl rfl fun e a _ hn _ => by
    have h1 : a.eval x = .int k p := R.operand hn hx (fun _ h => List.mem_append_left _ h)
    have h2 : a.eval y = .int k q := R.operand hn hy (fun _ h => List.mem_append_right _ h)
    exact ⟨_, by simp [execOp, resolve, invoke, builtin, ha, h1, h2, Builtin.min_, Builtin.min2], rfl⟩
theorem does_max (args : Array Operand) (ats : Array TypeId) (x y : Operand) (ha : args = #[x, y]) (k : IntKind) (p q : Int) (hx : cOk x (.int k p)) (hy : cOk y (.int k q)) :
    Does G ⟨dst, .call { callee := .builtin .max, args := args, argTypes := ats }, ty, pos, af, g⟩ { need := nd x (.int k p) ++ nd y (.int k q), eff := { v := .int k (if p < q then q else p) } } :=
  does_value rfl rfl fun e a _ hn _ => by
    have h1 : a.eval x = .int k p := R.operand hn hx (fun _ h => List.mem_append_left _ h)
    have h2 : a.eval y = .int k q := R.operand hn hy (fun _ h => List.mem_append_right _ h)
    exact ⟨_, by simp [execOp, resolve, invoke, builtin, ha, h1, h2, Builtin.max_, Builtin.max2], rfl⟩

theorem does_convInt (S T : TypeId) (x : Operand) (k k' : IntKind) (n : Int) (hx : cOk x (.int k n)) (hS : (G.P.underlying S).isSome = true) (hT : G.P.underlying T = some (.int k')) :
    Does G ⟨dst, .convert S T x, ty, pos, af, g⟩ { need := nd x (.int k n), eff := { v := .int k' (k'.wrap n) } } :=
  does_value rfl rfl fun e a _ hn _ => by
    have h1 : a.eval x = .int k n := R.operand hn hx (fun _ h => h)
    obtain ⟨d, hd⟩ := Option.isSome_iff_exists.1 hS
    exact ⟨.int k' (k'.wrap n), by simp [execOp, h1, convert, run_underlying hd, run_underlying hT, Conv.intToInt], rfl⟩
end
end Go.Eng
