/- The engine's laws on operations that leave memory as it is. Conditions: none. -/
import Derived.Test.YtnfjibcfnchkkaaEngE
namespace Go.Eng

def nd (x : Operand) (v : V) : List (Nat × V) :=
  match x with
  | .tmp t => [(t, v)]
  | _ => []
def cOk (x : Operand) (v : V) : Prop :=
  match x with
  | .tmp _ => True
  | .const c => ∀ e, R e v c
  | .func k => v = .fn k 0 (fun _ => .any)
  | .global _ => False

theorem cOk_chk {c : Value} {v : V} (h : chk v c = true) : cOk (.const c) v := fun e => chk_sound e v c h

theorem R.operand {e : Env} {a : Act} {need : List (Nat × V)} (hn : ∀ p ∈ need, R e p.2 (a.tmps.getD p.1 undef)) {x : Operand} {v : V} (hc : cOk x v) (hs : ∀ p ∈ nd x v, p ∈ need) : R e v (a.eval x) := by
  cases x with
  | tmp t => exact hn (t, v) (hs _ (by simp [nd]))
  | const c => exact hc e
  | func k =>
    obtain rfl : v = .fn k 0 (fun _ => .any) := hc
    exact ⟨#[], rfl, rfl, fun j hj => absurd hj (by omega)⟩
  | global g => exact hc.elim

theorem Gives.same {G : Glob} {e : Env} {a : Act} {dst : Option Tmp} {E : Eff} {K : Act → World → Prop} (hK : Gives G e a dst E K) (ok : Ok G e) (hu : E.upd = []) (hn : E.new = []) {x : Value} (hr : R e E.v x) : K (a.put dst x) e.w :=
  hK x e (Grow.refl ok) (by funext id; simp [appOb, hu, lk]) (by simp [hn]) hr

theorem does_value {G : Glob} {o : Oper} {E : Ent} (hu : E.eff.upd = []) (hn : E.eff.new = [])
    (h : ∀ (e : Env) (a : Act), Ok G e → (∀ p ∈ E.need, R e p.2 (a.tmps.getD p.1 undef)) → (∀ p ∈ E.nob, e.ob p.1 = some p.2) → ∃ x, (execOp a.eval o).run G.P e.w = .ok (.value x) e.w ∧ R e E.eff.v x) : Does G o E := by
  intro e a ok hnd K Q hK
  obtain ⟨x, hr, hR⟩ := h e a ok hnd.1 hnd.2.1
  unfold Oper.wp
  rw [hr]
  exact hK.same ok hu hn hR

/-- Claims under a condition that holds. -/
def Str (p' p : Nat × V) : Prop := p'.1 = p.1 ∧ (p'.2 = p.2 ∨ (∃ c, c = true ∧ p'.2 = .opt c p.2) ∨ ∃ h c v, h = true ∧ p'.2 = .opt (h && c) v ∧ p.2 = .opt c v)
def Strs : List (Nat × V) → List (Nat × V) → Prop
  | [], [] => True
  | a :: l, b :: m => Str a b ∧ Strs l m
  | _, _ => False

theorem Str.same (p : Nat × V) : Str p p := ⟨rfl, .inl rfl⟩
theorem Str.opt (t : Nat) (v : V) {c : Bool} (h : c = true) : Str (t, .opt c v) (t, v) := ⟨rfl, .inr (.inl ⟨c, h, rfl⟩)⟩
theorem Str.half (t : Nat) (v : V) {c d : Bool} (h : c = true) : Str (t, .opt (c && d) v) (t, .opt d v) := ⟨rfl, .inr (.inr ⟨c, d, v, h, rfl, rfl⟩)⟩

theorem Strs.needs {e : Env} {a : Act} : ∀ {n' n : List (Nat × V)}, Strs n' n → (∀ p ∈ n', R e p.2 (a.tmps.getD p.1 undef)) → ∀ p ∈ n, R e p.2 (a.tmps.getD p.1 undef)
  | [], [], _, _, p, hp => by cases hp
  | [], _ :: _, h, _, _, _ => h.elim
  | _ :: _, [], h, _, _, _ => h.elim
  | q :: l, b :: m, ⟨h1, h2⟩, hn, p, hp => by
    cases hp with
    | head =>
      have := hn q (by simp)
      obtain ⟨ht, hv | ⟨c, hc, hv⟩ | ⟨c, d, v, hc, hv, hv2⟩⟩ := h1
      · rw [← ht, ← hv]; exact this
      · rw [hv] at this; rw [← ht]; exact this.1 hc
      · rw [hv] at this; rw [← ht, hv2]; subst hc; exact ⟨fun q => this.1 (by rw [q]; rfl), fun q => this.2 (by rw [q]; rfl)⟩
    | tail _ hp => exact Strs.needs h2 (fun r hr => hn r (by simp [hr])) p hp

theorem Does.strip {G : Glob} {o : Oper} {n n' : List (Nat × V)} {nob : List (Nat × Box)} {E : Eff} (s : Strs n' n) (h : Does G o { need := n, nob := nob, eff := E }) : Does G o { need := n', nob := nob, eff := E } :=
  fun e a ok hn K Q hK => h e a ok ⟨s.needs hn.1, hn.2.1, hn.2.2⟩ K Q hK

theorem and_l {a b : Bool} (h : (a && b) = true) : a = true := by cases a <;> simp_all
theorem and_r {a b : Bool} (h : (a && b) = true) : b = true := by cases a <;> simp_all
theorem not_of {a : Bool} (h : (!a) = true) : a = false := by cases a <;> simp_all

section
variable {G : Glob} {dst : Option Tmp} {ty : TypeId} {pos : String} {af : Array Edge} {g : Option (Nat × Bool)}

theorem does_move (x : Operand) (v : V) (h : cOk x v) : Does G ⟨dst, .move x, ty, pos, af, g⟩ { need := nd x v, eff := { v := v } } :=
  does_value rfl rfl fun _ a _ hn _ => ⟨a.eval x, rfl, R.operand hn h (fun _ h => h)⟩
theorem does_assign (x : Operand) (v : V) (h : cOk x v) : Does G ⟨dst, .assign x, ty, pos, af, g⟩ { need := nd x v, eff := { v := v } } :=
  does_value rfl rfl fun _ a _ hn _ => ⟨a.eval x, rfl, R.operand hn h (fun _ h => h)⟩

theorem does_extract (t i : Nat) (n : Nat) (f : Nat → V) (hi : i < n) : Does G ⟨dst, .extract (.tmp t) i, ty, pos, af, g⟩ { need := [(t, .tup n f)], eff := { v := f i } } :=
  does_value rfl rfl fun e a _ hn _ => by
    obtain ⟨vs, hx, hs, hr⟩ := hn (t, .tup n f) (by simp)
    refine ⟨vs.getD i undef, ?_, hr i hi⟩
    have : vs[i]? = some (vs.getD i undef) := by simp [Array.getD, show i < vs.size by omega]
    simp [execOp, Act.eval, Array.getD_eq_getD_getElem?] at hx ⊢
    simp [hx, Instr.extract, show i < vs.size by omega]

/-- c || d. -/
theorem does_or (t u : Nat) (c d : Bool) : Does G ⟨dst, .pick (.tmp t) (.const (.bool true)) (.tmp u), ty, pos, af, g⟩ { need := [(t, .bool c), (u, .opt (!c) (.bool d))], eff := { v := .bool (c || d) } } :=
  does_value rfl rfl fun e a _ hn _ => by
    have h1 : a.eval (.tmp t) = .bool c := hn (t, .bool c) (by simp)
    have h2 := hn (u, .opt (!c) (.bool d)) (by simp)
    cases c with
    | true =>
      have hk : a.eval (.const (.bool true)) = .bool true := rfl
      exact ⟨.bool true, by simp [execOp, h1, asBool, hk], rfl⟩
    | false =>
      have : a.eval (.tmp u) = .bool d := h2.1 rfl
      exact ⟨.bool d, by simp [execOp, h1, asBool, this], rfl⟩
/-- c && d. -/
theorem does_and (t u : Nat) (c d : Bool) : Does G ⟨dst, .pick (.tmp t) (.tmp u) (.const (.bool false)), ty, pos, af, g⟩ { need := [(t, .bool c), (u, .opt c (.bool d))], eff := { v := .bool (c && d) } } :=
  does_value rfl rfl fun e a _ hn _ => by
    have h1 : a.eval (.tmp t) = .bool c := hn (t, .bool c) (by simp)
    have h2 := hn (u, .opt c (.bool d)) (by simp)
    cases c with
    | false =>
      have hk : a.eval (.const (.bool false)) = .bool false := rfl
      exact ⟨.bool false, by simp [execOp, h1, asBool, hk], rfl⟩
    | true =>
      have : a.eval (.tmp u) = .bool d := h2.1 rfl
      exact ⟨.bool d, by simp [execOp, h1, asBool, this], rfl⟩

theorem does_not (ty' : TypeId) (x : Operand) (c : Bool) (h : cOk x (.bool c)) : Does G ⟨dst, .unOp .not ty x, ty', pos, af, g⟩ { need := nd x (.bool c), eff := { v := .bool (!c) } } :=
  does_value rfl rfl fun e a _ hn _ => by
    have h1 : a.eval x = .bool c := R.operand hn h (fun _ h => h)
    exact ⟨.bool (!c), by simp [execOp, h1, Op.unary], rfl⟩

/-- Two whole numbers, by an operator that cannot fail. -/
theorem does_bin (op : BinOp) (xT yT : TypeId) (x y : Operand) (k : IntKind) (p q : Int) (r : V) (hx : cOk x (.int k p)) (hy : cOk y (.int k q))
    (hr : ∀ (P : Program) (w : World), ∃ z, (binOp op xT (.int k p) (.int k q)).run P w = .ok z w ∧ ∀ e, R e r z) :
    Does G ⟨dst, .binOp op xT x y yT, ty, pos, af, g⟩ { need := nd x (.int k p) ++ nd y (.int k q), eff := { v := r } } :=
  does_value rfl rfl fun e a _ hn _ => by
    have h1 : a.eval x = .int k p := R.operand hn hx (fun _ h => List.mem_append_left _ h)
    have h2 : a.eval y = .int k q := R.operand hn hy (fun _ h => List.mem_append_right _ h)
    obtain ⟨z, hz, hR⟩ := hr G.P e.w
    exact ⟨z, by simp [execOp, h1, h2, eqGuard_at_int, hz], hR e⟩

theorem bin_add (xT : TypeId) (k : IntKind) (p q : Int) (P : Program) (w : World) : ∃ z, (binOp .add xT (.int k p) (.int k q)).run P w = .ok z w ∧ ∀ e, R e (.int k (k.wrap (p + q))) z := ⟨_, by rw [binOp_add]; rfl, fun _ => rfl⟩
theorem bin_sub (xT : TypeId) (k : IntKind) (p q : Int) (P : Program) (w : World) : ∃ z, (binOp .sub xT (.int k p) (.int k q)).run P w = .ok z w ∧ ∀ e, R e (.int k (k.wrap (p - q))) z := ⟨_, by rw [binOp_sub]; rfl, fun _ => rfl⟩
theorem bin_mul (xT : TypeId) (k : IntKind) (p q : Int) (P : Program) (w : World) : ∃ z, (binOp .mul xT (.int k p) (.int k q)).run P w = .ok z w ∧ ∀ e, R e (.int k (k.wrap (p * q))) z := ⟨_, by rw [binOp_mul]; rfl, fun _ => rfl⟩
theorem bin_quo (xT : TypeId) (k : IntKind) (p q : Int) (h : q ≠ 0) (P : Program) (w : World) : ∃ z, (binOp .quo xT (.int k p) (.int k q)).run P w = .ok z w ∧ ∀ e, R e (.int k (k.wrap (p.tdiv q))) z :=
  ⟨_, by rw [binOp_quo]; simp only [Op.intDiv, if_neg h]; rfl, fun _ => rfl⟩
theorem bin_rem (xT : TypeId) (k : IntKind) (p q : Int) (h : q ≠ 0) (P : Program) (w : World) : ∃ z, (binOp .rem xT (.int k p) (.int k q)).run P w = .ok z w ∧ ∀ e, R e (.int k (p.tmod q)) z :=
  ⟨_, by rw [binOp_rem]; simp only [Op.intDiv, if_neg h]; rfl, fun _ => rfl⟩
theorem bin_eql (xT : TypeId) (k : IntKind) (p q : Int) (P : Program) (w : World) : ∃ z, (binOp .eql xT (.int k p) (.int k q)).run P w = .ok z w ∧ ∀ e, R e (.bool (p == q)) z := ⟨_, by rw [binOp_eql]; rfl, fun _ => rfl⟩
theorem bin_neq (xT : TypeId) (k : IntKind) (p q : Int) (P : Program) (w : World) : ∃ z, (binOp .neq xT (.int k p) (.int k q)).run P w = .ok z w ∧ ∀ e, R e (.bool (p != q)) z := ⟨_, by rw [binOp_neq]; rfl, fun _ => rfl⟩
theorem bin_lss (xT : TypeId) (k : IntKind) (p q : Int) (P : Program) (w : World) : ∃ z, (binOp .lss xT (.int k p) (.int k q)).run P w = .ok z w ∧ ∀ e, R e (.bool (decide (p < q))) z := ⟨_, by rw [binOp_lss]; rfl, fun _ => rfl⟩
theorem bin_leq (xT : TypeId) (k : IntKind) (p q : Int) (P : Program) (w : World) : ∃ z, (binOp .leq xT (.int k p) (.int k q)).run P w = .ok z w ∧ ∀ e, R e (.bool (decide (p ≤ q))) z := ⟨_, by rw [binOp_leq]; rfl, fun _ => rfl⟩
theorem bin_gtr (xT : TypeId) (k : IntKind) (p q : Int) (P : Program) (w : World) : ∃ z, (binOp .gtr xT (.int k p) (.int k q)).run P w = .ok z w ∧ ∀ e, R e (.bool (decide (p > q))) z := ⟨_, by rw [binOp_gtr]; rfl, fun _ => rfl⟩
theorem bin_geq (xT : TypeId) (k : IntKind) (p q : Int) (P : Program) (w : World) : ∃ z, (binOp .geq xT (.int k p) (.int k q)).run P w = .ok z w ∧ ∀ e, R e (.bool (decide (p ≥ q))) z := ⟨_, by rw [binOp_geq]; rfl, fun _ => rfl⟩

/-- &, |, ^, &^ of whole numbers. -/
def iand (k : IntKind) (x y : Int) : Int := k.wrap (BitVec.ofInt k.bits x &&& BitVec.ofInt k.bits y).toNat
def ior (k : IntKind) (x y : Int) : Int := k.wrap (BitVec.ofInt k.bits x ||| BitVec.ofInt k.bits y).toNat
def ixor (k : IntKind) (x y : Int) : Int := k.wrap (BitVec.ofInt k.bits x ^^^ BitVec.ofInt k.bits y).toNat
def iandNot (k : IntKind) (x y : Int) : Int := k.wrap (BitVec.ofInt k.bits x &&& ~~~BitVec.ofInt k.bits y).toNat
theorem bin_and (xT : TypeId) (k : IntKind) (p q : Int) (P : Program) (w : World) : ∃ z, (binOp .and xT (.int k p) (.int k q)).run P w = .ok z w ∧ ∀ e, R e (.int k (iand k p q)) z := ⟨_, by rw [binOp_and]; rfl, fun _ => rfl⟩
theorem bin_or (xT : TypeId) (k : IntKind) (p q : Int) (P : Program) (w : World) : ∃ z, (binOp .or xT (.int k p) (.int k q)).run P w = .ok z w ∧ ∀ e, R e (.int k (ior k p q)) z := ⟨_, by rw [binOp_or]; rfl, fun _ => rfl⟩
theorem bin_xor (xT : TypeId) (k : IntKind) (p q : Int) (P : Program) (w : World) : ∃ z, (binOp .xor xT (.int k p) (.int k q)).run P w = .ok z w ∧ ∀ e, R e (.int k (ixor k p q)) z := ⟨_, by rw [binOp_xor]; rfl, fun _ => rfl⟩
theorem bin_andNot (xT : TypeId) (k : IntKind) (p q : Int) (P : Program) (w : World) : ∃ z, (binOp .andNot xT (.int k p) (.int k q)).run P w = .ok z w ∧ ∀ e, R e (.int k (iandNot k p q)) z := ⟨_, by rw [binOp_andNot]; rfl, fun _ => rfl⟩

/-- A type's row: is it an aggregate, how many cells. -/
structure TyOk (P : Program) (T : TypeId) (ag : Bool) (sz : Nat) : Prop where
  und : ∃ d, P.underlying T = some d ∧ (match d with | .struct _ | .array _ _ => true | _ => false) = ag
  size : (P.info? T).map (·.size) = some sz

theorem TyOk.run_isAgg {P : Program} {T : TypeId} {ag : Bool} {sz : Nat} (h : TyOk P T ag sz) (w : World) : (isAgg T).run P w = .ok ag w := by
  obtain ⟨⟨d, hd, ha⟩, _⟩ := h
  unfold isAgg
  rw [Sem.run_bind, run_underlying hd w]
  cases d <;> simp_all
theorem TyOk.run_sizeOf {P : Program} {T : TypeId} {ag : Bool} {sz : Nat} (h : TyOk P T ag sz) (w : World) : (sizeOf T).run P w = .ok sz w := by
  cases hq : P.info? T with
  | none => have := h.size; simp [hq] at this
  | some i => have := h.size; simp [hq] at this; simp [sizeOf, typeInfo, hq, this]

theorem run_loadVar_cells {P : Program} {w : World} {T : TypeId} {ag : Bool} {ad : Addr} {cs : Array Value} (hT : TyOk P T ag cs.size) (hc : CellsAt w ad cs) (h1 : ag = false → cs.size = 1) :
    (loadVar T ad).run P w = .ok (if ag then .agg cs else cs.getD 0 undef) w := by
  obtain ⟨b, o, s⟩ := ad
  obtain ⟨hs, hlt, hcell⟩ := hc
  simp only at hs hcell
  subst hs
  unfold loadVar
  cases ag with
  | true =>
    have hl : (loadCells ⟨b, o, none⟩ cs.toList.length).run P w = .ok cs.toList.toArray w :=
      run_loadCells_list (P := P) w ⟨b, o, none⟩ cs.toList (fun j v hv => by
        rw [Addr.add_lit]
        have hj : j < cs.size := by simpa using (List.getElem?_eq_some_iff.1 hv).1
        rw [hcell j hj]; simpa using hv)
    simp only [Array.length_toList, Array.toArray_toList] at hl
    simp [Sem.run_bind, hT.run_isAgg, hT.run_sizeOf, hl]
  | false =>
    have hz := h1 rfl
    have h0 := hcell 0 (by omega)
    simp only [Nat.add_zero] at h0
    have h0' : w.cell? ⟨b, o, none⟩ = some (cs.getD 0 undef) := by rw [h0]; simp [Array.getD, show 0 < cs.size by omega]
    simp [Sem.run_bind, hT.run_isAgg, h0', run_load]

theorem sub_cells {w : World} {b off sz : Nat} {cs : Array Value} {T : TypeId} {fr : Nat × Nat} (hg : w.heap[b]? = some (.cells cs T fr)) : CellsAt w ⟨b, off, none⟩ (cs.extract off (off + sz)) :=
  ⟨rfl, (Array.getElem?_eq_some_iff.1 hg).1, fun i hi => by
    rw [cell_of_row w b (off + i) cs T fr hg]
    simp only [Array.size_extract] at hi
    rw [Array.getElem?_extract]
    simp only [show i < min (off + sz) cs.size - off by omega, if_true]⟩

theorem piece_of_sub {v : V} {cs : Array Value} {off : Nat} (hb : off + v.size ≤ cs.size) :
    (if v.isAgg then Value.agg (cs.extract off (off + v.size)) else (cs.extract off (off + v.size)).getD 0 undef) = piece v cs off v.size := by
  unfold piece
  cases hv : v.isAgg with
  | true => simp
  | false =>
    simp only [Bool.false_eq_true, if_false]
    rw [getD_extract cs off v.size 0 (by rw [size_pos hv]; omega) hb]
    rfl

theorem run_loadVar_row' {P : Program} {w : World} {T T' : TypeId} {v : V} {b off : Nat} {cs : Array Value} {fr : Nat × Nat} (hT : TyOk P T v.isAgg v.size) (hg : w.heap[b]? = some (.cells cs T' fr)) (hb : off + v.size ≤ cs.size) :
    (loadVar T ⟨b, off, none⟩).run P w = .ok (piece v cs off v.size) w := by
  have hsz : (cs.extract off (off + v.size)).size = v.size := by simp; omega
  have := run_loadVar_cells (P := P) (T := T) (ag := v.isAgg) (cs := cs.extract off (off + v.size)) (by rw [hsz]; exact hT) (sub_cells hg) (fun h => by rw [hsz]; exact size_pos h)
  rw [this, piece_of_sub hb]

/-- What a box's part is, and where it lies. -/
def Box.get : Box → List Nat → V
  | .var v, p => getp v p
  | .arr _ _ f, j :: p => getp (f j) p
  | .arr _ _ _, [] => .any
def Box.off : Box → List Nat → Nat
  | .var v, p => poff 0 v p
  | .arr es _ f, j :: p => poff (j * es) (f j) p
  | .arr _ _ _, [] => 0
def Box.okp : Box → List Nat → Prop
  | .var v, p => Eng.okp v p
  | .arr _ n f, j :: p => j < n ∧ Eng.okp (f j) p
  | .arr _ _ _, [] => False

theorem Held.get {e : Env} {id : Nat} {o : Box} (h : Held e id o) {p : List Nat} (hp : o.okp p) : ∃ b cs T, e.th id = some b ∧ Row e.w b cs T ∧
    o.off p + (o.get p).size ≤ cs.size ∧ R e (o.get p) (piece (o.get p) cs (o.off p) (o.get p).size) := by
  cases o with
  | var v =>
    obtain ⟨b, cs, T, h1, h2, h3, h4, h5⟩ := h
    obtain ⟨_, a2, a3⟩ := poff_le p 0 v cs e hp (by omega) h5
    exact ⟨b, cs, _, h1, h2, by simp only [Box.off, Box.get]; omega, a3⟩
  | arr es n f =>
    cases p with
    | nil => exact hp.elim
    | cons j p =>
      obtain ⟨hj, hp⟩ := hp
      simp only [Held] at h
      cases ht : e.th id with
      | none => rw [ht] at h; simp only at h; omega
      | some b =>
        rw [ht] at h
        obtain ⟨cs, T, h2, h3, h4, h5, h6⟩ := h
        obtain ⟨hz, hr⟩ := h6 j hj
        have hb : j * es + (f j).size ≤ cs.size := by
          have : (j + 1) * es ≤ e.kap id * es := Nat.mul_le_mul_right _ (by omega)
          rw [Nat.succ_mul] at this; rw [hz]; omega
        have hr : R e (f j) (piece (f j) cs (j * es) (f j).size) := by rw [hz]; exact hr
        obtain ⟨_, a2, a3⟩ := poff_le p (j * es) (f j) cs e hp hb hr
        exact ⟨b, cs, _, rfl, h2, by simp only [Box.off, Box.get]; omega, a3⟩

theorem does_load (T : TypeId) (t : Nat) (id off : Nat) (path : List Nat) (o : Box) (v : V) (hp : o.okp path) (hoff : o.off path = off) (hv : o.get path = v) (hT : TyOk G.P T v.isAgg v.size) :
    Does G ⟨dst, .load T (.tmp t), ty, pos, af, g⟩ { need := [(t, .ptr id off path)], nob := [(id, o)], eff := { v := v } } :=
  does_value rfl rfl fun e a ok hn ho => by
    obtain ⟨hu, hx⟩ := hn (t, .ptr id off path) (by simp)
    have hob := ho (id, o) (by simp)
    obtain ⟨b, hb, hx⟩ := hx o hob
    obtain ⟨b', cs, T', h1, h2, h3, h4⟩ := (ok.held id o hob).get hp
    obtain rfl : b = b' := by rw [hb] at h1; exact Option.some.inj h1
    subst hoff; subst hv
    refine ⟨_, ?_, h4⟩
    have : a.eval (.tmp t) = .pointer (some ⟨b, o.off path, none⟩) := hx
    simp [execOp, this, Instr.loadAt, Instr.sureAddr, run_loadVar_row' hT h2.1 h3]

theorem does_loadc (T : TypeId) (t : Nat) (v : V) (hT : TyOk G.P T v.isAgg v.size) : Does G ⟨dst, .load T (.tmp t), ty, pos, af, g⟩ { need := [(t, .cptr v)], eff := { v := v } } :=
  does_value rfl rfl fun e a ok hn _ => by
    obtain ⟨ad, cs, hx, _, _, hs, hc, _, hr⟩ := hn (t, .cptr v) (by simp)
    refine ⟨_, ?_, hr⟩
    have : a.eval (.tmp t) = .pointer (some ad) := hx
    have hl := run_loadVar_cells (P := G.P) (T := T) (ag := v.isAgg) (cs := cs) (by rw [hs]; exact hT) hc (fun h => by rw [hs]; exact size_pos h)
    have e1 : (if v.isAgg then Value.agg cs else cs.getD 0 undef) = piece v cs 0 v.size := by
      unfold piece
      cases hv : v.isAgg with
      | true => simp [← hs]
      | false => rfl
    rw [e1] at hl
    simp [execOp, this, Instr.loadAt, Instr.sureAddr, hl]

/-- A field's row. -/
structure FldOk (P : Program) (T : TypeId) (f fo : Nat) : Prop where
  has : ∃ fields fd sz, P.underlying T = some (.struct fields) ∧ fields[f]? = some fd ∧ fd.offset = fo ∧ (P.info? fd.type).map (·.size) = some sz ∧ sz ≠ 0

theorem FldOk.run {P : Program} {T f fo : Nat} (h : FldOk P T f fo) (w : World) (b o : Nat) : (Instr.fieldAt T (.pointer (some ⟨b, o, none⟩)) f).run P w = .ok (.pointer (some ⟨b, o + fo, none⟩)) w := by
  obtain ⟨fields, fd, sz, h1, h2, h3, h4, h5⟩ := h
  cases hq : P.info? fd.type with
  | none => simp [hq] at h4
  | some i =>
    simp [hq] at h4
    simp [Instr.fieldAt, run_underlying h1, h2, Instr.sureAddr, fieldPlace, sizeOf, typeInfo, hq, h4, h5, Addr.add_lit, h3]

theorem does_fieldAddr (T f fo : Nat) (t id off : Nat) (path : List Nat) (o : Box) (h : FldOk G.P T f fo) :
    Does G ⟨dst, .fieldAddr T (.tmp t) f, ty, pos, af, g⟩ { need := [(t, .ptr id off path)], nob := [(id, o)], eff := { v := .ptr id (off + fo) (path ++ [f]) } } :=
  does_value rfl rfl fun e a ok hn ho => by
    obtain ⟨hu, hx⟩ := hn (t, .ptr id off path) (by simp)
    have hob := ho (id, o) (by simp)
    obtain ⟨b, hb, hx⟩ := hx o hob
    have : a.eval (.tmp t) = .pointer (some ⟨b, off, none⟩) := hx
    exact ⟨_, by simp [execOp, this, h.run], hu, fun o' ho' => ⟨b, hb, rfl⟩⟩

theorem does_fieldAddrc (T f fo : Nat) (t : Nat) (v : V) (h : FldOk G.P T f fo) (ha : v.isAgg = true) (hf : f < (lay v).cnt) (hfo : (lay v).off f = fo) :
    Does G ⟨dst, .fieldAddr T (.tmp t) f, ty, pos, af, g⟩ { need := [(t, .cptr v)], eff := { v := .cptr (part v f) } } :=
  does_value rfl rfl fun e a ok hn _ => by
    obtain ⟨ad, cs, hx, hP, hO, hs, hc, h1, hr⟩ := hn (t, .cptr v) (by simp)
    obtain ⟨b, o, s⟩ := ad
    obtain ⟨hs0, hlt, hcell⟩ := hc
    simp only at hs0; subst hs0
    have : a.eval (.tmp t) = .pointer (some ⟨b, o, none⟩) := hx
    refine ⟨_, by simp [execOp, this, h.run]; rfl, ?_⟩
    cases v with
    | agg L f' =>
      simp only [lay] at hf hfo
      have hs' : cs.size = L.tot := hs
      obtain ⟨hz, hr'⟩ := R.part (o := 0) (by rw [Nat.zero_add, hs']; exact Nat.le_refl _) hr hf
      have hfit := L.fits hf
      simp only [Nat.zero_add] at hr'
      refine ⟨⟨b, o + fo, none⟩, cs.extract fo (fo + L.sz f), rfl, hP, hO, ?_, ?_, ?_, ?_⟩
      · simp only [part, Array.size_extract]; rw [hz, ← hfo]; omega
      · refine ⟨rfl, hlt, fun i hi => ?_⟩
        simp only [Array.size_extract] at hi
        have hc2 := hcell (fo + i) (by omega)
        rw [Nat.add_assoc, hc2, Array.getElem?_extract]
        simp only [show i < min (fo + L.sz f) cs.size - fo by omega, if_true]
      · intro c hc'
        rw [Array.mem_extract_iff_getElem] at hc'
        obtain ⟨k, hk', rfl⟩ := hc'
        exact h1 _ (Array.getElem_mem _)
      · simp only [part]
        rw [hz, ← hfo]
        have hpe := piece_extract (f' f) cs (L.off f) (L.sz f) 0 (L.sz f) (by omega) (by
          cases ha' : (f' f).isAgg with
          | true => exact .inr rfl
          | false => rw [← hz, size_pos ha']; exact .inl (by omega)) (by omega)
        rw [hpe]
        exact hr'
    | _ => simp [V.isAgg] at ha

end
end Go.Eng
