/- The engine's words: abstract values, what they say of a value and a world of the model, and when such a claim persists. Conditions: none. -/
import Derived.Below
import Derived.Orders
import Derived.Laws.Rows
import Derived.Laws.CopyRow
import Derived.Laws.StructEq
import Derived.Deep.WholeRow
namespace Go.Eng

/-- How the parts of a struct (their sizes) or an array (how many, how large each) lie. -/
inductive Lay where
  | st (szs : List Nat)
  | ar (n es : Nat)

def Lay.tot : Lay → Nat
  | .st l => l.sum
  | .ar n es => n * es
def Lay.cnt : Lay → Nat
  | .st l => l.length
  | .ar n _ => n
def Lay.off : Lay → Nat → Nat
  | .st l, j => (l.take j).sum
  | .ar _ es, j => j * es
def Lay.sz : Lay → Nat → Nat
  | .st l, j => l.getD j 0
  | .ar _ es, _ => es

theorem Lay.fits (L : Lay) {j : Nat} (h : j < L.cnt) : L.off j + L.sz j ≤ L.tot := by
  cases L with
  | st l =>
    simp only [Lay.cnt] at h
    simp only [Lay.off, Lay.sz, Lay.tot]
    have h1 : l.sum = (l.take j).sum + (l.drop j).sum := by rw [← List.sum_append, List.take_append_drop]
    have h2 : (l.drop j).sum = l.getD j 0 + (l.drop (j + 1)).sum := by
      rw [List.drop_eq_getElem_cons h, List.sum_cons]
      simp [List.getD, h]
    omega
  | ar n es =>
    simp only [Lay.cnt] at h
    simp only [Lay.off, Lay.sz, Lay.tot]
    have : (j + 1) * es ≤ n * es := Nat.mul_le_mul_right _ h
    rw [Nat.succ_mul] at this
    exact this

/-- Parts lie apart. -/
theorem Lay.apart (L : Lay) {i j : Nat} (h : i < j) (hj : j < L.cnt) : L.off i + L.sz i ≤ L.off j := by
  cases L with
  | st l =>
    simp only [Lay.cnt] at hj
    simp only [Lay.off, Lay.sz]
    have h1 : (l.take j).sum = ((l.take j).take i).sum + ((l.take j).drop i).sum := by rw [← List.sum_append, List.take_append_drop]
    have h3 : (l.take j).take i = l.take i := by rw [List.take_take]; congr 1; omega
    have hi : i < (l.take j).length := by simp; omega
    have h2 : ((l.take j).drop i).sum = l.getD i 0 + ((l.take j).drop (i + 1)).sum := by
      rw [List.drop_eq_getElem_cons hi, List.sum_cons]
      simp [List.getD, show i < l.length by omega]
    rw [h1, h3, h2]; omega
  | ar n es =>
    simp only [Lay.off, Lay.sz]
    have : (i + 1) * es ≤ j * es := Nat.mul_le_mul_right _ h
    rw [Nat.succ_mul] at this
    exact this

/-- An abstract value. -/
inductive V where
  | int (k : IntKind) (n : Int)
  | bool (b : Bool)
  | str (s : ByteArray)
  | agg (L : Lay) (f : Nat → V)
  | sl (es n : Nat) (f : Nat → V)
  | own (id : Nat)
  | ptr (id off : Nat) (path : List Nat)
  | cptr (v : V)
  | fn (k : Nat) (n : Nat) (f : Nat → V)
  | tup (n : Nat) (f : Nat → V)
  | opt (c : Bool) (v : V)
  | view (id lo n : Nat)
  | nilq (n : Nat)
  | nil
  | cq (id : Nat) (p : Nat → Value → Prop)
  | any

def V.isAgg : V → Bool
  | .agg _ _ => true
  | _ => false
def V.size : V → Nat
  | .agg L _ => L.tot
  | _ => 1

/-- What an own variable, or an own array, holds. -/
inductive Box where
  | var (v : V)
  | arr (es n : Nat) (f : Nat → V)



/-- A part, laid out of cells. -/
def piece (v : V) (cs : Array Value) (o s : Nat) : Value := if v.isAgg then .agg (cs.extract o (o + s)) else cs.getD o undef

structure Env where
  w : World
  th : Nat → Option Nat
  kap : Nat → Nat
  ob : Nat → Option Box
  us : Nat → Prop
  S : Nat → Prop
  Sp : Nat → Prop

def Env.Own (e : Env) (b : Nat) : Prop := ∃ id o, e.ob id = some o ∧ e.th id = some b

/-- An own array's room. -/
def Env.cap (e : Env) (id : Nat) : Nat := match e.th id with
  | none => 0
  | some _ => e.kap id

def CellsAt (w : World) (a : Addr) (cs : Array Value) : Prop :=
  a.spot = none ∧ a.block < w.heap.size ∧ ∀ i, i < cs.size → w.cell? ⟨a.block, a.off + i, none⟩ = cs[i]?

def AllOne (cs : Array Value) : Prop := ∀ c ∈ cs, c.oneCell' = true

/-- The value x is, in this world, what v tells. -/
def R (e : Env) : V → Value → Prop
  | .int k n, x => x = .int k n
  | .bool b, x => x = .bool b
  | .str s, x => x = .string s
  | .agg L f, x => ∃ cs : Array Value, x = .agg cs ∧ cs.size = L.tot ∧ AllOne cs ∧ ∀ j, j < L.cnt → (f j).size = L.sz j ∧ R e (f j) (piece (f j) cs (L.off j) (L.sz j))
  | .sl es n f, x => ∃ a cap, x = .slice a n cap ∧ n ≤ cap ∧ (n = 0 ∨ ∃ ad cs, a = some ad ∧ ¬ e.S ad.block ∧ ¬ e.Sp ad.block ∧ ¬ e.Own ad.block ∧ cs.size = n * es ∧ CellsAt e.w ad cs ∧ AllOne cs ∧
      ∀ j, j < n → (f j).size = es ∧ R e (f j) (piece (f j) cs (j * es) es))
  | .own id, x => e.us id ∧ ∀ es n f, e.ob id = some (.arr es n f) → match e.th id with
      | none => n = 0 ∧ ∃ a, x = .slice a 0 0
      | some b => x = .slice (some ⟨b, 0, none⟩) n (e.kap id)
  | .ptr id off _, x => e.us id ∧ ∀ o, e.ob id = some o → ∃ b, e.th id = some b ∧ x = .pointer (some ⟨b, off, none⟩)
  | .cptr v, x => ∃ ad cs, x = .pointer (some ad) ∧ ¬ e.Sp ad.block ∧ ¬ e.Own ad.block ∧ cs.size = v.size ∧ CellsAt e.w ad cs ∧ AllOne cs ∧ R e v (piece v cs 0 v.size)
  | .fn k n f, x => ∃ cs : Array Value, x = .func (.func k) #[] cs ∧ cs.size = n ∧ ∀ j, j < n → R e (f j) (cs.getD j undef)
  | .tup n f, x => ∃ vs : Array Value, x = .tuple vs ∧ vs.size = n ∧ ∀ j, j < n → R e (f j) (vs.getD j undef)
  | .opt c v, x => (c = true → R e v x) ∧ (c = false → x = undef)
  | .view id lo n, x => e.us id ∧ ∀ es m f, e.ob id = some (.arr es m f) → (lo = 0 → match e.th id with
      | none => n = 0 ∧ ∃ a, x = .slice a 0 0
      | some b => x = .slice (some ⟨b, 0, none⟩) n (e.kap id)) ∧ ∃ ad c, x = .slice ad n c ∧ n ≤ c ∧ (n = 0 ∨ ∃ b, e.th id = some b ∧ ad = some ⟨b, lo * es, none⟩)
  | .nilq n, x => ∃ b, x = .bool b ∧ (b = true → n = 0)
  | .nil, x => x = .slice none 0 0
  | .cq id p, x => e.us id ∧ ∀ es n f, e.ob id = some (.arr es n f) → p (e.cap id) x
  | .any, _ => True

/-- No own array's or variable's name stands in it. -/
def V.Plain : V → Prop
  | .agg _ f => ∀ j, (f j).Plain
  | .sl _ _ f => ∀ j, (f j).Plain
  | .own _ => False
  | .ptr _ _ _ => False
  | .cptr v => v.Plain
  | .fn _ _ f => ∀ j, (f j).Plain
  | .tup _ f => ∀ j, (f j).Plain
  | .opt _ v => v.Plain
  | .view _ _ _ => False
  | .cq _ _ => False
  | _ => True

theorem cell_of_heap {w w' : World} {a : Addr} (h : w'.heap[a.block]? = w.heap[a.block]?) : w'.cell? a = w.cell? a := by
  simp [World.cell?, h]

theorem CellsAt.keep {w w' : World} {a : Addr} {cs : Array Value} (h : CellsAt w a cs) (hb : w'.heap[a.block]? = w.heap[a.block]?) (hs : w.heap.size ≤ w'.heap.size) : CellsAt w' a cs :=
  ⟨h.1, Nat.lt_of_lt_of_le h.2.1 hs, fun i hi => by rw [← h.2.2 i hi]; exact cell_of_heap hb⟩

/-- How one environment follows another: foreign blocks stay, own ones are elder or new. -/
structure Follows (e e' : Env) : Prop where
  size : e.w.heap.size ≤ e'.w.heap.size
  heap : ∀ b, b < e.w.heap.size → ¬ e.Own b → e'.w.heap[b]? = e.w.heap[b]?
  own : ∀ b, b < e.w.heap.size → e'.Own b → e.Own b
  S : ∀ b, b < e.w.heap.size → e'.S b → e.S b
  Sp : ∀ b, b < e.w.heap.size → e'.Sp b → e.Sp b

/-- Two boxes of one make. -/
def Box.like : Box → Box → Prop
  | .var _, .var _ => True
  | .arr es n _, .arr es' n' _ => es' = es ∧ n' = n
  | _, _ => False

theorem Box.like_refl (o : Box) : o.like o := by cases o <;> simp [Box.like]

/-- Ids: what a name told it tells still, where it is alive. -/
def IdKeeps (e e' : Env) : Prop :=
  ∀ id, e.us id → e'.us id ∧ ∀ o', e'.ob id = some o' → e'.th id = e.th id ∧ e'.kap id = e.kap id ∧ ∃ o, e.ob id = some o ∧ o.like o'

theorem R.keep {e e' : Env} (F : Follows e e') (v : V) : (IdKeeps e e' ∨ v.Plain) → ∀ x, R e v x → R e' v x := by
  induction v with
  | int k n => exact fun _ x h => h
  | bool b => exact fun _ x h => h
  | str s => exact fun _ x h => h
  | any => exact fun _ x h => h
  | nilq n => exact fun _ x h => h
  | nil => exact fun _ x h => h
  | cq id p =>
    rintro hid x ⟨hu, h⟩
    rcases hid with hid | hid
    · obtain ⟨hu', hk⟩ := hid id hu
      refine ⟨hu', fun es m f ho' => ?_⟩
      obtain ⟨ht, hκ, o, ho, hm⟩ := hk _ ho'
      cases o with
      | var v => exact hm.elim
      | arr es2 n2 f2 =>
        obtain ⟨rfl, rfl⟩ := hm
        have := h _ _ _ ho
        unfold Env.cap at this ⊢
        rw [ht, hκ]; exact this
    · exact hid.elim
  | view id lo n =>
    rintro hid x ⟨hu, h⟩
    rcases hid with hid | hid
    · obtain ⟨hu', hk⟩ := hid id hu
      refine ⟨hu', fun es m f ho' => ?_⟩
      obtain ⟨ht, hκ, o, ho, hm⟩ := hk _ ho'
      cases o with
      | var v => exact hm.elim
      | arr es2 n2 f2 =>
        obtain ⟨rfl, rfl⟩ := hm
        have := h _ _ _ ho
        rw [ht, hκ]; exact this
    · exact hid.elim
  | agg L f ih =>
    rintro hid x ⟨cs, hx, hs, h1, h⟩
    exact ⟨cs, hx, hs, h1, fun j hj => ⟨(h j hj).1, ih j (hid.imp_right fun p => p j) _ (h j hj).2⟩⟩
  | sl es n f ih =>
    rintro hid x ⟨a, cap, hx, hc, h⟩
    refine ⟨a, cap, hx, hc, h.imp_right ?_⟩
    rintro ⟨ad, cs, ha, hS, hP, hO, hs, hcell, h1, hj⟩
    have hlt := hcell.2.1
    exact ⟨ad, cs, ha, fun q => hS (F.S _ hlt q), fun q => hP (F.Sp _ hlt q), fun q => hO (F.own _ hlt q), hs, hcell.keep (F.heap _ hlt hO) F.size, h1, fun j q => ⟨(hj j q).1, ih j (hid.imp_right fun p => p j) _ (hj j q).2⟩⟩
  | own id =>
    rintro hid x ⟨hu, h⟩
    rcases hid with hid | hid
    · obtain ⟨hu', hk⟩ := hid id hu
      refine ⟨hu', fun es n f ho' => ?_⟩
      obtain ⟨ht, hκ, o, ho, hm⟩ := hk _ ho'
      cases o with
      | var v => exact hm.elim
      | arr es2 n2 f2 =>
        obtain ⟨rfl, rfl⟩ := hm
        have := h _ _ _ ho
        rw [ht, hκ]; exact this
    · exact hid.elim
  | ptr id off p =>
    rintro hid x ⟨hu, h⟩
    rcases hid with hid | hid
    · obtain ⟨hu', hk⟩ := hid id hu
      refine ⟨hu', fun o' ho' => ?_⟩
      obtain ⟨ht, hκ, o, ho, hm⟩ := hk _ ho'
      rw [ht]; exact h _ ho
    · exact hid.elim
  | cptr v ih =>
    rintro hid x ⟨ad, cs, hx, hP, hO, hs, hcell, h1, h⟩
    have hlt := hcell.2.1
    exact ⟨ad, cs, hx, fun q => hP (F.Sp _ hlt q), fun q => hO (F.own _ hlt q), hs, hcell.keep (F.heap _ hlt hO) F.size, h1, ih (hid.imp_right id) _ h⟩
  | fn k n f ih =>
    rintro hid x ⟨cs, hx, hs, h⟩
    exact ⟨cs, hx, hs, fun j hj => ih j (hid.imp_right fun p => p j) _ (h j hj)⟩
  | tup n f ih =>
    rintro hid x ⟨cs, hx, hs, h⟩
    exact ⟨cs, hx, hs, fun j hj => ih j (hid.imp_right fun p => p j) _ (h j hj)⟩
  | opt c v ih =>
    rintro hid x ⟨h1, h2⟩
    exact ⟨fun hc => ih (hid.imp_right id) _ (h1 hc), h2⟩

/-- A block's cells; what of it is frozen lies behind them, and is so only where elements are of one cell. -/
def Row (w : World) (b : Nat) (cs : Array Value) (T : Nat × TypeId × Nat × Nat) : Prop := w.heap[b]? = some (.cells cs T.2.1 T.2.2) ∧ (T.2.2 = (0, 0) ∨ (T.1 = 1 ∧ cs.size ≤ T.2.2.1))
theorem Row.lt {w : World} {b : Nat} {cs : Array Value} {T : Nat × TypeId × Nat × Nat} (h : Row w b cs T) : b < w.heap.size := (Array.getElem?_eq_some_iff.1 h.1).1
theorem Row.of {w : World} {b es : Nat} {cs : Array Value} {T : TypeId} (h : w.heap[b]? = some (.cells cs T (0, 0))) : Row w b cs (es, T, (0, 0)) := ⟨h, .inl rfl⟩
theorem Row.heap {w w' : World} {b : Nat} {cs : Array Value} {T : Nat × TypeId × Nat × Nat} (h : Row w b cs T) (hh : w'.heap[b]? = w.heap[b]?) : Row w' b cs T := ⟨hh.trans h.1, h.2⟩
theorem Row.uniq {w : World} {b : Nat} {cs cs2 : Array Value} {T T2 : Nat × TypeId × Nat × Nat} (h : Row w b cs T) (h2 : Row w b cs2 T2) : cs = cs2 := by
  have := h.1.symm.trans h2.1
  simp only [Option.some.injEq, Obj.cells.injEq] at this
  exact this.1
theorem Row.thaw {w : World} {b : Nat} {cs : Array Value} {T : Nat × TypeId × Nat × Nat} (h : Row w b cs T) {o : Nat} (ho : o < cs.size) : w.frozen? ⟨b, o, none⟩ = false := by
  obtain ⟨h1, h2⟩ := h
  obtain ⟨es, T1, lo, hi⟩ := T
  simp only at h1 h2
  simp only [World.frozen?, h1]
  rcases h2 with h2 | h2
  · simp only [Prod.mk.injEq] at h2; simp [h2.1, h2.2]
  · simp only [Bool.and_eq_false_iff, decide_eq_false_iff_not]; left; omega

def Box.es : Box → Nat
  | .var _ => 0
  | .arr es _ _ => es
theorem Box.like_es {o o' : Box} (h : o.like o') : o'.es = o.es := by
  cases o <;> cases o' <;> simp_all [Box.like, Box.es]

/-- What an own block is. -/
def Held (e : Env) (id : Nat) : Box → Prop
  | .var v => ∃ b cs T, e.th id = some b ∧ Row e.w b cs (0, T) ∧ cs.size = v.size ∧ AllOne cs ∧ R e v (piece v cs 0 v.size)
  | .arr es n f => match e.th id with
    | none => n = 0
    | some b => ∃ cs T, Row e.w b cs (es, T) ∧ cs.size = e.kap id * es ∧ n ≤ e.kap id ∧ AllOne cs ∧ ∀ j, j < n → (f j).size = es ∧ R e (f j) (piece (f j) cs (j * es) es)

/-- What is fixed while a call is under way. -/
structure Glob where
  P : Program
  w0 : World
  W : Nat → Prop
  S : Nat → Prop
  Sp : Nat → Prop

/-- What was there when the call began is as it was, but for what may be written. -/
structure Frame0 (W : Nat → Prop) (w w' : World) : Prop where
  os : w'.os = w.os
  tape : w'.tape = w.tape
  output : w'.output = w.output
  size : w.heap.size ≤ w'.heap.size
  drawn : w.drawn ≤ w'.drawn
  block : ∀ k, k < w.heap.size → ¬ W k → w'.heap[k]? = w.heap[k]?

structure Ok (G : Glob) (e : Env) : Prop where
  fr : Frame0 G.W G.w0 e.w
  S : e.S = G.S
  Sp : e.Sp = G.Sp
  held : ∀ id o, e.ob id = some o → Held e id o
  inj : ∀ i j oi oj b, e.ob i = some oi → e.ob j = some oj → e.th i = some b → e.th j = some b → i = j
  fresh : ∀ i o b, e.ob i = some o → e.th i = some b → G.w0.heap.size ≤ b ∨ G.W b
  used : ∀ i o, e.ob i = some o → e.us i
  low : ∀ b, G.S b ∨ G.Sp b → b < G.w0.heap.size ∧ ¬ G.W b

theorem Held.lt {e : Env} {id : Nat} {o : Box} {b : Nat} (h : Held e id o) (hb : e.th id = some b) : b < e.w.heap.size := by
  cases o with
  | var v =>
    obtain ⟨b', cs, T, h1, h2, _⟩ := h
    rw [hb] at h1; cases h1
    exact h2.lt
  | arr es n f =>
    simp only [Held, hb] at h
    obtain ⟨cs, T, h2, _⟩ := h
    exact h2.lt

theorem Ok.own_lt {G : Glob} {e : Env} (h : Ok G e) {b : Nat} (hb : e.Own b) : b < e.w.heap.size := by
  obtain ⟨id, o, h1, h2⟩ := hb
  exact (h.held id o h1).lt h2

theorem Follows.refl (e : Env) : Follows e e := ⟨Nat.le_refl _, fun _ _ _ => rfl, fun _ _ h => h, fun _ _ h => h, fun _ _ h => h⟩

theorem Frame0.trans {W : Nat → Prop} {a b c : World} (h : Frame0 W a b) (k : Frame0 W b c) : Frame0 W a c :=
  ⟨k.os.trans h.os, k.tape.trans h.tape, k.output.trans h.output, Nat.le_trans h.size k.size, Nat.le_trans h.drawn k.drawn, fun i hi hw => (k.block i (Nat.lt_of_lt_of_le hi h.size) hw).trans (h.block i hi hw)⟩

theorem Frame0.refl (W : Nat → Prop) (w : World) : Frame0 W w w := ⟨rfl, rfl, rfl, Nat.le_refl _, Nat.le_refl _, fun _ _ _ => rfl⟩

/-- A step that keeps all claims. -/
structure Grow (G : Glob) (e e' : Env) : Prop where
  ok : Ok G e'
  fol : Follows e e'
  ids : IdKeeps e e'

theorem Grow.keep {G : Glob} {e e' : Env} (g : Grow G e e') {v : V} {x : Value} (h : R e v x) : R e' v x := R.keep g.fol v (.inl g.ids) x h

end Go.Eng
