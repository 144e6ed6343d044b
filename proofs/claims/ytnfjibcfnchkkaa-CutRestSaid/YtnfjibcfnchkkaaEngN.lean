/- Rows of types and functions, asked by running. Conditions: none. -/
import Derived.Test.YtnfjibcfnchkkaaEngM
namespace Go.Eng

def tyB (P : Program) (T : TypeId) (ag : Bool) (sz : Nat) : Bool :=
  match P.underlying T, P.info? T with
  | some d, some i => ((match d with | .struct _ | .array _ _ => true | _ => false) == ag) && i.size == sz
  | _, _ => false
theorem TyOk.of {P : Program} {T : TypeId} {ag : Bool} {sz : Nat} (h : tyB P T ag sz = true) : TyOk P T ag sz := by
  unfold tyB at h
  split at h
  · rename_i d i hd hi
    simp only [Bool.and_eq_true, beq_iff_eq] at h
    exact ⟨⟨d, hd, h.1⟩, by simp [hi, h.2]⟩
  · cases h

def fldB (P : Program) (T f fo : Nat) : Bool :=
  match P.underlying T with
  | some (.struct fs) => match fs[f]? with
    | some fd => match P.info? fd.type with
      | some i => fd.offset == fo && i.size != 0
      | none => false
    | none => false
  | _ => false
theorem FldOk.of {P : Program} {T f fo : Nat} (h : fldB P T f fo = true) : FldOk P T f fo := by
  unfold fldB at h
  split at h
  · rename_i fs hu
    split at h
    · rename_i fd hf
      split at h
      · rename_i i hi
        simp only [Bool.and_eq_true, beq_iff_eq, bne_iff_ne] at h
        exact ⟨⟨fs, fd, i.size, hu, hf, h.1, by simp [hi], h.2⟩⟩
      · cases h
    · cases h
  · cases h

def zeroB (P : Program) (T : TypeId) (v : V) : Bool :=
  match P.info? T with
  | some i => match i.zero with
    | some z => chk v z && v.solid
    | none => false
  | none => false
theorem ZeroOk.of {P : Program} {T : TypeId} {v : V} (h : zeroB P T v = true) : ZeroOk P T v := by
  unfold zeroB at h
  split at h
  · rename_i i hi
    split at h
    · rename_i z hz
      simp only [Bool.and_eq_true] at h
      exact ⟨⟨z, by simp [hi, hz], h.1⟩, h.2⟩
    · cases h
  · cases h

def elB (P : Program) (T : TypeId) (n : Option Nat) (es : Nat) : Bool :=
  match P.underlying T, n with
  | some (.array m E), some n => m == n && (match P.info? E with | some i => i.size == es | none => false)
  | some (.slice E), none => (match P.info? E with | some i => i.size == es | none => false)
  | _, _ => false
theorem ElOk.of {P : Program} {T : TypeId} {n : Option Nat} {es : Nat} (h : elB P T n es = true) : ElOk P T n es := by
  unfold elB at h
  split at h
  · rename_i m E n' hu
    simp only [Bool.and_eq_true, beq_iff_eq] at h
    obtain ⟨rfl, h⟩ := h
    split at h
    · rename_i i hi
      exact ⟨⟨E, i, hu, hi, by simpa using h⟩⟩
    · cases h
  · rename_i E hu
    split at h
    · rename_i i hi
      exact ⟨⟨E, i, hu, hi, by simpa using h⟩⟩
    · cases h
  · cases h

def slB (P : Program) (T : TypeId) (es : Nat) (z0 : V) : Bool :=
  match P.underlying T with
  | some (.slice E) => match P.info? E with
    | some i => match i.zero with
      | some z => i.size == es && chk z0 z && z.cells.size == es && z0.solid && decide (0 < es) && z0.size == es
      | none => false
    | none => false
  | _ => false
theorem SlOk.of {P : Program} {T : TypeId} {es : Nat} {z0 : V} (h : slB P T es z0 = true) : SlOk P T es z0 := by
  unfold slB at h
  split at h
  · rename_i E hu
    split at h
    · rename_i i hi
      split at h
      · rename_i z hz
        simp only [Bool.and_eq_true, beq_iff_eq, decide_eq_true_eq] at h
        obtain ⟨⟨⟨⟨⟨h1, h2⟩, h3⟩, h4⟩, h5⟩, h6⟩ := h
        exact ⟨⟨E, i, z, hu, hi, h1, hz, h2, h3⟩, h4, h5, h6⟩
      · cases h
    · cases h
  · cases h

def apB (P : Program) (T : TypeId) (es by_ : Nat) : Bool :=
  match P.underlying T with
  | some (.slice E) => match P.info? E with
    | some i => match i.zero with
      | some z => i.size == es && z.cells.size == es && z.cells.all (·.oneCell') && i.bytes == by_ && decide (0 < es)
      | none => false
    | none => false
  | _ => false
theorem ApOk.of {P : Program} {T : TypeId} {es by_ : Nat} (h : apB P T es by_ = true) : ApOk P T es by_ := by
  unfold apB at h
  split at h
  · rename_i E hu
    split at h
    · rename_i i hi
      split at h
      · rename_i z hz
        simp only [Bool.and_eq_true, beq_iff_eq, decide_eq_true_eq] at h
        obtain ⟨⟨⟨⟨h1, h2⟩, h3⟩, h4⟩, h5⟩ := h
        exact ⟨⟨E, i, z, hu, hi, h1, hz, h2, h3, h4⟩, h5⟩
      · cases h
    · cases h
  · cases h

def fnB (P : Program) (K : FuncId) : Bool :=
  match P.funcs[K]? with
  | some fn => !(fn.name == "runtime.NumGoroutine") && !fn.body.isNone
  | none => false
theorem FnOk.of {P : Program} {K : FuncId} (h : fnB P K = true) : FnOk P K := by
  unfold fnB at h
  split at h
  · rename_i fn hf
    simp only [Bool.and_eq_true, Bool.not_eq_true'] at h
    exact ⟨⟨fn, hf, h.1, h.2⟩⟩
  · cases h

def bldB (P : Program) (T : TypeId) (L : Lay) (f0 : Nat → V) : Bool :=
  (match P.info? T with
  | some i => match i.zero with
    | some z => chk (.agg L f0) z
    | none => false
  | none => false) &&
  (match P.underlying T with
  | some (.struct fields) => match fields.toList.mapM (fun f => (P.info? f.type).map fun i => (f.offset, i.size)) with
    | some places => (List.range L.cnt).all fun j => match places[j]? with | some p => p.1 == L.off j && p.2 == L.sz j | none => false
    | none => false
  | some (.array _ E) => match P.info? E, L with
    | some i, .ar _ es => es == i.size
    | _, _ => false
  | _ => false)
theorem BldOk.of {P : Program} {T : TypeId} {L : Lay} {f0 : Nat → V} (h : bldB P T L f0 = true) : BldOk P T L f0 := by
  unfold bldB at h
  rw [Bool.and_eq_true] at h
  obtain ⟨h1, h2⟩ := h
  constructor
  · split at h1
    · rename_i i hi
      split at h1
      · rename_i z hz
        exact ⟨z, by simp [hi, hz], h1⟩
      · cases h1
    · cases h1
  · split at h2
    · rename_i fields hu
      split at h2
      · rename_i places hp
        refine .inl ⟨fields, hu, places, hp, fun j hj => ?_⟩
        have := List.all_eq_true.1 h2 j (List.mem_range.2 hj)
        split at this
        · rename_i p hpj
          simp only [Bool.and_eq_true, beq_iff_eq] at this
          rw [hpj, ← this.1, ← this.2]
        · cases this
      · cases h2
    · rename_i n E hu
      split at h2
      · rename_i i n' es hi
        simp only [beq_iff_eq] at h2
        subst h2
        exact .inr ⟨n, n', E, i, hu, hi, rfl⟩
      · cases h2
    · cases h2

/-- The shape that '==' goes through, asked by running: the sample's shape, for all of its make. -/
def shB (P : Program) : Nat → V → TypeId → Bool
  | 0, _, _ => false
  | d + 1, v, T => match v, P.underlying T with
    | .int _ _, some (.int _) => true
    | .bool _, some .bool => true
    | .str _, some .string => true
    | .agg (.st szs) f, some (.struct fields) => !P.stoodInHeld T && fields.size == szs.length && (List.range szs.length).all fun j => match fields[j]? with
      | some fd => fd.name != "_" && fd.offset == (Lay.st szs).off j && tyB P fd.type (f j).isAgg (f j).size && shB P d (f j) fd.type
      | none => false
    | .agg (.ar n es) f, some (.array m E) => decide (0 < n) && m == n && (List.range n).all fun j => tyB P E (f j).isAgg es && (f j).size == es && shB P d (f j) E
    | _, _ => false

/-- One make: what '==' needs of two values beside their types' rows. -/
inductive Akin : V → V → Prop where
  | int (k : IntKind) (n m : Int) : Akin (.int k n) (.int k m)
  | bool (a b : Bool) : Akin (.bool a) (.bool b)
  | str (a b : ByteArray) : Akin (.str a) (.str b)
  | agg (L : Lay) (f g : Nat → V) (h : ∀ j, j < L.cnt → Akin (f j) (g j)) : Akin (.agg L f) (.agg L g)

theorem Akin.size {v u : V} (h : Akin v u) : u.size = v.size ∧ u.isAgg = v.isAgg := by cases h <;> exact ⟨rfl, rfl⟩

theorem Shp.of {P : Program} : ∀ (d : Nat) (z v u : V) (T : TypeId), shB P d z T = true → Akin z v → Akin z u → Shp P d v u T
  | 0, z, v, u, T, h, _, _ => by cases h
  | d + 1, z, v, u, T, h, hv, hu => by
    unfold shB at h
    split at h
    · rename_i q ht; cases hv; cases hu; exact .int d _ _ _ _ T ht
    · rename_i ht; cases hv; cases hu; exact .bool d _ _ T ht
    · rename_i ht; cases hv; cases hu; exact .str d _ _ T ht
    · rename_i szs f fields ht
      cases hv with
      | agg L _ fv hv =>
        cases hu with
        | agg L _ fu hu =>
          simp only [Bool.and_eq_true, Bool.not_eq_true', beq_iff_eq] at h
          obtain ⟨⟨h1, h2⟩, h3⟩ := h
          have hj : ∀ (j : Nat) (fd : Field), fields[j]? = some fd → j < szs.length ∧ fd.name ≠ "_" ∧ fd.offset = (Lay.st szs).off j ∧ tyB P fd.type (f j).isAgg (f j).size = true ∧ shB P d (f j) fd.type = true := by
            intro j fd hfd
            have hlt : j < szs.length := by
              have := (Array.getElem?_eq_some_iff.1 hfd).1; omega
            have := List.all_eq_true.1 h3 j (List.mem_range.2 hlt)
            rw [hfd] at this
            simp only [Bool.and_eq_true, bne_iff_ne, beq_iff_eq] at this
            exact ⟨hlt, this.1.1.1, this.1.1.2, this.1.2, this.2⟩
          refine .st d szs fv fu T fields h1 ht h2 (fun j fd hfd => ?_) (fun j fd hfd => ?_)
          · obtain ⟨a0, a1, a2, a3, a4⟩ := hj j fd hfd
            obtain ⟨z1, z2⟩ := (hv j a0).size
            obtain ⟨y1, y2⟩ := (hu j a0).size
            exact ⟨a1, a2, by rw [z1, z2]; exact TyOk.of a3, by rw [y2, z2], by rw [y1, z1]⟩
          · obtain ⟨a0, a1, a2, a3, a4⟩ := hj j fd hfd
            exact Shp.of d (f j) (fv j) (fu j) fd.type a4 (hv j a0) (hu j a0)
    · rename_i n es f m E ht
      cases hv with
      | agg L _ fv hv =>
        cases hu with
        | agg L _ fu hu =>
          simp only [Bool.and_eq_true, decide_eq_true_eq, beq_iff_eq] at h
          obtain ⟨⟨h0, rfl⟩, h3⟩ := h
          have hj : ∀ j, j < m → tyB P E (f j).isAgg es = true ∧ (f j).size = es ∧ shB P d (f j) E = true := by
            intro j hlt
            have := List.all_eq_true.1 h3 j (List.mem_range.2 hlt)
            simp only [Bool.and_eq_true, beq_iff_eq] at this
            exact ⟨this.1.1, this.1.2, this.2⟩
          refine .ar d m es fv fu T E h0 ht (fun j hlt => ?_) (fun j hlt => ?_)
          · obtain ⟨a1, a2, a3⟩ := hj j hlt
            obtain ⟨z1, z2⟩ := (hv j hlt).size
            obtain ⟨y1, y2⟩ := (hu j hlt).size
            exact ⟨by rw [z2]; exact TyOk.of a1, by rw [z1, a2], by rw [y2, z2], by rw [y1, a2]⟩
          · obtain ⟨a1, a2, a3⟩ := hj j hlt
            exact Shp.of d (f j) (fv j) (fu j) E a3 (hv j hlt) (hu j hlt)
    · cases h

theorem Shp.mono {P : Program} {d : Nat} {v u : V} {T : TypeId} (h : Shp P d v u T) : ∀ k, Shp P (d + k) v u T := by
  induction h with
  | int d k q n m T h => intro i; rw [Nat.add_right_comm]; exact .int _ k q n m T h
  | bool d a b T h => intro i; rw [Nat.add_right_comm]; exact .bool _ a b T h
  | str d a b T h => intro i; rw [Nat.add_right_comm]; exact .str _ a b T h
  | st d szs f g T fields hs hu hn hf h ih => intro i; rw [Nat.add_right_comm]; exact .st _ szs f g T fields hs hu hn hf (fun j fd hj => ih j fd hj i)
  | ar d n es f g T E h0 hu hf h ih => intro i; rw [Nat.add_right_comm]; exact .ar _ n es f g T E h0 hu hf (fun j hj => ih j hj i)

theorem Shp.deep {P : Program} {z v u : V} {T : TypeId} (h : shB P 9 z T = true) (hv : Akin z v) (hu : Akin z u) : Shp P 10000 v u T := (Shp.of 9 z v u T h hv hu).mono 9991

end Go.Eng
