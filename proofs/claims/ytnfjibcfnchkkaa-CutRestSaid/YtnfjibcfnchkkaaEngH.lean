/- The engine's laws on calls, on the rest of the code's forms, and on a function as a whole. Conditions: none. -/
import Derived.Test.YtnfjibcfnchkkaaEngG
import Derived.Test.YtnfjibcfnchkkaaEngD
namespace Go.Eng

/-- An environment in which nothing is the call's own yet. -/
def Env.bare (w : World) (S Sp : Nat → Prop) : Env := { w := w, th := fun _ => none, kap := fun _ => 0, ob := fun _ => none, us := fun _ => False, S := S, Sp := Sp }

def ArgsAre (e : Env) (vs : List V) (xs : Array Value) : Prop := xs.size = vs.length ∧ ∀ i v, vs[i]? = some v → R e v (xs.getD i undef)

/-- WHAT A FUNCTION DOES, in plain values: called with what 'args' tell it hands back what 'res' tells; nothing that was there is turned; no slice of the answer leads where none of the arguments' does. -/
def FSpec (P : Program) (K : FuncId) (args : List V) (res : V) : Prop :=
  ∀ (w : World) (S Sp : Nat → Prop) (xs : Array Value), (∀ b, S b ∨ Sp b → b < w.heap.size) → ArgsAre (Env.bare w S Sp) args xs →
    Calls P K xs w fun e w' => ∃ x, e = .returned x ∧ R (Env.bare w' S Sp) res x ∧ Frame0 (fun _ => False) w w'

/-- Data: no own name, no place, no function stands in it. -/
def V.Data : V → Prop
  | .int _ _ | .bool _ | .str _ | .nil => True
  | .agg _ f => ∀ j, (f j).Data
  | .sl _ _ f => ∀ j, (f j).Data
  | .tup _ f => ∀ j, (f j).Data
  | _ => False

/-- Data without a slice. -/
def V.Flat : V → Prop
  | .int _ _ | .bool _ | .str _ | .nil => True
  | .agg _ f => ∀ j, (f j).Flat
  | .tup _ f => ∀ j, (f j).Flat
  | _ => False

theorem R.flat {e e' : Env} (v : V) : v.Flat → ∀ x, R e v x → R e' v x := by
  induction v with
  | int k n => exact fun _ _ h => h
  | bool b => exact fun _ _ h => h
  | str s => exact fun _ _ h => h
  | nil => exact fun _ _ h => h
  | agg L f ih => rintro hf x ⟨cs, hx, hs, h1, h⟩; exact ⟨cs, hx, hs, h1, fun j hj => ⟨(h j hj).1, ih j (hf j) _ (h j hj).2⟩⟩
  | tup n f ih => rintro hf x ⟨cs, hx, hs, h⟩; exact ⟨cs, hx, hs, fun j hj => ih j (hf j) _ (h j hj)⟩
  | _ => exact fun h => h.elim

/-- From one view of a world to another one. -/
theorem R.move {e e' : Env} (hw : e'.w = e.w) (h : ∀ b, ¬ e.S b → ¬ e.Sp b → ¬ e.Own b → ¬ e'.S b ∧ ¬ e'.Sp b ∧ ¬ e'.Own b) (v : V) : v.Data → ∀ x, R e v x → R e' v x := by
  induction v with
  | int k n => exact fun _ _ h => h
  | bool b => exact fun _ _ h => h
  | str s => exact fun _ _ h => h
  | nil => exact fun _ _ h => h
  | agg L f ih => rintro hf x ⟨cs, hx, hs, h1, h⟩; exact ⟨cs, hx, hs, h1, fun j hj => ⟨(h j hj).1, ih j (hf j) _ (h j hj).2⟩⟩
  | tup n f ih => rintro hf x ⟨cs, hx, hs, h⟩; exact ⟨cs, hx, hs, fun j hj => ih j (hf j) _ (h j hj)⟩
  | sl es n f ih =>
    rintro hf x ⟨a, cap, hx, hc, hh⟩
    refine ⟨a, cap, hx, hc, hh.imp_right ?_⟩
    rintro ⟨ad, cs, ha, hS, hP, hO, hs, hcell, h1, hj⟩
    obtain ⟨k1, k2, k3⟩ := h _ hS hP hO
    exact ⟨ad, cs, ha, k1, k2, k3, hs, by rw [hw]; exact hcell, h1, fun j q => ⟨(hj j q).1, ih j (hf j) _ (hj j q).2⟩⟩
  | _ => exact fun h => h.elim

/-- How a claim is seen by a call: own variables as places that stay, own arrays as slices that stay (where the answer holds no slice). -/
inductive Pass (nob : List (Nat × Box)) (flat : Bool) : V → V → Prop where
  | data (v : V) (h : v.Data) : Pass nob flat v v
  | cptr (v : V) (h : v.Data) : Pass nob flat (.cptr v) (.cptr v)
  | ptr (id off : Nat) (path : List Nat) (o : Box) (v : V) (hm : (id, o) ∈ nob) (hp : o.okp path) (hoff : o.off path = off) (hv : o.get path = v) (h : v.Data) : Pass nob flat (.ptr id off path) (.cptr v)
  | own (id es n : Nat) (f : Nat → V) (hm : (id, .arr es n f) ∈ nob) (hf : flat = true) (h : ∀ j, (f j).Data) : Pass nob flat (.own id) (.sl es n f)
  | fn (k n : Nat) (f g : Nat → V) (h : ∀ j, j < n → Pass nob flat (f j) (g j)) : Pass nob flat (.fn k n f) (.fn k n g)
  | cptrF (v : V) (h : Pass nob flat v v) : Pass nob flat (.cptr v) (.cptr v)
  | ptrF (id off : Nat) (path : List Nat) (o : Box) (v : V) (hm : (id, o) ∈ nob) (hp : o.okp path) (hoff : o.off path = off) (hv : o.get path = v) (h : Pass nob flat v v) : Pass nob flat (.ptr id off path) (.cptr v)

theorem sub_piece {v : V} {cs : Array Value} {off : Nat} (hb : off + v.size ≤ cs.size) : piece v (cs.extract off (off + v.size)) 0 v.size = piece v cs off v.size := by
  have := piece_extract v cs off v.size 0 v.size (by omega) (by
    cases ha : v.isAgg with
    | true => exact .inr rfl
    | false => rw [size_pos ha]; exact .inl (by omega)) hb
  simpa using this

theorem allOne_extract {cs : Array Value} (h : AllOne cs) (a b : Nat) : AllOne (cs.extract a b) := by
  intro c hc
  rw [Array.mem_extract_iff_getElem] at hc
  obtain ⟨k, hk, rfl⟩ := hc
  exact h _ (Array.getElem_mem _)

theorem Pass.sound {G : Glob} {e : Env} (ok : Ok G e) {nob : List (Nat × Box)} {flat : Bool} (hn : ∀ p ∈ nob, e.ob p.1 = some p.2) {v v' : V} (h : Pass nob flat v v') : ∀ x, R e v x →
    R (Env.bare e.w (fun b => e.S b ∨ (flat = false ∧ e.Own b)) e.Sp) v' x := by
  have hm : ∀ b, ¬ e.S b → ¬ e.Sp b → ¬ e.Own b → ¬ (Env.bare e.w (fun b => e.S b ∨ (flat = false ∧ e.Own b)) e.Sp).S b ∧ ¬ (Env.bare e.w (fun b => e.S b ∨ (flat = false ∧ e.Own b)) e.Sp).Sp b ∧ ¬ (Env.bare e.w (fun b => e.S b ∨ (flat = false ∧ e.Own b)) e.Sp).Own b := by
    intro b h1 h2 h3
    refine ⟨?_, h2, ?_⟩
    · rintro (h | h)
      · exact h1 h
      · exact h3 h.2
    · rintro ⟨_, _, h, _⟩; cases h
  have mv : ∀ v, V.Data v → ∀ x, R e v x → R (Env.bare e.w (fun b => e.S b ∨ (flat = false ∧ e.Own b)) e.Sp) v x := R.move (e := e) (e' := Env.bare e.w (fun b => e.S b ∨ (flat = false ∧ e.Own b)) e.Sp) rfl hm
  have noOwn : ∀ b, ¬ (Env.bare e.w (fun b => e.S b ∨ (flat = false ∧ e.Own b)) e.Sp).Own b := by rintro b ⟨_, _, h, _⟩; cases h
  have ownFar : ∀ b, e.Own b → ¬ e.S b ∧ ¬ e.Sp b := by
    rintro b ⟨id, o, h1, h2⟩
    have hf := ok.fresh id o b h1 h2
    constructor <;> intro h
    · have := ok.low b (.inl (ok.S ▸ h)); rcases hf with h3 | h3
      · omega
      · exact this.2 h3
    · have := ok.low b (.inr (ok.Sp ▸ h)); rcases hf with h3 | h3
      · omega
      · exact this.2 h3
  induction h with
  | data v h => exact mv v h
  | cptr v h =>
    rintro x ⟨ad, cs, hx, hP, hO, hs, hcell, h1, hr⟩
    exact ⟨ad, cs, hx, hP, noOwn _, hs, hcell, h1, mv v h _ hr⟩
  | ptr id off path o v hmem hp hoff hv h =>
    rintro x ⟨hu, hx⟩
    have hob := hn (id, o) hmem
    obtain ⟨b, hb, hx⟩ := hx o hob
    have hheld := ok.held id o hob
    obtain ⟨b', cs, T, h1, h2, h3, h4⟩ := hheld.get hp
    obtain rfl : b = b' := by rw [hb] at h1; exact Option.some.inj h1
    obtain ⟨cs2, T2, l1, l2⟩ := hheld.lies hb
    obtain rfl := h2.uniq l1
    subst hoff; subst hv
    refine ⟨_, cs.extract (o.off path) (o.off path + (o.get path).size), hx, (ownFar b ⟨id, o, hob, hb⟩).2, noOwn _, by simp; omega, sub_cells h2.1, allOne_extract l2.1 _ _, ?_⟩
    rw [sub_piece h3]
    exact mv _ h _ h4
  | own id es n f hmem hf h =>
    rintro x ⟨hu, hx⟩
    have hob := hn (id, .arr es n f) hmem
    have hx := hx es n f hob
    have hheld := ok.held id _ hob
    cases hth : e.th id with
    | none =>
      rw [hth] at hx
      obtain ⟨h0, a, hx⟩ := hx
      subst h0
      exact ⟨a, 0, hx, Nat.le_refl _, .inl rfl⟩
    | some b =>
      rw [hth] at hx
      obtain ⟨cs, T, l1, l2, l3, l4, l5⟩ := hheld.lies hth
      obtain ⟨f1, f2⟩ := ownFar b ⟨id, _, hob, hth⟩
      have hle : n * es ≤ cs.size := by rw [l3]; exact Nat.mul_le_mul_right _ l4
      refine ⟨_, e.kap id, hx, l4, .inr ⟨_, cs.extract 0 (0 + n * es), rfl, ?_, f2, noOwn _, by simp; omega, sub_cells l1.1, allOne_extract l2 _ _, fun j hj => ?_⟩⟩
      · rintro (h9 | h9)
        · exact f1 h9
        · rw [hf] at h9; cases h9.1
      · obtain ⟨hz, hr⟩ := l5 j hj
        refine ⟨hz, ?_⟩
        have : (j + 1) * es ≤ n * es := Nat.mul_le_mul_right _ hj
        rw [Nat.succ_mul] at this
        rw [piece_extract (f j) cs 0 (n * es) (j * es) es this (by
          cases ha : (f j).isAgg with
          | true => exact .inr rfl
          | false => rw [← hz, size_pos ha]; exact .inl (by omega)) (by omega), Nat.zero_add]
        exact mv _ (h j) _ hr
  | fn k n f g h ih =>
    rintro x ⟨cs, hx, hs, hr⟩
    exact ⟨cs, hx, hs, fun j hj => ih j hj _ (hr j hj)⟩
  | cptrF v h ih =>
    rintro x ⟨ad, cs, hx, hP, hO, hs, hcell, h1, hr⟩
    exact ⟨ad, cs, hx, hP, noOwn _, hs, hcell, h1, ih _ hr⟩
  | ptrF id off path o v hmem hp hoff hv h ih =>
    rintro x ⟨hu, hx⟩
    have hob := hn (id, o) hmem
    obtain ⟨b, hb, hx⟩ := hx o hob
    have hheld := ok.held id o hob
    obtain ⟨b', cs, T, h1, h2, h3, h4⟩ := hheld.get hp
    obtain rfl : b = b' := by rw [hb] at h1; exact Option.some.inj h1
    obtain ⟨cs2, T2, l1, l2⟩ := hheld.lies hb
    obtain rfl := h2.uniq l1
    subst hoff; subst hv
    refine ⟨_, cs.extract (o.off path) (o.off path + (o.get path).size), hx, (ownFar b ⟨id, o, hob, hb⟩).2, noOwn _, by simp; omega, sub_cells h2.1, allOne_extract l2.1 _ _, ?_⟩
    rw [sub_piece h3]
    exact ih _ h4

def ndl : List Operand → List V → List (Nat × V)
  | x :: xs, v :: vs => nd x v ++ ndl xs vs
  | _, _ => []
def cOkl : List Operand → List V → Prop
  | [], [] => True
  | x :: xs, v :: vs => cOk x v ∧ cOkl xs vs
  | _, _ => False
def Passes (nob : List (Nat × Box)) (flat : Bool) : List V → List V → Prop
  | [], [] => True
  | v :: vs, u :: us => Pass nob flat v u ∧ Passes nob flat vs us
  | _, _ => False

theorem args_of {e : Env} {a : Act} {need : List (Nat × V)} (hn : ∀ p ∈ need, R e p.2 (a.tmps.getD p.1 undef)) : ∀ (xs : List Operand) (vs : List V), cOkl xs vs → (∀ p ∈ ndl xs vs, p ∈ need) →
    (xs.map a.eval).length = vs.length ∧ ∀ i v, vs[i]? = some v → R e v ((xs.map a.eval).getD i undef)
  | [], [], _, _ => ⟨rfl, fun i v h => by simp at h⟩
  | x :: xs, v :: vs, ⟨h1, h2⟩, hs => by
    obtain ⟨a1, a2⟩ := args_of hn xs vs h2 (fun p hp => hs p (List.mem_append_right _ hp))
    refine ⟨by simp [a1], fun i u hu => ?_⟩
    cases i with
    | zero => simp at hu; subst hu; simp; exact R.operand hn h1 (fun p hp => hs p (List.mem_append_left _ hp))
    | succ i => simp at hu; simpa using a2 i u hu
  | [], _ :: _, h, _ => h.elim
  | _ :: _, [], h, _ => h.elim

theorem passes_sound {G : Glob} {e : Env} (ok : Ok G e) {nob : List (Nat × Box)} {flat : Bool} (hn : ∀ p ∈ nob, e.ob p.1 = some p.2) : ∀ (vs us : List V) (xs : List Value), Passes nob flat vs us →
    xs.length = vs.length → (∀ i v, vs[i]? = some v → R e v (xs.getD i undef)) → xs.length = us.length ∧ ∀ i v, us[i]? = some v → R (Env.bare e.w (fun b => e.S b ∨ (flat = false ∧ e.Own b)) e.Sp) v (xs.getD i undef)
  | [], [], xs, _, hl, _ => ⟨hl, fun i v h => by simp at h⟩
  | v :: vs, u :: us, [], _, hl, _ => by simp at hl
  | v :: vs, u :: us, x :: xs, ⟨h1, h2⟩, hl, hr => by
    obtain ⟨a1, a2⟩ := passes_sound ok hn vs us xs h2 (by simpa using hl) (fun i w hw => by simpa using hr (i + 1) w (by simpa using hw))
    refine ⟨by simp [a1], fun i w hw => ?_⟩
    cases i with
    | zero => simp at hw; subst hw; have := hr 0 v (by simp); simp at this; simpa using h1.sound ok hn _ this
    | succ i => simp at hw; simpa using a2 i w hw
  | [], _ :: _, _, h, _, _ => h.elim
  | _ :: _, [], _, h, _, _ => h.elim

/-- A function that has a body. -/
structure FnOk (P : Program) (K : FuncId) : Prop where
  has : ∃ fn, P.funcs[K]? = some fn ∧ (fn.name == "runtime.NumGoroutine") = false ∧ fn.body.isNone = false

theorem FnOk.run {P : Program} {K : FuncId} (h : FnOk P K) (xs : Array Value) (w : World) : (callFunc K xs).run P w = .ok (.enter K xs) w := by
  obtain ⟨fn, h1, h2, h3⟩ := h
  have h2' : fn.name ≠ "runtime.NumGoroutine" := by simpa using h2
  have h3' : ¬ fn.body = none := by cases hb : fn.body <;> simp_all
  simp [callFunc, h1, h2', h3']

/-- Behind a call that turned nothing. -/
theorem grow_world {G : Glob} {e : Env} (ok : Ok G e) {w' : World} (h : Frame0 (fun _ => False) e.w w') : Grow G e { e with w := w' } := by
  have F : Follows e { e with w := w' } := ⟨h.size, fun b hb _ => h.block b hb (fun h => h), fun _ _ h => h, fun _ _ h => h, fun _ _ h => h⟩
  have I : IdKeeps e { e with w := w' } := fun id hu => ⟨hu, fun o' ho' => ⟨rfl, rfl, o', ho', o'.like_refl⟩⟩
  refine ⟨⟨⟨h.os.trans ok.fr.os, h.tape.trans ok.fr.tape, h.output.trans ok.fr.output, Nat.le_trans ok.fr.size h.size, Nat.le_trans ok.fr.drawn h.drawn, fun k hk hW => ?_⟩, ok.S, ok.Sp, fun id o ho => ?_, ok.inj, ok.fresh, ok.used, ok.low⟩, F, I⟩
  · exact (h.block k (Nat.lt_of_lt_of_le hk ok.fr.size) (fun h => h)).trans (ok.fr.block k hk hW)
  · have hh := ok.held id o ho
    exact hh.keep F I rfl rfl (fun b hb => h.block b (hh.lt hb) (fun h => h))

section
variable {G : Glob} {dst : Option Tmp} {ty : TypeId} {pos : String} {af : Array Edge} {g : Option (Nat × Bool)}

theorem does_call (K : FuncId) (n : Nat) (caps : Nat → V) (fop : Operand) (xs : List Operand) (vs : List V) (nob : List (Nat × Box)) (flat : Bool) (us : List V) (res : V) (args : Array Operand) (ats : Array TypeId)
    (ha : args.toList = xs) (hK : FnOk G.P K) (hf : cOk fop (.fn K n caps)) (hc : cOkl xs vs) (hp : Passes nob flat (vs ++ (List.range n).map caps) us) (hs : FSpec G.P K us res) (hr : if flat then res.Flat else res.Data) :
    Does G ⟨dst, .call { callee := .value fop, args := args, argTypes := ats }, ty, pos, af, g⟩ { need := nd fop (.fn K n caps) ++ ndl xs vs, nob := nob, eff := { v := res } } := by
  intro e a ok hn K' Q hKK
  obtain ⟨h1, h2, _⟩ := hn
  obtain ⟨cs, hfv, hcs, hcr⟩ := (R.operand h1 hf (fun _ h => List.mem_append_left _ h) : R e (.fn K n caps) (a.eval fop))
  obtain ⟨a1, a2⟩ := args_of h1 xs vs hc (fun _ h => List.mem_append_right _ h)
  have hall : ∀ i v, (vs ++ (List.range n).map caps)[i]? = some v → R e v ((xs.map a.eval ++ cs.toList).getD i undef) := by
    intro i v hv
    by_cases hi : i < vs.length
    · rw [List.getElem?_append_left hi] at hv
      have := a2 i v hv
      rw [List.getD_eq_getElem?_getD] at this ⊢
      rw [List.getElem?_append_left (by omega)]; exact this
    · rw [List.getElem?_append_right (by omega)] at hv
      have hlt : i - vs.length < n := by
        have := (List.getElem?_eq_some_iff.1 hv).1; simpa using this
      have := hcr (i - vs.length) hlt
      simp [hlt] at hv
      subst hv
      rw [List.getD_eq_getElem?_getD, List.getElem?_append_right (by omega), a1]
      simpa [Array.getD_eq_getD_getElem?] using this
  obtain ⟨b1, b2⟩ := passes_sound ok h2 _ us (xs.map a.eval ++ cs.toList) hp (by simp [a1, hcs] ) hall
  have hcall := hs e.w (fun b => e.S b ∨ (flat = false ∧ e.Own b)) e.Sp (xs.map a.eval ++ cs.toList).toArray (fun b hb => by
    rcases hb with (hb | hb) | hb
    · have := ok.low b (.inl (ok.S ▸ hb)); have := ok.fr.size; omega
    · exact ok.own_lt hb.2
    · have := ok.low b (.inr (ok.Sp ▸ hb)); have := ok.fr.size; omega) ⟨by simpa using b1, fun i v hv => by simpa [Array.getD_eq_getD_getElem?, List.getD_eq_getElem?_getD] using b2 i v hv⟩
  unfold Oper.wp
  have hexec : (execOp a.eval ⟨dst, .call { callee := .value fop, args := args, argTypes := ats }, ty, pos, af, g⟩).run G.P e.w = .ok (.enter K (xs.map a.eval ++ cs.toList).toArray) e.w := by
    have e1 : args.map a.eval ++ cs = (xs.map a.eval ++ cs.toList).toArray := by
      rw [← ha]; apply Array.ext'; simp
    simp only [execOp, resolve, Deferred.ofValue, hfv, Sem.run_bind, Sem.run_pure, Result.andThen_ok, invoke, Array.empty_append]
    rw [e1, hK.run]
  rw [hexec, Oper.upon_enter]
  refine hcall.mono ?_
  rintro en w' ⟨x, rfl, hx, hfr⟩
  refine hKK x { e with w := w' } (grow_world ok hfr) (by funext id; simp [appOb, lk]) (by simp) ?_
  cases flat with
  | true => exact R.flat res (by simpa using hr) x hx
  | false =>
    refine R.move (e := Env.bare w' (fun b => e.S b ∨ (false = false ∧ e.Own b)) e.Sp) (e' := { e with w := w' }) rfl ?_ res (by simpa using hr) x hx
    intro b k1 k2 _
    exact ⟨fun h => k1 (.inl h), k2, fun h => k1 (.inr ⟨rfl, h⟩)⟩
end

/-- A place of the walk that a state describes. -/
def Reach (G : Glob) (nt : Nat) (s : St) (a : Act) (w : World) : Prop := ∃ e, e.w = w ∧ Rel G nt s a e

/-- FROM a state ON: the code comes to an end that Q allows. -/
def AW (G : Glob) (nt : Nat) (s : St) (c : Code) (Q : Exit → Act → World → Prop) : Prop := ∀ a w, Reach G nt s a w → c.wp G.P Q a w

section
variable {G : Glob} {nt : Nat} {s s1 s2 : St} {Q : Exit → Act → World → Prop}

/-- What one state tells another one tells. -/
def Cov (G : Glob) (nt : Nat) (s s1 : St) : Prop := ∀ a w, Reach G nt s a w → Reach G nt s1 a w

theorem aw_region {id : Nat} {ops : Array Oper} {es : List Ent} {c : Code} (hr : Run G nt ops ops.toList s es s1) (h : AW G nt s1 c Q) : AW G nt s (.seq (.region id ops false) c) Q := by
  rintro a w ⟨e, rfl, hrel⟩
  exact wp_seq (region_seq hr hrel (fun a' e' h' => h a' _ ⟨e', rfl, h'⟩))
theorem aw_draw {id : Nat} {ops : Array Oper} {es : List Ent} {c : Code} (hm : G.P.follows .mixedOrders = true) (hr : Run G nt ops ops.toList s es s1) (hc : compat ops.toList es = true) (h : AW G nt s1 c Q) : AW G nt s (.seq (.region id ops true) c) Q := by
  rintro a w ⟨e, rfl, hrel⟩
  exact wp_seq (region_draw hm hr hc hrel (fun a' e' h' => h a' _ ⟨e', rfl, h'⟩))
theorem aw_region1 {id : Nat} {ops : Array Oper} {es : List Ent} (hr : Run G nt ops ops.toList s es s1) (h : ∀ a w, Reach G nt s1 a w → Q .normal a w) : AW G nt s (.region id ops false) Q := by
  rintro a w ⟨e, rfl, hrel⟩
  exact region_seq hr hrel (fun a' e' h' => h a' _ ⟨e', rfl, h'⟩)
theorem aw_draw1 {id : Nat} {ops : Array Oper} {es : List Ent} (hm : G.P.follows .mixedOrders = true) (hr : Run G nt ops ops.toList s es s1) (hc : compat ops.toList es = true) (h : ∀ a w, Reach G nt s1 a w → Q .normal a w) : AW G nt s (.region id ops true) Q := by
  rintro a w ⟨e, rfl, hrel⟩
  exact region_draw hm hr hc hrel (fun a' e' h' => h a' _ ⟨e', rfl, h'⟩)
theorem aw_cov {c : Code} (hc : Cov G nt s s1) (h : AW G nt s1 c Q) : AW G nt s c Q := fun a w hr => h a w (hc a w hr)
/-- The first part comes to a state, from which the second part is told. -/
theorem aw_cut {c d : Code} (h : AW G nt s c (Exit.then (Reach G nt s1) Q)) (h2 : AW G nt s1 d Q) : AW G nt s (.seq c d) Q :=
  fun a w hr => wp_seq (wp_mono (h a w hr) (fun e a' w' hq => by cases e <;> first | exact hq | exact h2 a' w' hq))
theorem aw_seq {c d : Code} (h : AW G nt s c (Exit.then (fun a w => d.wp G.P Q a w) Q)) : AW G nt s (.seq c d) Q := fun a w hr => wp_seq (h a w hr)
theorem aw_cond {t : Nat} {b : Bool} {c d : Code} (hb : lk s.sl t = some (.bool b)) (h1 : b = true → AW G nt s c Q) (h2 : b = false → AW G nt s d Q) : AW G nt s (.cond (.tmp t) c d) Q := by
  rintro a w ⟨e, rfl, hrel⟩
  have : a.eval (.tmp t) = .bool b := hrel.slots t _ hb
  exact wp_cond_split this (fun hb => h1 hb a _ ⟨e, rfl, hrel⟩) (fun hb => h2 hb a _ ⟨e, rfl, hrel⟩)
theorem aw_skip (h : ∀ a w, Reach G nt s a w → Q .normal a w) : AW G nt s .skip Q := fun a w hr => wp_skip (h a w hr)
theorem aw_ret (h : ∀ a w, Reach G nt s a w → Q .ret a w) : AW G nt s .ret Q := fun a w hr => wp_ret (h a w hr)
theorem aw_exit {i : Nat} (h : ∀ a w, Reach G nt s a w → Q (.exit i) a w) : AW G nt s (.exit i) Q := fun a w hr => wp_exit (h a w hr)
theorem aw_block {i : Nat} {c : Code} (h : AW G nt s c (Exit.inBlock i Q)) : AW G nt s (.block i c) Q := fun a w hr => wp_block (h a w hr)

/-- A loop, each round of which lowers a measure. -/
theorem aw_loop {ι : Type} (hd : ι → St) (inv : ι → Prop) (μ : ι → Nat) {c : Code} (i0 : ι) (h0 : inv i0) (hc : Cov G nt s (hd i0))
    (round : ∀ i, inv i → AW G nt (hd i) c (Exit.then (fun a w => ∃ j, inv j ∧ μ j < μ i ∧ Reach G nt (hd j) a w) Q)) : AW G nt s (.loop c) Q := by
  intro a w hr b k cs
  have key : ∀ n i a w, μ i = n → inv i → Reach G nt (hd i) a w →
      ∃ x a' w', Q x a' w' ∧ Arrives G.P (lone (b.at a (.code c :: .inLoop c :: k)) cs w) b k cs x a' w' := by
    intro n
    induction n using Nat.strongRecOn with
    | _ n ih =>
      intro i a w hn hi hr
      obtain ⟨x, a₁, w₁, hq, harr⟩ := round i hi a w hr b (.inLoop c :: k) cs
      cases x with
      | normal =>
        obtain ⟨j, hj, hlt, hrj⟩ := hq
        obtain ⟨e₂, a₂, w₂, hq₂, harr₂⟩ := ih (μ j) (hn ▸ hlt) j a₁ w₁ rfl hj hrj
        exact ⟨e₂, a₂, w₂, hq₂, .of_steps (Steps.trans harr (.one step_inLoop)) harr₂⟩
      | exit id => exact ⟨_, a₁, w₁, hq, .pass (x := .inLoop c) rfl (fun _ _ => .inl (by simp)) harr⟩
      | goto l => exact ⟨_, a₁, w₁, hq, .pass (x := .inLoop c) rfl (fun _ _ => .inl (by simp)) harr⟩
      | ret => exact ⟨_, a₁, w₁, hq, .pass (x := .inLoop c) rfl (fun _ _ => .inl (by simp)) harr⟩
      | panic ch => exact ⟨_, a₁, w₁, hq, .pass (x := .inLoop c) rfl (fun _ _ => .inl (by simp)) harr⟩
      | outgrown => exact ⟨_, a₁, w₁, hq, .pass (x := .inLoop c) rfl (fun _ _ => .inl (by simp)) harr⟩
  obtain ⟨x, a', w', hq, harr⟩ := key _ i0 a w rfl h0 (hc a w hr)
  exact ⟨x, a', w', hq, .of_steps (.one step_loop) harr⟩
end

end Go.Eng
