/- The engine's steps: what one operation does to claims, a region in the text's order, a region that draws its order. Conditions: none. -/
import Derived.Test.YtnfjibcfnchkkaaEngA
namespace Go.Eng

/-- What an operation leaves: what its slot tells, what becomes of own variables and arrays, which names are new. -/
structure Eff where
  v : V
  upd : List (Nat × Option Box) := []
  new : List Nat := []

def lk {α : Type} : List (Nat × α) → Nat → Option α
  | [], _ => none
  | (k, v) :: l, i => match Nat.beq k i with | true => some v | false => lk l i

theorem lk_cons {α : Type} (k : Nat) (v : α) (l : List (Nat × α)) (i : Nat) : lk ((k, v) :: l) i = if k = i then some v else lk l i := by
  simp only [lk]
  by_cases h : k = i
  · subst h; simp
  · have : Nat.beq k i = false := by cases hb : Nat.beq k i with | true => exact absurd (Nat.eq_of_beq_eq_true hb) h | false => rfl
    rw [this, if_neg h]

/-- All of a list, one behind the other. -/
def All {α : Type} (p : α → Prop) : List α → Prop
  | [] => True
  | a :: l => p a ∧ All p l

theorem All.mem {α : Type} {p : α → Prop} : ∀ {l : List α}, All p l → ∀ a ∈ l, p a
  | _ :: _, h, _, .head _ => h.1
  | _ :: _, h, _, .tail _ m => All.mem h.2 _ m

def appOb (u : List (Nat × Option Box)) (ob : Nat → Option Box) : Nat → Option Box := fun id =>
  match lk u id with
  | some o => o
  | none => ob id

/-- What is asked of slots and own variables ahead of a step, and what it leaves. -/
structure Ent where
  need : List (Nat × V) := []
  nob : List (Nat × Box) := []
  eff : Eff

def Needs (e : Env) (a : Act) (E : Ent) : Prop :=
  (∀ p ∈ E.need, R e p.2 (a.tmps.getD p.1 undef)) ∧ (∀ p ∈ E.nob, e.ob p.1 = some p.2) ∧ (∀ k ∈ E.eff.new, ¬ e.us k)

/-- What is handed on behind an operation. -/
def Gives (G : Glob) (e : Env) (a : Act) (dst : Option Tmp) (E : Eff) (K : Act → World → Prop) : Prop :=
  ∀ x e', Grow G e e' → e'.ob = appOb E.upd e.ob → (∀ k, e'.us k ↔ e.us k ∨ k ∈ E.new) → R e' E.v x → K (a.put dst x) e'.w

/-- An operation, carried out. -/
def Does (G : Glob) (o : Oper) (E : Ent) : Prop :=
  ∀ (e : Env) (a : Act), Ok G e → Needs e a E → ∀ K Q, Gives G e a o.dst E.eff K → o.wp G.P a e.w K Q

/-- An operation that comes up: carried out, or passed by. -/
def Step (G : Glob) (ops : Array Oper) (o : Oper) (E : Ent) : Prop :=
  ∀ (e : Env) (a : Act), Ok G e → Needs e a E → ∀ K Q, Gives G e a o.dst E.eff K →
    if Region.wanted o (yielded ops a.tmps) then o.wp G.P a e.w K Q else K (a.put o.dst undef) e.w

theorem Step.plain {G : Glob} {ops : Array Oper} {o : Oper} {E : Ent} (hg : o.guard = none) (h : Does G o E) : Step G ops o E := by
  intro e a ok hn K Q hK
  simp only [Region.wanted, hg, if_true]
  exact h e a ok hn K Q hK

theorem Grow.refl {G : Glob} {e : Env} (ok : Ok G e) : Grow G e e :=
  ⟨ok, Follows.refl e, fun _ hu => ⟨hu, fun o' ho' => ⟨rfl, rfl, o', ho', o'.like_refl⟩⟩⟩

/-- A slot that tells a condition, or nothing where it was passed by. -/
def gcond : V → Option Bool
  | .bool c => some c
  | .opt c0 (.bool c) => some (c0 && c)
  | _ => none
def gcondN : V → Option Bool
  | .bool c => some (!c)
  | .opt c0 (.bool c) => some (c0 && !c)
  | _ => none

def boolOf : Value → Option Bool
  | .bool b => some b
  | _ => none

theorem yielded_of {ops : Array Oper} {tmps : Array Value} {j t : Nat} {o : Oper} (hj : ops[j]? = some o) (hd : o.dst = some t) :
    yielded ops tmps j = boolOf (tmps.getD t undef) := by
  unfold yielded
  rw [hj]
  simp only [Option.bind_some, hd]
  by_cases h : t < tmps.size
  · simp only [Array.getD, h, dite_true, Array.getElem?_eq_getElem, Array.getInternal_eq_getElem]
    cases tmps[t] <;> rfl
  · simp [Array.getD, h, undef, boolOf]

theorem guard_of {e : Env} {gv : V} {x : Value} {want c : Bool} (hc : (if want then gcond gv else gcondN gv) = some c) (h : R e gv x) :
    (boolOf x == some want) = c := by
  cases gv with
  | bool b =>
    have : x = .bool b := h
    subst this
    cases want <;> simp [gcond, gcondN] at hc <;> cases b <;> simp_all [boolOf]
  | opt c0 v =>
    cases v with
    | bool b =>
      obtain ⟨h1, h2⟩ := h
      cases c0 with
      | true =>
        have : x = .bool b := h1 rfl
        subst this
        cases want <;> simp [gcond, gcondN] at hc <;> cases b <;> simp_all [boolOf]
      | false =>
        have : x = undef := h2 rfl
        subst this
        cases want <;> simp [gcond, gcondN] at hc <;> subst hc <;> simp [boolOf, undef]
    | _ => cases want <;> simp [gcond, gcondN] at hc
  | _ => cases want <;> simp [gcond, gcondN] at hc

/-- A guarded operation: under its guard's condition it does what it does; else its slot tells nothing. -/
theorem Step.guarded {G : Glob} {ops : Array Oper} {o o' : Oper} {j t : Nat} {want c : Bool} {gv : V} {need : List (Nat × V)} {nob : List (Nat × Box)} {v : V}
    (hg : o.guard = some (j, want)) (hj : ops[j]? = some o') (hd : o'.dst = some t) (hc : (if want then gcond gv else gcondN gv) = some c)
    (h : c = true → Does G o { need := need, nob := nob, eff := { v := v } }) : Step G ops o { need := (t, gv) :: need, nob := nob, eff := { v := .opt c v } } := by
  intro e a ok hn K Q hK
  obtain ⟨h1, h2, h3⟩ := hn
  have hgv := h1 (t, gv) (by simp)
  have hw : Region.wanted o (yielded ops a.tmps) = c := by
    simp only [Region.wanted, hg, yielded_of hj hd]
    exact guard_of hc hgv
  rw [hw]
  cases c with
  | true =>
    simp only [if_true]
    refine h rfl e a ok ⟨fun p hp => h1 p (by simp [hp]), h2, h3⟩ K Q ?_
    intro x e' g ho hu hr
    exact hK x e' g ho hu ⟨fun _ => hr, fun q => absurd q (by simp)⟩
  | false =>
    simp only [Bool.false_eq_true, if_false]
    exact hK undef e (Grow.refl ok) (by funext id; simp [appOb, lk]) (by simp) ⟨fun q => absurd q (by simp), fun _ => rfl⟩

/-- What is known between steps. -/
structure St where
  sl : List (Nat × V)
  ob : List (Nat × Option Box)
  nx : Nat

def St.obf (s : St) : Nat → Option Box := appOb s.ob (fun _ => none)

structure Rel (G : Glob) (nt : Nat) (s : St) (a : Act) (e : Env) : Prop where
  ok : Ok G e
  slots : ∀ t v, lk s.sl t = some v → R e v (a.tmps.getD t undef)
  ob : e.ob = s.obf
  us : ∀ k, e.us k → k < s.nx
  size : a.tmps.size = nt
  defs : a.defers = []

def St.app (s : St) (dst : Option Tmp) (E : Eff) : St :=
  { sl := match dst with | some d => (d, E.v) :: s.sl | none => s.sl, ob := E.upd ++ s.ob, nx := s.nx + E.new.length }

def upTo (a n : Nat) : List Nat := (List.range n).map (a + ·)

/-- What a step asks is known. -/
def St.meets (s : St) (E : Ent) : Prop :=
  All (fun p => lk s.sl p.1 = some p.2) E.need ∧ All (fun p => s.obf p.1 = some p.2) E.nob ∧ E.eff.new = upTo s.nx E.eff.new.length

theorem lk_append {α : Type} (a b : List (Nat × α)) (i : Nat) : lk (a ++ b) i = match lk a i with | some v => some v | none => lk b i := by
  induction a with
  | nil => rfl
  | cons p a ih =>
    obtain ⟨k, v⟩ := p
    simp only [List.cons_append, lk_cons]
    split
    · rfl
    · exact ih

theorem obf_app (s : St) (dst : Option Tmp) (E : Eff) : (s.app dst E).obf = appOb E.upd s.obf := by
  funext id
  simp only [St.obf, appOb, St.app, lk_append]
  cases lk E.upd id <;> rfl

theorem Act.getD_put (a : Act) (d : Tmp) (x : Value) (t : Nat) (hd : d < a.tmps.size) : (a.put (some d) x).tmps.getD t undef = if d = t then x else a.tmps.getD t undef := by
  simp only [Act.put]
  by_cases h : d = t
  · subst h; simp [Array.getD, hd]
  · simp only [h, if_false]
    by_cases ht : t < a.tmps.size
    · simp [Array.getD, ht, h]
    · simp [Array.getD, ht]

def dstOk (nt : Nat) (o : Oper) : Bool :=
  match o.dst with
  | some d => decide (d < nt)
  | none => true

theorem Rel.step {G : Glob} {nt : Nat} {s : St} {a : Act} {e e' : Env} {o : Oper} {E : Eff} {x : Value} (h : Rel G nt s a e) (hd : dstOk nt o = true) (hnew : E.new = upTo s.nx E.new.length)
    (g : Grow G e e') (ho : e'.ob = appOb E.upd e.ob) (hu : ∀ k, e'.us k ↔ e.us k ∨ k ∈ E.new) (hr : R e' E.v x) : Rel G nt (s.app o.dst E) (a.put o.dst x) e' := by
  refine ⟨g.ok, ?_, ?_, ?_, ?_, ?_⟩
  · intro t v hv
    cases hdst : o.dst with
    | none =>
      rw [hdst] at hv
      exact g.keep (h.slots t v hv)
    | some d =>
      rw [hdst] at hv
      have hlt : d < a.tmps.size := by simp [dstOk, hdst] at hd; rw [h.size]; exact hd
      rw [Act.getD_put _ _ _ _ hlt]
      simp only [St.app, lk_cons] at hv
      split at hv
      · rename_i he; simp only [he, if_true]; cases hv; exact hr
      · rename_i he; simp only [he, if_false]; exact g.keep (h.slots t v hv)
  · rw [obf_app, ho, h.ob]
  · intro k hk
    rcases (hu k).1 hk with hk | hk
    · have := h.us k hk; simp only [St.app]; omega
    · rw [hnew] at hk
      simp only [upTo, List.mem_map, List.mem_range] at hk
      obtain ⟨i, hi, rfl⟩ := hk
      simp only [St.app]; omega
  · cases hdst : o.dst <;> simp [Act.put, h.size]
  · cases hdst : o.dst <;> simp [Act.put, h.defs]

theorem Rel.needs {G : Glob} {nt : Nat} {s : St} {a : Act} {e : Env} {E : Ent} (h : Rel G nt s a e) (hm : s.meets E) : Needs e a E := by
  obtain ⟨h1, h2, h3⟩ := hm
  refine ⟨fun p hp => h.slots _ _ (h1.mem p hp), fun p hp => by rw [h.ob]; exact h2.mem p hp, fun k hk hu => ?_⟩
  have := h.us k hu
  rw [h3] at hk
  simp only [upTo, List.mem_map, List.mem_range] at hk
  obtain ⟨i, hi, rfl⟩ := hk
  omega

/-- The steps of a region, in the text's order. -/
def Run (G : Glob) (nt : Nat) (all : Array Oper) : List Oper → St → List Ent → St → Prop
  | [], s, [], s' => s' = s
  | o :: os, s, E :: es, s' => Step G all o E ∧ s.meets E ∧ dstOk nt o = true ∧ Run G nt all os (s.app o.dst E.eff) es s'
  | _, _, _, _ => False

theorem Run.sound {G : Glob} {nt : Nat} {ops : Array Oper} {Q : Exit → Act → World → Prop} {s' : St} :
    ∀ (l : List Nat) (os : List Oper) (s : St) (es : List Ent) (a : Act) (e : Env), (l.map fun i => ops[i]?) = os.map some → Run G nt ops os s es s' → Rel G nt s a e →
    (∀ a' e', Rel G nt s' a' e' → Q .normal a' e'.w) → wpOps G.P ops Q l a e.w
  | [], os, s, es, a, e, hl, hr, hrel, hQ => by
    cases os with
    | nil =>
      cases es with
      | nil => simp only [Run] at hr; subst hr; exact hQ a e hrel
      | cons E es => exact hr.elim
    | cons o os => simp at hl
  | i :: l, os, s, es, a, e, hl, hr, hrel, hQ => by
    cases os with
    | nil => simp at hl
    | cons o os =>
      cases es with
      | nil => exact hr.elim
      | cons E es =>
        obtain ⟨hst, hm, hd, hrest⟩ := hr
        simp only [List.map_cons, List.cons.injEq] at hl
        obtain ⟨ho, hl⟩ := hl
        rw [wpOps_cons]
        unfold wpOp
        rw [ho]
        simp only []
        have key := hst e a hrel.ok (hrel.needs hm) (wpOps G.P ops Q l) Q (fun x e' g h1 h2 h3 => Run.sound l os _ es _ e' hl hrest (hrel.step hd hm.2.2 g h1 h2 h3) hQ)
        split
        · rename_i hw; rw [if_pos hw] at key; exact .inl key
        · rename_i hw; rw [if_neg hw] at key; exact key

theorem region_seq {G : Glob} {nt id : Nat} {ops : Array Oper} {Q : Exit → Act → World → Prop} {s s' : St} {es : List Ent} {a : Act} {e : Env}
    (hr : Run G nt ops ops.toList s es s') (hrel : Rel G nt s a e) (hQ : ∀ a' e', Rel G nt s' a' e' → Q .normal a' e'.w) : (Code.region id ops false).wp G.P Q a e.w := by
  refine wp_region (Run.sound (List.range ops.size) ops.toList s es a e ?_ hr hrel hQ)
  apply List.ext_getElem?
  intro i
  simp only [List.getElem?_map]
  by_cases h : i < ops.size
  · simp [h]
  · simp [h]

end Go.Eng
