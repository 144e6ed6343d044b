/- The engine's law on a call that takes own arrays and hands own arrays back, and on a function of that kind as a whole. Conditions: none. -/
import Derived.Test.YtnfjibcfnchkkaaEngT
namespace Go.Eng

/-- WHAT A FUNCTION DOES, own arrays among what it takes and hands back: it may turn the arrays that it is handed as its own, and nothing else that was there. -/
def FSpecO (P : Program) (K : FuncId) (args : List V) (ob0 : List (Nat × Option Box)) (n0 : Nat) (res : V) (ob1 : List (Nat × Option Box)) (n1 : Nat) : Prop :=
  ∀ (e0 : Env) (xs : Array Value), Ok ⟨P, e0.w, e0.Own, e0.S, e0.Sp⟩ e0 → e0.ob = appOb ob0 (fun _ => none) → (∀ k, e0.us k → k < n0) → ArgsAre e0 args xs →
    Calls P K xs e0.w fun e w' => ∃ x e1, e = .returned x ∧ e1.w = w' ∧ Ok ⟨P, e0.w, e0.Own, e0.S, e0.Sp⟩ e1 ∧ e1.ob = appOb ob1 (fun _ => none) ∧ (∀ k, e1.us k → k < n1) ∧ R e1 res x

def RetOneO (P : Program) (s : St) : ResultVar → V → Prop
  | .tmp t, v => lk s.sl t = some v
  | .cell t T, v => ∃ id, lk s.sl t = some (.ptr id 0 []) ∧ s.obf id = some (.var v) ∧ TyOk P T v.isAgg v.size
def RetLO (P : Program) (s : St) : List ResultVar → List V → Prop
  | [], [] => True
  | r :: rs, v :: vs => RetOneO P s r v ∧ RetLO P s rs vs
  | _, _ => False

theorem RetOneO.run {G : Glob} {nt : Nat} {s : St} {a : Act} {e : Env} (h : Rel G nt s a e) {r : ResultVar} {v : V} (hr : RetOneO G.P s r v) : ∃ x, oneRun G.P a.tmps e.w x r ∧ R e v x := by
  cases r with
  | tmp t => exact ⟨_, by simp only [oneRun, Array.getD_eq_getD_getElem?], h.slots t _ hr⟩
  | cell t T =>
    obtain ⟨id, h1, h2, hT⟩ := hr
    obtain ⟨hu, hx⟩ := h.slots t _ h1
    rw [← h.ob] at h2
    obtain ⟨b, hb, hx⟩ := hx _ h2
    obtain ⟨b', cs, T', e1, e2, e3, e4, e5⟩ := h.ok.held id _ h2
    obtain rfl : b = b' := by rw [hb] at e1; exact Option.some.inj e1
    exact ⟨_, ⟨_, by rw [← Array.getD_eq_getD_getElem?]; exact hx, run_loadVar_row' hT e2.1 (by omega)⟩, e5⟩

theorem resultsO_run {G : Glob} {nt : Nat} {s : St} {a : Act} {e : Env} (h : Rel G nt s a e) {fn : Func} {rs : List ResultVar} (hrs : fn.results = rs.toArray) {vs : List V} (hr : RetLO G.P s rs vs) (hn : rs.length ≤ 3) :
    ∃ x, (results fn a.tmps).run G.P e.w = .ok x e.w ∧ R e (resV vs) x := by
  match rs, vs, hr, hn with
  | [], [], _, _ => exact ⟨.tuple #[], by simp [results, hrs], ⟨#[], rfl, rfl, fun j hj => absurd hj (by simp)⟩⟩
  | [r], [v], ⟨h1, _⟩, _ =>
    obtain ⟨x, hx, hR⟩ := h1.run h
    refine ⟨x, ?_, hR⟩
    cases r with
    | tmp t => simp only [oneRun] at hx; simp [results, hrs, hx]
    | cell t T => obtain ⟨ad, q1, q2⟩ := hx; simp [results, hrs, q1, asAddr, q2]
  | [r1, r2], [v1, v2], ⟨h1, h2, _⟩, _ =>
    obtain ⟨x1, hx1, hR1⟩ := h1.run h
    obtain ⟨x2, hx2, hR2⟩ := h2.run h
    refine ⟨.tuple #[x1, x2], ?_, ⟨#[x1, x2], rfl, rfl, fun j hj => ?_⟩⟩
    · cases r1 <;> cases r2 <;> simp only [oneRun] at hx1 hx2 <;> (try obtain ⟨ad1, p1, q1⟩ := hx1) <;> (try obtain ⟨ad2, p2, q2⟩ := hx2) <;> simp [results, asAddr, *]
    · match j, hj with
      | 0, _ => exact hR1
      | 1, _ => exact hR2
      | n + 2, hj => exact absurd hj (by simp)
  | [r1, r2, r3], [v1, v2, v3], ⟨h1, h2, h3, _⟩, _ =>
    obtain ⟨x1, hx1, hR1⟩ := h1.run h
    obtain ⟨x2, hx2, hR2⟩ := h2.run h
    obtain ⟨x3, hx3, hR3⟩ := h3.run h
    refine ⟨.tuple #[x1, x2, x3], ?_, ⟨#[x1, x2, x3], rfl, rfl, fun j hj => ?_⟩⟩
    · cases r1 <;> cases r2 <;> cases r3 <;> simp only [oneRun] at hx1 hx2 hx3 <;> (try obtain ⟨ad1, p1, q1⟩ := hx1) <;> (try obtain ⟨ad2, p2, q2⟩ := hx2) <;> (try obtain ⟨ad3, p3, q3⟩ := hx3) <;> simp [results, asAddr, *]
    · match j, hj with
      | 0, _ => exact hR1
      | 1, _ => exact hR2
      | 2, _ => exact hR3
      | n + 3, hj => exact absurd hj (by simp)

/-- The end of such a function, as its code's post. -/
def FnPostO (G : Glob) (fn : Func) (nt : Nat) (res : V) (ob1 : List (Nat × Option Box)) (n1 : Nat) (x : Exit) (a : Act) (w : World) : Prop :=
  match x with
  | .normal | .ret => ∃ s vs, Reach G nt s a w ∧ RetLO G.P s fn.results.toList vs ∧ fn.results.size ≤ 3 ∧ resV vs = res ∧ All (fun p => s.obf p.1 = p.2) ob1 ∧ s.nx ≤ n1
  | _ => False

theorem specO_of {P : Program} {K : FuncId} {fn : Func} {c : Code} {args : List V} {ob0 ob1 : List (Nat × Option Box)} {n0 n1 : Nat} {res : V} (hf : P.funcs[K]? = some fn) (hb : fn.body = some c) (hnt : args.length ≤ fn.ntmps)
    (h : ∀ G : Glob, G.P = P → AW G fn.ntmps { sl := initSl 0 args, ob := ob0, nx := n0 } c (FnPostO G fn fn.ntmps res ob1 n1)) : FSpecO P K args ob0 n0 res ob1 n1 := by
  intro e0 xs hok hob hus hargs
  obtain ⟨hsz, hargs⟩ := hargs
  have G : ∃ G : Glob, G = ⟨P, e0.w, e0.Own, e0.S, e0.Sp⟩ := ⟨_, rfl⟩
  obtain ⟨G, hG⟩ := G
  rw [← hG] at hok
  have hP : G.P = P := by subst hG; rfl
  have hw := h G hP { tmps := xs ++ Array.replicate (fn.ntmps - xs.size) undef, defers := [] } e0.w ⟨e0, rfl, ⟨hok, ?_, hob, hus, ?_, rfl⟩⟩
  · rw [hP] at hw
    refine calls_of_wp hf hb (wp_mono hw ?_)
    intro x a w' hq
    have fin : (∃ s vs, Reach G fn.ntmps s a w' ∧ RetLO G.P s fn.results.toList vs ∧ fn.results.size ≤ 3 ∧ resV vs = res ∧ All (fun p => s.obf p.1 = p.2) ob1 ∧ s.nx ≤ n1) →
        a.defers = [] ∧ ∃ v, (results fn a.tmps).run P w' = .ok v w' ∧ ∃ y e1, (Ending.returned v) = .returned y ∧ e1.w = w' ∧ Ok ⟨P, e0.w, e0.Own, e0.S, e0.Sp⟩ e1 ∧ e1.ob = appOb ob1 (fun _ => none) ∧ (∀ k, e1.us k → k < n1) ∧ R e1 res y := by
      rintro ⟨s, vs, ⟨e, rfl, hrel⟩, hret, hn, hres, hall, hnx⟩
      obtain ⟨y, hy, hR⟩ := resultsO_run hrel (fn := fn) (rs := fn.results.toList) (by simp) hret (by simpa using hn)
      -- the answer's own arrays alone stay
      have obIn : ∀ (l : List (Nat × Option Box)) id o1, appOb l (fun _ => none) id = some o1 → ∃ p ∈ l, p.1 = id ∧ p.2 = some o1 := by
        intro l id o1
        induction l with
        | nil => intro h; simp [appOb, lk] at h
        | cons q l ih =>
          obtain ⟨k, o⟩ := q
          intro h
          simp only [appOb, lk_cons] at h ih
          by_cases hk : k = id
          · rw [if_pos hk] at h; exact ⟨(k, o), by simp, hk, h⟩
          · rw [if_neg hk] at h
            obtain ⟨p, h1, h2⟩ := ih h
            exact ⟨p, by simp [h1], h2⟩
      have hget : ∀ id o, appOb ob1 (fun _ => none) id = some o → e.ob id = some o := by
        intro id o h
        obtain ⟨p, hp, h1, h2⟩ := obIn _ _ _ h
        have := hall.mem p hp
        rw [hrel.ob, ← h1, this, h2]
      have F : Follows e { e with ob := appOb ob1 (fun _ => none) } := by
        refine ⟨Nat.le_refl _, fun _ _ _ => rfl, ?_, fun _ _ h => h, fun _ _ h => h⟩
        rintro b _ ⟨id, o, h1, h2⟩
        exact ⟨id, o, hget id o h1, h2⟩
      have I : IdKeeps e { e with ob := appOb ob1 (fun _ => none) } := fun id hu => ⟨hu, fun o' ho' => ⟨rfl, rfl, o', hget id o' ho', o'.like_refl⟩⟩
      have ok := hrel.ok
      refine ⟨hrel.defs, y, by rw [← hP]; exact hy, y, { e with ob := appOb ob1 (fun _ => none) }, rfl, rfl, ?_, rfl, fun k hk => Nat.lt_of_lt_of_le (hrel.us k hk) hnx, by subst hres; exact R.keep F _ (.inl I) _ hR⟩
      rw [← hG]
      refine ⟨ok.fr, ok.S, ok.Sp, ?_, ?_, ?_, ?_, ok.low⟩
      · intro id o h
        exact (ok.held id o (hget id o h)).keep F I rfl rfl (fun b _ => rfl)
      · intro i j oi oj b h1 h2 h3 h4
        exact ok.inj i j oi oj b (hget i oi h1) (hget j oj h2) h3 h4
      · intro i o b h1 h2
        exact ok.fresh i o b (hget i o h1) h2
      · intro i o h1
        exact ok.used i o (hget i o h1)
    cases x with
    | normal => exact fin hq
    | ret => exact fin hq
    | exit i => exact hq.elim
    | goto l => exact hq.elim
    | panic c => exact hq.elim
    | outgrown => exact hq.elim
  · intro t v hv
    obtain ⟨_, h2⟩ := lk_init args 0 t v hv
    have hlt : t < args.length := by have := (List.getElem?_eq_some_iff.1 h2).1; omega
    have := hargs t v h2
    have e1 : (xs ++ Array.replicate (fn.ntmps - xs.size) undef).getD t undef = xs.getD t undef := by
      simp only [Array.getD_eq_getD_getElem?]
      rw [Array.getElem?_append_left (by omega)]
    rw [e1]; exact this
  · simp; omega

theorem Pass.shift {e e' : Env} (hw : e'.w = e.w) (h1 : ∀ b, ¬ e.Sp b → ¬ e.Own b → ¬ e'.Sp b ∧ ¬ e'.Own b) (h2 : ∀ b, ¬ e.S b → ¬ e.Sp b → ¬ e.Own b → ¬ e'.S b) {nob : List (Nat × Box)} {flat : Bool} {v u : V} (h : Pass nob flat v u) : ∀ x, R e u x → R e' u x := by
  induction h with
  | data v h => exact R.shift hw h1 h2 _ (.inr h.plain)
  | cptr v h => exact R.shift hw h1 h2 _ (.inr h.plain)
  | ptr id off path o v hm hp hoff hv h => exact R.shift hw h1 h2 _ (.inr h.plain)
  | own id es n f hm hf h => exact R.shift hw h1 h2 _ (.inr fun j => (h j).plain)
  | fn k n f g h ih =>
    rintro x ⟨cs, hx, hs, hr⟩
    exact ⟨cs, hx, hs, fun j hj => ih j hj _ (hr j hj)⟩
  | cptrF v h ih =>
    rintro x ⟨ad, cs, hx, hP, hO, hs, hcell, ha1, hr⟩
    exact ⟨ad, cs, hx, (h1 _ hP hO).1, (h1 _ hP hO).2, hs, by rw [hw]; exact hcell, ha1, ih _ hr⟩
  | ptrF id off path o v hm hp hoff hv h ih =>
    rintro x ⟨ad, cs, hx, hP, hO, hs, hcell, ha1, hr⟩
    exact ⟨ad, cs, hx, (h1 _ hP hO).1, (h1 _ hP hO).2, hs, by rw [hw]; exact hcell, ha1, ih _ hr⟩

theorem Pass.size {nob : List (Nat × Box)} {flat : Bool} {v u : V} (h : Pass nob flat v u) : v.size = u.size ∧ v.isAgg = u.isAgg := by
  cases h <;> exact ⟨rfl, rfl⟩

/-- How claims are seen by a call to which own arrays are given over. -/
inductive PassO (nob : List (Nat × Box)) (flat : Bool) (ids : List Nat) : V → V → Prop where
  | ro (v u : V) (h : Pass nob flat v u) : PassO nob flat ids v u
  | mv (i k : Nat) (h : ids[i]? = some k) : PassO nob flat ids (.own k) (.own i)
  | agg (L : Lay) (f g : Nat → V) (h : ∀ j, PassO nob flat ids (f j) (g j)) : PassO nob flat ids (.agg L f) (.agg L g)
theorem PassO.size {nob : List (Nat × Box)} {flat : Bool} {ids : List Nat} {v u : V} (h : PassO nob flat ids v u) : v.size = u.size ∧ v.isAgg = u.isAgg := by
  cases h with
  | ro _ _ h => exact h.size
  | mv => exact ⟨rfl, rfl⟩
  | agg => exact ⟨rfl, rfl⟩
def PassesO (nob : List (Nat × Box)) (flat : Bool) (ids : List Nat) : List V → List V → Prop
  | [], [] => True
  | v :: vs, u :: us => PassO nob flat ids v u ∧ PassesO nob flat ids vs us
  | _, _ => False

/-- How an answer with own arrays is seen by who called. -/
inductive ResO (flat : Bool) (nx n1 : Nat) : V → V → Prop where
  | data (v : V) (h : if flat then v.Flat else v.Data) : ResO flat nx n1 v v
  | own (j : Nat) (h : j < n1) : ResO flat nx n1 (.own j) (.own (nx + j))
  | agg (L : Lay) (f g : Nat → V) (h : ∀ j, ResO flat nx n1 (f j) (g j)) : ResO flat nx n1 (.agg L f) (.agg L g)
  | tup (n : Nat) (f g : Nat → V) (h : ∀ j, ResO flat nx n1 (f j) (g j)) : ResO flat nx n1 (.tup n f) (.tup n g)
theorem ResO.size {flat : Bool} {nx n1 : Nat} {v u : V} (h : ResO flat nx n1 v u) : v.size = u.size ∧ v.isAgg = u.isAgg := by
  cases h <;> exact ⟨rfl, rfl⟩

def ob0Of (mvs : List (Nat × Box)) (k : Nat) : List (Nat × Option Box) := (mvs.zipIdx k).map fun p => (p.2, some p.1.2)
theorem ob0_get : ∀ (mvs : List (Nat × Box)) (k i : Nat) (o : Box), appOb (ob0Of mvs k) (fun _ => none) i = some o → k ≤ i ∧ ∃ id, mvs[i - k]? = some (id, o)
  | [], k, i, o, h => by simp [ob0Of, appOb, lk] at h
  | (id, b) :: mvs, k, i, o, h => by
    simp only [ob0Of, List.zipIdx_cons, List.map_cons, appOb, lk_cons] at h
    by_cases hk : k = i
    · subst hk
      simp at h; subst h
      exact ⟨Nat.le_refl _, id, by simp⟩
    · rw [if_neg hk] at h
      obtain ⟨h1, id', h2⟩ := ob0_get mvs (k + 1) i o h
      refine ⟨by omega, id', ?_⟩
      rw [show i - k = (i - (k + 1)) + 1 by omega]; simpa using h2
theorem lk_shift {α : Type} (nx : Nat) : ∀ (l : List (Nat × α)) (j : Nat), lk (l.map fun p => (nx + p.1, p.2)) (nx + j) = lk l j
  | [], _ => rfl
  | (k, v) :: l, j => by simp only [List.map_cons, lk_cons, lk_shift nx l j]; by_cases h : k = j <;> simp [h]
theorem lk_shift_none {α : Type} (nx : Nat) : ∀ (l : List (Nat × α)) (j : Nat), j < nx → lk (l.map fun p => (nx + p.1, p.2)) j = none
  | [], _, _ => rfl
  | (k, v) :: l, j, h => by simp only [List.map_cons, lk_cons, lk_shift_none nx l j h]; rw [if_neg (by omega)]
theorem lk_none {α : Type} (l : List (Nat × α)) (j : Nat) : lk (l.map fun p => (p.1, (none : Option Box))) j = if j ∈ l.map (·.1) then some none else none := by
  induction l with
  | nil => rfl
  | cons p l ih =>
    obtain ⟨k, v⟩ := p
    simp only [List.map_cons, lk_cons, ih, List.mem_cons]
    by_cases h : k = j
    · simp [h]
    · have h' : ¬ j = k := fun q => h q.symm
      rw [if_neg h]; simp only [h', false_or]

/-- What own arrays that are handed over, or handed back, hold: data without a slice. -/
def FlatBox : Box → Prop
  | .arr _ _ f => ∀ j, (f j).Flat
  | .var _ => False

theorem Held.flat {e e' : Env} {i k : Nat} {o : Box} (h : Held e i o) (hf : FlatBox o) (ht : e'.th k = e.th i) (hk : e'.kap k = e.kap i) (hw : ∀ b, e.th i = some b → e'.w.heap[b]? = e.w.heap[b]?) : Held e' k o := by
  cases o with
  | var v => exact hf.elim
  | arr es n f =>
    simp only [Held] at h ⊢
    rw [ht]
    cases hth : e.th i with
    | none => rw [hth] at h; exact h
    | some b =>
      rw [hth] at h
      obtain ⟨cs, T, h2, h3, h4, h5, h6⟩ := h
      exact ⟨cs, T, h2.heap (hw b hth), by rw [hk]; exact h3, by rw [hk]; exact h4, h5, fun j hj => ⟨(h6 j hj).1, R.flat _ (hf j) _ (h6 j hj).2⟩⟩

theorem Flat.data {v : V} (h : v.Flat) : v.Data := by
  induction v with
  | int k n => trivial
  | bool b => trivial
  | str s => trivial
  | nil => trivial
  | agg L f ih => exact fun j => ih j (h j)
  | tup n f ih => exact fun j => ih j (h j)
  | _ => exact h.elim

section
variable {G : Glob} {dst : Option Tmp} {ty : TypeId} {pos : String} {af : Array Edge} {g : Option (Nat × Bool)}

theorem does_callO (K : FuncId) (n : Nat) (caps : Nat → V) (fop : Operand) (xs : List Operand) (vs : List V) (nobR mvs : List (Nat × Box)) (flat : Bool) (us : List V) (res res' : V) (ob1 : List (Nat × Option Box)) (nx n1 : Nat) (args : Array Operand) (ats : Array TypeId)
    (ha : args.toList = xs) (hK : FnOk G.P K) (hf : cOk fop (.fn K n caps)) (hc : cOkl xs vs) (hp : PassesO nobR flat (mvs.map (·.1)) (vs ++ (List.range n).map caps) us) (hs : FSpecO G.P K us (ob0Of mvs 0) mvs.length res ob1 n1)
    (hdis : nobR.all (fun p => !(mvs.map (·.1)).contains p.1) = true) (hnd : (mvs.map (·.1)).Nodup) (hlow : (mvs.map (·.1)).all (fun i => Nat.blt i nx) = true) (hmf : All (fun p => FlatBox p.2) mvs) (hof : All (fun p => p.1 < n1 ∧ ∃ o, p.2 = some o ∧ FlatBox o) ob1) (hr : ResO flat nx n1 res res') :
    Does G ⟨dst, .call { callee := .value fop, args := args, argTypes := ats }, ty, pos, af, g⟩ { need := nd fop (.fn K n caps) ++ ndl xs vs, nob := nobR ++ mvs, eff := { v := res', upd := (ob1.map fun p => (nx + p.1, p.2)) ++ (mvs.map fun p => (p.1, none)), new := upTo nx n1 } } := by
  intro e a ok hn K' Q hKK
  obtain ⟨h1, h2, hnew⟩ := hn
  have hmem : ∀ p ∈ mvs, e.ob p.1 = some p.2 := fun p hp => h2 p (List.mem_append_right _ hp)
  have hmlow : ∀ i ∈ mvs.map (·.1), i < nx := fun i hi => by
    have := List.all_eq_true.1 hlow i hi
    exact Nat.le_of_ble_eq_true this
  -- the blocks that are given over
  have gv : ∃ gv : Nat → Prop, gv = fun b => ∃ p ∈ mvs, e.th p.1 = some b := ⟨_, rfl⟩
  obtain ⟨gv, hgv⟩ := gv
  have gvOwn : ∀ b, gv b → e.Own b := by
    intro b hb; rw [hgv] at hb; obtain ⟨p, hp, h⟩ := hb; exact ⟨p.1, p.2, hmem p hp, h⟩
  have gvOther : ∀ i o b, e.ob i = some o → e.th i = some b → i ∉ mvs.map (·.1) → ¬ gv b := by
    intro i o b q1 q2 q3 q4
    rw [hgv] at q4
    obtain ⟨p, hp, h⟩ := q4
    exact q3 (List.mem_map.2 ⟨p, hp, ok.inj _ _ _ _ b (hmem p hp) q1 h q2⟩)
  -- the caller's own view, without what is given over
  have ec : ∃ ec : Env, ec = { e with ob := fun k => if k ∈ mvs.map (·.1) then none else e.ob k, Sp := fun b => e.Sp b ∨ gv b } := ⟨_, rfl⟩
  obtain ⟨ec, hec⟩ := ec
  have ecOwn : ∀ b, ec.Own b → e.Own b ∧ ¬ gv b := by
    rintro b ⟨i, o, q1, q2⟩
    subst hec
    simp only at q1 q2
    split at q1
    · cases q1
    · rename_i hni; exact ⟨⟨i, o, q1, q2⟩, gvOther i o b q1 q2 hni⟩
  have ecw : ec.w = e.w := by subst hec; rfl
  have I : IdKeeps e ec := by
    intro id hu
    subst hec
    refine ⟨hu, fun o' ho' => ⟨rfl, rfl, o', ?_, o'.like_refl⟩⟩
    simp only at ho'
    split at ho'
    · cases ho'
    · exact ho'
  have sh : ∀ v x, R e v x → R ec v x := fun v => R.shift ecw (fun b q1 q2 => ⟨fun q => by subst hec; rcases q with q | q; exact q1 q; exact q2 (gvOwn b q), fun q => q2 (ecOwn b q).1⟩) (fun b q1 _ _ => by subst hec; exact q1) v (.inl I)
  have okc : Ok ⟨G.P, e.w, ec.Own, e.S, ec.Sp⟩ ec := by
    refine ⟨by rw [ecw]; exact Frame0.refl _ _, by subst hec; rfl, rfl, ?_, ?_, ?_, ?_, ?_⟩
    · intro id o ho
      have ho' : e.ob id = some o := by
        subst hec; simp only at ho; split at ho
        · cases ho
        · exact ho
      have hh := ok.held id o ho'
      cases o with
      | var v =>
        obtain ⟨b, cs, T, q1, q2, q3, q4, q5⟩ := hh
        exact ⟨b, cs, T, by subst hec; exact q1, by rw [ecw]; exact q2, q3, q4, sh _ _ q5⟩
      | arr es n f =>
        simp only [Held] at hh ⊢
        have : ec.th = e.th := by subst hec; rfl
        have hk : ec.kap = e.kap := by subst hec; rfl
        rw [this, hk, ecw]
        split
        · rename_i h; rw [h] at hh; exact hh
        · rename_i b h
          rw [h] at hh
          obtain ⟨cs, T, q2, q3, q4, q5, q6⟩ := hh
          exact ⟨cs, T, q2, q3, q4, q5, fun j hj => ⟨(q6 j hj).1, sh _ _ (q6 j hj).2⟩⟩
    · intro i j oi oj b q1 q2 q3 q4
      subst hec
      simp only at q1 q2 q3 q4
      split at q1
      · cases q1
      · split at q2
        · cases q2
        · exact ok.inj i j oi oj b q1 q2 q3 q4
    · intro i o b q1 q2
      exact .inr ⟨i, o, q1, q2⟩
    · intro i o q1
      subst hec
      simp only at q1 ⊢
      split at q1
      · cases q1
      · exact ok.used i o q1
    · intro b hb
      rcases hb with hb | hb
      · have := ok.low b (.inl (ok.S ▸ hb)); have h9 := ok.fr.size
        refine ⟨by show b < e.w.heap.size; omega, fun q => ?_⟩
        obtain ⟨⟨i, o, r1, r2⟩, _⟩ := ecOwn b q
        exact (own_far ok r1 r2).1 hb
      · have hb' : e.Sp b ∨ gv b := by subst hec; exact hb
        rcases hb' with hb' | hb'
        · have := ok.low b (.inr (ok.Sp ▸ hb')); have h9 := ok.fr.size
          refine ⟨by show b < e.w.heap.size; omega, fun q => ?_⟩
          obtain ⟨⟨i, o, r1, r2⟩, _⟩ := ecOwn b q
          exact (own_far ok r1 r2).2 hb'
        · exact ⟨ok.own_lt (gvOwn b hb'), fun q => (ecOwn b q).2 hb'⟩
  -- the callee's view
  have e0 : ∃ e0 : Env, e0 = { w := e.w, th := fun i => if i < mvs.length then e.th ((mvs.map (·.1)).getD i 0) else none, kap := fun i => e.kap ((mvs.map (·.1)).getD i 0), ob := appOb (ob0Of mvs 0) (fun _ => none), us := fun i => i < mvs.length, S := fun b => e.S b ∨ (flat = false ∧ ec.Own b), Sp := e.Sp } := ⟨_, rfl⟩
  obtain ⟨e0, he0⟩ := e0
  have e0w : e0.w = e.w := by subst he0; rfl
  have getm : ∀ i o, e0.ob i = some o → i < mvs.length ∧ (mvs.map (·.1)).getD i 0 ∈ mvs.map (·.1) ∧ e.ob ((mvs.map (·.1)).getD i 0) = some o ∧ FlatBox o := by
    intro i o ho
    subst he0
    obtain ⟨_, id, hid⟩ := ob0_get mvs 0 i o ho
    simp only [Nat.sub_zero] at hid
    have hlt := (List.getElem?_eq_some_iff.1 hid).1
    have hin : (id, o) ∈ mvs := List.mem_of_getElem? hid
    have e1 : (mvs.map (·.1)).getD i 0 = id := by simp [List.getD_eq_getElem?_getD, hid]
    rw [e1]
    exact ⟨hlt, List.mem_map.2 ⟨_, hin, rfl⟩, hmem _ hin, hmf.mem _ hin⟩
  have e0th : ∀ i, i < mvs.length → e0.th i = e.th ((mvs.map (·.1)).getD i 0) := by intro i hi; subst he0; simp [hi]
  have e0Own : ∀ b, e0.Own b → gv b := by
    rintro b ⟨i, o, q1, q2⟩
    obtain ⟨r1, r2, r3, _⟩ := getm i o q1
    rw [e0th i r1] at q2
    obtain ⟨p, hp, hpe⟩ := List.mem_map.1 r2
    rw [hgv]; exact ⟨p, hp, by rw [hpe]; exact q2⟩
  have ok0 : Ok ⟨G.P, e0.w, e0.Own, e0.S, e0.Sp⟩ e0 := by
    refine ⟨Frame0.refl _ _, rfl, rfl, ?_, ?_, ?_, ?_, ?_⟩
    · intro i o ho
      obtain ⟨r1, r2, r3, r4⟩ := getm i o ho
      exact (ok.held _ o r3).flat r4 (e0th i r1) (by subst he0; rfl) (fun b _ => by rw [e0w])
    · intro i j oi oj b q1 q2 q3 q4
      obtain ⟨r1, r2, r3, _⟩ := getm i oi q1
      obtain ⟨s1, s2, s3, _⟩ := getm j oj q2
      rw [e0th i r1] at q3
      rw [e0th j s1] at q4
      have := ok.inj _ _ _ _ b r3 s3 q3 q4
      have hi : i < (mvs.map (·.1)).length := by simpa using r1
      have hj : j < (mvs.map (·.1)).length := by simpa using s1
      rw [List.getD_eq_getElem?_getD, List.getD_eq_getElem?_getD, List.getElem?_eq_getElem hi, List.getElem?_eq_getElem hj] at this
      exact (List.getElem_inj hnd).1 this
    · intro i o b q1 q2; exact .inr ⟨i, o, q1, q2⟩
    · intro i o q1
      obtain ⟨r1, _⟩ := getm i o q1
      subst he0; exact r1
    · intro b hb
      rw [e0w]
      have hb' : (e.S b ∨ (flat = false ∧ ec.Own b)) ∨ e.Sp b := by subst he0; exact hb
      rcases hb' with (hb' | hb') | hb'
      · have := ok.low b (.inl (ok.S ▸ hb')); have h9 := ok.fr.size
        refine ⟨by show b < e.w.heap.size; omega, fun q => ?_⟩
        obtain ⟨i, o, r1, r2⟩ := gvOwn b (e0Own b q)
        exact (own_far ok r1 r2).1 hb'
      · exact ⟨ok.own_lt (ecOwn b hb'.2).1, fun q => (ecOwn b hb'.2).2 (e0Own b q)⟩
      · have := ok.low b (.inr (ok.Sp ▸ hb')); have h9 := ok.fr.size
        refine ⟨by show b < e.w.heap.size; omega, fun q => ?_⟩
        obtain ⟨i, o, r1, r2⟩ := gvOwn b (e0Own b q)
        exact (own_far ok r1 r2).2 hb'
  have hnR : ∀ p ∈ nobR, ec.ob p.1 = some p.2 := by
    intro p hp
    have q1 := List.all_eq_true.1 hdis p hp
    have q2 := h2 p (List.mem_append_left _ hp)
    have q3 : ¬ p.1 ∈ mvs.map (·.1) := by simpa using q1
    subst hec
    simp only [if_neg q3]; exact q2
  have snd : ∀ {v u : V}, PassO nobR flat (mvs.map (·.1)) v u → ∀ x, R e v x → R e0 u x := by
    intro v u h
    induction h with
    | ro v u h =>
      intro x hx
      have := h.sound okc hnR x (sh _ _ hx)
      refine h.shift (by rw [e0w]; exact ecw.symm) ?_ ?_ x this
      · intro b q1 _
        refine ⟨fun q => q1 ?_, fun q => q1 ?_⟩
        · show ec.Sp b
          subst hec; subst he0; exact .inl q
        · have hg := e0Own b q
          show ec.Sp b
          subst hec; exact .inr hg
      · intro b q1 q2 _ q
        have q' : e.S b ∨ (flat = false ∧ ec.Own b) := by subst he0; exact q
        refine q1 ?_
        show ec.S b ∨ (flat = false ∧ ec.Own b)
        rcases q' with q' | q'
        · left; subst hec; exact q'
        · exact .inr q'
    | mv i k h =>
      rintro x ⟨hu, hx⟩
      have hlt : i < mvs.length := by have := (List.getElem?_eq_some_iff.1 h).1; simpa using this
      have hk : (mvs.map (·.1)).getD i 0 = k := by rw [List.getD_eq_getElem?_getD, h]; rfl
      refine ⟨by subst he0; exact hlt, fun es n f ho => ?_⟩
      obtain ⟨r1, r2, r3, _⟩ := getm i _ ho
      rw [hk] at r3
      have := hx es n f r3
      rw [e0th i r1, hk]
      have hkk : e0.kap i = e.kap k := by subst he0; simp only [hk]
      rw [hkk]; exact this
    | agg L f g h ih =>
      rintro x ⟨cs, hx, hs, h1, hr⟩
      refine ⟨cs, hx, hs, h1, fun j hj => ?_⟩
      obtain ⟨r1, r2⟩ := hr j hj
      obtain ⟨z1, z2⟩ := (h j).size
      refine ⟨z1.symm.trans r1, ?_⟩
      have := ih j _ r2
      unfold piece at this ⊢
      rw [← z2]; exact this
  have snds : ∀ (vs us : List V) (xs : List Value), PassesO nobR flat (mvs.map (·.1)) vs us → xs.length = vs.length → (∀ i v, vs[i]? = some v → R e v (xs.getD i undef)) → xs.length = us.length ∧ ∀ i v, us[i]? = some v → R e0 v (xs.getD i undef) := by
    intro vs
    induction vs with
    | nil =>
      intro us xs hp hl _
      cases us with
      | nil => exact ⟨hl, fun i v h => by simp at h⟩
      | cons u us => exact hp.elim
    | cons v vs ih =>
      intro us xs hp hl hr
      cases us with
      | nil => exact hp.elim
      | cons u us =>
        cases xs with
        | nil => simp at hl
        | cons x xs =>
          obtain ⟨p1, p2⟩ := hp
          obtain ⟨a1, a2⟩ := ih us xs p2 (by simpa using hl) (fun i w hw => by simpa using hr (i + 1) w (by simpa using hw))
          refine ⟨by simp [a1], fun i w hw => ?_⟩
          cases i with
          | zero => simp at hw; subst hw; have := hr 0 v (by simp); simp at this; simpa using snd p1 _ this
          | succ i => simp at hw; simpa using a2 i w hw
  obtain ⟨cs, hfv, hcs, hcr⟩ := (R.operand h1 hf (fun _ h => List.mem_append_left _ h) : R e (.fn K n caps) (a.eval fop))
  obtain ⟨a1, a2⟩ := args_of h1 xs vs hc (fun _ h => List.mem_append_right _ h)
  have hall : ∀ i v, (vs ++ (List.range n).map caps)[i]? = some v → R e v ((xs.map a.eval ++ cs.toList).getD i undef) := by
    intro i v hv
    by_cases hi : i < vs.length
    · rw [List.getElem?_append_left hi] at hv
      have := a2 i v hv
      rw [List.getD_eq_getElem?_getD] at this ⊢
      rw [List.getElem?_append_left (by omega)]; exact this
    · rw [List.getElem?_append_right (by omega)] at hv
      have hlt : i - vs.length < n := by
        have := (List.getElem?_eq_some_iff.1 hv).1; simpa using this
      have := hcr (i - vs.length) hlt
      simp [hlt] at hv
      subst hv
      rw [List.getD_eq_getElem?_getD, List.getElem?_append_right (by omega), a1]
      simpa [Array.getD_eq_getD_getElem?] using this
  obtain ⟨b1, b2⟩ := snds _ us (xs.map a.eval ++ cs.toList) hp (by simp [a1, hcs]) hall
  have hcall := hs e0 (xs.map a.eval ++ cs.toList).toArray ok0 (by subst he0; rfl) (fun k hk => by subst he0; exact hk) ⟨by simpa using b1, fun i v hv => by simpa [Array.getD_eq_getD_getElem?, List.getD_eq_getElem?_getD] using b2 i v hv⟩
  unfold Oper.wp
  have hexec : (execOp a.eval ⟨dst, .call { callee := .value fop, args := args, argTypes := ats }, ty, pos, af, g⟩).run G.P e.w = .ok (.enter K (xs.map a.eval ++ cs.toList).toArray) e.w := by
    have e1 : args.map a.eval ++ cs = (xs.map a.eval ++ cs.toList).toArray := by
      rw [← ha]; apply Array.ext'; simp
    simp only [execOp, resolve, Deferred.ofValue, hfv, Sem.run_bind, Sem.run_pure, Result.andThen_ok, invoke, Array.empty_append]
    rw [e1, hK.run]
  rw [hexec, Oper.upon_enter]
  rw [e0w] at hcall
  refine hcall.mono ?_
  rintro en w' ⟨x, e1, rfl, hw1, ok1, hob1, hus1, hx⟩
  have fr1 : Frame0 gv e.w w' := by
    have hfr : Frame0 e0.Own e.w e1.w := ok1.fr
    rw [hw1] at hfr
    exact ⟨hfr.os, hfr.tape, hfr.output, hfr.size, hfr.drawn, fun k hk hg => hfr.block k hk (fun q => hg (e0Own k q))⟩
  have inNew : ∀ k, k ∈ upTo nx n1 ↔ nx ≤ k ∧ k < nx + n1 := by
    intro k
    simp only [upTo, List.mem_map, List.mem_range]
    constructor
    · rintro ⟨i, hi, rfl⟩; omega
    · rintro ⟨q1, q2⟩; exact ⟨k - nx, by omega, by omega⟩
  have hnew' : ∀ k, nx ≤ k → k < nx + n1 → ¬ e.us k := fun k q1 q2 => hnew k ((inNew k).2 ⟨q1, q2⟩)
  have e2 : ∃ e2 : Env, e2 = { e with w := w', th := fun k => if nx ≤ k ∧ k < nx + n1 then e1.th (k - nx) else e.th k, kap := fun k => if nx ≤ k ∧ k < nx + n1 then e1.kap (k - nx) else e.kap k, ob := appOb ((ob1.map fun p => (nx + p.1, p.2)) ++ (mvs.map fun p => (p.1, none))) e.ob, us := fun k => e.us k ∨ k ∈ upTo nx n1 } := ⟨_, rfl⟩
  obtain ⟨e2, he2⟩ := e2
  have e2w : e2.w = w' := by subst he2; rfl
  -- what a name tells behind the call
  have obNew : ∀ j, j < n1 → e2.ob (nx + j) = e1.ob j := by
    intro j hj
    have hno : e.ob (nx + j) = none := by
      cases hq : e.ob (nx + j) with
      | none => rfl
      | some o => exact absurd (ok.used _ o hq) (hnew' _ (by omega) (by omega))
    rw [hob1]
    subst he2
    simp only [appOb, lk_append, lk_shift, lk_none, hno]
    have : nx + j ∉ mvs.map (·.1) := fun q => by have := hmlow _ q; omega
    rw [if_neg this]
    cases lk ob1 j <;> rfl
  have obBig : ∀ j o, e1.ob j = some o → j < n1 ∧ FlatBox o := by
    intro j o ho
    rw [hob1] at ho
    have key : ∀ l : List (Nat × Option Box), All (fun p => p.1 < n1 ∧ ∃ o, p.2 = some o ∧ FlatBox o) l → appOb l (fun _ => none) j = some o → j < n1 ∧ FlatBox o := by
      intro l
      induction l with
      | nil => intro _ h; simp [appOb, lk] at h
      | cons q l ih =>
        obtain ⟨k, o'⟩ := q
        rintro ⟨⟨q1, o2, q2, q3⟩, q4⟩ h
        simp only [appOb, lk_cons] at h ih
        by_cases hk : k = j
        · rw [if_pos hk] at h
          simp only at h q1 q2
          rw [h] at q2; cases q2
          exact ⟨hk ▸ q1, q3⟩
        · rw [if_neg hk] at h
          exact ih q4 h
    exact key ob1 hof ho
  have obOld : ∀ k o, ¬ (nx ≤ k ∧ k < nx + n1) → e2.ob k = some o → e.ob k = some o ∧ k ∉ mvs.map (·.1) := by
    intro k o hk ho
    have h3 : lk (ob1.map fun p => (nx + p.1, p.2)) k = none := by
      by_cases hlt : k < nx
      · exact lk_shift_none nx ob1 k hlt
      · have h4 : k = nx + (k - nx) := by omega
        rw [h4, lk_shift]
        cases hq : lk ob1 (k - nx) with
        | none => rfl
        | some o' =>
          exfalso
          have hm : ∀ (l : List (Nat × Option Box)), All (fun p => p.1 < n1 ∧ ∃ o, p.2 = some o ∧ FlatBox o) l → lk l (k - nx) = some o' → k - nx < n1 := by
            intro l
            induction l with
            | nil => intro _ h; simp [lk] at h
            | cons q l ih =>
              obtain ⟨c, o2⟩ := q
              rintro ⟨⟨q1, _⟩, q4⟩ h
              simp only [lk_cons] at h
              by_cases hc' : c = k - nx
              · exact hc' ▸ q1
              · rw [if_neg hc'] at h; exact ih q4 h
          have := hm ob1 hof hq
          omega
    subst he2
    simp only [appOb, lk_append, h3, lk_none] at ho
    by_cases hm : k ∈ mvs.map (·.1)
    · rw [if_pos hm] at ho; cases ho
    · rw [if_neg hm] at ho; exact ⟨ho, hm⟩
  have getN : ∀ k o, nx ≤ k ∧ k < nx + n1 → e2.ob k = some o → e1.ob (k - nx) = some o := by
    intro k o hk ho
    have := obNew (k - nx) (by omega)
    rw [show nx + (k - nx) = k by omega] at this
    rw [← this]; exact ho
  have thN : ∀ k, nx ≤ k ∧ k < nx + n1 → e2.th k = e1.th (k - nx) ∧ e2.kap k = e1.kap (k - nx) := by intro k hk; subst he2; simp [hk]
  have thO : ∀ k, ¬ (nx ≤ k ∧ k < nx + n1) → e2.th k = e.th k ∧ e2.kap k = e.kap k := by
    intro k hk; subst he2; simp only [if_neg hk]; exact ⟨trivial, trivial⟩
  have freshN : ∀ j o b, e1.ob j = some o → e1.th j = some b → e.w.heap.size ≤ b ∨ gv b := by
    intro j o b q1 q2
    rcases (ok1.fresh j o b q1 q2 : e.w.heap.size ≤ b ∨ e0.Own b) with q | q
    · exact .inl q
    · exact .inr (e0Own b q)
  have F : Follows e e2 := by
    refine ⟨by rw [e2w]; exact fr1.size, fun b hb hO => by rw [e2w]; exact fr1.block b hb (fun q => hO (gvOwn b q)), ?_, fun b _ h => by subst he2; exact h, fun b _ h => by subst he2; exact h⟩
    rintro b hb ⟨k, o, q1, q2⟩
    by_cases hk : nx ≤ k ∧ k < nx + n1
    · rcases freshN (k - nx) o b (getN k o hk q1) ((thN k hk).1 ▸ q2) with q | q
      · omega
      · exact gvOwn b q
    · exact ⟨k, o, (obOld k o hk q1).1, (thO k hk).1 ▸ q2⟩
  have I2 : IdKeeps e e2 := by
    intro id hu
    have hk : ¬ (nx ≤ id ∧ id < nx + n1) := fun q => hnew' id q.1 q.2 hu
    exact ⟨by subst he2; exact .inl hu, fun o' ho' => ⟨(thO id hk).1, (thO id hk).2, o', (obOld id o' hk ho').1, o'.like_refl⟩⟩
  have ok2 : Ok G e2 := by
    refine ⟨?_, by subst he2; exact ok.S, by subst he2; exact ok.Sp, ?_, ?_, ?_, ?_, ok.low⟩
    · rw [e2w]
      refine ⟨fr1.os.trans ok.fr.os, fr1.tape.trans ok.fr.tape, fr1.output.trans ok.fr.output, Nat.le_trans ok.fr.size fr1.size, Nat.le_trans ok.fr.drawn fr1.drawn, fun k hk hW => ?_⟩
      refine (fr1.block k (Nat.lt_of_lt_of_le hk ok.fr.size) (fun q => ?_)).trans (ok.fr.block k hk hW)
      obtain ⟨i, o, r1, r2⟩ := gvOwn k q
      rcases ok.fresh i o k r1 r2 with q | q
      · omega
      · exact hW q
    · intro k o ho
      by_cases hk : nx ≤ k ∧ k < nx + n1
      · have h4 := getN k o hk ho
        exact (ok1.held _ o h4).flat (obBig _ o h4).2 (thN k hk).1 (thN k hk).2 (fun b _ => by rw [e2w, hw1])
      · obtain ⟨q1, q2⟩ := obOld k o hk ho
        have hh := ok.held k o q1
        exact hh.keep F I2 (thO k hk).1 (thO k hk).2 (fun b hb => by rw [e2w]; exact fr1.block b (hh.lt hb) (gvOther k o b q1 hb q2))
    · intro i j oi oj b q1 q2 q3 q4
      have mix : ∀ k l ok' ol, (nx ≤ k ∧ k < nx + n1) → ¬ (nx ≤ l ∧ l < nx + n1) → e2.ob k = some ok' → e2.ob l = some ol → e2.th k = some b → e2.th l = some b → False := by
        intro k l ok' ol hk hl p1 p2 p3 p4
        obtain ⟨r1, r2⟩ := obOld l ol hl p2
        rw [(thO l hl).1] at p4
        rcases freshN (k - nx) ok' b (getN k ok' hk p1) ((thN k hk).1 ▸ p3) with q | q
        · have := (ok.held l ol r1).lt p4; omega
        · exact gvOther l ol b r1 p4 r2 q
      by_cases hi : nx ≤ i ∧ i < nx + n1 <;> by_cases hj : nx ≤ j ∧ j < nx + n1
      · have := ok1.inj (i - nx) (j - nx) oi oj b (getN i oi hi q1) (getN j oj hj q2) ((thN i hi).1 ▸ q3) ((thN j hj).1 ▸ q4)
        omega
      · exact (mix i j oi oj hi hj q1 q2 q3 q4).elim
      · exact (mix j i oj oi hj hi q2 q1 q4 q3).elim
      · exact ok.inj i j oi oj b (obOld i oi hi q1).1 (obOld j oj hj q2).1 ((thO i hi).1 ▸ q3) ((thO j hj).1 ▸ q4)
    · intro i o b q1 q2
      by_cases hi : nx ≤ i ∧ i < nx + n1
      · rcases freshN (i - nx) o b (getN i o hi q1) ((thN i hi).1 ▸ q2) with q | q
        · left; have := ok.fr.size; omega
        · obtain ⟨i', o', r1, r2⟩ := gvOwn b q
          exact ok.fresh i' o' b r1 r2
      · exact ok.fresh i o b (obOld i o hi q1).1 ((thO i hi).1 ▸ q2)
    · intro i o q1
      by_cases hi : nx ≤ i ∧ i < nx + n1
      · subst he2; exact .inr ((inNew i).2 hi)
      · have := ok.used i o (obOld i o hi q1).1
        subst he2; exact .inl this
  have hres : R e2 res' x := by
    have key : ∀ {v u : V}, ResO flat nx n1 v u → ∀ x, R e1 v x → R e2 u x := by
      intro v u h
      induction h with
      | data v h =>
        intro x hx
        cases flat with
        | true => exact R.flat v (by simpa using h) x hx
        | false =>
          refine R.move (e := e1) (e' := e2) (by rw [e2w, hw1]) ?_ v (by simpa using h) x hx
          intro b q1 q2 q3
          have q1' : ¬ (e.S b ∨ (false = false ∧ ec.Own b)) := fun q => q1 (by rw [ok1.S]; subst he0; exact q)
          have q2' : ¬ e.Sp b := fun q => q2 (by rw [ok1.Sp]; subst he0; exact q)
          refine ⟨fun q => q1' (.inl (by subst he2; exact q)), fun q => q2' (by subst he2; exact q), ?_⟩
          rintro ⟨k, o, p1, p2⟩
          by_cases hk : nx ≤ k ∧ k < nx + n1
          · exact q3 ⟨k - nx, o, getN k o hk p1, (thN k hk).1 ▸ p2⟩
          · obtain ⟨r1, r2⟩ := obOld k o hk p1
            refine q1' (.inr ⟨rfl, k, o, ?_, ?_⟩)
            · subst hec; simp only [if_neg r2]; exact r1
            · have := (thO k hk).1 ▸ p2
              subst hec; exact this
      | own j hj =>
        rintro x ⟨hu, hx⟩
        have hin : nx ≤ nx + j ∧ nx + j < nx + n1 := by omega
        refine ⟨by subst he2; exact .inr ((inNew _).2 hin), fun es n f ho => ?_⟩
        rw [obNew j hj] at ho
        have := hx es n f ho
        obtain ⟨t1, t2⟩ := thN (nx + j) hin
        rw [t1, t2, show nx + j - nx = j by omega]; exact this
      | agg L f g h ih =>
        rintro x ⟨cs, hx, hs, h1, hr⟩
        refine ⟨cs, hx, hs, h1, fun j hj => ?_⟩
        obtain ⟨r1, r2⟩ := hr j hj
        obtain ⟨z1, z2⟩ := (h j).size
        refine ⟨z1.symm.trans r1, ?_⟩
        have := ih j _ r2
        unfold piece at this ⊢
        rw [← z2]; exact this
      | tup n f g h ih =>
        rintro x ⟨cs, hx, hs, hr⟩
        exact ⟨cs, hx, hs, fun j hj => ih j _ (hr j hj)⟩
    exact key hr x hx
  have := hKK x e2 ⟨ok2, F, I2⟩ (by subst he2; rfl) (by intro k; subst he2; rfl) hres
  rw [e2w] at this
  exact this
end

/-- Such a function that takes no own array, as one that hands back data. -/
theorem FSpecO.toData {P : Program} {K : FuncId} {args : List V} {res res' : V} {ob1 : List (Nat × Option Box)} {n1 : Nat} {fz : List Nat} (h : FSpecO P K args [] 0 res ob1 n1) (hd : res'.Data) (ht : To (appOb ob1 (fun _ => none)) (fun _ => none) id 0 fz res' res) : FSpec P K args res' := by
  intro w S Sp xs hlow hargs
  have noOwn : ∀ b, ¬ (Env.bare w S Sp).Own b := by rintro b ⟨_, _, h, _⟩; cases h
  have hok : Ok ⟨P, w, (Env.bare w S Sp).Own, S, Sp⟩ (Env.bare w S Sp) := by
    refine ⟨Frame0.refl _ _, rfl, rfl, ?_, ?_, ?_, ?_, fun b hb => ⟨hlow b hb, noOwn b⟩⟩
    · intro id o h; cases h
    · intro i j oi oj b h; cases h
    · intro i o b h; cases h
    · intro i o h; cases h
  refine (h (Env.bare w S Sp) xs hok rfl (fun k hk => hk.elim) hargs).mono ?_
  rintro e w' ⟨x, e1, rfl, hw1, ok1, hob1, hus1, hx⟩
  refine ⟨x, rfl, ?_, ?_⟩
  · have e2 : ∃ e2 : Env, e2 = { e1 with ob := fun _ => none, us := fun _ => False } := ⟨_, rfl⟩
    obtain ⟨e2, he2⟩ := e2
    have no2 : ∀ b, ¬ e2.Own b := by rintro b ⟨_, _, h, _⟩; subst he2; cases h
    have := To.sound (e2 := e2) (ρ := id) (nx := 0) (fz := fz) ok1 (by subst he2; rfl) (by subst he2; rfl) (by subst he2; rfl) (fun i => by subst he2; rfl) (fun i => by subst he2; rfl) (fun i hi _ => absurd hi (by omega)) (fun b hb => absurd hb (no2 b))
      (v1 := res') (v := res) (by rw [hob1]; have : e2.ob = fun _ => none := by subst he2; rfl
                                  rw [this]; exact ht) x hx
    refine R.move (e := e2) (e' := Env.bare w' S Sp) (by subst he2; exact hw1.symm) ?_ res' hd x this
    intro b q1 q2 _
    refine ⟨fun q => q1 ?_, fun q => q2 ?_, by rintro ⟨_, _, h, _⟩; cases h⟩
    · subst he2; show e1.S b; rw [ok1.S]; exact q
    · subst he2; show e1.Sp b; rw [ok1.Sp]; exact q
  · have hfr : Frame0 (Env.bare w S Sp).Own w e1.w := ok1.fr
    rw [hw1] at hfr
    exact ⟨hfr.os, hfr.tape, hfr.output, hfr.size, hfr.drawn, fun k hk _ => hfr.block k hk (noOwn k)⟩
end Go.Eng
