/- The engine's law on a region that draws its order: the text's order, told step by step, serves every order that its edges allow, where steps that touch one slot or one own variable stand in order. Conditions: none. -/
import Derived.Test.YtnfjibcfnchkkaaEngB
namespace Go.Eng

section fold
variable {α : Type}
/-- What the steps below n that are done leave, one place at a time. -/
def fo (u : Nat → Nat → Option α) (D : Nat → Bool) : Nat → (Nat → α) → (Nat → α)
  | 0, s => s
  | n + 1, s => fun t => if D n then (match u n t with | some x => x | none => fo u D n s t) else fo u D n s t

theorem fo_congr {u : Nat → Nat → Option α} {D D' : Nat → Bool} {s : Nat → α} {t : Nat} : ∀ n, (∀ k, k < n → (u k t).isSome = true → D k = D' k) → fo u D n s t = fo u D' n s t
  | 0, _ => rfl
  | n + 1, h => by
    have ih := fo_congr (u := u) (D := D) (D' := D') (s := s) (t := t) n (fun k hk => h k (by omega))
    simp only [fo, ih]
    cases hu : u n t with
    | none => simp
    | some x =>
      have := h n (by omega) (by simp [hu])
      rw [this]

theorem fo_set {u : Nat → Nat → Option α} {D : Nat → Bool} {s : Nat → α} {i : Nat} : ∀ n, i < n → D i = false → (∀ k, i < k → k < n → D k = true → ∀ t, (u i t).isSome = true → u k t = none) →
    fo u (fun k => if k = i then true else D k) n s = fun t => match u i t with | some x => x | none => fo u D n s t
  | 0, hi, _, _ => absurd hi (by omega)
  | n + 1, hi, hD, h => by
    funext t
    by_cases hin : i = n
    · subst hin
      have e : fo u (fun k => if k = i then true else D k) i s t = fo u D i s t := fo_congr i (fun k hk _ => by simp [show k ≠ i by omega])
      simp only [fo, if_true, e, hD, Bool.false_eq_true, if_false]
    · have ih := fo_set (u := u) (D := D) (s := s) n (by omega) hD (fun k h1 h2 => h k h1 (by omega))
      have ih' := congrFun ih t
      simp only [fo, show n ≠ i by omega, if_false, ih']
      by_cases hn : D n = true
      · simp only [hn, if_true]
        cases hu : u i t with
        | none => rfl
        | some x => simp [h n (by omega) (by omega) hn t (by simp [hu])]
      · simp only [hn]
        rfl

theorem fo_prefix {u : Nat → Nat → Option α} {s : Nat → α} (i : Nat) : ∀ n, i ≤ n → fo u (fun k => decide (k < i)) n s = fo u (fun _ => true) i s
  | 0, h => by obtain rfl : i = 0 := by omega
               rfl
  | n + 1, h => by
    by_cases hi : i = n + 1
    · subst hi
      funext t
      exact fo_congr _ (fun k hk _ => by simp [hk])
    · have := fo_prefix (u := u) (s := s) i n (by omega)
      funext t
      have : (decide (n < i)) = false := by simp; omega
      simp only [fo, this, Bool.false_eq_true, if_false]
      rw [fo_prefix i n (by omega)]
end fold

def maskOf (m : List Nat) (o : Oper) : Nat := o.after.toList.foldr (fun e s => if Region.binds .any e then (2 ^ e.on ||| m.getD e.on 0) ||| s else s) 0
def masks : List Oper → List Nat → List Nat
  | [], acc => acc
  | o :: r, acc => masks r (acc ++ [maskOf acc o])

def touchIds (E : Ent) : List Nat := E.nob.map (·.1)
def writeIds (E : Ent) : List Nat := E.eff.upd.map (·.1)

/-- Two steps touch one slot or one own variable, and one of them writes it. -/
def conf (oi oj : Oper) (Ei Ej : Ent) : Bool :=
  (match oi.dst with | some d => (Ej.need.any (fun p => p.1 == d)) || oj.dst == some d | none => false) ||
  (match oj.dst with | some d => (Ei.need.any (fun p => p.1 == d)) | none => false) ||
  (writeIds Ei).any (fun k => (touchIds Ej).contains k || (writeIds Ej).contains k) || (writeIds Ej).any (fun k => (touchIds Ei).contains k)

def maskFits (ops : List Oper) (m : List Nat) : Bool :=
  (List.range ops.length).all fun j => match ops[j]? with
    | some o => m.getD j 0 == maskOf m o && o.after.toList.all (fun e => !Region.binds .any e || Nat.blt e.on j)
    | none => true
def pairsFit (ops : List Oper) (es : List Ent) (m : List Nat) : Bool :=
  (List.range ops.length).all fun j => (List.range j).all fun i => match ops[i]?, ops[j]?, es[i]?, es[j]? with
    | some oi, some oj, some Ei, some Ej => !conf oi oj Ei Ej || (m.getD j 0).testBit i
    | _, _, _, _ => true
def compat (ops : List Oper) (es : List Ent) : Bool := maskFits ops (masks ops []) && pairsFit ops es (masks ops [])

theorem testBit_mask {m : List Nat} {i : Nat} : ∀ (l : List Edge), (l.foldr (fun e s => if Region.binds .any e then (2 ^ e.on ||| m.getD e.on 0) ||| s else s) 0).testBit i = true →
    ∃ e ∈ l, Region.binds .any e = true ∧ (i = e.on ∨ (m.getD e.on 0).testBit i = true)
  | [], h => by simp at h
  | e :: l, h => by
    simp only [List.foldr_cons] at h
    split at h
    · rename_i hb
      rw [Nat.testBit_or, Nat.testBit_or, Bool.or_eq_true, Bool.or_eq_true] at h
      rcases h with (h | h) | h
      · refine ⟨e, by simp, hb, .inl ?_⟩
        rw [Nat.testBit_two_pow] at h
        simpa using (of_decide_eq_true h).symm
      · exact ⟨e, by simp, hb, .inr h⟩
      · obtain ⟨e', h1, h2⟩ := testBit_mask l h
        exact ⟨e', by simp [h1], h2⟩
    · obtain ⟨e', h1, h2⟩ := testBit_mask l h
      exact ⟨e', by simp [h1], h2⟩

/-- A set of steps that holds with a step all that it waits for. -/
def Closed (ops : List Oper) (D : Nat → Bool) : Prop := ∀ j o, ops[j]? = some o → D j = true → ∀ e ∈ o.after.toList, Region.binds .any e = true → D e.on = true

theorem Closed.mask {ops : List Oper} {D : Nat → Bool} {m : List Nat} (h : Closed ops D) (hm : maskFits ops m = true) : ∀ (j : Nat), j < ops.length → D j = true → ∀ i, (m.getD j 0).testBit i = true → D i = true := by
  intro j
  induction j using Nat.strongRecOn with
  | _ j ih =>
    intro hj hD i hi
    have hmj := List.all_eq_true.1 hm j (List.mem_range.2 hj)
    have ho : ops[j]? = some ops[j] := List.getElem?_eq_getElem hj
    simp only [ho, Bool.and_eq_true, beq_iff_eq] at hmj
    obtain ⟨hmj, hed⟩ := hmj
    rw [hmj] at hi
    obtain ⟨e, he, hb, hor⟩ := testBit_mask _ hi
    have hDe := h j _ ho hD e he hb
    have hlt : e.on < j := by
      have := List.all_eq_true.1 hed e (by simpa using he)
      simpa [hb] using this
    rcases hor with rfl | hor
    · exact hDe
    · exact ih e.on hlt (by omega) hDe i hor

structure RelF (G : Glob) (nt : Nat) (sl : Nat → Option V) (ob : Nat → Option Box) (us : Nat → Prop) (a : Act) (e : Env) : Prop where
  ok : Ok G e
  slots : ∀ t v, sl t = some v → R e v (a.tmps.getD t undef)
  ob : e.ob = ob
  us : ∀ k, e.us k → us k
  size : a.tmps.size = nt
  defs : a.defers = []

/-- The states of a run, step by step. -/
theorem Run.states {G : Glob} {nt : Nat} {all : Array Oper} : ∀ (os : List Oper) (s : St) (es : List Ent) (s' : St), Run G nt all os s es s' →
    os.length = es.length ∧ ∃ σ : Nat → St, σ 0 = s ∧ σ os.length = s' ∧ ∀ i o E, os[i]? = some o → es[i]? = some E → Step G all o E ∧ (σ i).meets E ∧ dstOk nt o = true ∧ σ (i + 1) = (σ i).app o.dst E.eff
  | [], s, [], s', h => ⟨rfl, fun _ => s, rfl, h.symm, fun i o E h1 => by simp at h1⟩
  | [], _, _ :: _, _, h => h.elim
  | _ :: _, _, [], _, h => h.elim
  | o :: os, s, E :: es, s', h => by
    obtain ⟨h1, h2, h3, h4⟩ := h
    obtain ⟨hl, σ, e0, en, hs⟩ := Run.states os _ es s' h4
    refine ⟨by simp [hl], fun i => match i with | 0 => s | i + 1 => σ i, rfl, en, fun i o' E' ho hE => ?_⟩
    cases i with
    | zero =>
      simp only [List.getElem?_cons_zero, Option.some.injEq] at ho hE
      subst ho; subst hE
      exact ⟨h1, h2, h3, e0⟩
    | succ i =>
      simp only [List.getElem?_cons_succ] at ho hE
      exact hs i o' E' ho hE

section order
variable {G : Glob} {nt : Nat} {ops : Array Oper} {es : List Ent} {s s' : St} {σ : Nat → St}

def uS (ops : List Oper) (es : List Ent) (k t : Nat) : Option (Option V) :=
  match ops[k]?, es[k]? with
  | some o, some E => if o.dst = some t then some (some E.eff.v) else none
  | _, _ => none
def uO (es : List Ent) (k id : Nat) : Option (Option Box) :=
  match es[k]? with
  | some E => lk E.eff.upd id
  | none => none
def usD (es : List Ent) (nx : Nat) (D : Nat → Bool) (k : Nat) : Prop := k < nx ∨ ∃ j E, es[j]? = some E ∧ D j = true ∧ k ∈ E.eff.new

structure Text (G : Glob) (nt : Nat) (ops : Array Oper) (es : List Ent) (s s' : St) (σ : Nat → St) : Prop where
  len : ops.toList.length = es.length
  zero : σ 0 = s
  last : σ ops.toList.length = s'
  at_ : ∀ i o E, ops.toList[i]? = some o → es[i]? = some E → Step G ops o E ∧ (σ i).meets E ∧ dstOk nt o = true ∧ σ (i + 1) = (σ i).app o.dst E.eff

theorem Text.sl (T : Text G nt ops es s s' σ) : ∀ i, i ≤ ops.toList.length → (fun t => lk (σ i).sl t) = fo (uS ops.toList es) (fun _ => true) i (lk s.sl)
  | 0, _ => by rw [T.zero]; rfl
  | i + 1, h => by
    have ih := T.sl i (by omega)
    have ho : ops.toList[i]? = some ops.toList[i] := List.getElem?_eq_getElem (by omega)
    have hE : es[i]? = some (es[i]'(by rw [← T.len]; omega)) := List.getElem?_eq_getElem _
    obtain ⟨_, _, _, e⟩ := T.at_ i _ _ ho hE
    funext t
    have iht := congrFun ih t
    simp only [fo, if_true, uS, ho, hE, ← iht, e, St.app]
    cases hd : ops.toList[i].dst with
    | none => simp
    | some d =>
      simp only [lk_cons, Option.some.injEq]
      split <;> rfl

theorem Text.ob (T : Text G nt ops es s s' σ) : ∀ i, i ≤ ops.toList.length → (σ i).obf = fo (uO es) (fun _ => true) i s.obf
  | 0, _ => by rw [T.zero]; rfl
  | i + 1, h => by
    have ih := T.ob i (by omega)
    have ho : ops.toList[i]? = some ops.toList[i] := List.getElem?_eq_getElem (by omega)
    have hE : es[i]? = some (es[i]'(by rw [← T.len]; omega)) := List.getElem?_eq_getElem _
    obtain ⟨_, _, _, e⟩ := T.at_ i _ _ ho hE
    funext t
    rw [e, obf_app, ih]
    simp only [fo, if_true, uO, hE, appOb]
    cases lk (es[i]'(by rw [← T.len]; omega)).eff.upd t <;> rfl

theorem Text.nx (T : Text G nt ops es s s' σ) : ∀ i j, i ≤ j → j ≤ ops.toList.length → (σ i).nx ≤ (σ j).nx := by
  intro i j hij
  induction j with
  | zero => intro _; obtain rfl : i = 0 := by omega
            exact Nat.le_refl _
  | succ j ih =>
    intro hj
    by_cases h : i = j + 1
    · subst h; exact Nat.le_refl _
    · have h1 := ih (by omega) (by omega)
      have ho : ops.toList[j]? = some ops.toList[j] := List.getElem?_eq_getElem (by omega)
      have hE : es[j]? = some (es[j]'(by rw [← T.len]; omega)) := List.getElem?_eq_getElem _
      obtain ⟨_, _, _, e⟩ := T.at_ j _ _ ho hE
      rw [e]; simp only [St.app]; omega

theorem Text.new (T : Text G nt ops es s s' σ) {i : Nat} {E : Ent} (hE : es[i]? = some E) {k : Nat} (hk : k ∈ E.eff.new) : (σ i).nx ≤ k ∧ k < (σ (i + 1)).nx := by
  have hi : i < es.length := (List.getElem?_eq_some_iff.1 hE).1
  have ho : ops.toList[i]? = some (ops.toList[i]'(by rw [T.len]; exact hi)) := List.getElem?_eq_getElem _
  obtain ⟨_, hm, _, e⟩ := T.at_ i _ _ ho hE
  rw [hm.2.2] at hk
  simp only [upTo, List.mem_map, List.mem_range] at hk
  obtain ⟨j, hj, rfl⟩ := hk
  rw [e]; simp only [St.app]; omega

theorem conf_of {os : List Oper} {m : List Nat} {D : Nat → Bool} (hp : pairsFit os es m = true) (hcl : Closed os D) (hm : maskFits os m = true) {i j : Nat} {oi oj : Oper} {Ei Ej : Ent} (hij : i < j)
    (h1 : os[i]? = some oi) (h2 : os[j]? = some oj) (h3 : es[i]? = some Ei) (h4 : es[j]? = some Ej) (hc : conf oi oj Ei Ej = true) (hD : D j = true) : D i = true := by
  have hj : j < os.length := (List.getElem?_eq_some_iff.1 h2).1
  have := List.all_eq_true.1 (List.all_eq_true.1 hp j (List.mem_range.2 hj)) i (List.mem_range.2 hij)
  simp only [h1, h2, h3, h4, hc, Bool.not_true, Bool.false_or] at this
  exact hcl.mask hm j hj hD i this

theorem wpAny_of_text (T : Text G nt ops es s s' σ) (hc : compat ops.toList es = true) {Q : Exit → Act → World → Prop} (hQ : ∀ a' e', Rel G nt s' a' e' → Q .normal a' e'.w) :
    ∀ (fuel : Nat) (listed : Array Bool) (a : Act) (e : Env), listed.size = ops.size → ((List.range ops.size).filter fun i => !listed.getD i true).length ≤ fuel →
      Closed ops.toList (fun i => listed.getD i true) →
      RelF G nt (fo (uS ops.toList es) (fun i => listed.getD i true) ops.toList.length (lk s.sl)) (fo (uO es) (fun i => listed.getD i true) ops.toList.length s.obf) (usD es s.nx (fun i => listed.getD i true)) a e →
      wpAny G.P .any ops Q fuel listed a e.w := by
  simp only [compat, Bool.and_eq_true] at hc
  obtain ⟨hm, hp⟩ := hc
  -- where nothing is ready, all is done
  have allDone : ∀ listed : Array Bool, Region.ready .any ops listed = [] → ∀ i, i < ops.size → listed.getD i true = true := by
    intro listed hr i
    induction i using Nat.strongRecOn with
    | _ i ih =>
      intro hi
      cases hl : listed.getD i true with
      | true => rfl
      | false =>
        exfalso
        have : i ∈ Region.ready .any ops listed := by
          have hmj := List.all_eq_true.1 hm i (List.mem_range.2 (by simpa using hi))
          have ho : ops.toList[i]? = some ops[i] := by simp [hi]
          simp only [ho, Bool.and_eq_true, beq_iff_eq] at hmj
          simp only [Region.ready, List.mem_filter, List.mem_range]
          refine ⟨hi, ?_⟩
          rw [hl]
          simp only [Bool.not_false, Bool.true_and, Array.getElem?_eq_getElem hi, Option.map_some, Option.getD_some]
          rw [Array.all_eq_true']
          intro e he
          have h2 := List.all_eq_true.1 hmj.2 e (by simpa using he)
          cases hb : Region.binds .any e with
          | false => simp
          | true =>
            simp only [hb, Bool.not_true, Bool.false_or, Nat.blt_eq] at h2
            have h3 := ih e.on h2 (by omega)
            have hlt : e.on < listed.size := by
              apply Classical.byContradiction
              intro hge
              have : listed.getD i true = true := by simp [Array.getD, show ¬ i < listed.size by omega]
              rw [hl] at this; cases this
            simp only [Array.getD, hlt, dite_true, Array.getInternal_eq_getElem] at h3 ⊢
            simp [h3]
        rw [hr] at this
        cases this
  have finish : ∀ (listed : Array Bool) (a : Act) (e : Env), Region.ready .any ops listed = [] →
      RelF G nt (fo (uS ops.toList es) (fun i => listed.getD i true) ops.toList.length (lk s.sl)) (fo (uO es) (fun i => listed.getD i true) ops.toList.length s.obf) (usD es s.nx (fun i => listed.getD i true)) a e → Q .normal a e.w := by
    intro listed a e hr hrel
    have hall := allDone listed hr
    refine hQ a e ⟨hrel.ok, fun t v hv => hrel.slots t v ?_, ?_, ?_, hrel.size, hrel.defs⟩
    · rw [← T.last] at hv
      have := congrFun (T.sl ops.toList.length (Nat.le_refl _)) t
      rw [this] at hv
      rw [← hv]
      exact fo_congr _ (fun k hk _ => hall k (by simpa using hk))
    · rw [hrel.ob, ← T.last, T.ob ops.toList.length (Nat.le_refl _)]
      funext id
      exact fo_congr _ (fun k hk _ => hall k (by simpa using hk))
    · intro k hk
      rcases hrel.us k hk with h | ⟨j, E, hE, _, hkn⟩
      · have := T.nx 0 ops.toList.length (by omega) (Nat.le_refl _)
        rw [T.zero, T.last] at this; omega
      · have hj : j < es.length := (List.getElem?_eq_some_iff.1 hE).1
        have := T.nx (j + 1) ops.toList.length (by rw [T.len]; omega) (Nat.le_refl _)
        have h2 := T.new hE hkn
        rw [T.last] at this; omega
  intro fuel
  induction fuel with
  | zero =>
    intro listed a e hsz hcnt hcl hrel
    have hr : Region.ready .any ops listed = [] := by
      simp only [Region.ready]
      rw [List.filter_eq_nil_iff]
      intro i hi
      have h0 : (List.range ops.size).filter (fun i => !listed.getD i true) = [] := List.eq_nil_of_length_eq_zero (by omega)
      have := (List.filter_eq_nil_iff.1 h0) i hi
      simp only [Bool.not_eq_true', Bool.not_eq_false] at this
      simp [this]
    exact ⟨hr, finish listed a e hr hrel⟩
  | succ fuel ih =>
    intro listed a e hsz hcnt hcl hrel
    refine ⟨fun hr => finish listed a e hr hrel, fun i hi => ?_⟩
    simp only [Region.ready, List.mem_filter, List.mem_range, Bool.and_eq_true, Bool.not_eq_true'] at hi
    obtain ⟨hilt, hil, hedges⟩ := hi
    have hilt' : i < ops.toList.length := by simpa using hilt
    have ho : ops.toList[i]? = some ops[i] := by simp [hilt]
    have ho' : ops[i]? = some ops[i] := by simp [hilt]
    have hiE : i < es.length := by rw [← T.len]; exact hilt'
    have hE : es[i]? = some es[i] := List.getElem?_eq_getElem _
    obtain ⟨hst, hmeet, hd, hnext⟩ := T.at_ i _ _ ho hE
    have hils : listed[i]? = some false := by
      have : i < listed.size := by omega
      simp only [Array.getD, this, dite_true, Array.getInternal_eq_getElem] at hil
      simp [this, hil]
    have hclosed : ∀ x ∈ ops[i].after.toList, Region.binds .any x = true → listed.getD x.on true = true := by
      intro x hx hb
      simp only [ho', Option.map_some, Option.getD_some] at hedges
      have := Array.all_eq_true'.1 hedges x (by simpa using hx)
      simp only [hb, Bool.not_true, Bool.false_or] at this
      by_cases hlt : x.on < listed.size
      · simp only [Array.getD, hlt, dite_true, Array.getInternal_eq_getElem] at this ⊢; exact this
      · simp [Array.getD, hlt]
    have hget : ∀ k, (listed.setIfInBounds i true).getD k true = if k = i then true else listed.getD k true := by
      intro k
      by_cases hk : k = i
      · subst hk; simp [Array.getD, show k < listed.size by omega]
      · by_cases hks : k < listed.size
        · simp [Array.getD, hks, hk, Ne.symm hk]
        · simp [Array.getD, hks, hk]
    have hDf : (fun k => (listed.setIfInBounds i true).getD k true) = fun k => if k = i then true else listed.getD k true := funext hget
    have hcl' : Closed ops.toList (fun k => if k = i then true else listed.getD k true) := by
      intro j o hj hDj x hx hb
      by_cases hji : j = i
      · subst hji
        rw [ho] at hj; cases hj
        have := hclosed x hx hb
        show (if x.on = j then true else listed.getD x.on true) = true
        split <;> simp [this]
      · have hDj' : listed.getD j true = true := by simpa [hji] using hDj
        have := hcl j o hj hDj' x hx hb
        show (if x.on = i then true else listed.getD x.on true) = true
        split
        · rfl
        · exact this
    -- a step behind i that is done touches nothing of i's
    have noLater : ∀ j oj Ej, i < j → ops.toList[j]? = some oj → es[j]? = some Ej → listed.getD j true = true → conf ops[i] oj es[i] Ej = false := by
      intro j oj Ej hij hj hEj hDj
      cases hcf : conf ops[i] oj es[i] Ej with
      | false => rfl
      | true =>
        have := conf_of hp hcl hm hij ho hj hE hEj hcf hDj
        rw [hil] at this; cases this
    have doneBefore : ∀ j oj Ej, j < i → ops.toList[j]? = some oj → es[j]? = some Ej → conf oj ops[i] Ej es[i] = true → listed.getD j true = true := by
      intro j oj Ej hji hj hEj hcf
      have := conf_of hp hcl' hm hji hj ho hEj hE hcf (by simp)
      simp only [show j ≠ i by omega, if_false] at this
      exact this
    have need : Needs e a es[i] := by
      obtain ⟨m1, m2, m3⟩ := hmeet
      refine ⟨fun p hpn => ?_, fun p hpn => ?_, fun k hk hu => ?_⟩
      · refine hrel.slots _ _ ?_
        have h1 := m1.mem p hpn
        have h2 := congrFun (T.sl i (by omega)) p.1
        rw [h2] at h1
        rw [← h1, ← fo_prefix i ops.toList.length (by omega)]
        refine fo_congr _ (fun k hk hsome => ?_)
        simp only [uS] at hsome
        have hok : ops.toList[k]? = some ops.toList[k] := List.getElem?_eq_getElem hk
        have hEk : es[k]? = some (es[k]'(by rw [← T.len]; exact hk)) := List.getElem?_eq_getElem _
        simp only [hok, hEk] at hsome
        have hdst : ops.toList[k].dst = some p.1 := by
          by_cases h : ops.toList[k].dst = some p.1
          · exact h
          · rw [if_neg h] at hsome; cases hsome
        have hany : (es[i].need.any fun q => q.1 == p.1) = true := List.any_eq_true.2 ⟨p, hpn, by simp⟩
        rcases Nat.lt_trichotomy k i with hki | hki | hki
        · have := doneBefore k _ _ hki hok hEk (by simp only [conf, hdst, hany]; simp)
          rw [this]; simp [hki]
        · subst hki
          rw [hil]; simp
        · have hcf : conf ops[i] ops.toList[k] es[i] (es[k]'(by rw [← T.len]; exact hk)) = true := by simp only [conf, hdst, hany]; simp
          cases hl : listed.getD k true with
          | false => simp; omega
          | true => rw [noLater k _ _ hki hok hEk hl] at hcf; cases hcf
      · rw [hrel.ob]
        have h1 := m2.mem p hpn
        rw [T.ob i (by omega)] at h1
        rw [← h1, ← fo_prefix i ops.toList.length (by omega)]
        refine fo_congr _ (fun k hk hsome => ?_)
        have hok : ops.toList[k]? = some ops.toList[k] := List.getElem?_eq_getElem hk
        have hEk : es[k]? = some (es[k]'(by rw [← T.len]; exact hk)) := List.getElem?_eq_getElem _
        simp only [uO, hEk] at hsome
        have hw : (writeIds (es[k]'(by rw [← T.len]; exact hk))).contains p.1 = true := by
          simp only [writeIds]
          generalize (es[k]'(by rw [← T.len]; exact hk)).eff.upd = u at hsome
          induction u with
          | nil => simp [lk] at hsome
          | cons q u ihu =>
            obtain ⟨q1, q2⟩ := q
            simp only [lk_cons] at hsome
            by_cases h : q1 = p.1
            · simp [h]
            · simp only [h, if_false] at hsome
              have := ihu hsome
              simp only [List.map_cons, List.contains_cons, this, Bool.or_true]
        have ht : (touchIds es[i]).contains p.1 = true := by
          simp only [touchIds, List.contains_iff_mem, List.mem_map]
          exact ⟨p, hpn, rfl⟩
        have hw' : p.1 ∈ writeIds (es[k]'(by rw [← T.len]; exact hk)) := by simpa using hw
        rcases Nat.lt_trichotomy k i with hki | hki | hki
        · have hcf : conf ops.toList[k] ops[i] (es[k]'(by rw [← T.len]; exact hk)) es[i] = true := by
            have : (writeIds (es[k]'(by rw [← T.len]; exact hk))).any (fun k => (touchIds es[i]).contains k || (writeIds es[i]).contains k) = true := List.any_eq_true.2 ⟨p.1, hw', by rw [ht, Bool.true_or]⟩
            simp only [conf, this, Bool.or_true, Bool.true_or]
          rw [doneBefore k _ _ hki hok hEk hcf]; simp [hki]
        · subst hki; rw [hil]; simp
        · have hcf : conf ops[i] ops.toList[k] es[i] (es[k]'(by rw [← T.len]; exact hk)) = true := by
            have : (writeIds (es[k]'(by rw [← T.len]; exact hk))).any (fun k => (touchIds es[i]).contains k) = true := List.any_eq_true.2 ⟨p.1, hw', ht⟩
            simp only [conf, this, Bool.or_true]
          cases hl : listed.getD k true with
          | false => simp; omega
          | true => rw [noLater k _ _ hki hok hEk hl] at hcf; cases hcf
      · have hkn := T.new hE hk
        rcases hrel.us k hu with h | ⟨j, Ej, hEj, hDj, hkj⟩
        · have := T.nx 0 i (by omega) (by omega)
          rw [T.zero] at this; omega
        · have hkj' := T.new hEj hkj
          have hjlt : j < es.length := (List.getElem?_eq_some_iff.1 hEj).1
          rcases Nat.lt_trichotomy j i with hji | hji | hji
          · have := T.nx (j + 1) i (by omega) (by omega); omega
          · subst hji; exact absurd (hil.symm.trans hDj) (by simp)
          · have := T.nx (i + 1) j (by omega) (by rw [T.len]; omega); omega
    have key := hst e a hrel.ok need (wpAny G.P .any ops Q fuel (listed.setIfInBounds i true)) Q (fun x e' g h1 h2 h3 => ?_)
    · unfold wpOp
      rw [ho']
      simp only []
      split
      · rename_i hw; rw [if_pos hw] at key; exact .inl key
      · rename_i hw; rw [if_neg hw] at key; exact key
    · refine ih _ _ _ (by simp [hsz]) ?_ (by rw [hDf]; exact hcl') ?_
      · have hlt : ((List.range ops.size).filter fun k => !(listed.setIfInBounds i true).getD k true).length < ((List.range ops.size).filter fun k => !listed.getD k true).length := by
          have hsub : ((List.range ops.size).filter fun k => !(listed.setIfInBounds i true).getD k true) = ((List.range ops.size).filter fun k => !listed.getD k true).filter (fun k => k != i) := by
            rw [List.filter_filter]
            apply List.filter_congr
            intro k _
            rw [hget k]
            by_cases hk : k = i <;> simp [hk]
          rw [hsub]
          apply List.length_filter_lt_length_iff_exists.2
          exact ⟨i, List.mem_filter.2 ⟨List.mem_range.2 hilt, by rw [hil]; rfl⟩, by simp⟩
        omega
      · rw [hDf]
        refine ⟨g.ok, ?_, ?_, ?_, ?_, ?_⟩
        · intro t v hv
          have e1 := congrFun (fo_set (u := uS ops.toList es) (D := fun k => listed.getD k true) (s := lk s.sl) ops.toList.length hilt' hil (fun k hk hkn hDk t hs => ?_)) t
          · rw [e1] at hv
            cases hdst : ops[i].dst with
            | none =>
              simp only [uS, ho, hE, hdst] at hv
              exact g.keep (hrel.slots t v (by simpa using hv))
            | some d =>
              have hltd : d < a.tmps.size := by simp [dstOk, hdst] at hd; rw [hrel.size]; exact hd
              rw [Act.getD_put _ _ _ _ hltd]
              simp only [uS, ho, hE, hdst, Option.some.injEq] at hv
              by_cases hdt : d = t
              · simp only [hdt, if_true] at hv ⊢; cases hv; exact h3
              · simp only [hdt, if_false] at hv ⊢; exact g.keep (hrel.slots t v hv)
          · have hok : ops.toList[k]? = some ops.toList[k] := List.getElem?_eq_getElem hkn
            have hEk : es[k]? = some (es[k]'(by rw [← T.len]; exact hkn)) := List.getElem?_eq_getElem _
            have hnc := noLater k _ _ hk hok hEk hDk
            simp only [uS, ho, hE] at hs
            have hdi : ops[i].dst = some t := by
              by_cases h : ops[i].dst = some t
              · exact h
              · rw [if_neg h] at hs; cases hs
            simp only [uS, hok, hEk]
            by_cases h : ops.toList[k].dst = some t
            · exfalso
              simp only [conf, hdi, h] at hnc
              simp at hnc
            · rw [if_neg h]
        · rw [h1, hrel.ob]
          have e1 := fo_set (u := uO es) (D := fun k => listed.getD k true) (s := s.obf) ops.toList.length hilt' hil (fun k hk hkn hDk t hs => ?_)
          · rw [e1]
            funext id
            simp only [appOb, uO, hE]
            cases lk es[i].eff.upd id <;> rfl
          · have hok : ops.toList[k]? = some ops.toList[k] := List.getElem?_eq_getElem hkn
            have hEk : es[k]? = some (es[k]'(by rw [← T.len]; exact hkn)) := List.getElem?_eq_getElem _
            have hnc := noLater k _ _ hk hok hEk hDk
            simp only [uO, hE] at hs
            simp only [uO, hEk]
            cases hl : lk (es[k]'(by rw [← T.len]; exact hkn)).eff.upd t with
            | none => rfl
            | some o =>
              exfalso
              have mem : ∀ (u : List (Nat × Option Box)) (t : Nat), (lk u t).isSome = true → t ∈ u.map (·.1) := by
                intro u t
                induction u with
                | nil => simp [lk]
                | cons q u ihu =>
                  obtain ⟨q1, q2⟩ := q
                  simp only [lk_cons]
                  split
                  · rename_i h; simp [h]
                  · intro h; simp [ihu h]
              have m1 := mem _ _ hs
              have m2 := mem _ t (by rw [hl]; rfl)
              have : (writeIds es[i]).any (fun k' => (touchIds (es[k]'(by rw [← T.len]; exact hkn))).contains k' || (writeIds (es[k]'(by rw [← T.len]; exact hkn))).contains k') = true :=
                List.any_eq_true.2 ⟨t, m1, by rw [Bool.or_eq_true]; exact .inr (by simpa [writeIds] using m2)⟩
              simp only [conf, this, Bool.or_true, Bool.true_or] at hnc
              cases hnc
        · intro k hk
          rcases (h2 k).1 hk with hk | hk
          · rcases hrel.us k hk with h | ⟨j, E, hEj, hDj, hkj⟩
            · exact .inl h
            · exact .inr ⟨j, E, hEj, by show (if j = i then true else listed.getD j true) = true
                                        split
                                        · rfl
                                        · exact hDj, hkj⟩
          · exact .inr ⟨i, es[i], hE, by simp, hk⟩
        · cases hdst : ops[i].dst <;> simp [Act.put, hrel.size]
        · cases hdst : ops[i].dst <;> simp [Act.put, hrel.defs]
end order

theorem region_draw {G : Glob} {nt id : Nat} {ops : Array Oper} {Q : Exit → Act → World → Prop} {s s' : St} {es : List Ent} {a : Act} {e : Env} (hmix : G.P.follows .mixedOrders = true)
    (hr : Run G nt ops ops.toList s es s') (hc : compat ops.toList es = true) (hrel : Rel G nt s a e) (hQ : ∀ a' e', Rel G nt s' a' e' → Q .normal a' e'.w) : (Code.region id ops true).wp G.P Q a e.w := by
  obtain ⟨hl, σ, e0, en, hs⟩ := hr.states
  have T : Text G nt ops es s s' σ := ⟨hl, e0, en, hs⟩
  refine wp_region_any hmix ?_
  have hrep : ∀ i, i < ops.size → (Array.replicate ops.size false).getD i true = false := by
    intro i hi; simp [Array.getD, hi]
  -- the draw itself: the world's count of draws moves
  have e1 : ∃ e1 : Env, e1 = { e with w := { e.w with drawn := e.w.drawn + 1 } } := ⟨_, rfl⟩
  obtain ⟨e1, he1⟩ := e1
  have hF : Follows e e1 := by subst he1; exact ⟨Nat.le_refl _, fun _ _ _ => rfl, fun b _ h => h, fun _ _ h => h, fun _ _ h => h⟩
  have hF' : Follows e1 e := by subst he1; exact ⟨Nat.le_refl _, fun _ _ _ => rfl, fun b _ h => h, fun _ _ h => h, fun _ _ h => h⟩
  have hI : IdKeeps e e1 := by subst he1; exact fun id hu => ⟨hu, fun o' ho' => ⟨rfl, rfl, o', ho', o'.like_refl⟩⟩
  have hk : ∀ v x, R e v x → R e1 v x := fun v x => R.keep hF v (.inl hI) x
  have hok : Ok G e1 := by
    have ok := hrel.ok
    subst he1
    refine ⟨⟨ok.fr.os, ok.fr.tape, ok.fr.output, ok.fr.size, Nat.le_succ_of_le ok.fr.drawn, ok.fr.block⟩, ok.S, ok.Sp, fun id o ho => ?_, ok.inj, ok.fresh, ok.used, ok.low⟩
    have := ok.held id o ho
    cases o with
    | var v =>
      obtain ⟨b, cs, T, h1, h2, h3, h4, h5⟩ := this
      exact ⟨b, cs, T, h1, h2, h3, h4, hk _ _ h5⟩
    | arr es n f =>
      simp only [Held] at this ⊢
      split
      · rename_i h; rw [h] at this; exact this
      · rename_i b h
        rw [h] at this
        obtain ⟨cs, T, h2, h3, h4, h5, h6⟩ := this
        exact ⟨cs, T, h2, h3, h4, h5, fun j hj => ⟨(h6 j hj).1, hk _ _ (h6 j hj).2⟩⟩
  have hw : ({ e.w with drawn := e.w.drawn + 1 } : World) = e1.w := by subst he1; rfl
  rw [hw]
  have hob : e1.ob = e.ob := by subst he1; rfl
  have hus : e1.us = e.us := by subst he1; rfl
  have hD : ∀ k, k < ops.toList.length → (Array.replicate ops.size false).getD k true = decide (k < 0) := by
    intro k hk; rw [hrep k (by simpa using hk)]; simp
  refine wpAny_of_text T hc hQ ops.size _ a e1 (by simp) ?_ ?_ ⟨hok, ?_, ?_, ?_, hrel.size, hrel.defs⟩
  · exact Nat.le_trans (List.length_filter_le _ _) (by simp)
  · intro j o hj hDj
    have hlt : j < ops.size := by simpa using (List.getElem?_eq_some_iff.1 hj).1
    simp only at hDj
    rw [hrep j hlt] at hDj; cases hDj
  · intro t v hv
    refine hk _ _ (hrel.slots t v ?_)
    rw [fo_congr (D' := fun k => decide (k < 0)) _ (fun k hk _ => hD k hk), fo_prefix 0 _ (by omega)] at hv
    exact hv
  · rw [hob, hrel.ob]
    funext id
    rw [fo_congr (D' := fun k => decide (k < 0)) _ (fun k hk _ => hD k hk), fo_prefix 0 _ (by omega)]
    rfl
  · intro k hk
    rw [hus] at hk
    exact .inl (hrel.us k hk)

end Go.Eng
