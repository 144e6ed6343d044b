/- The engine's laws on the nil slice, on the room of own arrays, on arrays made longer, on copy, and on the library's test whether slices overlap. Conditions: none. -/
import Derived.Test.YtpcpfcijdliicaaEngY
import Derived.Laws.Externs
namespace Go.Eng

/-- A new own array, in a new place or in none. -/
def Env.fresh (e : Env) (id : Nat) (o : Box) (w' : World) (th' : Option Nat) (kp : Nat) : Env :=
  { e with w := w', th := fun k => if k = id then th' else e.th k, kap := fun k => if k = id then kp else e.kap k, ob := fun k => if k = id then some o else e.ob k, us := fun k => e.us k ∨ k = id }

theorem grow_fresh {G : Glob} {e : Env} (ok : Ok G e) {id : Nat} (hid : ¬ e.us id) {o : Box} {w' : World} {th' : Option Nat} {kp : Nat} (hfr : Frame0 (fun _ => False) e.w w') (hth : ∀ b, th' = some b → e.w.heap.size ≤ b ∧ b < w'.heap.size)
    (hh : ∀ e' : Env, Follows e e' → IdKeeps e e' → e'.w = w' → e'.th id = th' → e'.kap id = kp → Held e' id o) : Grow G e (e.fresh id o w' th' kp) := by
  have hn0 : ∀ k, e.us k → k ≠ id := fun k hk q => hid (q ▸ hk)
  generalize hEE : e.fresh id o w' th' kp = e'
  have ew : e'.w = w' := by subst hEE; rfl
  have eob : e'.ob = fun k => if k = id then some o else e.ob k := by subst hEE; rfl
  have eth : ∀ k, e'.th k = if k = id then th' else e.th k := by intro k; subst hEE; rfl
  have ekp : ∀ k, e'.kap k = if k = id then kp else e.kap k := by intro k; subst hEE; rfl
  have eus : ∀ k, e'.us k ↔ e.us k ∨ k = id := by intro k; subst hEE; exact Iff.rfl
  have eS : e'.S = e.S := by subst hEE; rfl
  have eSp : e'.Sp = e.Sp := by subst hEE; rfl
  have obOld : ∀ k o', e'.ob k = some o' → k ≠ id → e.ob k = some o' := by
    intro k o' h hk; rw [eob] at h; simpa [hk] using h
  have F : Follows e e' := by
    refine ⟨by rw [ew]; exact hfr.size, fun b hb _ => by rw [ew]; exact hfr.block b hb (fun q => q), ?_, fun b _ h => by rw [eS] at h; exact h, fun b _ h => by rw [eSp] at h; exact h⟩
    rintro b hb ⟨k, o', h1, h2⟩
    rw [eth k] at h2
    by_cases hk : k = id
    · rw [if_pos hk] at h2; have := (hth b h2).1; omega
    · rw [if_neg hk] at h2; exact ⟨k, o', obOld k o' h1 hk, h2⟩
  have I : IdKeeps e e' := by
    intro k hu
    have hk := hn0 k hu
    refine ⟨(eus k).2 (.inl hu), fun o' ho' => ⟨by rw [eth, if_neg hk], by rw [ekp, if_neg hk], o', obOld k o' ho' hk, o'.like_refl⟩⟩
  refine ⟨⟨?_, eS.trans ok.S, eSp.trans ok.Sp, ?_, ?_, ?_, ?_, ok.low⟩, F, I⟩
  · rw [ew]
    have h9 := ok.fr
    exact ⟨hfr.os.trans h9.os, hfr.tape.trans h9.tape, hfr.output.trans h9.output, Nat.le_trans h9.size hfr.size, fun k hk hW => (hfr.block k (Nat.lt_of_lt_of_le hk h9.size) (fun q => q)).trans (h9.block k hk hW)⟩
  · intro k o' h
    by_cases hk : k = id
    · subst hk
      rw [eob] at h; simp only [if_true, Option.some.injEq] at h
      subst h
      exact hh e' F I ew (by rw [eth, if_pos rfl]) (by rw [ekp, if_pos rfl])
    · have h1 := obOld k o' h hk
      have h2 := ok.held k o' h1
      exact h2.keep F I (by rw [eth, if_neg hk]) (by rw [ekp, if_neg hk]) (fun b hb => by rw [ew]; exact hfr.block b (h2.lt hb) (fun q => q))
  · intro i j oi oj b h1 h2 h3 h4
    rw [eth] at h3 h4
    by_cases hi : i = id <;> by_cases hj : j = id
    · rw [hi, hj]
    · rw [if_pos hi] at h3; rw [if_neg hj] at h4
      have := (ok.held j oj (obOld j oj h2 hj)).lt h4; have := (hth b h3).1; omega
    · rw [if_neg hi] at h3; rw [if_pos hj] at h4
      have := (ok.held i oi (obOld i oi h1 hi)).lt h3; have := (hth b h4).1; omega
    · rw [if_neg hi] at h3; rw [if_neg hj] at h4
      exact ok.inj i j oi oj b (obOld i oi h1 hi) (obOld j oj h2 hj) h3 h4
  · intro i o' b h1 h2
    rw [eth] at h2
    by_cases hi : i = id
    · rw [if_pos hi] at h2; have := (hth b h2).1; have := ok.fr.size; exact .inl (by omega)
    · rw [if_neg hi] at h2; exact ok.fresh i o' b (obOld i o' h1 hi) h2
  · intro i o' h1
    by_cases hi : i = id
    · exact (eus i).2 (.inr hi)
    · exact (eus i).2 (.inl (ok.used i o' (obOld i o' h1 hi)))

theorem fresh_own {e : Env} {id es n : Nat} {f : Nat → V} {w' : World} {th' : Option Nat} {kp : Nat} {x : Value} (hx : match th' with | none => n = 0 ∧ ∃ a, x = .slice a 0 0 | some b => x = .slice (some ⟨b, 0, none⟩) n kp) : R (e.fresh id (.arr es n f) w' th' kp) (.own id) x := by
  refine ⟨.inr rfl, fun es' n' f' ho => ?_⟩
  simp only [Env.fresh, if_true, Option.some.injEq, Box.arr.injEq] at ho ⊢
  obtain ⟨_, rfl, _⟩ := ho
  cases th' <;> exact hx

/-- What an own array's room is, as it is asked for, and what came of the question. -/
def V.capv (id : Nat) : V := .cq id fun c x => x = .int .i64 c
def V.capq (id : Nat) (k : Int) : V := .cq id fun c x => x = .bool (decide (k > (c : Int)))
def V.capgt (id : Nat) (k : Int) : V := .cq id fun c _ => (c : Int) < k
def V.caple (id : Nat) (k : Int) : V := .cq id fun c _ => k ≤ (c : Int)

/-- An element of which nothing is known. -/
def hole (ag : Bool) (es : Nat) : V := if ag then .agg (.ar es 1) (fun _ => .any) else .any
theorem hole_R {e : Env} {ag : Bool} {es : Nat} (h1 : ag = false → es = 1) {cs : Array Value} {o : Nat} (hb : o + es ≤ cs.size) (hc : AllOne cs) : (hole ag es).size = es ∧ R e (hole ag es) (piece (hole ag es) cs o es) := by
  cases ag with
  | false => exact ⟨(h1 rfl).symm, trivial⟩
  | true =>
    refine ⟨by simp [hole, V.size, Lay.tot], cs.extract o (o + es), rfl, by simp [Lay.tot]; omega, allOne_extract hc _ _, fun j hj => ⟨rfl, trivial⟩⟩

open Classical in
/-- An answer that must be the same both ways. -/
noncomputable def bth {β : Type} (a b : Option β) : Option β := if a = b then b else none
theorem bth_of {β : Type} {a b : Option β} {r : β} (h : bth a b = some r) : a = some r ∧ b = some r := by
  unfold bth at h
  split at h
  · rename_i hh; exact ⟨hh.trans h, h⟩
  · cases h
theorem bth_t {β : Type} {a b : Option β} {r : β} (h1 : a = some r) (h2 : b = some r) : bth a b = some r := by
  unfold bth
  rw [if_pos (h1.trans h2.symm), h2]

/-- A list with a run of another one laid over it from a place on. -/
def ovl {α : Type} (l : List α) (a : Nat) (v : List α) : List α := l.take a ++ v ++ l.drop (a + v.length)
theorem ovl_len {α : Type} (l : List α) (a : Nat) (v : List α) (h : a + v.length ≤ l.length) : (ovl l a v).length = l.length := by simp [ovl]; omega
theorem ovl_get {α : Type} (l : List α) (a : Nat) (v : List α) (d : α) (h : a + v.length ≤ l.length) (j : Nat) : (ovl l a v).getD j d = if a ≤ j ∧ j < a + v.length then v.getD (j - a) d else l.getD j d := by
  have hta : (l.take a).length = a := by simp; omega
  have htb : (l.take a ++ v).length = a + v.length := by simp; omega
  unfold ovl
  simp only [List.getD_eq_getElem?_getD]
  congr 1
  by_cases h1 : j < a
  · rw [List.append_assoc, List.getElem?_append_left (by omega), if_neg (by omega), List.getElem?_take, if_pos h1]
  · by_cases h2 : j < a + v.length
    · rw [if_pos (by omega), List.getElem?_append_left (by omega), List.getElem?_append_right (by omega), hta]
    · rw [if_neg (fun q => h2 q.2), List.getElem?_append_right (by rw [htb]; omega), List.getElem?_drop]
      have h9 : a + v.length + (j - (l.take a ++ v).length) = j := by rw [htb]; omega
      rw [h9]

section
variable {G : Glob} {nt : Nat} {s : St} {Q : Exit → Act → World → Prop}
theorem aw_condcap {t id es n : Nat} {k : Int} {f : Nat → V} {c d : Code} (hb : lk s.sl t = some (V.capq id k)) (ho : s.obf id = some (.arr es n f))
    (h1 : AW G nt { s with sl := (t, V.capgt id k) :: s.sl } c Q) (h2 : AW G nt { s with sl := (t, V.caple id k) :: s.sl } d Q) : AW G nt s (.cond (.tmp t) c d) Q := by
  rintro a w ⟨e, rfl, hrel⟩
  obtain ⟨hu, hx⟩ := hrel.slots t _ hb
  have hx := hx es n f (by rw [hrel.ob]; exact ho)
  have : a.eval (.tmp t) = .bool (decide (k > (e.cap id : Int))) := hx
  have turn : ∀ v, R e v (a.tmps.getD t undef) → Rel G nt { s with sl := (t, v) :: s.sl } a e := by
    intro v hv
    refine ⟨hrel.ok, fun t' v' h => ?_, hrel.ob, hrel.us, hrel.size, hrel.defs⟩
    rw [lk_cons] at h
    by_cases q : t = t'
    · subst q; rw [if_pos rfl] at h; cases h; exact hv
    · rw [if_neg q] at h; exact hrel.slots t' v' h
  have hob : ∀ es' n' f', e.ob id = some (.arr es' n' f') → True := fun _ _ _ _ => trivial
  refine wp_cond_split this (fun hb => ?_) (fun hb => ?_)
  · refine h1 a _ ⟨e, rfl, turn _ ⟨hu, fun _ _ _ _ => ?_⟩⟩
    have := of_decide_eq_true hb; show (e.cap id : Int) < k; omega
  · refine h2 a _ ⟨e, rfl, turn _ ⟨hu, fun _ _ _ _ => ?_⟩⟩
    have := of_decide_eq_false hb; show k ≤ (e.cap id : Int); omega

/-- A nil slice, as an own array of no elements. -/
theorem cov_void {t id es : Nat} {f : Nat → V} (hb : lk s.sl t = some .nil) (hid : id = s.nx) : Cov G nt s { sl := (t, .own id) :: s.sl, ob := (id, some (.arr es 0 f)) :: s.ob, nx := s.nx + 1 } := by
  subst hid
  rintro a w ⟨e, rfl, hrel⟩
  have hx : a.tmps.getD t undef = .slice none 0 0 := hrel.slots t _ hb
  have hid : ¬ e.us s.nx := fun h => by have := hrel.us _ h; omega
  have gr := grow_fresh hrel.ok hid (o := .arr es 0 f) (w' := e.w) (th' := none) (kp := 0) (Frame0.refl _ _) (fun b hb => by cases hb) (fun e' _ _ _ ht _ => by simp only [Held, ht])
  refine ⟨e.fresh s.nx (.arr es 0 f) e.w none 0, rfl, gr.ok, fun t' v' h => ?_, ?_, ?_, hrel.size, hrel.defs⟩
  · simp only at h
    rw [lk_cons] at h
    by_cases q : t = t'
    · subst q; rw [if_pos rfl] at h; cases h
      rw [hx]; exact fresh_own (th' := none) ⟨rfl, none, rfl⟩
    · rw [if_neg q] at h; exact gr.keep (hrel.slots t' v' h)
  · show (fun k => if k = s.nx then some (Box.arr es 0 f) else e.ob k) = _
    rw [hrel.ob]
    funext k
    simp only [St.obf, appOb, lk_cons]
    by_cases q : k = s.nx
    · subst q; simp
    · have : ¬ s.nx = k := fun h => q h.symm
      simp [q, this]
  · intro k hk
    rcases hk with hk | hk
    · have := hrel.us k hk; simp only; omega
    · simp only; omega
theorem cov_trans {s1 s2 : St} (h1 : Cov G nt s s1) (h2 : Cov G nt s1 s2) : Cov G nt s s2 := fun a w hr => h2 a w (h1 a w hr)
end

section
variable {G : Glob} {dst : Option Tmp} {ty : TypeId} {pos : String} {af : Array Edge} {g : Option (Nat × Bool)}

theorem does_lennil (T es t : Nat) (hE : ElOk G.P T none es) : Does G ⟨dst, .call { callee := .builtin .len, args := #[.tmp t], argTypes := #[T] }, ty, pos, af, g⟩ { need := [(t, .nil)], eff := { v := .int .i64 0 } } :=
  does_value rfl rfl fun e a ok hn ho => by
    have h3 : a.eval (.tmp t) = .slice none 0 0 := hn (t, .nil) (by simp)
    obtain ⟨E, inf, hu, hi, hs⟩ := hE.has
    exact ⟨.int .i64 0, by simp [execOp, resolve, invoke, builtin, h3, Builtin.len_, run_underlying hu, goInt], rfl⟩
theorem does_capnil (T es t : Nat) (hE : ElOk G.P T none es) : Does G ⟨dst, .call { callee := .builtin .cap, args := #[.tmp t], argTypes := #[T] }, ty, pos, af, g⟩ { need := [(t, .nil)], eff := { v := .int .i64 0 } } :=
  does_value rfl rfl fun e a ok hn ho => by
    have h3 : a.eval (.tmp t) = .slice none 0 0 := hn (t, .nil) (by simp)
    obtain ⟨E, inf, hu, hi, hs⟩ := hE.has
    exact ⟨.int .i64 0, by simp [execOp, resolve, invoke, builtin, h3, Builtin.cap_, run_underlying hu, goInt], rfl⟩
theorem does_capo (T es n t id : Nat) (f : Nat → V) (hE : ElOk G.P T none es) : Does G ⟨dst, .call { callee := .builtin .cap, args := #[.tmp t], argTypes := #[T] }, ty, pos, af, g⟩ { need := [(t, .own id)], nob := [(id, .arr es n f)], eff := { v := V.capv id } } :=
  does_value rfl rfl fun e a ok hn ho => by
    obtain ⟨hus, hp⟩ := hn (t, .own id) (by simp)
    have hp := hp es n f (ho (id, .arr es n f) (by simp))
    obtain ⟨E, inf, hu, hi, hs⟩ := hE.has
    have h3 : ∃ ad, a.eval (.tmp t) = .slice ad n (e.cap id) := by
      unfold Env.cap
      cases hth : e.th id with
      | none => rw [hth] at hp; obtain ⟨h0, ab, hp⟩ := hp; subst h0; exact ⟨ab, hp⟩
      | some b => rw [hth] at hp; exact ⟨_, hp⟩
    obtain ⟨ad, h3⟩ := h3
    exact ⟨.int .i64 (e.cap id), by simp [execOp, resolve, invoke, builtin, h3, Builtin.cap_, run_underlying hu, goInt], hus, fun _ _ _ _ => rfl⟩
theorem does_gtcap (xT yT t id es n : Nat) (f : Nat → V) (x : Operand) (k : Int) (hx : cOk x (.int .i64 k)) : Does G ⟨dst, .binOp .gtr xT x (.tmp t) yT, ty, pos, af, g⟩ { need := (t, V.capv id) :: nd x (.int .i64 k), nob := [(id, .arr es n f)], eff := { v := V.capq id k } } :=
  does_value rfl rfl fun e a ok hn ho => by
    obtain ⟨hus, hp⟩ := hn (t, V.capv id) (by simp)
    have h2 : a.eval (.tmp t) = .int .i64 (e.cap id) := hp es n f (ho (id, .arr es n f) (by simp))
    have h1 : a.eval x = .int .i64 k := R.operand hn hx (fun _ h => by simp [h])
    exact ⟨.bool (decide (k > (e.cap id : Int))), by simp [execOp, h1, h2, eqGuard_at_int, binOp_gtr, Op.intCmp], hus, fun _ _ _ _ => rfl⟩

theorem does_slicenil (T es t : Nat) (lo hi : Option (Operand × IntKind × Int)) (low high : Option Operand) (hE : ElOk G.P T none es) (e1 : low = lo.map (·.1)) (e2 : high = hi.map (·.1)) (c1 : cOko lo) (c2 : cOko hi) (hl : valo lo 0 = 0) (hh : valo hi 0 = 0) :
    Does G ⟨dst, .slice T (.tmp t) low high none, ty, pos, af, g⟩ { need := (t, .nil) :: (ndo lo ++ ndo hi), eff := { v := .nil } } :=
  does_value rfl rfl fun e a ok hn ho => by
    subst e1; subst e2
    have hev : a.eval (.tmp t) = .slice none 0 0 := hn (t, .nil) (by simp)
    have hr := run_sliceAt (P := G.P) (a := a) hE (need := (t, .nil) :: (ndo lo ++ ndo hi)) hn c1 c2 (fun p hp => by simp [hp]) (fun p hp => by simp [hp]) (len := 0) (cap := 0) (l := 0) (h := 0) hl hh (Nat.le_refl _) (Nat.le_refl _) e.w none
    exact ⟨_, by simp only [execOp, hev, Option.map_none, Sem.run_bind, hr, Result.andThen_ok, Sem.run_pure]; rfl, rfl⟩

theorem one_zero' {T es by_ : Nat} {E : TypeId} {i : TypeInfo} {z : Value} (hz1 : z.cells.all (·.oneCell') = true) (hzs : z.cells.size = es) (hes : 0 < es) (k : Nat) : AllOne (Builtin.zeroCells z.cells k) := by
  intro c hc
  simp only [Builtin.zeroCells, Array.mem_map, Array.mem_range] at hc
  obtain ⟨q, hq, rfl⟩ := hc
  have hlt : q % z.cells.size < z.cells.size := Nat.mod_lt _ (by omega)
  rw [getElem!_pos z.cells (q % z.cells.size) hlt]
  exact Array.all_eq_true'.1 hz1 _ (Array.getElem_mem _)

/-- append of so many zeros to a slice that has no room for them: a new array; the elder one stays. -/
theorem run_append_grow_zeros {P : Program} (w : World) (t tn ty e : TypeId) (i : TypeInfo) (z : Value) (k kn : IntKind) (ht : P.underlying t = some (.slice e)) (htn : P.underlying tn = some (.int kn)) (hi : P.info? e = some i) (hz : i.zero = some z)
    (base : Option Addr) (sLen sCap : Nat) (olds : List Value) (hlo : olds.length = sLen * i.size) (holds : sLen = 0 ∨ ∃ b, base = some b ∧ ∀ j v, olds[j]? = some v → w.cell? (b.add j) = some v)
    (n : Nat) (h0 : 0 < n) (hs : 0 < i.size) (hg : sCap < sLen + n) (h63 : ((sLen + n : Nat) : Int) ≤ 9223372036854775807) (h48 : n * i.bytes ≤ 281474976710656) (hfit : Builtin.nextslicecap (sLen + n) sCap * i.bytes ≤ 281474976710656) :
    (Builtin.append_ #[t, tn] ty #[.slice base sLen sCap, .int k n]).run P w =
      .ok (.slice (some ⟨w.heap.size, 0, none⟩) (sLen + n) (grownCap w (sLen + n) sCap e)) (w.drew.alloc (.cells (olds.toArray ++ Builtin.zeroCells z.cells n ++ Builtin.zeroCells z.cells (grownCap w (sLen + n) sCap e - (sLen + n))) e)) := by
  have hn : ¬ (sLen + n ≤ sCap) := by omega
  have hw : IntKind.i64.wrap (n : Int) = n := by rw [IntKind.wrap_i64]; omega
  have h63' : ¬ (9223372036854775807 < ((sLen : Int) + (n : Int))) := by omega
  have h48' : ¬ (281474976710656 < Builtin.nextslicecap (sLen + n) sCap * i.bytes) := by omega
  have h48i : ¬ (281474976710656 < (n : Int) * (i.bytes : Int)) := by rw [← Int.natCast_mul]; omega
  have hneg : ¬ ((n : Int) < 0) := by omega
  have hfo : (Builtin.firstCells i.size sLen (.slice base sLen sCap)).run P w.drew = .ok olds.toArray w.drew := by
    rcases holds with h0 | ⟨b, rfl, hb⟩
    · subst h0
      have : olds = [] := List.eq_nil_of_length_eq_zero (by omega)
      subst this
      cases base <;> simp [Builtin.firstCells, loadCells, loadCellsFrom]
    · exact run_firstCells_some (P := P) w.drew i.size sLen b sLen sCap olds hlo (by simpa using hb)
  have hns : ¬ (n * i.size = 0) := Nat.mul_ne_zero (by omega) (by omega)
  simp [Builtin.append_, run_underlying ht, run_underlying htn, sizeOf, typeInfo, zeroValue, hi, hz, asInt, asIntOf, hw, hn, hneg, hns, h63', h48', h48i, Question.forced, hfo, newRow, grownCap]

/-- append(nil, so many zeros). -/
theorem does_appendNZ {α : Type} (ev : α → V) (d : α) (T N es by_ id t : Nat) (x : Operand) (k kn : IntKind) (m : Int) (hB : SlOk G.P T es (ev d)) (hA : ApOk G.P T es by_) (hN : G.P.underlying N = some (.int kn)) (hx : cOk x (.int k m)) (hm : 0 < m ∧ m ≤ maxLen ∧ m.toNat * by_ ≤ 140737488355328) :
    Does G ⟨dst, .call { callee := .builtin .append, args := #[.tmp t, x], argTypes := #[T, N] }, ty, pos, af, g⟩ { need := (t, .nil) :: nd x (.int k m), eff := { v := .own id, upd := [(id, some (.arr es (List.replicate m.toNat d).length fun j => ev ((List.replicate m.toNat d).getD j d)))], new := [id] } } := by
  intro e a ok hnd K Q hK
  have hid := hnd.2.2 id (by simp)
  have h1 : a.eval (.tmp t) = .slice none 0 0 := hnd.1 (t, .nil) (by simp)
  have h2 : a.eval x = .int k m := R.operand hnd.1 hx (fun _ h => by simp [h])
  obtain ⟨E, i, z, hu, hi, hes, hz, hck, hzs⟩ := hB.has
  obtain ⟨E', i', z', hu', hi', hes', hz', hzs', hz1, hby⟩ := hA.has
  rw [hu] at hu'; cases hu'
  rw [hi] at hi'; cases hi'
  rw [hz] at hz'; cases hz'
  have hmx : maxLen ≤ 9223372036854775807 := by decide
  obtain ⟨n, hn⟩ : ∃ n : Nat, m = n := ⟨m.toNat, by omega⟩
  subst hn
  simp only [Int.toNat_natCast] at hm ⊢
  have hpos := hB.pos
  have hrun := run_append_grow_zeros (P := G.P) (ty := ty) e.w T N E i z k kn hu hN hi hz none 0 0 [] (by simp) (.inl rfl) n (by omega) (by omega) (by omega) (by omega) (by rw [hby]; omega) (by rw [Nat.zero_add, nextslicecap_zero (by omega), hby]; omega)
  simp only [Nat.zero_add] at hrun
  have hcapge := grownCap_ge e.w n 0 E
  generalize hcs : (([] : List Value).toArray ++ Builtin.zeroCells z.cells n ++ Builtin.zeroCells z.cells (grownCap e.w n 0 E - n)) = cs at hrun
  have hr0 := zeros_R (e := e) hck hB.solid hB.size n hpos
  obtain ⟨l1, l2, l3⟩ := arr_lies hr0
  have hz0 : (Builtin.zeroCells z.cells n) = (Array.range (n * es)).map fun k => z.cells[k % z.cells.size]! := by unfold Builtin.zeroCells; rw [hzs]
  have hzn : (Builtin.zeroCells z.cells n).size = n * es := by rw [hz0]; exact l1
  have hsz : cs.size = grownCap e.w n 0 E * es := by
    rw [← hcs]
    simp only [Array.size_append, size_zeroCells, hzs]
    rw [show (([] : List Value).toArray).size = 0 from rfl, Nat.zero_add, ← Nat.add_mul]; congr 1; omega
  have hl : ∀ e' : Env, Follows e e' → IdKeeps e e' → Lies e' (.arr es (List.replicate n d).length fun j => ev ((List.replicate n d).getD j d)) cs (grownCap e.w n 0 E) := by
    intro e' F I
    refine ⟨?_, hsz, by simp; omega, fun j hj => ?_⟩
    · rw [← hcs]
      intro c hc
      simp only [Array.mem_append] at hc
      rcases hc with (q | q) | q
      · simp at q
      · exact one_zero' (T := T) (by_ := by_) (E := E) (i := i) (z := z) hz1 hzs hpos n c q
      · exact one_zero' (T := T) (by_ := by_) (E := E) (i := i) (z := z) hz1 hzs hpos _ c q
    · simp only [List.length_replicate] at hj
      have : (List.replicate n d).getD j d = d := by simp [List.getD_eq_getElem?_getD, List.getElem?_replicate, hj]
      simp only [this]
      obtain ⟨r1, r2⟩ := l3 j hj
      refine ⟨r1, R.keep F _ (.inl I) _ ?_⟩
      have hb : j * es + es ≤ (Builtin.zeroCells z.cells n).size := by
        have : (j + 1) * es ≤ n * es := Nat.mul_le_mul_right _ hj
        rw [Nat.succ_mul] at this; omega
      rw [← hcs, piece_append (by simp; omega) (fun _ => hpos), piece_append_right (by simp)]
      simp only [List.size_toArray, List.length_nil, Nat.sub_zero]
      rw [hz0]; exact r2
  have hfr : Frame0 (fun _ => False) e.w (e.w.drew.alloc (.cells cs E)) := ⟨rfl, rfl, rfl, by simp, fun k hk _ => by rw [heap_alloc_at, if_neg (show k ≠ e.w.drew.heap.size by simp; omega)]; rfl⟩
  have gr := grow_fresh ok hid (o := .arr es (List.replicate n d).length fun j => ev ((List.replicate n d).getD j d)) (th' := some e.w.heap.size) (kp := grownCap e.w n 0 E) hfr (fun b hb => by cases hb; simp)
    (fun e' F I hw ht hk => Lies.held (b := e.w.heap.size) (T := (E, (0, 0))) (cells := cs) (by rw [hk]; exact hl e' F I) ht (Row.of (by rw [hw, heap_alloc_at, if_pos (show e.w.heap.size = e.w.drew.heap.size from rfl)])))
  unfold Oper.wp
  have hm2 : (#[Operand.tmp t, x] : Array Operand).map a.eval = #[a.eval (.tmp t), a.eval x] := by simp
  simp only [execOp, resolve, Sem.run_bind, Sem.run_pure, Result.andThen_ok, invoke, builtin, hm2, h1, h2, hrun]
  exact hK _ _ gr (by rw [appOb_one]; rfl) (by intro k; simp [Env.fresh]) (fresh_own (th' := some e.w.heap.size) (by simp only [List.length_replicate]))

/-- An own array made longer, up to its room: nothing is known of the elements that it has more. -/
theorem does_ext (T es n t id id' gs : Nat) (f h : Nat → V) (ag : Bool) (x : Operand) (kd : IntKind) (k : Int) (hE : ElOk G.P T none es) (h1 : ag = false → es = 1) (hx : cOk x (.int kd k)) (hn : (n : Int) ≤ k) (hf : ∀ j, j < n → h j = f j) (hh : ∀ j, n ≤ j → h j = hole ag es) :
    Does G ⟨dst, .slice T (.tmp t) none (some x) none, ty, pos, af, g⟩ { need := (t, .own id) :: (gs, V.caple id k) :: nd x (.int kd k), nob := [(id, .arr es n f)], eff := { v := .own id', upd := [(id', some (.arr es k.toNat h)), (id, none)], new := [id'] } } := by
  intro e a ok hnd K Q hK
  obtain ⟨hus, hown⟩ := hnd.1 (t, .own id) (by simp)
  have hob : e.ob id = some (.arr es n f) := hnd.2.1 (id, .arr es n f) (by simp)
  have hid := hnd.2.2 id' (by simp)
  have hown := hown es n f hob
  obtain ⟨_, hcap⟩ := hnd.1 (gs, V.caple id k) (by simp)
  have hcap : k ≤ (e.cap id : Int) := hcap es n f hob
  have hheld := ok.held id _ hob
  have hne : id' ≠ id := fun hh => hid (hh ▸ hus)
  have hk : (k.toNat : Int) = k := by omega
  have hev : ∃ ad, a.eval (.tmp t) = .slice ad n (e.cap id) ∧ (∀ b, e.th id = some b → ad = some ⟨b, 0, none⟩) := by
    unfold Env.cap
    cases hth : e.th id with
    | none => rw [hth] at hown; obtain ⟨h0, ab, hp⟩ := hown; subst h0; exact ⟨ab, hp, fun b hb => by cases hb⟩
    | some b => rw [hth] at hown; exact ⟨_, hown, fun b' hb => by cases hb; rfl⟩
  obtain ⟨ad, hev, had⟩ := hev
  have hr := run_sliceAt (P := G.P) (a := a) hE (need := nd x (.int kd k)) (lo := none) (hi := some (x, kd, k)) (fun p hp => hnd.1 p (by simp [hp])) trivial hx (fun p hp => by cases hp) (fun p hp => hp) (len := n) (cap := e.cap id) (l := 0) (h := k.toNat) rfl (by simp only [valo]; omega) (by omega) (by omega) e.w ad
  simp only [Option.map_none, Option.map_some, Nat.zero_mul, Nat.sub_zero] at hr
  have gr := grow_rename ok hid hob (h := h) (m := k.toNat) (w' := e.w) (th' := e.th id) (kp := e.kap id) (Frame0.refl _ _) (fun b hb => .inl hb) (fun e' F I hw ht hk' => by
    cases hth : e.th id with
    | none =>
      have : e.cap id = 0 := by unfold Env.cap; rw [hth]
      simp only [Held, ht, hth]; omega
    | some b =>
      have hcp : e.cap id = e.kap id := by unfold Env.cap; rw [hth]
      obtain ⟨cs, T', l1, l2, l3, l4, l5⟩ := hheld.lies hth
      refine Lies.held (b := b) (T := T') (cells := cs) ?_ (ht.trans hth) (by rw [hw]; exact l1)
      refine ⟨l2, by rw [hk']; exact l3, by rw [hk']; omega, fun j hj => ?_⟩
      by_cases hjn : j < n
      · rw [hf j hjn]; exact ⟨(l5 j hjn).1, R.keep F _ (.inl I) _ (l5 j hjn).2⟩
      · rw [hh j (by omega)]
        refine hole_R h1 ?_ l2
        have : (j + 1) * es ≤ e.kap id * es := Nat.mul_le_mul_right _ (by omega)
        rw [Nat.succ_mul] at this; rw [l3]; exact this)
  unfold Oper.wp
  simp only [execOp, hev, Option.map_none, Option.map_some, Sem.run_bind, hr, Result.andThen_ok, Sem.run_pure]
  generalize hEE : ({ e with w := e.w, th := fun k => if k = id' then e.th id else e.th k, kap := fun k => if k = id' then e.kap id else e.kap k, ob := fun k_1 => if k_1 = id' then some (Box.arr es k.toNat h) else if k_1 = id then none else e.ob k_1, us := fun k => e.us k ∨ k = id' } : Env) = e' at gr
  have ew : e'.w = e.w := by subst hEE; rfl
  suffices hfin : ∀ v, v = Value.slice (if e.cap id = 0 then ad else Option.map (fun x => x.add 0) ad) k.toNat (e.cap id) → K (a.put dst v) e'.w by
    rw [ew] at hfin; exact hfin _ rfl
  intro v hv
  refine hK _ e' gr ?_ (by subst hEE; intro q; simp) ?_
  · subst hEE
    funext q
    simp only [appOb, lk_cons]
    by_cases q1 : id' = q
    · subst q1; simp
    · by_cases q2 : id = q
      · subst q2; simp [hne, Ne.symm hne]
      · simp [q1, q2, Ne.symm q1, Ne.symm q2, lk]
  · subst hv
    subst hEE
    refine ⟨.inr rfl, fun es' n' f' ho => ?_⟩
    simp only [if_true, Option.some.injEq, Box.arr.injEq] at ho ⊢
    obtain ⟨_, rfl, _⟩ := ho
    cases hth : e.th id with
    | none =>
      have : e.cap id = 0 := by unfold Env.cap; rw [hth]
      simp only
      refine ⟨by omega, ad, ?_⟩
      rw [this]; simp; omega
    | some b =>
      have hcp : e.cap id = e.kap id := by unfold Env.cap; rw [hth]
      rw [had b hth, hcp]
      by_cases hc0 : e.kap id = 0
      · simp [hc0]
      · simp [hc0, Addr.add_lit]

/-- copy into an own array: where the elements come from is told apart. -/
theorem does_copy (T T2 es m t u id a1 k1 k2 : Nat) (f gx h : Nat → V) (sv : V) (nobs : List (Nat × Box)) (hE : ElOk G.P T none es) (hes : 0 < es) (hb : a1 + min k2 k1 ≤ m) (hm : (id, .arr es m f) ∈ nobs)
    (src : ∀ e : Env, Ok G e → (∀ p ∈ nobs, e.ob p.1 = some p.2) → ∀ x, R e sv x → ∃ ad c, x = .slice ad k2 c ∧ (min k2 k1 = 0 ∨ ∃ ad' cs, ad = some ad' ∧ cs.size = min k2 k1 * es ∧ CellsAt e.w ad' cs ∧ AllOne cs ∧ ∀ j, j < min k2 k1 → (gx j).size = es ∧ R e (gx j) (piece (gx j) cs (j * es) es)))
    (h1 : ∀ j, a1 ≤ j → j < a1 + min k2 k1 → h j = gx (j - a1)) (h2 : ∀ j, j < m → j < a1 ∨ a1 + min k2 k1 ≤ j → h j = f j) :
    Does G ⟨dst, .call { callee := .builtin .copy, args := #[.tmp t, .tmp u], argTypes := #[T, T2] }, ty, pos, af, g⟩ { need := [(t, .view id a1 k1), (u, sv)], nob := nobs, eff := { v := .int .i64 ((min k2 k1 : Nat) : Int), upd := [(id, some (.arr es m h))] } } := by
  intro e a ok hnd K Q hK
  obtain ⟨hu, hx⟩ := hnd.1 (t, .view id a1 k1) (by simp)
  have hob := hnd.2.1 _ hm
  obtain ⟨_, ad, c, hx, hkc, hor⟩ := hx es m f hob
  obtain ⟨ad2, c2, hy, hsrc⟩ := src e ok (fun p hp => hnd.2.1 p hp) _ (hnd.1 (u, sv) (by simp))
  have ev1 : a.eval (.tmp t) = .slice ad k1 c := hx
  have ev2 : a.eval (.tmp u) = .slice ad2 k2 c2 := hy
  have hm2 : (#[Operand.tmp t, Operand.tmp u] : Array Operand).map a.eval = #[.slice ad k1 c, .slice ad2 k2 c2] := by simp [ev1, ev2]
  have hheld := ok.held id _ hob
  obtain ⟨E, inf, hu', hi, hs⟩ := hE.has
  have hex : ∀ v' w', (Builtin.copy_ #[T, T2] ty #[.slice ad k1 c, .slice ad2 k2 c2]).run G.P e.w = .ok v' w' → (execOp a.eval ⟨dst, .call { callee := .builtin .copy, args := #[.tmp t, .tmp u], argTypes := #[T, T2] }, ty, pos, af, g⟩).run G.P e.w = .ok (.value v') w' := by
    intro v' w' hrun
    simp only [execOp, resolve, Sem.run_bind, Sem.run_pure, Result.andThen_ok, invoke, builtin, hm2, hrun]
  unfold Oper.wp
  by_cases h0 : min k2 k1 = 0
  · have h0' : Nat.min k2 k1 = 0 := h0
    have hrun : (Builtin.copy_ #[T, T2] ty #[.slice ad k1 c, .slice ad2 k2 c2]).run G.P e.w = .ok (goInt 0) e.w := by
      cases ad <;> cases ad2 <;> simp [Builtin.copy_, run_underlying hu', Builtin.lenOf, Builtin.firstCells, sizeOf, typeInfo, hi, h0', storeCells, loadCells, loadCellsFrom]
    rw [hex _ _ hrun]
    refine hK _ { e with ob := fun k => if k = id then some (.arr es m h) else e.ob k } (grow_reob ok hob (o := .arr es m h) ⟨rfl, rfl⟩ ?_) (by rw [appOb_one]) (by simp) (by rw [h0]; rfl)
    intro e' F I hw ht hk
    have := hheld.keep F I (by rw [ht]) (by rw [hk]) (fun b _ => by rw [hw])
    simp only [Held] at this ⊢
    split
    · rename_i q; rw [q] at this; exact this
    · rename_i b q
      rw [q] at this
      obtain ⟨cs, T', q1, q2, q3, q4, q5⟩ := this
      exact ⟨cs, T', q1, q2, q3, q4, fun j hj => by rw [h2 j hj (by omega)]; exact q5 j hj⟩
  · rcases hsrc with q | ⟨ad', cs, rfl, hz, hcell, hone, hel⟩
    · exact absurd q h0
    rcases hor with q | ⟨b, hth, rfl⟩
    · omega
    obtain ⟨cells, T', l1, l2⟩ := hheld.lies hth
    have hv : R e (.agg (.ar (min k2 k1) es) gx) (.agg cs) := ⟨cs, rfl, hz, hone, hel⟩
    obtain ⟨s1, s2, s3⟩ := Lies.splice (lo := a1) (h := h) l2 hes hv hb h1 h2
    have hl := run_firstCells_some (P := G.P) e.w es (min k2 k1) ad' k2 c2 cs.toList (by simpa using hz) (cellsAt_list hcell)
    have hst := run_storeRow (P := G.P) b (a1 * es) _ cs.toList 0 cells e.w l1 (by simpa using s2) (fun v hv => hone v (by simpa using hv))
    have hrun : (Builtin.copy_ #[T, T2] ty #[.slice (some ⟨b, a1 * es, none⟩) k1 c, .slice (some ad') k2 c2]).run G.P e.w = .ok (goInt ((min k2 k1 : Nat) : Int)) (e.w.setRow b (cells.toList.take (a1 * es) ++ cs.toList ++ cells.toList.drop (a1 * es + cs.toList.length)).toArray) := by
      have hmn : Nat.min k2 k1 = min k2 k1 := rfl
      simp only [Nat.add_zero] at hst
      simp only [Array.toArray_toList] at hl
      simp [Builtin.copy_, run_underlying hu', Builtin.lenOf, sizeOf, typeInfo, hi, hs, hmn, hl, hst]
    rw [hex _ _ hrun]
    exact hK _ (e.write id b (.arr es m h) _) (grow_write ok hob hth l1 (s3.2.1.trans l2.2.1.symm) ⟨rfl, rfl⟩ s3) (by rw [appOb_one]; rfl) (by intro k; simp [Env.write]) rfl

/-- Elements of an own array's part, as a copy's source. -/
theorem view_src {e : Env} {id es m lo k2 k : Nat} {f : Nat → V} (ok : Ok G e) (hob : e.ob id = some (.arr es m f)) (hes : 0 < es) (hk : k ≤ k2) (hb : lo + k ≤ m) {x : Value} (hx : R e (.view id lo k2) x) :
    ∃ ad c, x = .slice ad k2 c ∧ (k = 0 ∨ ∃ ad' cs, ad = some ad' ∧ cs.size = k * es ∧ CellsAt e.w ad' cs ∧ AllOne cs ∧ ∀ j, j < k → (f (lo + j)).size = es ∧ R e (f (lo + j)) (piece (f (lo + j)) cs (j * es) es)) := by
  obtain ⟨_, hx⟩ := hx
  obtain ⟨_, ad, c, hx, hkc, hor⟩ := hx es m f hob
  refine ⟨ad, c, hx, ?_⟩
  by_cases h0 : k = 0
  · exact .inl h0
  · rcases hor with q | ⟨b, hth, rfl⟩
    · omega
    obtain ⟨cells, T', l1, c1, c2, c3, c4⟩ := (ok.held id _ hob).lies hth
    have hsz : (lo + k) * es ≤ cells.size := by rw [c2]; exact Nat.mul_le_mul_right _ (by omega)
    rw [Nat.add_mul] at hsz
    refine .inr ⟨_, cells.extract (lo * es) (lo * es + k * es), rfl, by simp; omega, sub_cells l1.1, allOne_extract c1 _ _, fun j hj => ?_⟩
    obtain ⟨r1, r2⟩ := c4 (lo + j) (by omega)
    refine ⟨r1, ?_⟩
    have hjj : (j + 1) * es ≤ k * es := Nat.mul_le_mul_right _ hj
    rw [Nat.succ_mul] at hjj
    rw [piece_extract _ cells (lo * es) (k * es) (j * es) es hjj (.inl hes) (by omega), ← Nat.add_mul]
    exact r2

/-- copy of a slice that stays, on lists. -/
theorem does_copyL {α : Type} (e : α → V) (d : α) (l v : List α) (T T2 es t u id a1 k1 : Nat) (hE : ElOk G.P T none es) (hes : 0 < es) (hb : a1 + min v.length k1 ≤ l.length) :
    Does G ⟨dst, .call { callee := .builtin .copy, args := #[.tmp t, .tmp u], argTypes := #[T, T2] }, ty, pos, af, g⟩ { need := [(t, .view id a1 k1), (u, .sl es v.length fun j => e (v.getD j d))], nob := [(id, .arr es l.length fun j => e (l.getD j d))], eff := { v := .int .i64 ((min v.length k1 : Nat) : Int), upd := [(id, some (.arr es (ovl l a1 (v.take k1)).length fun j => e ((ovl l a1 (v.take k1)).getD j d)))] } } := by
  have hl : (v.take k1).length = min v.length k1 := by simp; omega
  rw [ovl_len l a1 (v.take k1) (by omega)]
  refine does_copy T T2 es l.length t u id a1 k1 v.length (fun j => e (l.getD j d)) (fun j => e (v.getD j d)) _ (.sl es v.length fun j => e (v.getD j d)) _ hE hes hb (by simp) (fun ee ok ho x hx => ?_) (fun j q1 q2 => ?_) (fun j q1 q2 => ?_)
  · obtain ⟨ad, c, hx, hnc, hor⟩ := hx
    refine ⟨ad, c, hx, ?_⟩
    by_cases h0 : min v.length k1 = 0
    · exact .inl h0
    · rcases hor with q | ⟨ad', cs, rfl, _, _, _, hz, hcell, hone, hr⟩
      · omega
      have hle : min v.length k1 * es ≤ v.length * es := Nat.mul_le_mul_right _ (Nat.min_le_left _ _)
      refine .inr ⟨ad', cs.extract 0 (0 + min v.length k1 * es), rfl, by simp; omega, ⟨hcell.1, hcell.2.1, fun i hi => ?_⟩, allOne_extract hone _ _, fun j hj => ?_⟩
      · have hz2 : (cs.extract 0 (0 + min v.length k1 * es)).size = min v.length k1 * es := by simp; omega
        rw [hz2] at hi
        rw [hcell.2.2 i (by omega), Array.getElem?_extract]
        simp; omega
      · obtain ⟨r1, r2⟩ := hr j (by omega)
        refine ⟨r1, ?_⟩
        have hjj : (j + 1) * es ≤ min v.length k1 * es := Nat.mul_le_mul_right _ hj
        rw [Nat.succ_mul] at hjj
        rw [piece_extract _ cs 0 (min v.length k1 * es) (j * es) es hjj (.inl hes) (by omega), Nat.zero_add]
        exact r2
  · show e _ = e _
    rw [ovl_get l a1 _ d (by omega), if_pos ⟨q1, by omega⟩, getD_take _ _ (by omega)]
  · show e _ = e _
    rw [ovl_get l a1 _ d (by omega), if_neg (by omega)]

/-- copy of another own array's part, on lists. -/
theorem does_copyB {α : Type} (e : α → V) (d : α) (l l2 : List α) (T T2 es t u id id2 a1 k1 lo k2 : Nat) (hE : ElOk G.P T none es) (hes : 0 < es) (hb : a1 + min k2 k1 ≤ l.length) (hb2 : lo + k2 ≤ l2.length) :
    Does G ⟨dst, .call { callee := .builtin .copy, args := #[.tmp t, .tmp u], argTypes := #[T, T2] }, ty, pos, af, g⟩ { need := [(t, .view id a1 k1), (u, .view id2 lo k2)], nob := [(id, .arr es l.length fun j => e (l.getD j d)), (id2, .arr es l2.length fun j => e (l2.getD j d))], eff := { v := .int .i64 ((min k2 k1 : Nat) : Int), upd := [(id, some (.arr es (ovl l a1 (((l2.drop lo).take k2).take k1)).length fun j => e ((ovl l a1 (((l2.drop lo).take k2).take k1)).getD j d)))] } } := by
  have hl : (((l2.drop lo).take k2).take k1).length = min k2 k1 := by simp; omega
  rw [ovl_len l a1 _ (by omega)]
  refine does_copy T T2 es l.length t u id a1 k1 k2 (fun j => e (l.getD j d)) (fun j => e (l2.getD (lo + j) d)) _ (.view id2 lo k2) _ hE hes hb (by simp) (fun ee ok ho x hx => ?_) (fun j q1 q2 => ?_) (fun j q1 q2 => ?_)
  · exact view_src ok (ho (id2, .arr es l2.length fun j => e (l2.getD j d)) (by simp)) hes (Nat.min_le_left _ _) (by omega) hx
  · show e _ = e _
    rw [ovl_get l a1 _ d (by omega), if_pos ⟨q1, by omega⟩, getD_take _ _ (by omega), getD_take _ _ (by omega)]
    congr 1
    simp [List.getD_eq_getElem?_getD, List.getElem?_drop]
  · show e _ = e _
    rw [ovl_get l a1 _ d (by omega), if_neg (by omega)]

/-- What an array made longer holds. -/
def extF {α : Type} (e : α → V) (d : α) (l : List α) (h : V) : Nat → V := fun j => if j < l.length then e (l.getD j d) else h
theorem does_extL {α : Type} (e : α → V) (d : α) (l : List α) (T es t id id' gs : Nat) (ag : Bool) (x : Operand) (kd : IntKind) (k : Int) (hE : ElOk G.P T none es) (h1 : ag = false → es = 1) (hx : cOk x (.int kd k)) (hn : (l.length : Int) ≤ k) :
    Does G ⟨dst, .slice T (.tmp t) none (some x) none, ty, pos, af, g⟩ { need := (t, .own id) :: (gs, V.caple id k) :: nd x (.int kd k), nob := [(id, .arr es l.length fun j => e (l.getD j d))], eff := { v := .own id', upd := [(id', some (.arr es k.toNat (extF e d l (hole ag es)))), (id, none)], new := [id'] } } :=
  does_ext T es l.length t id id' gs _ _ ag x kd k hE h1 hx hn (fun j hj => by simp [extF, hj]) (fun j hj => by simp [extF]; omega)

/-- copy within an array made longer, up to its end. -/
theorem does_copyC {α : Type} (e : α → V) (d : α) (l : List α) (hv : V) (T T2 es t u id m a1 k1 lo k2 : Nat) (hE : ElOk G.P T none es) (hes : 0 < es) (hq : a1 ≤ l.length ∧ a1 + min k2 k1 = m ∧ lo + min k2 k1 ≤ l.length ∧ l.length ≤ m) :
    Does G ⟨dst, .call { callee := .builtin .copy, args := #[.tmp t, .tmp u], argTypes := #[T, T2] }, ty, pos, af, g⟩ { need := [(t, .view id a1 k1), (u, .view id lo k2)], nob := [(id, .arr es m (extF e d l hv))], eff := { v := .int .i64 ((min k2 k1 : Nat) : Int), upd := [(id, some (.arr es (l.take a1 ++ (l.drop lo).take (min k2 k1)).length fun j => e ((l.take a1 ++ (l.drop lo).take (min k2 k1)).getD j d)))] } } := by
  obtain ⟨ha, hb, hb2, hlm⟩ := hq
  have hta : (l.take a1).length = a1 := by simp; omega
  have hl : (l.take a1 ++ (l.drop lo).take (min k2 k1)).length = m := by simp; omega
  have hget : ∀ j, (l.take a1 ++ (l.drop lo).take (min k2 k1)).getD j d = if j < a1 then l.getD j d else ((l.drop lo).take (min k2 k1)).getD (j - a1) d := by
    intro j
    simp only [List.getD_eq_getElem?_getD]
    by_cases q : j < a1
    · rw [if_pos q, List.getElem?_append_left (by omega), List.getElem?_take, if_pos q]
    · rw [if_neg q, List.getElem?_append_right (by omega), hta]
  rw [hl]
  refine does_copy T T2 es m t u id a1 k1 k2 (extF e d l hv) (fun j => extF e d l hv (lo + j)) _ (.view id lo k2) _ hE hes (by omega) (by simp) (fun ee ok ho x hx => ?_) (fun j q1 q2 => ?_) (fun j q1 q2 => ?_)
  · exact view_src ok (ho (id, .arr es m (extF e d l hv)) (by simp)) hes (Nat.min_le_left _ _) (by omega) hx
  · show e _ = extF e d l hv (lo + (j - a1))
    rw [hget, if_neg (by omega), extF, if_pos (by omega), getD_take _ _ (by omega)]
    congr 1
    simp [List.getD_eq_getElem?_getD, List.getElem?_drop]
  · show e _ = extF e d l hv j
    rw [hget, if_pos (by omega), extF, if_pos (by omega)]

/-- append of so many zeros to a head of an own array that has no room for them: a new one; the elder one stays. -/
theorem does_appendVZ {α : Type} (ev : α → V) (d : α) (l : List α) (T N es by_ id id' t gs i : Nat) (x : Operand) (k kn : IntKind) (m q : Int) (hB : SlOk G.P T es (ev d)) (hA : ApOk G.P T es by_) (hN : G.P.underlying N = some (.int kn)) (hx : cOk x (.int k m)) (hi : i ≤ l.length) (hm : 0 < m ∧ q ≤ i + m ∧ (i : Int) + m ≤ maxLen ∧ (i + m.toNat) * by_ ≤ 140737488355328) :
    Does G ⟨dst, .call { callee := .builtin .append, args := #[.tmp t, x], argTypes := #[T, N] }, ty, pos, af, g⟩ { need := (t, .view id 0 i) :: (gs, V.capgt id q) :: nd x (.int k m), nob := [(id, .arr es l.length fun j => ev (l.getD j d))], eff := { v := .own id', upd := [(id', some (.arr es (l.take i ++ List.replicate m.toNat d).length fun j => ev ((l.take i ++ List.replicate m.toNat d).getD j d)))], new := [id'] } } := by
  intro e a ok hnd K Q hK
  have hid := hnd.2.2 id' (by simp)
  obtain ⟨hus, hx1⟩ := hnd.1 (t, .view id 0 i) (by simp)
  have hob := hnd.2.1 (id, .arr es l.length fun j => ev (l.getD j d)) (by simp)
  have hx1 := (hx1 _ _ _ hob).1 rfl
  obtain ⟨_, hcap⟩ := hnd.1 (gs, V.capgt id q) (by simp)
  have hcap : (e.cap id : Int) < q := hcap _ _ _ hob
  have h2 : a.eval x = .int k m := R.operand hnd.1 hx (fun _ h => by simp [h])
  have hheld := ok.held id _ hob
  obtain ⟨E, inf, z, hu, hinf, hes, hz, hck, hzs⟩ := hB.has
  obtain ⟨E', i', z', hu', hi', hes', hz', hzs', hz1, hby⟩ := hA.has
  rw [hu] at hu'; cases hu'
  rw [hinf] at hi'; cases hi'
  rw [hz] at hz'; cases hz'
  have hmx : maxLen ≤ 9223372036854775807 := by decide
  obtain ⟨n, hn⟩ : ∃ n : Nat, m = n := ⟨m.toNat, by omega⟩
  subst hn
  simp only [Int.toNat_natCast] at hm ⊢
  have hpos := hB.pos
  obtain ⟨cp, olds, base, hev, hcpv, hlo, holds, hone, hel⟩ : ∃ (cp : Nat) (olds : Array Value) (base : Option Addr), a.eval (.tmp t) = .slice base i cp ∧ cp = e.cap id ∧ olds.size = i * es ∧ (i = 0 ∨ ∃ b, base = some b ∧ ∀ j v, olds.toList[j]? = some v → e.w.cell? (b.add j) = some v) ∧ AllOne olds ∧ ∀ j, j < i → (ev (l.getD j d)).size = es ∧ R e (ev (l.getD j d)) (piece (ev (l.getD j d)) olds (j * es) es) := by
    cases hth : e.th id with
    | none =>
      rw [hth] at hx1
      obtain ⟨h0, ab, hv⟩ := hx1
      refine ⟨0, #[], ab, ?_, by unfold Env.cap; rw [hth], by simp [h0], .inl h0, fun c hc => by simp at hc, fun j hj => absurd hj (by omega)⟩
      rw [h0]; exact hv
    | some b =>
      rw [hth] at hx1
      obtain ⟨cs, T', l1, l2, l3, l4, l5⟩ := hheld.lies hth
      have hle : i * es ≤ cs.size := by rw [l3]; exact Nat.mul_le_mul_right _ (by omega)
      have hsub := cellsAt_list (sub_cells (off := 0) (sz := i * es) l1.1)
      simp only [Nat.zero_add] at hsub
      refine ⟨e.kap id, cs.extract 0 (i * es), some ⟨b, 0, none⟩, hx1, by unfold Env.cap; rw [hth], by simp; omega, .inr ⟨_, rfl, hsub⟩, allOne_extract l2 _ _, fun j hj => ?_⟩
      obtain ⟨r1, r2⟩ := l5 j (by omega)
      refine ⟨r1, ?_⟩
      have : (j + 1) * es ≤ i * es := Nat.mul_le_mul_right _ hj
      rw [Nat.succ_mul] at this
      have e9 := piece_extract (ev (l.getD j d)) cs 0 (i * es) (j * es) es this (.inl hpos) (by omega)
      simp only [Nat.zero_add] at e9
      rw [e9]; exact r2
  have hfit : Builtin.nextslicecap (i + n) cp * inf.bytes ≤ 281474976710656 := growslice_fits (by omega) (by rw [hby]; exact hm.2.2.2)
  have h48 : n * inf.bytes ≤ 281474976710656 := by
    rw [hby]
    have : n * by_ ≤ (i + n) * by_ := Nat.mul_le_mul_right _ (by omega)
    omega
  have hrun := run_append_grow_zeros (P := G.P) (ty := ty) e.w T N E inf z k kn hu hN hinf hz base i cp olds.toList (by rw [hes]; simpa using hlo) holds n (by omega) (by omega) (by omega) (by omega) h48 hfit
  have hcapge := grownCap_ge e.w (i + n) cp E
  simp only [Array.toArray_toList] at hrun
  generalize hcs : (olds ++ Builtin.zeroCells z.cells n ++ Builtin.zeroCells z.cells (grownCap e.w (i + n) cp E - (i + n))) = cs at hrun
  have hr0 := zeros_R (e := e) hck hB.solid hB.size n hpos
  obtain ⟨l1, l2, l3⟩ := arr_lies hr0
  have hz0 : (Builtin.zeroCells z.cells n) = (Array.range (n * es)).map fun k => z.cells[k % z.cells.size]! := by unfold Builtin.zeroCells; rw [hzs]
  have hzn : (Builtin.zeroCells z.cells n).size = n * es := by rw [hz0]; exact l1
  have hsz : cs.size = grownCap e.w (i + n) cp E * es := by
    rw [← hcs]
    simp only [Array.size_append, size_zeroCells, hzs, hlo]
    rw [← Nat.add_mul, ← Nat.add_mul]; congr 1; omega
  have hln : (l.take i ++ List.replicate n d).length = i + n := by simp; omega
  have hta : (l.take i).length = i := by simp; omega
  have hl : ∀ e' : Env, Follows e e' → IdKeeps e e' → Lies e' (.arr es (l.take i ++ List.replicate n d).length fun j => ev ((l.take i ++ List.replicate n d).getD j d)) cs (grownCap e.w (i + n) cp E) := by
    intro e' F I
    refine ⟨?_, hsz, by rw [hln]; omega, fun j hj => ?_⟩
    · rw [← hcs]
      intro c hc
      simp only [Array.mem_append] at hc
      rcases hc with (q | q) | q
      · exact hone c q
      · exact one_zero' (T := T) (by_ := by_) (E := E) (i := inf) (z := z) hz1 hzs hpos n c q
      · exact one_zero' (T := T) (by_ := by_) (E := E) (i := inf) (z := z) hz1 hzs hpos _ c q
    · rw [hln] at hj
      by_cases hji : j < i
      · have : (l.take i ++ List.replicate n d).getD j d = l.getD j d := by
          simp only [List.getD_eq_getElem?_getD]
          rw [List.getElem?_append_left (by omega), List.getElem?_take, if_pos hji]
        simp only [this]
        obtain ⟨r1, r2⟩ := hel j hji
        refine ⟨r1, R.keep F _ (.inl I) _ ?_⟩
        have hb : j * es + es ≤ olds.size := by
          have : (j + 1) * es ≤ i * es := Nat.mul_le_mul_right _ hji
          rw [Nat.succ_mul] at this; omega
        rw [← hcs, piece_append (by simp; omega) (fun _ => hpos), piece_append hb (fun _ => hpos)]
        exact r2
      · have : (l.take i ++ List.replicate n d).getD j d = d := by
          simp only [List.getD_eq_getElem?_getD]
          rw [List.getElem?_append_right (by omega), List.getElem?_replicate, hta, if_pos (by omega)]; rfl
        simp only [this]
        obtain ⟨r1, r2⟩ := l3 (j - i) (by omega)
        refine ⟨r1, R.keep F _ (.inl I) _ ?_⟩
        have hb : (j - i) * es + es ≤ n * es := by
          have : (j - i + 1) * es ≤ n * es := Nat.mul_le_mul_right _ (by omega)
          rw [Nat.succ_mul] at this; exact this
        have hje : j * es = i * es + (j - i) * es := by rw [← Nat.add_mul]; congr 1; omega
        rw [← hcs, piece_append (by simp only [Array.size_append, hzn, hlo]; omega) (fun _ => hpos), piece_append_right (by omega)]
        rw [show j * es - olds.size = (j - i) * es by omega, hz0]
        exact r2
  have hfr : Frame0 (fun _ => False) e.w (e.w.drew.alloc (.cells cs E)) := ⟨rfl, rfl, rfl, by simp, fun k hk _ => by rw [heap_alloc_at, if_neg (show k ≠ e.w.drew.heap.size by simp; omega)]; rfl⟩
  have gr := grow_fresh ok hid (o := .arr es (l.take i ++ List.replicate n d).length fun j => ev ((l.take i ++ List.replicate n d).getD j d)) (th' := some e.w.heap.size) (kp := grownCap e.w (i + n) cp E) hfr (fun b hb => by cases hb; simp)
    (fun e' F I hw ht hk => Lies.held (b := e.w.heap.size) (T := (E, (0, 0))) (cells := cs) (by rw [hk]; exact hl e' F I) ht (Row.of (by rw [hw, heap_alloc_at, if_pos (show e.w.heap.size = e.w.drew.heap.size from rfl)])))
  unfold Oper.wp
  have hm2 : (#[Operand.tmp t, x] : Array Operand).map a.eval = #[.slice base i cp, .int k n] := by simp [hev, h2]
  simp only [execOp, resolve, Sem.run_bind, Sem.run_pure, Result.andThen_ok, invoke, builtin, hm2, hrun]
  exact hK _ _ gr (by rw [appOb_one]; rfl) (by intro k; simp [Env.fresh]) (fresh_own (th' := some e.w.heap.size) (by simp only [hln]))

/-- The library's test whether slices overlap: an own array, and a slice that stays, lie in two blocks. -/
structure OvOk (P : Program) (K : FuncId) (T es : Nat) : Prop where
  has : ∃ fn tR E, P.funcs[K]? = some fn ∧ (fn.name == "runtime.NumGoroutine") = false ∧ fn.body.isNone = true ∧ Extern.findNext fn = none ∧ Extern.find fn = some (Extern.SlicesOverlaps.overlaps #[T, T] #[tR]) ∧ P.underlying T = some (.slice E) ∧ (P.info? E).map (·.size) = some es
theorem run_ov {P : Program} (w : World) {tS tR E es : Nat} {i : TypeInfo} (ht : P.underlying tS = some (.slice E)) (hi : P.info? E = some i) (hs : i.size = es) (a b : Option Addr) (la ca lb cb : Nat)
    (h : la = 0 ∨ lb = 0 ∨ ∃ a' b' tA kA tB kB, a = some a' ∧ b = some b' ∧ a'.block ≠ b'.block ∧ w.shape? a'.block = some (tA, kA) ∧ w.shape? b'.block = some (tB, kB) ∧ kA ≠ 0 ∧ kB ≠ 0 ∧ w.frozen? b' = false ∧ w.frozen? { block := b'.block, off := kB } = false) :
    (Extern.SlicesOverlaps.overlaps #[tS, tS] #[tR] #[.slice a la ca, .slice b lb cb]).run P w = .ok (.bool false) w := by
  have hz : (Go.sizeOf E).run P w = .ok es w := by simp [sizeOf, typeInfo, hi, hs]
  refine Eq.trans (congrArg (fun z => Sem.run P z w) (show Extern.SlicesOverlaps.overlaps #[tS, tS] #[tR] #[.slice a la ca, .slice b lb cb] = underlying tS >>= _ from rfl)) ?_
  dsimp only
  rcases h with h | h | ⟨a', b', tA, kA, tB, kB, rfl, rfl, hne, hsa, hsb, hkA, hkB, hfb, hfe⟩
  · cases a <;> cases b <;> simp [run_underlying ht, hz, h]
  · cases a <;> cases b <;> simp [run_underlying ht, hz, h]
  · have hnb : (a'.block != b'.block) = true := by simpa using hne
    have hnb' : (a'.block == b'.block) = false := by simpa using hne
    by_cases h0 : la = 0 ∨ lb = 0 ∨ es = 0
    · simp [run_underlying ht, hz, h0]
    · cases kB with
      | zero => exact absurd rfl hkB
      | succ kB =>
        cases kA with
        | zero => exact absurd rfl hkA
        | succ kA =>
        cases hfa : w.frozen? a' <;> cases hfa2 : w.frozen? { block := a'.block, off := kA + 1 } <;> simp [run_underlying ht, hz, h0, hnb, hnb', frozen, noView, viewAt, mayBeOne, stringish, shape, Sem.run, hsa, hsb, hfa, hfa2, hfb, hfe]
theorem does_overlaps (K T es t u id lo k n m : Nat) (f gx : Nat → V) (hK : OvOk G.P K T es) (hes : es ≠ 1 ∧ 0 < es) (hb : lo + k ≤ m) (ats : Array TypeId) :
    Does G ⟨dst, .call { callee := .value (.func K), args := #[.tmp t, .tmp u], argTypes := ats }, ty, pos, af, g⟩ { need := [(t, .sl es n gx), (u, .view id lo k)], nob := [(id, .arr es m f)], eff := { v := .bool false } } :=
  does_value rfl rfl fun e a ok hn ho => by
    obtain ⟨fn, tR, E, k1, k2, k3, k4, k5, k6, k7⟩ := hK.has
    obtain ⟨i, k7, k8⟩ : ∃ i, G.P.info? E = some i ∧ i.size = es := by
      cases hh : G.P.info? E with
      | none => rw [hh] at k7; cases k7
      | some i => rw [hh] at k7; exact ⟨i, rfl, by simpa using k7⟩
    obtain ⟨ad, c, hx, hc, hor⟩ := hn (t, .sl es n gx) (by simp)
    obtain ⟨_, hy⟩ := hn (u, .view id lo k) (by simp)
    have hob := ho (id, .arr es m f) (by simp)
    obtain ⟨_, ad2, c2, hy, hkc, hor2⟩ := hy es m f hob
    have ev1 : a.eval (.tmp t) = .slice ad n c := hx
    have ev2 : a.eval (.tmp u) = .slice ad2 k c2 := hy
    have hrun := run_ov (P := G.P) (tR := tR) e.w k6 k7 k8 ad ad2 n c k c2 (by
      by_cases hn0 : n = 0
      · exact .inl hn0
      by_cases hk0 : k = 0
      · exact .inr (.inl hk0)
      refine .inr (.inr ?_)
      rcases hor with q | ⟨a', cs, rfl, _, _, hO, hs, hcell, hone, hr⟩
      · exact absurd q hn0
      rcases hor2 with q | ⟨b, hth, rfl⟩
      · exact absurd q hk0
      obtain ⟨cells, T', l1, c1, c2, c3, c4⟩ := (ok.held id _ hob).lies hth
      have hsz : (lo + k) * es ≤ cells.size := by rw [c2]; exact Nat.mul_le_mul_right _ (by omega)
      have hpos : 0 < cs.size := by rw [hs]; exact Nat.mul_pos (by omega) hes.2
      have hpos2 : lo * es < cells.size := by
        have : (lo + 1) * es ≤ (lo + k) * es := Nat.mul_le_mul_right _ (by omega)
        rw [Nat.succ_mul] at this
        have := hes.2; omega
      have hsa : ∃ tA kA, e.w.shape? a'.block = some (tA, kA) ∧ kA ≠ 0 := by
        have h0 := hcell.2.2 0 hpos
        rw [Array.getElem?_eq_getElem hpos] at h0
        simp only [World.cell?] at h0
        simp only [World.shape?]
        split at h0
        · rename_i c' e' f' hh
          refine ⟨_, _, rfl, fun hz => ?_⟩
          rw [if_neg (by simp), Array.getElem?_eq_none (by omega)] at h0
          cases h0
        · cases h0
      obtain ⟨tA, kA, hsa, hkA⟩ := hsa
      have hT : T'.2 = (0, 0) := by
        rcases l1.2 with q | q
        · exact q
        · exact absurd q.1 hes.1
      refine ⟨a', _, tA, kA, T'.1, cells.size, rfl, rfl, fun hq => hO ⟨id, _, hob, ?_⟩, hsa, by simp only [World.shape?, l1.1], hkA, by omega, l1.thaw hpos2, ?_⟩
      · rw [hth]; simp only at hq; rw [hq]
      · simp only [World.frozen?, l1.1, hT]; simp)
    have hm2 : (#[Operand.tmp t, Operand.tmp u] : Array Operand).map a.eval = #[.slice ad n c, .slice ad2 k c2] := by simp [ev1, ev2]
    refine ⟨.bool false, ?_, rfl⟩
    have hcf := run_callFunc_extern k1 k2 k3 k4 k5 #[.slice ad n c, .slice ad2 k c2] e.w
    rw [hrun] at hcf
    have hfv : a.eval (.func K) = .func (.func K) #[] #[] := rfl
    simp only [execOp, resolve, Deferred.ofValue, hfv, Sem.run_bind, Sem.run_pure, Result.andThen_ok, invoke, hm2, Array.empty_append, Array.append_empty, hcf]
/-- Guards. -/
def cup (a1 n mn m lo : Nat) : Option Unit := if a1 ≤ n ∧ a1 + mn = m ∧ lo + mn ≤ n ∧ n ≤ m then some () else none
theorem cup_of {a1 n mn m lo : Nat} {β : Type} {f : Unit → Option β} {r : β} (h : (cup a1 n mn m lo).bind f = some r) : (a1 ≤ n ∧ a1 + mn = m ∧ lo + mn ≤ n ∧ n ≤ m) ∧ f () = some r := by
  unfold cup at h
  split at h
  · rename_i hh; exact ⟨hh, h⟩
  · cases h
theorem cup_t {a1 n mn m lo : Nat} (h : a1 ≤ n ∧ a1 + mn = m ∧ lo + mn ≤ n ∧ n ≤ m) : cup a1 n mn m lo = some () := by simp only [cup, if_pos h]
def vz (i : Nat) (m q : Int) (by_ : Nat) : Option Unit := if 0 < m ∧ q ≤ i + m ∧ (i : Int) + m ≤ maxLen ∧ (i + m.toNat) * by_ ≤ 140737488355328 then some () else none
theorem vz_of {i : Nat} {m q : Int} {by_ : Nat} {β : Type} {f : Unit → Option β} {r : β} (h : (vz i m q by_).bind f = some r) : (0 < m ∧ q ≤ i + m ∧ (i : Int) + m ≤ maxLen ∧ (i + m.toNat) * by_ ≤ 140737488355328) ∧ f () = some r := by
  unfold vz at h
  split at h
  · rename_i hh; exact ⟨hh, h⟩
  · cases h
theorem vz_t {i : Nat} {m q : Int} {by_ : Nat} (h : 0 < m ∧ q ≤ i + m ∧ (i : Int) + m ≤ maxLen ∧ (i + m.toNat) * by_ ≤ 140737488355328) : vz i m q by_ = some () := by simp only [vz, if_pos h]
def ile (a b : Int) : Option Unit := if a ≤ b then some () else none
theorem ile_of {a b : Int} {β : Type} {f : Unit → Option β} {r : β} (h : (ile a b).bind f = some r) : a ≤ b ∧ f () = some r := by
  unfold ile at h
  split at h
  · rename_i hh; exact ⟨hh, h⟩
  · cases h
theorem ile_t {a b : Int} (h : a ≤ b) : ile a b = some () := by simp [ile, h]
end
end Go.Eng
