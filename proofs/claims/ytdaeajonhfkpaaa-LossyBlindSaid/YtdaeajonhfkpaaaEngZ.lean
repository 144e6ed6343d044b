/- The engine's laws on the nil slice, on the room of own arrays, on arrays made longer, on copy, and on the library's test whether slices overlap. Conditions: none. -/
import Derived.Test.YtdaeajonhfkpaaaEngY
import Derived.Laws.Externs
namespace Go.Eng

/-- A new own array, in a new place or in none. -/
def Env.fresh (e : Env) (id : Nat) (o : Box) (w' : World) (th' : Option Nat) (kp : Nat) : Env :=
  { e with w := w', th := fun k => if k = id then th' else e.th k, kap := fun k => if k = id then kp else e.kap k, ob := fun k => if k = id then some o else e.ob k, us := fun k => e.us k ∨ k = id }

theorem grow_fresh {G : Glob} {e : Env} (ok : Ok G e) {id : Nat} (hid : ¬ e.us id) {o : Box} {w' : World} {th' : Option Nat} {kp : Nat} (hfr : Frame0 (fun _ => False) e.w w') (hth : ∀ b, th' = some b → e.w.heap.size ≤ b ∧ b < w'.heap.size)
    (hh : ∀ e' : Env, Follows e e' → IdKeeps e e' → e'.w = w' → e'.th id = th' → e'.kap id = kp → Held e' id o) : Grow G e (e.fresh id o w' th' kp) := by
  have hn0 : ∀ k, e.us k → k ≠ id := fun k hk q => hid (q ▸ hk)
  generalize hEE : e.fresh id o w' th' kp = e'
  have ew : e'.w = w' := by subst hEE; rfl
  have eob : e'.ob = fun k => if k = id then some o else e.ob k := by subst hEE; rfl
  have eth : ∀ k, e'.th k = if k = id then th' else e.th k := by intro k; subst hEE; rfl
  have ekp : ∀ k, e'.kap k = if k = id then kp else e.kap k := by intro k; subst hEE; rfl
  have eus : ∀ k, e'.us k ↔ e.us k ∨ k = id := by intro k; subst hEE; exact Iff.rfl
  have eS : e'.S = e.S := by subst hEE; rfl
  have eSp : e'.Sp = e.Sp := by subst hEE; rfl
  have obOld : ∀ k o', e'.ob k = some o' → k ≠ id → e.ob k = some o' := by
    intro k o' h hk; rw [eob] at h; simpa [hk] using h
  have F : Follows e e' := by
    refine ⟨by rw [ew]; exact hfr.size, fun b hb _ => by rw [ew]; exact hfr.block b hb (fun q => q), ?_, fun b _ h => by rw [eS] at h; exact h, fun b _ h => by rw [eSp] at h; exact h⟩
    rintro b hb ⟨k, o', h1, h2⟩
    rw [eth k] at h2
    by_cases hk : k = id
    · rw [if_pos hk] at h2; have := (hth b h2).1; omega
    · rw [if_neg hk] at h2; exact ⟨k, o', obOld k o' h1 hk, h2⟩
  have I : IdKeeps e e' := by
    intro k hu
    have hk := hn0 k hu
    refine ⟨(eus k).2 (.inl hu), fun o' ho' => ⟨by rw [eth, if_neg hk], by rw [ekp, if_neg hk], o', obOld k o' ho' hk, o'.like_refl⟩⟩
  refine ⟨⟨?_, eS.trans ok.S, eSp.trans ok.Sp, ?_, ?_, ?_, ?_, ok.low⟩, F, I⟩
  · rw [ew]
    have h9 := ok.fr
    exact ⟨hfr.os.trans h9.os, hfr.tape.trans h9.tape, hfr.output.trans h9.output, Nat.le_trans h9.size hfr.size, fun k hk hW => (hfr.block k (Nat.lt_of_lt_of_le hk h9.size) (fun q => q)).trans (h9.block k hk hW)⟩
  · intro k o' h
    by_cases hk : k = id
    · subst hk
      rw [eob] at h; simp only [if_true, Option.some.injEq] at h
      subst h
      exact hh e' F I ew (by rw [eth, if_pos rfl]) (by rw [ekp, if_pos rfl])
    · have h1 := obOld k o' h hk
      have h2 := ok.held k o' h1
      exact h2.keep F I (by rw [eth, if_neg hk]) (by rw [ekp, if_neg hk]) (fun b hb => by rw [ew]; exact hfr.block b (h2.lt hb) (fun q => q))
  · intro i j oi oj b h1 h2 h3 h4
    rw [eth] at h3 h4
    by_cases hi : i = id <;> by_cases hj : j = id
    · rw [hi, hj]
    · rw [if_pos hi] at h3; rw [if_neg hj] at h4
      have := (ok.held j oj (obOld j oj h2 hj)).lt h4; have := (hth b h3).1; omega
    · rw [if_neg hi] at h3; rw [if_pos hj] at h4
      have := (ok.held i oi (obOld i oi h1 hi)).lt h3; have := (hth b h4).1; omega
    · rw [if_neg hi] at h3; rw [if_neg hj] at h4
      exact ok.inj i j oi oj b (obOld i oi h1 hi) (obOld j oj h2 hj) h3 h4
  · intro i o' b h1 h2
    rw [eth] at h2
    by_cases hi : i = id
    · rw [if_pos hi] at h2; have := (hth b h2).1; have := ok.fr.size; exact .inl (by omega)
    · rw [if_neg hi] at h2; exact ok.fresh i o' b (obOld i o' h1 hi) h2
  · intro i o' h1
    by_cases hi : i = id
    · exact (eus i).2 (.inr hi)
    · exact (eus i).2 (.inl (ok.used i o' (obOld i o' h1 hi)))

theorem fresh_own {e : Env} {id es n : Nat} {f : Nat → V} {w' : World} {th' : Option Nat} {kp : Nat} {x : Value} (hx : match th' with | none => n = 0 ∧ ∃ a, x = .slice a 0 0 | some b => x = .slice (some ⟨b, 0, none⟩) n kp) : R (e.fresh id (.arr es n f) w' th' kp) (.own id) x := by
  refine ⟨.inr rfl, fun es' n' f' ho => ?_⟩
  simp only [Env.fresh, if_true, Option.some.injEq, Box.arr.injEq] at ho ⊢
  obtain ⟨_, rfl, _⟩ := ho
  cases th' <;> exact hx

/-- What an own array's room is, as it is asked for, and what came of the question. -/
def V.capv (id : Nat) : V := .cq id fun c x => x = .int .i64 c
def V.capq (id : Nat) (k : Int) : V := .cq id fun c x => x = .bool (decide (k > (c : Int)))
def V.capgt (id : Nat) (k : Int) : V := .cq id fun c _ => (c : Int) < k
def V.caple (id : Nat) (k : Int) : V := .cq id fun c _ => k ≤ (c : Int)

/-- An element of which nothing is known. -/
def hole (ag : Bool) (es : Nat) : V := if ag then .agg (.ar es 1) (fun _ => .any) else .any
theorem hole_R {e : Env} {ag : Bool} {es : Nat} (h1 : ag = false → es = 1) {cs : Array Value} {o : Nat} (hb : o + es ≤ cs.size) (hc : AllOne cs) : (hole ag es).size = es ∧ R e (hole ag es) (piece (hole ag es) cs o es) := by
  cases ag with
  | false => exact ⟨(h1 rfl).symm, trivial⟩
  | true =>
    refine ⟨by simp [hole, V.size, Lay.tot], cs.extract o (o + es), rfl, by simp [Lay.tot]; omega, allOne_extract hc _ _, fun j hj => ⟨rfl, trivial⟩⟩

open Classical in
/-- An answer that must be the same both ways. -/
noncomputable def bth {β : Type} (a b : Option β) : Option β := if a = b then b else none
theorem bth_of {β : Type} {a b : Option β} {r : β} (h : bth a b = some r) : a = some r ∧ b = some r := by
  unfold bth at h
  split at h
  · rename_i hh; exact ⟨hh.trans h, h⟩
  · cases h
theorem bth_t {β : Type} {a b : Option β} {r : β} (h1 : a = some r) (h2 : b = some r) : bth a b = some r := by
  unfold bth
  rw [if_pos (h1.trans h2.symm), h2]

/-- A list with a run of another one laid over it from a place on. -/
def ovl {α : Type} (l : List α) (a : Nat) (v : List α) : List α := l.take a ++ v ++ l.drop (a + v.length)
theorem ovl_len {α : Type} (l : List α) (a : Nat) (v : List α) (h : a + v.length ≤ l.length) : (ovl l a v).length = l.length := by simp [ovl]; omega
theorem ovl_get {α : Type} (l : List α) (a : Nat) (v : List α) (d : α) (h : a + v.length ≤ l.length) (j : Nat) : (ovl l a v).getD j d = if a ≤ j ∧ j < a + v.length then v.getD (j - a) d else l.getD j d := by
  have hta : (l.take a).length = a := by simp; omega
  have htb : (l.take a ++ v).length = a + v.length := by simp; omega
  unfold ovl
  simp only [List.getD_eq_getElem?_getD]
  congr 1
  by_cases h1 : j < a
  · rw [List.append_assoc, List.getElem?_append_left (by omega), if_neg (by omega), List.getElem?_take, if_pos h1]
  · by_cases h2 : j < a + v.length
    · rw [if_pos (by omega), List.getElem?_append_left (by omega), List.getElem?_append_right (by omega), hta]
    · rw [if_neg (fun q => h2 q.2), List.getElem?_append_right (by rw [htb]; omega), List.getElem?_drop]
      have h9 : a + v.length + (j - (l.take a ++ v).length) = j := by rw [htb]; omega
      rw [h9]

section
variable {G : Glob} {nt : Nat} {s : St} {Q : Exit → Act → World → Prop}
theorem aw_condcap {t id es n : Nat} {k : Int} {f : Nat → V} {c d : Code} (hb : lk s.sl t = some (V.capq id k)) (ho : s.obf id = some (.arr es n f))
    (h1 : AW G nt { s with sl := (t, V.capgt id k) :: s.sl } c Q) (h2 : AW G nt { s with sl := (t, V.caple id k) :: s.sl } d Q) : AW G nt s (.cond (.tmp t) c d) Q := by
  rintro a w ⟨e, rfl, hrel⟩
  obtain ⟨hu, hx⟩ := hrel.slots t _ hb
  have hx := hx es n f (by rw [hrel.ob]; exact ho)
  have : a.eval (.tmp t) = .bool (decide (k > (e.cap id : Int))) := hx
  have turn : ∀ v, R e v (a.tmps.getD t undef) → Rel G nt { s with sl := (t, v) :: s.sl } a e := by
    intro v hv
    refine ⟨hrel.ok, fun t' v' h => ?_, hrel.ob, hrel.us, hrel.size, hrel.defs⟩
    rw [lk_cons] at h
    by_cases q : t = t'
    · subst q; rw [if_pos rfl] at h; cases h; exact hv
    · rw [if_neg q] at h; exact hrel.slots t' v' h
  have hob : ∀ es' n' f', e.ob id = some (.arr es' n' f') → True := fun _ _ _ _ => trivial
  refine wp_cond_split this (fun hb => ?_) (fun hb => ?_)
  · refine h1 a _ ⟨e, rfl, turn _ ⟨hu, fun _ _ _ _ => ?_⟩⟩
    have := of_decide_eq_true hb; show (e.cap id : Int) < k; omega
  · refine h2 a _ ⟨e, rfl, turn _ ⟨hu, fun _ _ _ _ => ?_⟩⟩
    have := of_decide_eq_false hb; show k ≤ (e.cap id : Int); omega

/-- A nil slice, as an own array of no elements. -/
theorem cov_void {t id es : Nat} {f : Nat → V} (hb : lk s.sl t = some .nil) (hid : id = s.nx) : Cov G nt s { sl := (t, .own id) :: s.sl, ob := (id, some (.arr es 0 f)) :: s.ob, nx := s.nx + 1 } := by
  subst hid
  rintro a w ⟨e, rfl, hrel⟩
  have hx : a.tmps.getD t undef = .slice none 0 0 := hrel.slots t _ hb
  have hid : ¬ e.us s.nx := fun h => by have := hrel.us _ h; omega
  have gr := grow_fresh hrel.ok hid (o := .arr es 0 f) (w' := e.w) (th' := none) (kp := 0) (Frame0.refl _ _) (fun b hb => by cases hb) (fun e' _ _ _ ht _ => by simp only [Held, ht])
  refine ⟨e.fresh s.nx (.arr es 0 f) e.w none 0, rfl, gr.ok, fun t' v' h => ?_, ?_, ?_, hrel.size, hrel.defs⟩
  · simp only at h
    rw [lk_cons] at h
    by_cases q : t = t'
    · subst q; rw [if_pos rfl] at h; cases h
      rw [hx]; exact fresh_own (th' := none) ⟨rfl, none, rfl⟩
    · rw [if_neg q] at h; exact gr.keep (hrel.slots t' v' h)
  · show (fun k => if k = s.nx then some (Box.arr es 0 f) else e.ob k) = _
    rw [hrel.ob]
    funext k
    simp only [St.obf, appOb, lk_cons]
    by_cases q : k = s.nx
    · subst q; simp
    · have : ¬ s.nx = k := fun h => q h.symm
      simp [q, this]
  · intro k hk
    rcases hk with hk | hk
    · have := hrel.us k hk; simp only; omega
    · simp only; omega
theorem cov_trans {s1 s2 : St} (h1 : Cov G nt s s1) (h2 : Cov G nt s1 s2) : Cov G nt s s2 := fun a w hr => h2 a w (h1 a w hr)
end

section
variable {G : Glob} {dst : Option Tmp} {ty : TypeId} {pos : String} {af : Array Edge} {g : Option (Nat × Bool)}

theorem does_lennil (T es t : Nat) (hE : ElOk G.P T none es) : Does G ⟨dst, .call { callee := .builtin .len, args := #[.tmp t], argTypes := #[T] }, ty, pos, af, g⟩ { need := [(t, .nil)], eff := { v := .int .i64 0 } } :=
  does_value rfl rfl fun e a ok hn ho => by
    have h3 : a.eval (.tmp t) = .slice none 0 0 := hn (t, .nil) (by simp)
    obtain ⟨E, inf, hu, hi, hs⟩ := hE.has
    exact ⟨.int .i64 0, by simp [execOp, resolve, invoke, builtin, h3, Builtin.len_, run_underlying hu, goInt], rfl⟩
theorem does_capnil (T es t : Nat) (hE : ElOk G.P T none es) : Does G ⟨dst, .call { callee := .builtin .cap, args := #[.tmp t], argTypes := #[T] }, ty, pos, af, g⟩ { need := [(t, .nil)], eff := { v := .int .i64 0 } } :=
  does_value rfl rfl fun e a ok hn ho => by
    have h3 : a.eval (.tmp t) = .slice none 0 0 := hn (t, .nil) (by simp)
    obtain ⟨E, inf, hu, hi, hs⟩ := hE.has
    exact ⟨.int .i64 0, by simp [execOp, resolve, invoke, builtin, h3, Builtin.cap_, run_underlying hu, goInt], rfl⟩
theorem does_capo (T es n t id : Nat) (f : Nat → V) (hE : ElOk G.P T none es) : Does G ⟨dst, .call { callee := .builtin .cap, args := #[.tmp t], argTypes := #[T] }, ty, pos, af, g⟩ { need := [(t, .own id)], nob := [(id, .arr es n f)], eff := { v := V.capv id } } :=
  does_value rfl rfl fun e a ok hn ho => by
    obtain ⟨hus, hp⟩ := hn (t, .own id) (by simp)
    have hp := hp es n f (ho (id, .arr es n f) (by simp))
    obtain ⟨E, inf, hu, hi, hs⟩ := hE.has
    have h3 : ∃ ad, a.eval (.tmp t) = .slice ad n (e.cap id) := by
      unfold Env.cap
      cases hth : e.th id with
      | none => rw [hth] at hp; obtain ⟨h0, ab, hp⟩ := hp; subst h0; exact ⟨ab, hp⟩
      | some b => rw [hth] at hp; exact ⟨_, hp⟩
    obtain ⟨ad, h3⟩ := h3
    exact ⟨.int .i64 (e.cap id), by simp [execOp, resolve, invoke, builtin, h3, Builtin.cap_, run_underlying hu, goInt], hus, fun _ _ _ _ => rfl⟩
theorem does_gtcap (xT yT t id es n : Nat) (f : Nat → V) (x : Operand) (k : Int) (hx : cOk x (.int .i64 k)) : Does G ⟨dst, .binOp .gtr xT x (.tmp t) yT, ty, pos, af, g⟩ { need := (t, V.capv id) :: nd x (.int .i64 k), nob := [(id, .arr es n f)], eff := { v := V.capq id k } } :=
  does_value rfl rfl fun e a ok hn ho => by
    obtain ⟨hus, hp⟩ := hn (t, V.capv id) (by simp)
    have h2 : a.eval (.tmp t) = .int .i64 (e.cap id) := hp es n f (ho (id, .arr es n f) (by simp))
    have h1 : a.eval x = .int .i64 k := R.operand hn hx (fun _ h => by simp [h])
    exact ⟨.bool (decide (k > (e.cap id : Int))), by simp [execOp, h1, h2, eqGuard_at_int, binOp_gtr, Op.intCmp], hus, fun _ _ _ _ => rfl⟩

theorem does_slicenil (T es t : Nat) (lo hi : Option (Operand × IntKind × Int)) (low high : Option Operand) (hE : ElOk G.P T none es) (e1 : low = lo.map (·.1)) (e2 : high = hi.map (·.1)) (c1 : cOko lo) (c2 : cOko hi) (hl : valo lo 0 = 0) (hh : valo hi 0 = 0) :
    Does G ⟨dst, .slice T (.tmp t) low high none, ty, pos, af, g⟩ { need := (t, .nil) :: (ndo lo ++ ndo hi), eff := { v := .nil } } :=
  does_value rfl rfl fun e a ok hn ho => by
    subst e1; subst e2
    have hev : a.eval (.tmp t) = .slice none 0 0 := hn (t, .nil) (by simp)
    have hr := run_sliceAt (P := G.P) (a := a) hE (need := (t, .nil) :: (ndo lo ++ ndo hi)) hn c1 c2 (fun p hp => by simp [hp]) (fun p hp => by simp [hp]) (len := 0) (cap := 0) (l := 0) (h := 0) hl hh (Nat.le_refl _) (Nat.le_refl _) e.w none
    exact ⟨_, by simp only [execOp, hev, Option.map_none, Sem.run_bind, hr, Result.andThen_ok, Sem.run_pure]; rfl, rfl⟩

theorem one_zero' {T es by_ : Nat} {E : TypeId} {i : TypeInfo} {z : Value} (hz1 : z.cells.all (·.oneCell') = true) (hzs : z.cells.size = es) (hes : 0 < es) (k : Nat) : AllOne (Builtin.zeroCells z.cells k) := by
  intro c hc
  simp only [Builtin.zeroCells, Array.mem_map, Array.mem_range] at hc
  obtain ⟨q, hq, rfl⟩ := hc
  have hlt : q % z.cells.size < z.cells.size := Nat.mod_lt _ (by omega)
  rw [getElem!_pos z.cells (q % z.cells.size) hlt]
  exact Array.all_eq_true'.1 hz1 _ (Array.getElem_mem _)

/-- append of so many zeros to a slice that has no room for them: a new array; the elder one stays. -/
theorem run_append_grow_zeros {P : Program} (w : World) (t tn ty e : TypeId) (i : TypeInfo) (z : Value) (k kn : IntKind) (ht : P.underlying t = some (.slice e)) (htn : P.underlying tn = some (.int kn)) (hi : P.info? e = some i) (hz : i.zero = some z)
    (base : Option Addr) (sLen sCap : Nat) (olds : List Value) (hlo : olds.length = sLen * i.size) (holds : sLen = 0 ∨ ∃ b, base = some b ∧ ∀ j v, olds[j]? = some v → w.cell? (b.add j) = some v)
    (n : Nat) (h0 : 0 < n) (hs : 0 < i.size) (hg : sCap < sLen + n) (h63 : ((sLen + n : Nat) : Int) ≤ 9223372036854775807) (h48 : n * i.bytes ≤ 281474976710656) (hfit : Builtin.nextslicecap (sLen + n) sCap * i.bytes ≤ 281474976710656) :
    (Builtin.append_ #[t, tn] ty #[.slice base sLen sCap, .int k n]).run P w =
      .ok (.slice (some ⟨w.heap.size, 0, none⟩) (sLen + n) (grownCap w (sLen + n) sCap e)) (w.drew.alloc (.cells (olds.toArray ++ Builtin.zeroCells z.cells n ++ Builtin.zeroCells z.cells (grownCap w (sLen + n) sCap e - (sLen + n))) e)) := by
  have hn : ¬ (sLen + n ≤ sCap) := by omega
  have hw : IntKind.i64.wrap (n : Int) = n := by rw [IntKind.wrap_i64]; omega
  have h63' : ¬ (9223372036854775807 < ((sLen : Int) + (n : Int))) := by omega
  have h48' : ¬ (281474976710656 < Builtin.nextslicecap (sLen + n) sCap * i.bytes) := by omega
  have h48i : ¬ (281474976710656 < (n : Int) * (i.bytes : Int)) := by rw [← Int.natCast_mul]; omega
  have hneg : ¬ ((n : Int) < 0) := by omega
  have hfo : (Builtin.firstCells i.size sLen (.slice base sLen sCap)).run P w.drew = .ok olds.toArray w.drew := by
    rcases holds with h0 | ⟨b, rfl, hb⟩
    · subst h0
      have : olds = [] := List.eq_nil_of_length_eq_zero (by omega)
      subst this
      cases base <;> simp [Builtin.firstCells, loadCells, loadCellsFrom]
    · exact run_firstCells_some (P := P) w.drew i.size sLen b sLen sCap olds hlo (by simpa using hb)
  have hns : ¬ (n * i.size = 0) := Nat.mul_ne_zero (by omega) (by omega)
  simp [Builtin.append_, run_underlying ht, run_underlying htn, sizeOf, typeInfo, zeroValue, hi, hz, asInt, asIntOf, hw, hn, hneg, hns, h63', h48', h48i, Question.forced, hfo, newRow, grownCap]

/-- append(nil, so many zeros). -/
theorem does_appendNZ {α : Type} (ev : α → V) (d : α) (T N es by_ id t : Nat) (x : Operand) (k kn : IntKind) (m : Int) (hB : SlOk G.P T es (ev d)) (hA : ApOk G.P T es by_) (hN : G.P.underlying N = some (.int kn)) (hx : cOk x (.int k m)) (hm : 0 < m ∧ m ≤ maxLen ∧ m.toNat * by_ ≤ 140737488355328) :
    Does G ⟨dst, .call { callee := .builtin .append, args := #[.tmp t, x], argTypes := #[T, N] }, ty, pos, af, g⟩ { need := (t, .nil) :: nd x (.int k m), eff := { v := .own id, upd := [(id, some (.arr es (List.replicate m.toNat d).length fun j => ev ((List.replicate m.toNat d).getD j d)))], new := [id] } } := by
  intro e a ok hnd K Q hK
  have hid := hnd.2.2 id (by simp)
  have h1 : a.eval (.tmp t) = .slice none 0 0 := hnd.1 (t, .nil) (by simp)
  have h2 : a.eval x = .int k m := R.operand hnd.1 hx (fun _ h => by simp [h])
  obtain ⟨E, i, z, hu, hi, hes, hz, hck, hzs⟩ := hB.has
  obtain ⟨E', i', z', hu', hi', hes', hz', hzs', hz1, hby⟩ := hA.has
  rw [hu] at hu'; cases hu'
  rw [hi] at hi'; cases hi'
  rw [hz] at hz'; cases hz'
  have hmx : maxLen ≤ 9223372036854775807 := by decide
  obtain ⟨n, hn⟩ : ∃ n : Nat, m = n := ⟨m.toNat, by omega⟩
  subst hn
  simp only [Int.toNat_natCast] at hm ⊢
  have hpos := hB.pos
  have hrun := run_append_grow_zeros (P := G.P) (ty := ty) e.w T N E i z k kn hu hN hi hz none 0 0 [] (by simp) (.inl rfl) n (by omega) (by omega) (by omega) (by omega) (by rw [hby]; omega) (by rw [Nat.zero_add, nextslicecap_zero (by omega), hby]; omega)
  simp only [Nat.zero_add] at hrun
  have hcapge := grownCap_ge e.w n 0 E
  generalize hcs : (([] : List Value).toArray ++ Builtin.zeroCells z.cells n ++ Builtin.zeroCells z.cells (grownCap e.w n 0 E - n)) = cs at hrun
  have hr0 := zeros_R (e := e) hck hB.solid hB.size n hpos
  obtain ⟨l1, l2, l3⟩ := arr_lies hr0
  have hz0 : (Builtin.zeroCells z.cells n) = (Array.range (n * es)).map fun k => z.cells[k % z.cells.size]! := by unfold Builtin.zeroCells; rw [hzs]
  have hzn : (Builtin.zeroCells z.cells n).size = n * es := by rw [hz0]; exact l1
  have hsz : cs.size = grownCap e.w n 0 E * es := by
    rw [← hcs]
    simp only [Array.size_append, size_zeroCells, hzs]
    rw [show (([] : List Value).toArray).size = 0 from rfl, Nat.zero_add, ← Nat.add_mul]; congr 1; omega
  have hl : ∀ e' : Env, Follows e e' → IdKeeps e e' → Lies e' (.arr es (List.replicate n d).length fun j => ev ((List.replicate n d).getD j d)) cs (grownCap e.w n 0 E) := by
    intro e' F I
    refine ⟨?_, hsz, by simp; omega, fun j hj => ?_⟩
    · rw [← hcs]
      intro c hc
      simp only [Array.mem_append] at hc
      rcases hc with (q | q) | q
      · simp at q
      · exact one_zero' (T := T) (by_ := by_) (E := E) (i := i) (z := z) hz1 hzs hpos n c q
      · exact one_zero' (T := T) (by_ := by_) (E := E) (i := i) (z := z) hz1 hzs hpos _ c q
    · simp only [List.length_replicate] at hj
      have : (List.replicate n d).getD j d = d := by simp [List.getD_eq_getElem?_getD, List.getElem?_replicate, hj]
      simp only [this]
      obtain ⟨r1, r2⟩ := l3 j hj
      refine ⟨r1, R.keep F _ (.inl I) _ ?_⟩
      have hb : j * es + es ≤ (Builtin.zeroCells z.cells n).size := by
        have : (j + 1) * es ≤ n * es := Nat.mul_le_mul_right _ hj
        rw [Nat.succ_mul] at this; omega
      rw [← hcs, piece_append (by simp; omega) (fun _ => hpos), piece_append_right (by simp)]
      simp only [List.size_toArray, List.length_nil, Nat.sub_zero]
      rw [hz0]; exact r2
  have hfr : Frame0 (fun _ => False) e.w (e.w.drew.alloc (.cells cs E)) := ⟨rfl, rfl, rfl, by simp, fun k hk _ => by rw [heap_alloc_at, if_neg (show k ≠ e.w.drew.heap.size by simp; omega)]; rfl⟩
  have gr := grow_fresh ok hid (o := .arr es (List.replicate n d).length fun j => ev ((List.replicate n d).getD j d)) (th' := some e.w.heap.size) (kp := grownCap e.w n 0 E) hfr (fun b hb => by cases hb; simp)
    (fun e' F I hw ht hk => Lies.held (b := e.w.heap.size) (T := (E, (0, 0))) (cells := cs) (by rw [hk]; exact hl e' F I) ht (Row.of (by rw [hw, heap_alloc_at, if_pos (show e.w.heap.size = e.w.drew.heap.size from rfl)])))
  unfold Oper.wp
  have hm2 : (#[Operand.tmp t, x] : Array Operand).map a.eval = #[a.eval (.tmp t), a.eval x] := by simp
  simp only [execOp, resolve, Sem.run_bind, Sem.run_pure, Result.andThen_ok, invoke, builtin, hm2, h1, h2, hrun]
  exact hK _ _ gr (by rw [appOb_one]; rfl) (by intro k; simp [Env.fresh]) (fresh_own (th' := some e.w.heap.size) (by simp only [List.length_replicate]))
end
end Go.Eng
