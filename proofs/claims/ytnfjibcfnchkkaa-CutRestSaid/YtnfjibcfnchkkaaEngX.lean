/- The engine's laws on own arrays that lie in structs. Conditions: none. -/
import Derived.Test.YtnfjibcfnchkkaaEngV
namespace Go.Eng

/-- A value that lies in cells as it is. -/
def Sol (e : Env) (u : V) : Prop := ∀ x, R e u x → x.cells.size = u.size ∧ AllOne x.cells ∧ piece u x.cells 0 u.size = x
theorem sol_own {e : Env} {id es n : Nat} {f : Nat → V} (h : e.ob id = some (.arr es n f)) (u : V) (hu : u = .own id) : Sol e u := by
  subst hu
  rintro x ⟨_, hx⟩
  have := hx es n f h
  have key : ∀ a n c, x = .slice a n c → x.cells.size = (V.own id).size ∧ AllOne x.cells ∧ piece (.own id) x.cells 0 (V.own id).size = x := by
    rintro a n c rfl
    exact ⟨rfl, fun c hc => by simp [Value.cells] at hc; subst hc; rfl, by simp [piece, V.isAgg, Value.cells]⟩
  cases ht : e.th id with
  | none =>
    rw [ht] at this
    obtain ⟨_, a, hx⟩ := this
    exact key _ _ _ hx
  | some b =>
    rw [ht] at this
    exact key _ _ _ this
theorem sol_solid {e : Env} {u : V} (h : u.solid = true) : Sol e u := fun _ hx => R.cells h hx
def PartsSol (e : Env) (L : Lay) : List (Nat × V) → Prop
  | [] => True
  | (j, u) :: l => (j < L.cnt ∧ Sol e u ∧ u.size = L.sz j) ∧ PartsSol e L l
theorem vupd_vupd (f : Nat → V) (k : Nat) (a b : V) : vupd (vupd f k a) k b = vupd f k b := by
  funext j; simp only [vupd]; split <;> rfl
theorem vupd_comm (f : Nat → V) (i k : Nat) (a b : V) (h : i ≠ k) : vupd (vupd f k a) i b = vupd (vupd f i b) k a := by
  funext j; simp only [vupd]
  by_cases h1 : j = i
  · subst h1; simp [h]
  · simp [h1]
theorem R.putS {e : Env} {L : Lay} {f : Nat → V} {cs : Array Value} (h : R e (.agg L f) (.agg cs)) {j : Nat} (hj : j < L.cnt) {u : V} {x : Value} (hu : R e u x) (hs : Sol e u) (hz : u.size = L.sz j) :
    R e (.agg L (vupd f j u)) (.agg (cs.toList.take (L.off j) ++ x.cells.toList ++ cs.toList.drop (L.off j + x.cells.toList.length)).toArray) := by
  obtain ⟨cs', hcs, hsz, h1, hr⟩ := h
  cases hcs
  obtain ⟨c1, c2, c3⟩ := hs _ hu
  have hfit := L.fits hj
  obtain ⟨s1, s2, s3⟩ := splice_get cs x.cells (L.off j) (by rw [c1, hz]; omega)
  have hone : AllOne (cs.toList.take (L.off j) ++ x.cells.toList ++ cs.toList.drop (L.off j + x.cells.toList.length)).toArray := by
    intro c hc
    simp only [List.mem_toArray, List.mem_append] at hc
    rcases hc with (q | q) | q
    · exact h1 c (by simpa using List.mem_of_mem_take q)
    · exact c2 c (by simpa using q)
    · exact h1 c (by simpa using List.mem_of_mem_drop q)
  generalize (cs.toList.take (L.off j) ++ x.cells.toList ++ cs.toList.drop (L.off j + x.cells.toList.length)).toArray = cs' at s1 s2 s3 hone
  have hp : piece u cs' (L.off j) u.size = x := piece_of_cells c1 c3 (by rw [s1, hz]; omega) (fun k hk => s3 k (by omega))
  refine ⟨cs', rfl, s1.trans hsz, hone, fun k hk => ?_⟩
  by_cases hkj : k = j
  · subst hkj
    simp only [vupd, if_true]
    exact ⟨hz, by rw [← hz, hp]; exact hu⟩
  · simp only [vupd, hkj, if_false]
    obtain ⟨r1, r2⟩ := hr k hk
    refine ⟨r1, ?_⟩
    have hfk := L.fits hk
    rw [piece_other (f k) cs cs' (L.off k) (L.sz k) s1 (by omega) (fun ha => by rw [← r1, size_pos ha]; omega) ?_]
    · exact r2
    · intro i hi1 hi2
      refine s2 i ?_
      rw [c1, hz]
      rcases Nat.lt_or_gt_of_ne hkj with q | q
      · have := L.apart q hj; left; omega
      · have := L.apart q hk; right; omega


theorem fill_soundS {e : Env} {L : Lay} {place : Nat → Option (Nat × Nat)} (hpl : ∀ j, j < L.cnt → place j = some (L.off j, L.sz j)) : ∀ (ps : List (Nat × V)) (xs : List (Nat × Value)) (f : Nat → V) (cs : Array Value), PartsSol e L ps →
    ps.map (·.1) = xs.map (·.1) → (∀ (i : Nat) (p : Nat × V) (q : Nat × Value), ps[i]? = some p → xs[i]? = some q → R e p.2 q.2) → R e (.agg L f) (.agg cs) → ∃ cs', Instr.fill place cs xs = some cs' ∧ R e (.agg L (setAll f ps)) (.agg cs')
  | [], xs, f, cs, _, hm, _, hr => by
    have : xs = [] := by cases xs <;> simp_all
    subst this
    exact ⟨cs, rfl, hr⟩
  | (j, u) :: ps, [], _, _, _, hm, _, _ => by simp at hm
  | (j, u) :: ps, (j', x) :: xs, f, cs, ⟨⟨hj, hs, hz⟩, hps⟩, hm, hR, hr => by
    simp only [List.map_cons, List.cons.injEq] at hm
    obtain ⟨rfl, hm⟩ := hm
    have hu : R e u x := hR 0 (j, u) (j, x) (by simp) (by simp)
    obtain ⟨c1, c2, c3⟩ := hs _ hu
    have hput := R.putS hr hj hu hs hz
    have hsz : cs.size = L.tot := by obtain ⟨_, h, h2, _⟩ := hr; cases h; exact h2
    have hfit := L.fits hj
    obtain ⟨cs', h1, h2⟩ := fill_soundS hpl ps xs (vupd f j u) _ hps hm (fun i p q hp hq => hR (i + 1) p q (by simpa using hp) (by simpa using hq)) hput
    refine ⟨cs', ?_, h2⟩
    simp only [Instr.fill, hpl j hj]
    rw [if_neg (by simp [c1, hz]; omega)]
    rw [← h1]
    congr 1
    have := foldl_set (L.off j) x.cells.toList 0 cs (by simp [c1, hz]; omega)
    simp only [Nat.add_zero] at this
    rw [← this, ← Array.foldl_toList]
    simp


section
variable {G : Glob} {dst : Option Tmp} {ty : TypeId} {pos : String} {af : Array Edge} {g : Option (Nat × Bool)}
theorem does_storeO (T : TypeId) (t : Nat) (x : Operand) (id off : Nat) (path : List Nat) (o o' : Box) (i2 es2 n2 : Nat) (f2 : Nat → V) (u : V) (hu2 : u = .own i2) (ag : Bool) (hc : cOk x u) (hp : o.okp path) (hoff : o.off path = off) (hz : (o.get path).size = u.size)
    (ho' : o.set path u = o') (hT : TyOk G.P T ag u.size) :
    Does G ⟨dst, .store T (.tmp t) x, ty, pos, af, g⟩ { need := (t, .ptr id off path) :: nd x u, nob := [(id, o), (i2, .arr es2 n2 f2)], eff := { v := .any, upd := [(id, some o')] } } := by
  intro e a ok hn K Q hK
  have hr : R e u (a.eval x) := R.operand hn.1 hc (fun _ h => List.mem_cons_of_mem _ h)
  obtain ⟨hu, hx⟩ := hn.1 (t, .ptr id off path) (by simp)
  have hob := hn.2.1 (id, o) (by simp)
  obtain ⟨b, hb, hx⟩ := hx o hob
  have hx' : a.eval (.tmp t) = .pointer (some ⟨b, off, none⟩) := hx
  have hob2 := hn.2.1 (i2, .arr es2 n2 f2) (by simp)
  obtain ⟨c1, c2, c3⟩ := sol_own hob2 u hu2 _ hr
  have hheld := ok.held id o hob
  obtain ⟨b', cs, T', e1, e2, e3, _⟩ := hheld.get hp
  obtain rfl : b = b' := by rw [hb] at e1; exact Option.some.inj e1
  subst hoff
  rw [hz] at e3
  have hsp := splice_get cs (a.eval x).cells (o.off path) (by rw [c1]; exact e3)
  obtain ⟨s1, s2, s3⟩ := hsp
  generalize hcs' : (cs.toList.take (o.off path) ++ (a.eval x).cells.toList ++ cs.toList.drop (o.off path + (a.eval x).cells.toList.length)).toArray = cs' at s1 s2 s3
  have hrun : (storeVar T ⟨b, o.off path, none⟩ (a.eval x)).run G.P e.w = .ok () (e.w.setRow b cs') := by
    have h1 := run_storeRow (P := G.P) b (o.off path) T' (a.eval x).cells.toList 0 cs e.w e2 (by simp; omega) (fun v hv => c2 v (by simpa using hv))
    simp only [Nat.add_zero] at h1
    rw [hcs'] at h1
    simp [storeVar, hT.run_sizeOf, c1, h1]
  have hpu : piece u cs' (o.off path) u.size = a.eval x := piece_of_cells c1 c3 (by rw [s1]; exact e3) (fun k hk => s3 k (by omega))
  have hone : AllOne cs → AllOne cs' := by
    intro h c hc'
    subst hcs'
    simp only [List.mem_toArray, List.mem_append] at hc'
    rcases hc' with (h1 | h1) | h1
    · exact h c (by simpa using List.mem_of_mem_take h1)
    · exact c2 c (by simpa using h1)
    · exact h c (by simpa using List.mem_of_mem_drop h1)
  obtain ⟨cs2, T2, l1, l2⟩ := hheld.lies hb
  obtain rfl := e2.uniq l1
  have hl : Lies e o' cs' (e.kap id) := by
    subst ho'
    cases o with
    | var v =>
      have := R.setp (e := e) (u := u) s1 (hone l2.1) path 0 v hp (by rw [l2.2.1]; omega) hz.symm l2.2.2 (by
        have h0 : piece u cs' (poff 0 v path) u.size = a.eval x := hpu
        rw [h0]; exact hr) (fun k _ _ h => s2 k (by rw [c1]; exact h))
      exact ⟨hone l2.1, by rw [s1, l2.2.1]; exact this.1.symm, by have h2 := this.2; rw [← this.1] at h2; exact h2⟩
    | arr es n f =>
      cases path with
      | nil => exact hp.elim
      | cons j p =>
        obtain ⟨hj, hp⟩ := hp
        obtain ⟨l3, l4, l5, l6⟩ := l2
        refine ⟨hone l3, by rw [s1]; exact l4, l5, fun k hk => ?_⟩
        obtain ⟨hzk, hrk⟩ := l6 k hk
        obtain ⟨hzj, hrj⟩ := l6 j hj
        have bnd : ∀ i, i < n → i * es + es ≤ cs.size := by
          intro i hi
          have : (i + 1) * es ≤ e.kap id * es := Nat.mul_le_mul_right _ (by omega)
          rw [Nat.succ_mul] at this; omega
        have hrj' : R e (f j) (piece (f j) cs (j * es) (f j).size) := by rw [hzj]; exact hrj
        have inner := poff_le p (j * es) (f j) cs e hp (by rw [hzj]; exact bnd j hj) hrj'
        by_cases hkj : k = j
        · subst hkj
          have := R.setp (e := e) (u := u) s1 (hone l3) p (k * es) (f k) hp (by rw [hzk]; exact bnd k hk) hz.symm hrj' (by
            have : piece u cs' (poff (k * es) (f k) p) u.size = a.eval x := hpu
            rw [this]; exact hr) (fun i _ _ h => s2 i (by rw [c1]; exact h))
          have e5 : vupd f k (setp (f k) p u) k = setp (f k) p u := by simp [vupd]
          rw [e5]
          exact ⟨this.1.trans hzk, by have h2 := this.2; rw [hzk] at h2; exact h2⟩
        · have e5 : vupd f j (setp (f j) p u) k = f k := by simp [vupd, hkj]
          rw [e5]
          refine ⟨hzk, ?_⟩
          rw [piece_other (f k) cs cs' (k * es) es s1 (bnd k hk) (fun ha => by rw [← hzk, size_pos ha]; omega) ?_]
          · exact hrk
          · intro i hi1 hi2
            refine s2 i ?_
            rw [c1, ← hz]
            have a1 := inner.1
            have a2 := inner.2.1
            rw [hzj] at a2
            simp only [Box.off, Box.get]
            rcases Nat.lt_or_gt_of_ne hkj with h | h
            · have : (k + 1) * es ≤ j * es := Nat.mul_le_mul_right _ h
              rw [Nat.succ_mul] at this; left; omega
            · have : (j + 1) * es ≤ k * es := Nat.mul_le_mul_right _ h
              rw [Nat.succ_mul] at this; right; omega
  have gr := grow_write ok (o := o') hob hb l1 s1 (by subst ho'; cases o with | var v => trivial | arr es n f => cases path with | nil => exact ⟨rfl, rfl⟩ | cons j p => exact ⟨rfl, rfl⟩) hl
  unfold Oper.wp
  simp only [execOp, Sem.run_bind, hx', Instr.storeAt, Instr.sureAddr, Sem.run_pure, Result.andThen_ok, hrun]
  exact hK undef (e.write id b o' cs') gr (by rw [appOb_one]; rfl) (by intro k; simp [Env.write]) trivial

theorem does_buildO (T : TypeId) (parts : Array (Nat × Operand)) (xs : List (Nat × Operand)) (ps : List (Nat × V)) (L : Lay) (f0 f1 : Nat → V) (nob : List (Nat × Box)) (hx : parts.toList = xs) (hB : BldOk G.P T L f0) (hc : cOkp xs ps) (hp : ∀ e : Env, (∀ p ∈ nob, e.ob p.1 = some p.2) → PartsSol e L ps) (hf : setAll f0 ps = f1) :
    Does G ⟨dst, .build T parts, ty, pos, af, g⟩ { need := ndp xs ps, nob := nob, eff := { v := .agg L f1 } } := by
  subst hf
  refine does_value rfl rfl fun e a ok hn hob => ?_
  have hp := hp e hob
  obtain ⟨z, hz, hck⟩ := hB.zero
  have hr0 := chk_sound e _ z hck
  obtain ⟨cs0, rfl, hs0⟩ := hr0
  have hr0 : R e (.agg L f0) (.agg cs0) := ⟨cs0, rfl, hs0⟩
  obtain ⟨a1, a2⟩ := parts_of hn xs ps hc (fun _ h => h)
  cases hi : G.P.info? T with
  | none => simp [hi] at hz
  | some inf =>
    simp [hi] at hz
    rcases hB.und with ⟨fields, hu, places, hpl, hat⟩ | ⟨n, m, E, i, hu, hiE, hL⟩
    · obtain ⟨cs', h1, h2⟩ := fill_soundS (place := (places.toArray[·]?)) (fun j hj => by simpa using hat j hj) ps _ f0 cs0 hp a1 a2 hr0
      refine ⟨.agg cs', ?_, h2⟩
      have := run_build (P := G.P) e.w T (parts.map fun p => (p.1, a.eval p.2)) cs' (by
        simp only [Program.built, hi, hu, hz, hpl]
        rw [Array.toList_map, hx]; exact h1)
      simp only [execOp, Sem.run_bind, this, Result.andThen_ok, Sem.run_pure]
    · subst hL
      obtain ⟨cs', h1, h2⟩ := fill_soundS (place := fun k => some (k * i.size, i.size)) (fun j hj => rfl) ps _ f0 cs0 hp a1 a2 hr0
      refine ⟨.agg cs', ?_, h2⟩
      have := run_build (P := G.P) e.w T (parts.map fun p => (p.1, a.eval p.2)) cs' (by
        simp only [Program.built, hi, hu, hz, hiE]
        rw [Array.toList_map, hx]; exact h1)
      simp only [execOp, Sem.run_bind, this, Result.andThen_ok, Sem.run_pure]

/-- A struct built, one of its slices nil: that one may be grown. -/
theorem does_buildN (T : TypeId) (parts : Array (Nat × Operand)) (xs : List (Nat × Operand)) (ps : List (Nat × V)) (L : Lay) (f0 f1 g0 h0 : Nat → V) (k es id : Nat) (hx : parts.toList = xs) (hB : BldOk G.P T L f0) (hc : cOkp xs ps) (hp : PartsOk L ps) (hk : k < L.cnt) (hnil : f0 k = .sl es 0 g0) (hf : setAll (vupd f0 k (.own id)) ps = f1) :
    Does G ⟨dst, .build T parts, ty, pos, af, g⟩ { need := ndp xs ps, eff := { v := .agg L f1, upd := [(id, some (.arr es 0 h0))], new := [id] } } := by
  subst hf
  intro e a ok hnd K Q hK
  have hid := hnd.2.2 id (by simp)
  obtain ⟨z, hz, hck⟩ := hB.zero
  have gr := grow_void (G := G) ok hid es h0
  have hr0 := chk_sound (e.void id es h0) _ z hck
  obtain ⟨cs0, rfl, hs0, ho0, hel⟩ := hr0
  have hkc : chk (f0 k) (piece (f0 k) cs0 (L.off k) (L.sz k)) = true ∧ (f0 k).size = L.sz k := by
    simp only [chk, Bool.and_eq_true, beq_iff_eq, List.all_eq_true, List.mem_range] at hck
    exact ⟨(hck.2 k hk).2, (hck.2 k hk).1⟩
  have hr1 : R (e.void id es h0) (.agg L (vupd f0 k (.own id))) (.agg cs0) := by
    refine ⟨cs0, rfl, hs0, ho0, fun j hj => ?_⟩
    by_cases hjk : j = k
    · subst hjk
      have e1 : vupd f0 j (.own id) j = .own id := by simp [vupd]
      rw [e1]
      refine ⟨by rw [← hkc.2, hnil]; rfl, ?_⟩
      have hc1 := hkc.1
      rw [hnil] at hc1
      have hpe : piece (.sl es 0 g0) cs0 (L.off j) (L.sz j) = piece (.own id) cs0 (L.off j) (L.sz j) := rfl
      rw [hpe] at hc1
      generalize piece (.own id) cs0 (L.off j) (L.sz j) = x at hc1
      have hx : x = .slice none 0 0 := by
        cases x with
        | slice ad m c =>
          cases ad with
          | none =>
            simp only [chk, Bool.and_eq_true, beq_iff_eq] at hc1
            rw [hc1.1.2, hc1.2]
          | some ad => simp [chk] at hc1
        | _ => simp [chk] at hc1
      subst hx
      refine ⟨.inr rfl, fun es' n' f' ho => ?_⟩
      simp only [Env.void, if_true, Option.some.injEq, Box.arr.injEq] at ho ⊢
      exact ⟨ho.2.1.symm, none, rfl⟩
    · have e1 : vupd f0 k (.own id) j = f0 j := by simp [vupd, hjk]
      rw [e1]; exact hel j hj
  obtain ⟨a1, a2⟩ := parts_of hnd.1 xs ps hc (fun _ h => h)
  have a2' : ∀ (i : Nat) (p : Nat × V) (q : Nat × Value), ps[i]? = some p → (xs.map fun p => (p.1, a.eval p.2))[i]? = some q → R (e.void id es h0) p.2 q.2 := fun i p q h1 h2 => gr.keep (a2 i p q h1 h2)
  have fin : ∀ cs', (execOp a.eval ⟨dst, .build T parts, ty, pos, af, g⟩).run G.P e.w = .ok (.value (.agg cs')) e.w → R (e.void id es h0) (.agg L (setAll (vupd f0 k (.own id)) ps)) (.agg cs') → (⟨dst, .build T parts, ty, pos, af, g⟩ : Oper).wp G.P a e.w K Q := by
    intro cs' hrun h2
    unfold Oper.wp
    rw [hrun]
    exact hK _ (e.void id es h0) gr (by rw [appOb_one]; rfl) (by intro k; simp [Env.void]) h2
  cases hi : G.P.info? T with
  | none => simp [hi] at hz
  | some inf =>
    simp [hi] at hz
    rcases hB.und with ⟨fields, hu, places, hpl, hat⟩ | ⟨n, m, E, i, hu, hiE, hL⟩
    · obtain ⟨cs', h1, h2⟩ := fill_sound (place := (places.toArray[·]?)) (fun j hj => by simpa using hat j hj) ps _ _ cs0 hp a1 a2' hr1
      have := run_build (P := G.P) e.w T (parts.map fun p => (p.1, a.eval p.2)) cs' (by
        simp only [Program.built, hi, hu, hz, hpl]
        rw [Array.toList_map, hx]; exact h1)
      exact fin cs' (by simp only [execOp, Sem.run_bind, this, Result.andThen_ok, Sem.run_pure]) h2
    · subst hL
      obtain ⟨cs', h1, h2⟩ := fill_sound (place := fun k => some (k * i.size, i.size)) (fun j hj => rfl) ps _ _ cs0 hp a1 a2' hr1
      have := run_build (P := G.P) e.w T (parts.map fun p => (p.1, a.eval p.2)) cs' (by
        simp only [Program.built, hi, hu, hz, hiE]
        rw [Array.toList_map, hx]; exact h1)
      exact fin cs' (by simp only [execOp, Sem.run_bind, this, Result.andThen_ok, Sem.run_pure]) h2
end
end Go.Eng
