/- The engine's laws on shifts, texts and bytes, slices made, and the nil slice. Conditions: none. -/
import Derived.Test.YtnfjibcfnchkkaaEngX
import Derived.Laws.BytesString
import Derived.Laws.NewFold
import Derived.Laws.MakeOwn
namespace Go.Eng

def ishr (k : IntKind) (p q : Int) : Int := p.fdiv (2 ^ min q.toNat k.bits)
def ishl (k : IntKind) (p q : Int) : Int := k.wrap (p * 2 ^ min q.toNat k.bits)
/-- A shift's count. -/
def nn (i : Int) : Option Unit := if 0 ≤ i then some () else none
theorem nn_of {i : Int} {β : Type} {f : Unit → Option β} {r : β} (h : (nn i).bind f = some r) : 0 ≤ i ∧ f () = some r := by
  unfold nn at h
  split at h
  · rename_i hh; exact ⟨hh, h⟩
  · cases h
theorem nn_t {i : Int} (h : 0 ≤ i) : nn i = some () := by simp [nn, h]

def bytesOf (s : ByteArray) : List Int := s.data.toList.map fun b => (b.toNat : Int)
def strOf (l : List Int) : ByteArray := l.foldl (fun r n => r.push (UInt8.ofNat n.toNat)) ByteArray.empty

/-- A slice of so many elements may be made. -/
def mk (n : Int) (by_ : Nat) : Option Unit := if 0 ≤ n ∧ n ≤ maxLen ∧ n.toNat * by_ ≤ 281474976710656 then some () else none
theorem mk_of {n : Int} {by_ : Nat} {β : Type} {f : Unit → Option β} {r : β} (h : (mk n by_).bind f = some r) : (0 ≤ n ∧ n ≤ maxLen ∧ n.toNat * by_ ≤ 281474976710656) ∧ f () = some r := by
  unfold mk at h
  split at h
  · rename_i hh; exact ⟨hh, h⟩
  · cases h
theorem mk_t {n : Int} {by_ : Nat} (h : 0 ≤ n ∧ n ≤ maxLen ∧ n.toNat * by_ ≤ 281474976710656) : mk n by_ = some () := by simp only [mk, if_pos h]

/-- So many zeros may be appended to nothing. -/
def mkp (n : Int) (by_ : Nat) : Option Unit := if 0 < n ∧ n ≤ maxLen ∧ n.toNat * by_ ≤ 140737488355328 then some () else none
theorem mkp_of {n : Int} {by_ : Nat} {β : Type} {f : Unit → Option β} {r : β} (h : (mkp n by_).bind f = some r) : (0 < n ∧ n ≤ maxLen ∧ n.toNat * by_ ≤ 140737488355328) ∧ f () = some r := by
  unfold mkp at h
  split at h
  · rename_i hh; exact ⟨hh, h⟩
  · cases h
theorem mkp_t {n : Int} {by_ : Nat} (h : 0 < n ∧ n ≤ maxLen ∧ n.toNat * by_ ≤ 140737488355328) : mkp n by_ = some () := by simp only [mkp, if_pos h]

section
variable {G : Glob} {dst : Option Tmp} {ty : TypeId} {pos : String} {af : Array Edge} {g : Option (Nat × Bool)}

theorem does_shift (op : BinOp) (xT yT : TypeId) (x y : Operand) (k k2 : IntKind) (p q : Int) (r : V) (hx : cOk x (.int k p)) (hy : cOk y (.int k2 q))
    (hr : ∀ (P : Program) (w : World), ∃ z, (binOp op xT (.int k p) (.int k2 q)).run P w = .ok z w ∧ ∀ e, R e r z) :
    Does G ⟨dst, .binOp op xT x y yT, ty, pos, af, g⟩ { need := nd x (.int k p) ++ nd y (.int k2 q), eff := { v := r } } :=
  does_value rfl rfl fun e a _ hn _ => by
    have h1 : a.eval x = .int k p := R.operand hn hx (fun _ h => List.mem_append_left _ h)
    have h2 : a.eval y = .int k2 q := R.operand hn hy (fun _ h => List.mem_append_right _ h)
    obtain ⟨z, hz, hR⟩ := hr G.P e.w
    exact ⟨z, by simp [execOp, h1, h2, eqGuard_at_int, hz], hR e⟩
theorem bin_shr (xT : TypeId) (k k2 : IntKind) (p q : Int) (h : 0 ≤ q) (P : Program) (w : World) : ∃ z, (binOp .shr xT (.int k p) (.int k2 q)).run P w = .ok z w ∧ ∀ e, R e (.int k (ishr k p q)) z :=
  ⟨_, by rw [binOp_shr]; simp only [Op.shift, if_neg (show ¬ q < 0 by omega)]; rfl, fun _ => rfl⟩
theorem bin_shl (xT : TypeId) (k k2 : IntKind) (p q : Int) (h : 0 ≤ q) (P : Program) (w : World) : ∃ z, (binOp .shl xT (.int k p) (.int k2 q)).run P w = .ok z w ∧ ∀ e, R e (.int k (ishl k p q)) z :=
  ⟨_, by rw [binOp_shl]; simp only [Op.shift, if_neg (show ¬ q < 0 by omega)]; rfl, fun _ => rfl⟩

theorem bytes_len (s : ByteArray) : (bytesOf s).length = s.size := by simp [bytesOf]
theorem bytes_get (s : ByteArray) {i : Nat} (h : i < s.size) : (bytesOf s).getD i 0 = (s[i].toNat : Int) := by
  have h' : i < s.data.size := h
  simp only [bytesOf, List.getD_eq_getElem?_getD, List.getElem?_map, Array.getElem?_toList, Array.getElem?_eq_getElem h', Option.map_some, Option.getD_some]
  rfl
/-- s[i], s a text. -/
theorem does_indexStr (T : TypeId) (x y : Operand) (s : ByteArray) (k : IntKind) (i : Int) (hT : G.P.underlying T = some .string) (hx : cOk x (.str s)) (hy : cOk y (.int k i)) (h0 : 0 ≤ i) (h1 : i < s.size) :
    Does G ⟨dst, .index T x y, ty, pos, af, g⟩ { need := nd x (.str s) ++ nd y (.int k i), eff := { v := .int .u8 ((bytesOf s).getD i.toNat 0) } } :=
  does_value rfl rfl fun e a ok hn ho => by
    have e1 : a.eval x = .string s := R.operand hn hx (fun _ h => List.mem_append_left _ h)
    have e2 : a.eval y = .int k i := R.operand hn hy (fun _ h => List.mem_append_right _ h)
    have hlt : i.toNat < s.size := by omega
    refine ⟨.int .u8 s[i.toNat].toNat, ?_, by rw [bytes_get s hlt]; rfl⟩
    have hg : s[i.toNat]? = some s[i.toNat] := by simp [hlt]
    simp [execOp, e1, e2, Instr.index, asIntOf, run_underlying hT, h0, hg]

/-- What is a slice of bytes, as cells. -/
theorem bytes_cells {e : Env} {l : List Int} {ad : Addr} {cs : Array Value} (hs : cs.size = l.length * 1) (hr : ∀ j, j < l.length → R e (.int .u8 (l.getD j 0)) (piece (.int .u8 (l.getD j 0)) cs (j * 1) 1)) : cs.toList = l.map (Value.int .u8) := by
  apply List.ext_getElem?
  intro j
  by_cases hj : j < l.length
  · have := hr j hj
    have h2 : piece (.int .u8 (l.getD j 0)) cs (j * 1) 1 = cs.getD j undef := by simp [piece, V.isAgg]
    rw [h2] at this
    have h3 : cs.getD j undef = .int .u8 (l.getD j 0) := this
    rw [Array.getD_eq_getD_getElem?] at h3
    have h4 : cs[j]? = some cs[j] := Array.getElem?_eq_getElem (by omega)
    rw [h4] at h3
    simp only [Option.getD_some] at h3
    simp [h4, h3, List.getD_eq_getElem?_getD, hj]
  · rw [List.getElem?_eq_none (by simp; omega), List.getElem?_eq_none (by simp; omega)]

theorem run_b2s {P : Program} {e : Env} {S T E : TypeId} (hS : P.underlying S = some (.slice E)) (hE : P.underlying E = some (.int .u8)) (hT : P.underlying T = some .string) {l : List Int} {ad : Addr} {c : Nat} {cs : Array Value} (hs : cs.size = l.length * 1)
    (hc : CellsAt e.w ad cs) (hr : ∀ j, j < l.length → R e (.int .u8 (l.getD j 0)) (piece (.int .u8 (l.getD j 0)) cs (j * 1) 1)) : (convert S T (.slice (some ad) l.length c)).run P e.w = .ok (.string (strOf l)) e.w := by
  have h1 := bytes_cells (ad := ad) hs hr
  have h2 := run_loadCells_list (P := P) e.w ad cs.toList (cellsAt_list hc)
  rw [h1] at h2
  simp only [List.length_map] at h2
  rw [run_convert_bytes_string e.w S T E _ _ _ hS hE hT, run_bytesToString e.w ad l.length c l h2]
  rfl
theorem run_b2s0 {P : Program} {w : World} {S T E : TypeId} (hS : P.underlying S = some (.slice E)) (hE : P.underlying E = some (.int .u8)) (hT : P.underlying T = some .string) (ad : Option Addr) (c : Nat) : (convert S T (.slice ad 0 c)).run P w = .ok (.string ByteArray.empty) w := by
  rw [run_convert_bytes_string w S T E _ _ _ hS hE hT]
  cases ad with
  | none => rfl
  | some a => 
    have := run_bytesToString (P := P) w a 0 c [] (by simp [loadCells, loadCellsFrom])
    rw [this]; rfl

/-- Bytes, as a text. -/
theorem does_b2s (S T E t : Nat) (l : List Int) (hS : G.P.underlying S = some (.slice E)) (hE : G.P.underlying E = some (.int .u8)) (hT : G.P.underlying T = some .string) :
    Does G ⟨dst, .convert S T (.tmp t), ty, pos, af, g⟩ { need := [(t, .sl 1 l.length fun j => .int .u8 (l.getD j 0))], eff := { v := .str (strOf l) } } :=
  does_value rfl rfl fun e a ok hn _ => by
    obtain ⟨ad, c, hx, hc, hor⟩ := hn (t, .sl 1 l.length fun j => .int .u8 (l.getD j 0)) (by simp)
    have hx' : a.eval (.tmp t) = .slice ad l.length c := hx
    refine ⟨.string (strOf l), ?_, rfl⟩
    rcases hor with h0 | ⟨ad', cs, rfl, _, _, _, hs, hcell, _, hr⟩
    · have hl : l = [] := List.eq_nil_of_length_eq_zero h0
      subst hl
      have h9 := run_b2s0 (P := G.P) (w := e.w) hS hE hT ad c
      simp only [execOp, hx', List.length_nil, h9, Sem.run_bind, Result.andThen_ok, Sem.run_pure]
      rfl
    · have h9 := run_b2s (P := G.P) (c := c) hS hE hT hs hcell (fun j hj => (hr j hj).2)
      simp only [execOp, hx', h9, Sem.run_bind, Result.andThen_ok, Sem.run_pure]

theorem does_b2so (S T E t id : Nat) (l : List Int) (hS : G.P.underlying S = some (.slice E)) (hE : G.P.underlying E = some (.int .u8)) (hT : G.P.underlying T = some .string) :
    Does G ⟨dst, .convert S T (.tmp t), ty, pos, af, g⟩ { need := [(t, .own id)], nob := [(id, .arr 1 l.length fun j => .int .u8 (l.getD j 0))], eff := { v := .str (strOf l) } } :=
  does_value rfl rfl fun e a ok hn ho => by
    obtain ⟨hu, hx⟩ := hn (t, .own id) (by simp)
    have hob := ho (id, .arr 1 l.length fun j => .int .u8 (l.getD j 0)) (by simp)
    have hx := hx _ _ _ hob
    have hh := ok.held id _ hob
    refine ⟨.string (strOf l), ?_, rfl⟩
    cases ht : e.th id with
    | none =>
      rw [ht] at hx
      simp only [Held, ht] at hh
      obtain ⟨_, ad, hx⟩ := hx
      have hx' : a.eval (.tmp t) = .slice ad 0 0 := hx
      have hl : l = [] := List.eq_nil_of_length_eq_zero hh
      subst hl
      have h9 := run_b2s0 (P := G.P) (w := e.w) hS hE hT ad 0
      simp only [execOp, hx', h9, Sem.run_bind, Result.andThen_ok, Sem.run_pure]
      rfl
    | some b =>
      rw [ht] at hx
      have hx' : a.eval (.tmp t) = .slice (some ⟨b, 0, none⟩) l.length (e.kap id) := hx
      obtain ⟨cs, T', l1, l2⟩ := hh.lies ht
      obtain ⟨c1, c2, c3, c4⟩ := l2
      have hle : l.length * 1 ≤ cs.size := by rw [c2]; exact Nat.mul_le_mul_right _ c3
      have hsub := sub_cells (off := 0) (sz := l.length * 1) l1.1
      have h9 := run_b2s (P := G.P) (e := e) (ad := ⟨b, 0, none⟩) (c := e.kap id) (l := l) (cs := cs.extract 0 (0 + l.length * 1)) hS hE hT (by simp; omega) hsub (fun j hj => by
        have := (c4 j hj).2
        rw [piece_extract _ cs 0 (l.length * 1) (j * 1) 1 (by omega) (.inl (by omega)) (by omega), Nat.zero_add]
        exact this)
      simp only [execOp, hx', h9, Sem.run_bind, Result.andThen_ok, Sem.run_pure]

theorem freeze_alloc_heap (w : World) (cs : Array Value) (E : TypeId) (k : Nat) : ((w.alloc (.cells cs E (0, 0))).freeze ⟨w.heap.size, cs.size, none⟩ 1).heap[k]? = if k = w.heap.size then some (.cells cs E (cs.size, cs.size + 1)) else w.heap[k]? := by
  simp only [World.freeze, if_neg (show ¬ (1 = 0) by omega), Array.getElem?_modify, heap_alloc_at]
  by_cases hk : k = w.heap.size
  · subst hk; simp
  · have : ¬ w.heap.size = k := fun q => hk q.symm
    simp [hk, this]

/-- A text, as bytes of the call's own. -/
theorem does_s2b (S T E id : Nat) (x : Operand) (s : ByteArray) (hx : cOk x (.str s)) (hS : G.P.underlying S = some .string) (hT : G.P.underlying T = some (.slice E)) (hE : G.P.underlying E = some (.int .u8)) (hn : s.size ≤ maxLen) :
    Does G ⟨dst, .convert S T x, ty, pos, af, g⟩ { need := nd x (.str s), eff := { v := .own id, upd := [(id, some (.arr 1 (bytesOf s).length fun j => .int .u8 ((bytesOf s).getD j 0)))], new := [id] } } := by
  intro e a ok hnd K Q hK
  have hid := hnd.2.2 id (by simp)
  have hx' : a.eval x = .string s := R.operand hnd.1 hx (fun _ h => h)
  have hcap := grownCap_ge e.w s.size 0 E
  have hcs : ∃ cs : Array Value, cs = (s.data.map fun b => Value.int .u8 b.toNat) ++ Array.replicate (grownCap e.w s.size 0 E - s.size) (.int .u8 0) := ⟨_, rfl⟩
  obtain ⟨cs, hcs⟩ := hcs
  have hss : s.data.size = s.size := rfl
  have hsz : cs.size = grownCap e.w s.size 0 E := by rw [hcs]; simp; omega
  have hsh : ∀ w : World, (w.alloc (.cells cs E (0, 0))).shape? w.heap.size = some (E, cs.size) := by
    intro w
    have := heap_alloc_at w (.cells cs E (0, 0)) w.heap.size
    rw [if_pos rfl] at this
    simp only [World.shape?, this]
  have hrun : (convert S T (a.eval x)).run G.P e.w = .ok (.slice (some ⟨e.w.heap.size, 0, none⟩) s.size (grownCap e.w s.size 0 E)) ((e.w.drew.alloc (.cells cs E (0, 0))).freeze ⟨e.w.heap.size, cs.size, none⟩ 1) := by
    have h1 : (convert S T (.string s)).run G.P e.w = (Conv.stringToBytes E s).run G.P e.w := by
      simp [convert, run_underlying hS, run_underlying hT, run_underlying hE]
    rw [hx', h1]
    have hq : (Question.appendCap s.size 0 E).forced = false := rfl
    have h2 := hsh e.w.drew
    have h3 : e.w.drew.heap.size = e.w.heap.size := rfl
    rw [h3] at h2
    simp only [Conv.stringToBytes, Sem.run_bind, run_choose_drew, hq, Bool.false_eq_true, if_false, Result.andThen_ok, newRow, run_newObj, Sem.run_pure]
    have h4 : (Question.appendCap s.size 0 E).cut (e.w.tape e.w.drawn (Question.appendCap s.size 0 E)) = grownCap e.w s.size 0 E := rfl
    rw [h4, ← hcs]
    simp only [markStringish, shape, Sem.run_bind, Sem.run_pure, h3, Sem.run, Result.andThen_ok]
    show ((Sem.run G.P (match (e.w.drew.alloc (.cells cs E (0, 0))).shape? e.w.heap.size with
      | some (_, n) => freeze { block := e.w.heap.size, off := n } 1
      | _ => pure ()) (e.w.drew.alloc (.cells cs E (0, 0)))).andThen _) = _
    rw [h2]; rfl
  have hw : ∃ w', w' = (e.w.drew.alloc (.cells cs E (0, 0))).freeze ⟨e.w.heap.size, cs.size, none⟩ 1 := ⟨_, rfl⟩
  obtain ⟨w', hw⟩ := hw
  have hheap : ∀ k, w'.heap[k]? = if k = e.w.heap.size then some (.cells cs E (cs.size, cs.size + 1)) else e.w.heap[k]? := by
    intro k; rw [hw]; exact freeze_alloc_heap e.w.drew cs E k
  have hsize : w'.heap.size = e.w.heap.size + 1 := by rw [hw]; simp [World.freeze]
  have hfr : Frame0 (fun _ => False) e.w w' := by
    refine ⟨by rw [hw]; rfl, by rw [hw]; rfl, by rw [hw]; rfl, by omega, by rw [hw]; exact Nat.le_succ _, fun k hk _ => ?_⟩
    rw [hheap k, if_neg (by omega)]
  unfold Oper.wp
  simp only [execOp, Sem.run_bind, hrun, Result.andThen_ok, Sem.run_pure]
  rw [← hw]
  have hn0 : ∀ k, e.us k → k ≠ id := fun k hk q => hid (q ▸ hk)
  have hobid : ∀ k o, e.ob k = some o → k ≠ id := fun k o h => hn0 k (ok.used k o h)
  generalize hEE : ({ e with w := w', th := fun k => if k = id then some e.w.heap.size else e.th k, kap := fun k => if k = id then grownCap e.w s.size 0 E else e.kap k, ob := fun k => if k = id then some (.arr 1 (bytesOf s).length fun j => .int .u8 ((bytesOf s).getD j 0)) else e.ob k, us := fun k => e.us k ∨ k = id } : Env) = e'
  have ew : e'.w = w' := by subst hEE; rfl
  have eob : e'.ob = fun k => if k = id then some (.arr 1 (bytesOf s).length fun j => .int .u8 ((bytesOf s).getD j 0)) else e.ob k := by subst hEE; rfl
  have eth : ∀ k, e'.th k = if k = id then some e.w.heap.size else e.th k := by intro k; subst hEE; rfl
  have ekp : ∀ k, e'.kap k = if k = id then grownCap e.w s.size 0 E else e.kap k := by intro k; subst hEE; rfl
  have eus : ∀ k, e'.us k ↔ e.us k ∨ k = id := by intro k; subst hEE; exact Iff.rfl
  have eS : e'.S = e.S := by subst hEE; rfl
  have eSp : e'.Sp = e.Sp := by subst hEE; rfl
  have obOld : ∀ k o, e'.ob k = some o → k ≠ id → e.ob k = some o := by
    intro k o h hk; rw [eob] at h; simpa [hk] using h
  have F : Follows e e' := by
    refine ⟨by rw [ew, hsize]; omega, fun b hb _ => by rw [ew, hheap b, if_neg (by omega)], ?_, fun b _ h => by rw [eS] at h; exact h, fun b _ h => by rw [eSp] at h; exact h⟩
    rintro b hb ⟨k, o, h1, h2⟩
    rw [eth k] at h2
    by_cases hk : k = id
    · rw [if_pos hk] at h2; cases h2; omega
    · rw [if_neg hk] at h2; exact ⟨k, o, obOld k o h1 hk, h2⟩
  have I : IdKeeps e e' := by
    intro k hu
    have hk := hn0 k hu
    refine ⟨(eus k).2 (.inl hu), fun o' ho' => ⟨by rw [eth, if_neg hk], by rw [ekp, if_neg hk], o', obOld k o' ho' hk, o'.like_refl⟩⟩
  have hlen : (bytesOf s).length = s.size := by simp [bytesOf]
  have hlies : Lies e' (.arr 1 (bytesOf s).length fun j => .int .u8 ((bytesOf s).getD j 0)) cs (grownCap e.w s.size 0 E) := by
    refine ⟨?_, by rw [hsz]; omega, by rw [hlen]; omega, fun j hj => ⟨rfl, ?_⟩⟩
    · intro c hc
      rw [hcs] at hc
      simp only [Array.mem_append, Array.mem_map, Array.mem_replicate] at hc
      rcases hc with ⟨b, _, rfl⟩ | ⟨_, rfl⟩ <;> rfl
    · have hj' : j < s.data.size := by rw [hlen] at hj; exact hj
      show _ = _
      simp only [piece, V.isAgg, Bool.false_eq_true, if_false]
      rw [hcs, Array.getD_eq_getD_getElem?, Array.getElem?_append_left (by simp; omega)]
      simp only [Nat.mul_one, bytesOf, List.getD_eq_getElem?_getD, List.getElem?_map, Array.getElem?_map, Array.getElem?_toList, Array.getElem?_eq_getElem hj', Option.map_some, Option.getD_some]
  have gr : Grow G e e' := by
    refine ⟨⟨?_, eS.trans ok.S, eSp.trans ok.Sp, ?_, ?_, ?_, ?_, ok.low⟩, F, I⟩
    · rw [ew]
      have h9 := ok.fr
      exact ⟨hfr.os.trans h9.os, hfr.tape.trans h9.tape, hfr.output.trans h9.output, Nat.le_trans h9.size hfr.size, Nat.le_trans h9.drawn hfr.drawn, fun k hk hW => (hfr.block k (Nat.lt_of_lt_of_le hk h9.size) (fun q => q)).trans (h9.block k hk hW)⟩
    · intro k o h
      by_cases hk : k = id
      · subst hk
        rw [eob] at h; simp only [if_true, Option.some.injEq] at h
        subst h
        refine Lies.held (b := e.w.heap.size) (T := (E, (cs.size, cs.size + 1))) (cells := cs) (by rw [ekp, if_pos rfl]; exact hlies) (by rw [eth, if_pos rfl]) ⟨by rw [ew, hheap, if_pos rfl], .inr ⟨rfl, Nat.le_refl _⟩⟩
      · have h1 := obOld k o h hk
        have h2 := ok.held k o h1
        exact h2.keep F I (by rw [eth, if_neg hk]) (by rw [ekp, if_neg hk]) (fun b hb => by rw [ew, hheap b, if_neg]; have := h2.lt hb; omega)
    · intro i j oi oj b h1 h2 h3 h4
      rw [eth] at h3 h4
      by_cases hi : i = id <;> by_cases hj : j = id
      · rw [hi, hj]
      · rw [if_pos hi] at h3; rw [if_neg hj] at h4; cases h3
        have := (ok.held j oj (obOld j oj h2 hj)).lt h4; omega
      · rw [if_neg hi] at h3; rw [if_pos hj] at h4; cases h4
        have := (ok.held i oi (obOld i oi h1 hi)).lt h3; omega
      · rw [if_neg hi] at h3; rw [if_neg hj] at h4
        exact ok.inj i j oi oj b (obOld i oi h1 hi) (obOld j oj h2 hj) h3 h4
    · intro i o b h1 h2
      rw [eth] at h2
      by_cases hi : i = id
      · rw [if_pos hi] at h2; cases h2; exact .inl ok.fr.size
      · rw [if_neg hi] at h2; exact ok.fresh i o b (obOld i o h1 hi) h2
    · intro i o h1
      by_cases hi : i = id
      · exact (eus i).2 (.inr hi)
      · exact (eus i).2 (.inl (ok.used i o (obOld i o h1 hi)))
  rw [← ew]
  refine hK _ e' gr (by rw [appOb_one]; exact eob) (by intro k; rw [eus k]; simp) ⟨(eus id).2 (.inr rfl), fun es' n' f' ho => ?_⟩
  rw [eob] at ho; simp only [if_true, Option.some.injEq, Box.arr.injEq] at ho
  obtain ⟨_, rfl, _⟩ := ho
  rw [eth, if_pos rfl, ekp, if_pos rfl, hlen]

/-- A slice made: all its elements are zero. -/
theorem does_make {α : Type} (ev : α → V) (d : α) (T es by_ id : Nat) (x y : Operand) (k1 k2 : IntKind) (n : Int) (hB : SlOk G.P T es (ev d)) (hA : ApOk G.P T es by_) (hx : cOk x (.int k1 n)) (hy : cOk y (.int k2 n)) (hn : 0 ≤ n ∧ n ≤ maxLen ∧ n.toNat * by_ ≤ 281474976710656) :
    Does G ⟨dst, .makeSlice T x y, ty, pos, af, g⟩ { need := nd x (.int k1 n) ++ nd y (.int k2 n), eff := { v := .own id, upd := [(id, some (.arr es (List.replicate n.toNat d).length fun j => ev ((List.replicate n.toNat d).getD j d)))], new := [id] } } := by
  intro e a ok hnd K Q hK
  have hid := hnd.2.2 id (by simp)
  have h1 : a.eval x = .int k1 n := R.operand hnd.1 hx (fun _ h => List.mem_append_left _ h)
  have h2 : a.eval y = .int k2 n := R.operand hnd.1 hy (fun _ h => List.mem_append_right _ h)
  obtain ⟨E, i, z, hu, hi, hes, hz, hck, hzs⟩ := hB.has
  obtain ⟨E', i', z', hu', hi', hes', hz', hzs', _, hby⟩ := hA.has
  rw [hu] at hu'; cases hu'
  rw [hi] at hi'; cases hi'
  have hm := (show maxLen ≤ 9223372036854775807 by decide)
  have hr0 := zeros_R (e := e) hck hB.solid hB.size n.toNat hB.pos
  obtain ⟨l1, l2, l3⟩ := arr_lies hr0
  have hb2 : (i.bytes : Int) * n ≤ 281474976710656 := by
    rw [hby]
    have h9 : (n.toNat : Int) = n := by omega
    have := hn.2.2
    rw [← h9, ← Int.natCast_mul, Nat.mul_comm]; omega
  have hrun := run_make (P := G.P) e.w T E i z hu hi hz k1 k2 n n hn.1 (Int.le_refl _) hb2 (by omega)
  have hcells : madeCells z.cells (n.toNat * i.size) = (Array.range (n.toNat * es)).map fun k => z.cells[k % z.cells.size]! := by rw [hes]; rfl
  rw [hcells] at hrun
  have hl : Lies e (.arr es (List.replicate n.toNat d).length fun j => ev ((List.replicate n.toNat d).getD j d)) ((Array.range (n.toNat * es)).map fun k => z.cells[k % z.cells.size]!) n.toNat := by
    refine ⟨l2, l1, by simp, fun j hj => ?_⟩
    simp only [List.length_replicate] at hj
    have : (List.replicate n.toNat d).getD j d = d := by simp [List.getD_eq_getElem?_getD, List.getElem?_replicate, hj]
    simp only [this]
    exact l3 j hj
  unfold Oper.wp
  simp only [execOp, h1, h2, Sem.run_bind, hrun, Result.andThen_ok, Sem.run_pure]
  refine hK _ (e.make id _ _ E n.toNat) (grow_make ok hid hl) (by rw [appOb_one]; rfl) (by intro k; simp [Env.make]) ⟨.inr rfl, fun es' n' f' ho => ?_⟩
  simp only [Env.make, if_true, Option.some.injEq, Box.arr.injEq] at ho ⊢
  obtain ⟨_, rfl, _⟩ := ho
  simp
end
end Go.Eng
