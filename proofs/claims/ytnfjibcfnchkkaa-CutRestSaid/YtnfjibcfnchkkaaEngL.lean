/- The engine's law on append. Conditions: none. -/
import Derived.Test.YtnfjibcfnchkkaaEngK
namespace Go.Eng

/-- An element type's row, as append asks it. -/
structure ApOk (P : Program) (T : TypeId) (es by_ : Nat) : Prop where
  has : ∃ E i z, P.underlying T = some (.slice E) ∧ P.info? E = some i ∧ i.size = es ∧ i.zero = some z ∧ z.cells.size = es ∧ z.cells.all (·.oneCell') = true ∧ i.bytes = by_
  pos : 0 < es

theorem cellsAt_list {w : World} {ad : Addr} {cs : Array Value} (h : CellsAt w ad cs) : ∀ j v, cs.toList[j]? = some v → w.cell? (ad.add j) = some v := by
  intro j v hv
  obtain ⟨b, o, s⟩ := ad
  obtain ⟨h1, h2, h3⟩ := h
  simp only at h1; subst h1
  rw [Addr.add_lit]
  have hj : j < cs.size := by simpa using (List.getElem?_eq_some_iff.1 hv).1
  have := h3 j hj
  simp only at this
  rw [this]; simpa using hv

section
variable {G : Glob} {dst : Option Tmp} {ty : TypeId} {pos : String} {af : Array Edge} {g : Option (Nat × Bool)}

theorem run_append_zero {P : Program} {w : World} {T ty : TypeId} {es by_ : Nat} (h : ApOk P T es by_) (base ax : Option Addr) (n cap c : Nat) (hn : n ≤ cap) :
    (Builtin.append_ #[T, T] ty #[.slice base n cap, .slice ax 0 c]).run P w = .ok (.slice base n cap) w := by
  obtain ⟨E, i, z, hu, hi, hes, hz, hzs, hz1, hby⟩ := h.has
  cases ax <;> cases base <;> simp [Builtin.append_, run_underlying hu, sizeOf, typeInfo, hi, Builtin.lenOf, hn, Builtin.firstCells, loadCells, loadCellsFrom, storeCells]

theorem run_append_room' {P : Program} (w : World) (t ty e : TypeId) (T' : Nat × TypeId × Nat × Nat) (i : TypeInfo) (ht : P.underlying t = some (.slice e)) (hi : P.info? e = some i)
    (g sLen sCap : Nat) (cur : Array Value) (hg : Row w g cur T')
    (a : Addr) (m c : Nat) (news : List Value) (hl : news.length = m * i.size) (hnews : ∀ j u, news[j]? = some u → w.cell? (a.add j) = some u) (h1 : ∀ u ∈ news, u.oneCell' = true)
    (hroom : sLen + m ≤ sCap) (hfit : sLen * i.size + news.length ≤ cur.size) :
    (Builtin.append_ #[t, t] ty #[.slice (some ⟨g, 0, none⟩) sLen sCap, .slice (some a) m c]).run P w =
      .ok (.slice (some ⟨g, 0, none⟩) (sLen + m) sCap) (w.setRow g (cur.toList.take (sLen * i.size) ++ news ++ cur.toList.drop (sLen * i.size + news.length)).toArray) := by
  have hf := run_firstCells_some (P := P) w i.size m a m c news hl hnews
  have hst := run_storeRow (P := P) g (sLen * i.size) T' news 0 cur w hg (by simpa using hfit) h1
  simp only [Nat.add_zero] at hst
  simp [Builtin.append_, run_underlying ht, sizeOf, typeInfo, hi, Builtin.lenOf, hroom, hf, Addr.add_lit, hst]

theorem piece_append {v : V} {as bs : Array Value} {o s : Nat} (h : o + s ≤ as.size) (hs : v.isAgg = false → 0 < s) : piece v (as ++ bs) o s = piece v as o s := by
  unfold piece
  split
  · congr 1
    apply Array.ext
    · simp; omega
    · intro k h1 h2
      simp only [Array.size_extract] at h1 h2
      simp only [Array.getElem_extract]
      rw [Array.getElem_append_left (by omega)]
  · rename_i hv
    have := hs (by simpa using hv)
    simp only [Array.getD_eq_getD_getElem?]
    rw [Array.getElem?_append_left (by omega)]

theorem piece_append_right {v : V} {as bs : Array Value} {o s : Nat} (h : as.size ≤ o) : piece v (as ++ bs) o s = piece v bs (o - as.size) s := by
  unfold piece
  split
  · congr 1
    rw [Array.extract_append]
    rw [Array.extract_eq_empty_of_le (by omega)]
    simp only [Array.empty_append]
    congr 1; omega
  · simp only [Array.getD_eq_getD_getElem?]
    rw [Array.getElem?_append_right (by omega)]

/-- append(s, x...): s an own array, x a slice that stays. The array has a new name behind it. -/
theorem does_append (T es by_ n m id id' t u : Nat) (f gx h : Nat → V) (hA : ApOk G.P T es by_) (hf : ∀ j, j < n → h j = f j) (hg : ∀ j, j < m → h (n + j) = gx j) (h63 : n + m ≤ maxLen) (hby : (n + m) * by_ ≤ 140737488355328) :
    Does G ⟨dst, .call { callee := .builtin .append, args := #[.tmp t, .tmp u], argTypes := #[T, T] }, ty, pos, af, g⟩
      { need := [(t, .own id), (u, .sl es m gx)], nob := [(id, .arr es n f)], eff := { v := .own id', upd := [(id', some (.arr es (n + m) h)), (id, none)], new := [id'] } } := by
  intro e a ok hnd K Q hK
  obtain ⟨h1, h2, h3⟩ := hnd
  obtain ⟨E, i, z, hu, hi, hes, hz, hzs, hz1, hby'⟩ := hA.has
  have hid := h3 id' (by simp)
  obtain ⟨hus, hown⟩ := h1 (t, .own id) (by simp)
  have hob : e.ob id = some (.arr es n f) := h2 (id, .arr es n f) (by simp)
  have hown := hown es n f hob
  obtain ⟨ax, c, hx, hmc, hsrc⟩ := h1 (u, .sl es m gx) (by simp)
  have hheld := ok.held id _ hob
  have hne : id' ≠ id := fun hh => hid (hh ▸ hus)
  -- it is enough to tell the value, the world, the place and the room
  have fin : ∀ (v' : Value) (w' : World) (th' : Option Nat) (kp : Nat), (Builtin.append_ #[T, T] ty #[a.eval (.tmp t), a.eval (.tmp u)]).run G.P e.w = .ok v' w' →
      Frame0 (fun b => e.th id = some b) e.w w' → (∀ b, th' = some b → e.th id = some b ∨ (e.w.heap.size ≤ b ∧ b < w'.heap.size)) →
      (∀ e' : Env, Follows e e' → IdKeeps e e' → e'.w = w' → e'.th id' = th' → e'.kap id' = kp → Held e' id' (.arr es (n + m) h)) →
      (match th' with | none => n + m = 0 ∧ ∃ a, v' = .slice a 0 0 | some b => v' = .slice (some ⟨b, 0, none⟩) (n + m) kp) →
      (⟨dst, .call { callee := .builtin .append, args := #[.tmp t, .tmp u], argTypes := #[T, T] }, ty, pos, af, g⟩ : Oper).wp G.P a e.w K Q := by
    intro v' w' th' kp hrun hfr hth hh hv
    have gr := grow_rename ok hid hob (h := h) hfr hth hh
    unfold Oper.wp
    have hex : (execOp a.eval ⟨dst, .call { callee := .builtin .append, args := #[.tmp t, .tmp u], argTypes := #[T, T] }, ty, pos, af, g⟩).run G.P e.w = .ok (.value v') w' := by
      have hm : (#[Operand.tmp t, Operand.tmp u] : Array Operand).map a.eval = #[a.eval (.tmp t), a.eval (.tmp u)] := by simp
      simp only [execOp, resolve, Sem.run_bind, Sem.run_pure, Result.andThen_ok, invoke, builtin, hm, hrun]
    rw [hex]
    refine hK v' _ gr ?_ (by intro k; simp) ⟨.inr rfl, fun es' n' f' ho => ?_⟩
    · funext k
      simp only [appOb, lk_cons]
      by_cases q1 : id' = k
      · subst q1; simp
      · by_cases q2 : id = k
        · subst q2; simp [hne, Ne.symm hne]
        · simp [q1, q2, Ne.symm q1, Ne.symm q2, lk]
    · simp only [if_true, Option.some.injEq, Box.arr.injEq] at ho ⊢
      obtain ⟨_, rfl, _⟩ := ho
      cases th' with
      | none => exact hv
      | some b => exact hv
  have ev2 : a.eval (.tmp u) = .slice ax m c := hx
  by_cases hm0 : m = 0
  · subst hm0
    cases hth : e.th id with
    | none =>
      rw [hth] at hown
      obtain ⟨hn0, ab, hv⟩ := hown
      have ev1 : a.eval (.tmp t) = .slice ab 0 0 := hv
      refine fin (.slice ab 0 0) e.w none 0 (by rw [ev1, ev2]; exact run_append_zero hA ab ax 0 0 c (Nat.le_refl _)) (Frame0.refl _ _) (fun b hb => by cases hb) (fun e' _ _ _ ht _ => ?_) ⟨by omega, ab, rfl⟩
      simp only [Held, ht]; omega
    | some b =>
      rw [hth] at hown
      have ev1 : a.eval (.tmp t) = .slice (some ⟨b, 0, none⟩) n (e.kap id) := hown
      obtain ⟨cs, T', l1, l2, l3, l4, l5⟩ := hheld.lies hth
      refine fin (.slice (some ⟨b, 0, none⟩) n (e.kap id)) e.w (some b) (e.kap id) (by rw [ev1, ev2]; exact run_append_zero hA _ ax n _ c l4) (Frame0.refl _ _) (fun b' hb => .inl (hth.trans hb)) (fun e' F I hw ht hk => ?_) rfl
      refine Lies.held (b := b) (T := T') (cells := cs) ?_ ht (by rw [hw]; exact l1)
      refine ⟨l2, by rw [hk]; exact l3, by rw [hk]; exact l4, fun j hj => ?_⟩
      rw [hf j hj]
      exact ⟨(l5 j hj).1, R.keep F _ (.inl I) _ (l5 j hj).2⟩
  · rcases hsrc with q | ⟨ad, ns, rfl, _, _, hnO, hns, hcell, hone, hel⟩
    · omega
    have hnl : ns.toList.length = m * i.size := by rw [hes]; simpa using hns
    have hnews := cellsAt_list hcell
    have h1n : ∀ u ∈ ns.toList, u.oneCell' = true := fun u hu => hone u (by simpa using hu)
    -- the elements, in whatever place they come to lie
    have lies : ∀ (e' : Env) (F : Follows e e') (I : IdKeeps e e') (old rest : Array Value) (kp : Nat), old.size = n * es → AllOne old → AllOne rest → (∀ j, j < n → (f j).size = es ∧ R e (f j) (piece (f j) old (j * es) es)) →
        (old ++ ns ++ rest).size = kp * es → n + m ≤ kp → Lies e' (.arr es (n + m) h) (old ++ ns ++ rest) kp := by
      intro e' F I old rest kp ho ho1 hr1 hel' hsz hle
      refine ⟨?_, hsz, hle, fun j hj => ?_⟩
      · intro c hc
        simp only [Array.mem_append] at hc
        rcases hc with (q | q) | q
        · exact ho1 c q
        · exact hone c q
        · exact hr1 c q
      · by_cases hjn : j < n
        · rw [hf j hjn]
          obtain ⟨r1, r2⟩ := hel' j hjn
          refine ⟨r1, R.keep F _ (.inl I) _ ?_⟩
          have hb : j * es + es ≤ old.size := by
            have : (j + 1) * es ≤ n * es := Nat.mul_le_mul_right _ hjn
            rw [Nat.succ_mul] at this; omega
          have hp : (f j).isAgg = false → 0 < es := fun _ => hA.pos
          rw [piece_append (by simp; omega) hp, piece_append hb hp]
          exact r2
        · have hj2 : j - n < m := by omega
          have e1 : h j = gx (j - n) := by rw [← hg (j - n) hj2]; congr 1; omega
          rw [e1]
          obtain ⟨r1, r2⟩ := hel (j - n) hj2
          refine ⟨r1, R.keep F _ (.inl I) _ ?_⟩
          have hb : (j - n) * es + es ≤ ns.size := by
            have : (j - n + 1) * es ≤ m * es := Nat.mul_le_mul_right _ hj2
            rw [Nat.succ_mul] at this; omega
          have hje : j * es = n * es + (j - n) * es := by rw [← Nat.add_mul]; congr 1; omega
          have hp : (gx (j - n)).isAgg = false → 0 < es := fun _ => hA.pos
          rw [piece_append (by simp; omega) hp, piece_append_right (by omega)]
          rw [show j * es - old.size = (j - n) * es by omega]
          exact r2
    have one_zero : ∀ k, AllOne (Builtin.zeroCells z.cells k) := by
      intro k c hc
      simp only [Builtin.zeroCells, Array.mem_map, Array.mem_range] at hc
      obtain ⟨q, hq, rfl⟩ := hc
      have hlt : q % z.cells.size < z.cells.size := Nat.mod_lt _ (by rw [hzs]; exact hA.pos)
      rw [getElem!_pos z.cells (q % z.cells.size) hlt]
      exact Array.all_eq_true'.1 hz1 _ (Array.getElem_mem _)
    have frame_drew : ∀ o, Frame0 (fun b => e.th id = some b) e.w (e.w.drew.alloc o) := fun o =>
      ⟨rfl, rfl, rfl, by simp, Nat.le_succ _, fun k hk _ => by rw [heap_alloc_at, if_neg (show k ≠ e.w.drew.heap.size by simp; omega)]; rfl⟩
    cases hth : e.th id with
    | none =>
      rw [hth] at hown
      obtain ⟨hn0, ab, hv⟩ := hown
      subst hn0
      have ev1 : a.eval (.tmp t) = .slice ab 0 0 := hv
      have hby2 : m * i.bytes ≤ 281474976710656 := by rw [hby']; simp only [Nat.zero_add] at hby; omega
      have hmx : (m : Int) ≤ 9223372036854775807 := by simp only [maxLen] at h63; omega
      have hrun : (Builtin.append_ #[T, T] ty #[.slice ab 0 0, .slice (some ad) m c]).run G.P e.w =
          .ok (.slice (some ⟨e.w.heap.size, 0, none⟩) m (grownCap e.w m 0 E)) (e.w.drew.alloc (.cells (#[] ++ ns ++ Builtin.zeroCells z.cells (grownCap e.w m 0 E - m)) E)) := by
        cases ab with
        | none =>
          have := run_append_nil (P := G.P) e.w T ty E i z hu hi hz ad m c ns.toList hnl hnews (by omega) hmx hby2
          simpa using this
        | some b0 =>
          have := run_append_grow (P := G.P) e.w T ty E i z hu hi hz b0 0 0 [] (by simp) (by simp) ad m c ns.toList hnl hnews (by omega) (by simpa using hmx) (by rw [Nat.zero_add, nextslicecap_zero (by omega)]; exact hby2)
          simpa using this
      have hcapge := grownCap_ge e.w m 0 E
      have hsz : (#[] ++ ns ++ Builtin.zeroCells z.cells (grownCap e.w m 0 E - m)).size = grownCap e.w m 0 E * es := by
        simp only [Array.size_append, size_zeroCells, hzs, hns]
        rw [show (#[] : Array Value).size = 0 from rfl, Nat.zero_add, ← Nat.add_mul]; congr 1; omega
      refine fin _ _ (some e.w.heap.size) (grownCap e.w m 0 E) (by rw [ev1, ev2]; exact hrun) (frame_drew _) (fun b hb => .inr (by cases hb; simp)) (fun e' F I hw ht hk => ?_) (by rw [Nat.zero_add])
      refine Lies.held (b := e.w.heap.size) (T := (E, (0, 0))) (cells := #[] ++ ns ++ Builtin.zeroCells z.cells (grownCap e.w m 0 E - m)) ?_ ht (Row.of (by rw [hw, heap_alloc_at, if_pos (show e.w.heap.size = e.w.drew.heap.size from rfl)]))
      rw [hk]
      exact lies e' F I #[] _ _ (by simp) (fun c hc => by simp at hc) (one_zero _) (fun j hj => absurd hj (by omega)) hsz (by omega)
    | some b =>
      rw [hth] at hown
      have ev1 : a.eval (.tmp t) = .slice (some ⟨b, 0, none⟩) n (e.kap id) := hown
      obtain ⟨cs, T', l1, l2, l3, l4, l5⟩ := hheld.lies hth
      have hncs : n * es ≤ cs.size := by rw [l3]; exact Nat.mul_le_mul_right _ l4
      have hold : cs = cs.extract 0 (n * es) ++ cs.extract (n * es) cs.size := by
        rw [Array.extract_append_extract]; simp [Nat.max_eq_right hncs]
      have hold1 : ∀ j, j < n → (f j).size = es ∧ R e (f j) (piece (f j) (cs.extract 0 (n * es)) (j * es) es) := by
        intro j hj
        obtain ⟨r1, r2⟩ := l5 j hj
        refine ⟨r1, ?_⟩
        have : (j + 1) * es ≤ n * es := Nat.mul_le_mul_right _ hj
        rw [Nat.succ_mul] at this
        have e9 := piece_extract (f j) cs 0 (n * es) (j * es) es this (.inl hA.pos) (by omega)
        simp only [Nat.zero_add] at e9
        rw [e9]; exact r2
      have hosz : (cs.extract 0 (n * es)).size = n * es := by simp; omega
      by_cases hroom : n + m ≤ e.kap id
      · -- in place
        have hfit : n * es + ns.size ≤ cs.size := by
          rw [l3, hns, ← Nat.add_mul]; exact Nat.mul_le_mul_right _ hroom
        have hrun := run_append_room' (P := G.P) e.w T ty E _ i hu hi b n (e.kap id) cs l1 ad m c ns.toList hnl hnews h1n hroom (by rw [hes]; simpa using hfit)
        rw [hes] at hrun
        have e4 : (cs.toList.take (n * es) ++ ns.toList ++ cs.toList.drop (n * es + ns.toList.length)).toArray = cs.extract 0 (n * es) ++ ns ++ cs.extract (n * es + ns.size) cs.size := by
          apply Array.ext'
          simp [List.take_of_length_le]
        rw [e4] at hrun
        have hsz : (cs.extract 0 (n * es) ++ ns ++ cs.extract (n * es + ns.size) cs.size).size = e.kap id * es := by
          simp only [Array.size_append, hosz, Array.size_extract, Nat.min_self]; omega
        refine fin (.slice (some ⟨b, 0, none⟩) (n + m) (e.kap id)) (e.w.setRow b (cs.extract 0 (n * es) ++ ns ++ cs.extract (n * es + ns.size) cs.size)) (some b) (e.kap id) (by rw [ev1, ev2]; exact hrun) ⟨rfl, rfl, rfl, by rw [size_setRow]; exact Nat.le_refl _, Nat.le_refl _, fun k _ hk => heap_setRow_at _ _ _ _ (fun q => hk (by rw [q]; exact hth))⟩ (fun b' hb => .inl (hth.trans hb)) (fun e' F I hw ht hk => ?_) rfl
        refine Lies.held (b := b) (T := T') (cells := cs.extract 0 (n * es) ++ ns ++ cs.extract (n * es + ns.size) cs.size) ?_ ht (by rw [hw]; exact l1.set (by rw [hsz, l3]))
        rw [hk]
        exact lies e' F I _ _ _ hosz (allOne_extract l2 _ _) (allOne_extract l2 _ _) hold1 hsz hroom
      · have hgrow : e.kap id < n + m := by omega
        have hfitb : Builtin.nextslicecap (n + m) (e.kap id) * i.bytes ≤ 281474976710656 := growslice_fits hgrow (by rw [hby']; exact hby)
        have hrun := run_append_grow (P := G.P) e.w T ty E i z hu hi hz ⟨b, 0, none⟩ n (e.kap id) (cs.extract 0 (n * es)).toList (by rw [Array.length_toList, hosz, hes]) (by
          have := cellsAt_list (w := e.w) (ad := ⟨b, 0, none⟩) (cs := cs.extract 0 (n * es)) (by have := sub_cells (off := 0) (sz := n * es) l1.1; simpa using this)
          exact this) ad m c ns.toList hnl hnews hgrow (by simp only [maxLen] at h63; omega) hfitb
        have hcapge := grownCap_ge e.w (n + m) (e.kap id) E
        have e3 : ((cs.extract 0 (n * es)).toList.toArray ++ ns.toList.toArray ++ Builtin.zeroCells z.cells (grownCap e.w (n + m) (e.kap id) E - (n + m))) = cs.extract 0 (n * es) ++ ns ++ Builtin.zeroCells z.cells (grownCap e.w (n + m) (e.kap id) E - (n + m)) := by simp only [Array.toArray_toList]
        rw [e3] at hrun
        have hsz : (cs.extract 0 (n * es) ++ ns ++ Builtin.zeroCells z.cells (grownCap e.w (n + m) (e.kap id) E - (n + m))).size = grownCap e.w (n + m) (e.kap id) E * es := by
          simp only [Array.size_append, size_zeroCells, hzs, hns, hosz]
          rw [← Nat.add_mul, ← Nat.add_mul]; congr 1; omega
        refine fin _ _ (some e.w.heap.size) (grownCap e.w (n + m) (e.kap id) E) (by rw [ev1, ev2]; exact hrun) (frame_drew _) (fun b hb => .inr (by cases hb; simp)) (fun e' F I hw ht hk => ?_) rfl
        refine Lies.held (b := e.w.heap.size) (T := (E, (0, 0))) (cells := cs.extract 0 (n * es) ++ ns ++ Builtin.zeroCells z.cells (grownCap e.w (n + m) (e.kap id) E - (n + m))) ?_ ht (Row.of (by rw [hw, heap_alloc_at, if_pos (show e.w.heap.size = e.w.drew.heap.size from rfl)]))
        rw [hk]
        exact lies e' F I _ _ _ hosz (allOne_extract l2 _ _) (one_zero _) hold1 hsz hcapge
end
end Go.Eng
