/- The engine's laws on parts: reading and writing a part of a value that lies in cells. Conditions: none. -/
import Derived.Test.YtnfjibcfnchkkaaEngB
namespace Go.Eng

def part (v : V) (j : Nat) : V :=
  match v with
  | .agg _ f => f j
  | _ => .any
def lay (v : V) : Lay :=
  match v with
  | .agg L _ => L
  | _ => .st []
def getp (v : V) : List Nat → V
  | [] => v
  | j :: p => getp (part v j) p
def poff (o : Nat) (v : V) : List Nat → Nat
  | [] => o
  | j :: p => poff (o + (lay v).off j) (part v j) p
def okp (v : V) : List Nat → Prop
  | [] => True
  | j :: p => v.isAgg = true ∧ j < (lay v).cnt ∧ okp (part v j) p
def vupd (f : Nat → V) (j : Nat) (u : V) : Nat → V := fun k => if k = j then u else f k
def setp (v : V) (p : List Nat) (u : V) : V :=
  match p with
  | [] => u
  | j :: p => match v with
    | .agg L f => .agg L (vupd f j (setp (f j) p u))
    | v => v

theorem getD_extract (cs : Array Value) (o t a : Nat) (h : a < t) (hb : o + t ≤ cs.size) : (cs.extract o (o + t)).getD a undef = cs.getD (o + a) undef := by
  have h1 : a < (cs.extract o (o + t)).size := by simp; omega
  have h2 : o + a < cs.size := by omega
  simp [Array.getD, h2, show a < min (o + t) cs.size - o by omega]

theorem piece_extract (v : V) (cs : Array Value) (o t a s : Nat) (h : a + s ≤ t) (hs : 0 < s ∨ v.isAgg = true) (hb : o + t ≤ cs.size) : piece v (cs.extract o (o + t)) a s = piece v cs (o + a) s := by
  unfold piece
  split
  · congr 1
    rw [Array.extract_extract]
    congr 1 <;> omega
  · rename_i hv
    exact getD_extract cs o t a (by rcases hs with h1 | h1
                                    · omega
                                    · exact absurd h1 hv) hb

theorem size_pos {v : V} (h : v.isAgg = false) : v.size = 1 := by cases v <;> simp_all [V.isAgg, V.size]

theorem R.part {e : Env} {L : Lay} {f : Nat → V} {cs : Array Value} {o : Nat} (hb : o + L.tot ≤ cs.size) (h : R e (.agg L f) (piece (.agg L f) cs o L.tot)) {j : Nat} (hj : j < L.cnt) :
    (f j).size = L.sz j ∧ R e (f j) (piece (f j) cs (o + L.off j) (L.sz j)) := by
  obtain ⟨cs', hx, hs, h1, hr⟩ := h
  simp only [piece, V.isAgg, if_true, Value.agg.injEq] at hx
  subst hx
  obtain ⟨hz, hr⟩ := hr j hj
  refine ⟨hz, ?_⟩
  have hf := L.fits hj
  rw [piece_extract _ _ _ _ _ _ hf ?_ hb] at hr
  · exact hr
  · cases ha : (f j).isAgg with
    | true => exact .inr rfl
    | false => rw [← hz, size_pos ha]; exact .inl (by omega)

theorem poff_le : ∀ (p : List Nat) (o : Nat) (v : V) (cs : Array Value) (e : Env), okp v p → o + v.size ≤ cs.size → R e v (piece v cs o v.size) →
    o ≤ poff o v p ∧ poff o v p + (getp v p).size ≤ o + v.size ∧ R e (getp v p) (piece (getp v p) cs (poff o v p) (getp v p).size)
  | [], o, v, cs, e, _, _, hr => ⟨Nat.le_refl _, Nat.le_refl _, hr⟩
  | j :: p, o, v, cs, e, hp, hb, hr => by
    cases v with
    | agg L f =>
      obtain ⟨_, hj, hp⟩ := hp
      simp only [lay] at hj
      simp only [Go.Eng.part] at hp
      have hb' : o + L.tot ≤ cs.size := hb
      obtain ⟨hz, hr'⟩ := R.part hb' hr hj
      have hf := L.fits hj
      rw [← hz] at hr'
      obtain ⟨a1, a2, a3⟩ := poff_le p (o + L.off j) (f j) cs e hp (by rw [hz]; omega) hr'
      simp only [poff, getp, lay, Go.Eng.part]
      refine ⟨by omega, ?_, a3⟩
      show _ ≤ o + L.tot
      rw [hz] at a2; omega
    | _ => simp [okp, V.isAgg] at hp

theorem allOne_piece {v : V} {e : Env} {x : Value} (h : R e v x) (hv : v.isAgg = true) : AllOne x.cells := by
  cases v with
  | agg L f => obtain ⟨cs, hx, _, h1, _⟩ := h; subst hx; exact h1
  | _ => simp [V.isAgg] at hv

/-- A part that lies apart from the cells that are written. -/
theorem piece_other (v : V) (cs cs' : Array Value) (o s : Nat) (hs : cs'.size = cs.size) (hb : o + s ≤ cs.size) (hsv : v.isAgg = false → 0 < s)
    (h : ∀ k, o ≤ k → k < o + s → cs'[k]? = cs[k]?) : piece v cs' o s = piece v cs o s := by
  unfold piece
  split
  · congr 1
    apply Array.ext
    · simp [hs]
    · intro k h1 h2
      simp only [Array.size_extract] at h1 h2
      simp only [Array.getElem_extract]
      have := h (o + k) (by omega) (by omega)
      rw [Array.getElem?_eq_getElem (by omega), Array.getElem?_eq_getElem (by omega)] at this
      exact Option.some.inj this
  · rename_i hv
    have := h o (Nat.le_refl _) (by have := hsv (by simpa using hv); omega)
    simp only [Array.getD_eq_getD_getElem?]
    rw [this]

theorem R.setp {e : Env} {u : V} {cs cs' : Array Value} (hs : cs'.size = cs.size) (h1 : AllOne cs') : ∀ (p : List Nat) (o : Nat) (v : V), okp v p → o + v.size ≤ cs.size → u.size = (getp v p).size →
    R e v (piece v cs o v.size) → R e u (piece u cs' (poff o v p) u.size) → (∀ k, o ≤ k → k < o + v.size → k < poff o v p ∨ poff o v p + u.size ≤ k → cs'[k]? = cs[k]?) →
    (setp v p u).size = v.size ∧ R e (setp v p u) (piece (setp v p u) cs' o v.size)
  | [], o, v, _, hb, hz, _, hu, _ => by
    simp only [Go.Eng.setp]
    have : u.size = v.size := hz
    exact ⟨this, by rw [← this]; exact hu⟩
  | j :: p, o, v, hp, hb, hz, hr, hu, hk => by
    cases v with
    | agg L f =>
      obtain ⟨_, hj, hp⟩ := hp
      simp only [lay] at hj
      simp only [Go.Eng.part] at hp
      have hb' : o + L.tot ≤ cs.size := hb
      obtain ⟨hzj, hr'⟩ := R.part hb' hr hj
      have hf := L.fits hj
      rw [← hzj] at hr'
      have inner := poff_le p (o + L.off j) (f j) cs e hp (by rw [hzj]; omega) hr'
      simp only [getp, Go.Eng.part] at hz
      have ih := R.setp hs h1 p (o + L.off j) (f j) hp (by rw [hzj]; omega) hz hr' hu (fun k hk1 hk2 hk3 => hk k (by omega) (by rw [hzj] at hk2; show k < o + L.tot; omega) hk3)
      simp only [Go.Eng.setp]
      refine ⟨rfl, ?_⟩
      refine ⟨cs'.extract o (o + L.tot), by simp [piece, V.isAgg, V.size], by simp; omega, ?_, ?_⟩
      · intro c hc
        rw [Array.mem_extract_iff_getElem] at hc
        obtain ⟨k, hk', rfl⟩ := hc
        exact h1 _ (Array.getElem_mem _)
      · intro k hkc
        have hfk := L.fits hkc
        by_cases hkj : k = j
        · subst hkj
          have e1 : vupd f k (Go.Eng.setp (f k) p u) k = Go.Eng.setp (f k) p u := by simp [vupd]
          rw [e1]
          refine ⟨ih.1.trans hzj, ?_⟩
          have hsz : 0 < L.sz k ∨ (Go.Eng.setp (f k) p u).isAgg = true := by
            cases ha : (Go.Eng.setp (f k) p u).isAgg with
            | true => exact .inr rfl
            | false => rw [← hzj, ← ih.1, size_pos ha]; exact .inl (by omega)
          rw [piece_extract _ _ _ _ _ _ hfk hsz (by omega), ← hzj]
          exact ih.2
        · have e1 : vupd f j (Go.Eng.setp (f j) p u) k = f k := by simp [vupd, hkj]
          rw [e1]
          obtain ⟨hzk, hrk⟩ := R.part hb' hr hkc
          refine ⟨hzk, ?_⟩
          have hsz : 0 < L.sz k ∨ (f k).isAgg = true := by
            cases ha : (f k).isAgg with
            | true => exact .inr rfl
            | false => rw [← hzk, size_pos ha]; exact .inl (by omega)
          rw [piece_extract _ _ _ _ _ _ hfk hsz (by omega), piece_other (f k) cs cs' (o + L.off k) (L.sz k) hs (by omega) (fun ha => by rw [← hzk, size_pos ha]; omega) ?_]
          · exact hrk
          · intro i hi1 hi2
            refine hk i (by omega) (by show i < o + L.tot; omega) ?_
            have a1 := inner.1
            have a2 := inner.2.1
            rw [hzj, ← hz] at a2
            simp only [poff, lay, Go.Eng.part]
            rcases Nat.lt_or_gt_of_ne hkj with hlt | hgt
            · have := L.apart hlt hj; left; omega
            · have := L.apart hgt hkc; right; omega
    | _ => simp [okp, V.isAgg] at hp

/-- Values that lie in cells as they are. -/
def V.solid : V → Bool
  | .tup _ _ | .opt _ _ | .any | .own _ | .ptr _ _ _ | .view _ _ _ | .nilq _ | .nil | .cq _ _ => false
  | _ => true

theorem R.cells {e : Env} {v : V} {x : Value} (hv : v.solid = true) (h : R e v x) : x.cells.size = v.size ∧ AllOne x.cells ∧ piece v x.cells 0 v.size = x := by
  have one : ∀ y : Value, y.oneCell' = true → x = y → v.isAgg = false → v.size = 1 → x.cells.size = v.size ∧ AllOne x.cells ∧ piece v x.cells 0 v.size = x := by
    intro y hy hx ha hs
    subst hx
    have hc : x.cells = #[x] := by cases x <;> simp_all [Value.cells, Value.oneCell']
    refine ⟨by rw [hc, hs]; rfl, by rw [hc]; intro c hc'; simp at hc'; subst hc'; exact hy, ?_⟩
    simp [piece, ha, hc]
  cases v with
  | int k n => exact one _ rfl h rfl rfl
  | bool b => exact one _ rfl h rfl rfl
  | str s => exact one _ rfl h rfl rfl
  | agg L f =>
    obtain ⟨cs, hx, hs, h1, _⟩ := h
    subst hx
    refine ⟨hs, h1, ?_⟩
    simp only [piece, V.isAgg, if_true, V.size, Value.cells, Nat.zero_add]
    rw [← hs]; simp
  | sl es n f => obtain ⟨a, cap, hx, _⟩ := h; exact one _ rfl hx rfl rfl
  | cptr v => obtain ⟨ad, cs, hx, _⟩ := h; exact one _ rfl hx rfl rfl
  | fn k n f => obtain ⟨cs, hx, _⟩ := h; exact one _ rfl hx rfl rfl
  | own id => simp [V.solid] at hv
  | ptr id off p => simp [V.solid] at hv
  | tup n f => simp [V.solid] at hv
  | opt c v => simp [V.solid] at hv
  | any => simp [V.solid] at hv
  | view id lo n => simp [V.solid] at hv
  | nilq n => simp [V.solid] at hv
  | nil => simp [V.solid] at hv
  | cq id p => simp [V.solid] at hv

/-- A closed value, checked by running. -/
def chk : V → Value → Bool
  | .int k n, .int k' n' => decide (k = k') && decide (n = n')
  | .bool b, .bool b' => b == b'
  | .str s, .string s' => decide (s = s')
  | .agg L f, .agg cs => cs.size == L.tot && cs.all (·.oneCell') && (List.range L.cnt).all fun j => (f j).size == L.sz j && chk (f j) (piece (f j) cs (L.off j) (L.sz j))
  | .sl _ n _, .slice none m c => n == 0 && m == 0 && c == 0
  | _, _ => false

theorem chk_sound (e : Env) (v : V) : ∀ x, chk v x = true → R e v x := by
  induction v with
  | int k n => intro x h; cases x <;> simp_all [chk, R]
  | bool b => intro x h; cases x <;> simp_all [chk, R]
  | str s => intro x h; cases x <;> simp_all [chk, R]
  | agg L f ih =>
    intro x h
    cases x with
    | agg cs =>
      simp only [chk, Bool.and_eq_true, beq_iff_eq, List.all_eq_true, List.mem_range] at h
      obtain ⟨⟨h1, h2⟩, h3⟩ := h
      exact ⟨cs, rfl, h1, fun c hc => Array.all_eq_true'.1 h2 c hc, fun j hj => ⟨(h3 j hj).1, ih j _ (h3 j hj).2⟩⟩
    | _ => simp [chk] at h
  | sl es n f ih =>
    intro x h
    cases x with
    | slice a m c =>
      cases a with
      | none =>
        simp only [chk, Bool.and_eq_true, beq_iff_eq] at h
        obtain ⟨⟨h1, h2⟩, h3⟩ := h
        subst h1; subst h2; subst h3
        exact ⟨none, 0, rfl, Nat.le_refl _, .inl rfl⟩
      | some ad => simp [chk] at h
    | _ => simp [chk] at h
  | own id => intro x h; simp [chk] at h
  | ptr id off p => intro x h; simp [chk] at h
  | cptr v _ => intro x h; simp [chk] at h
  | fn k n f _ => intro x h; simp [chk] at h
  | tup n f _ => intro x h; simp [chk] at h
  | opt c v _ => intro x h; simp [chk] at h
  | any => intro x h; simp [chk] at h
  | view id lo n => intro x h; simp [chk] at h
  | nilq n => intro x h; simp [chk] at h
  | nil => intro x h; simp [chk] at h
  | cq id p => intro x h; simp [chk] at h

end Go.Eng
