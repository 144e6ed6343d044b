/- The engine's laws on slices of slices: nil asked for, parts named, parts cleared, parts put together in place. Conditions: none. -/
import Derived.Test.YteajgbkgijaebaaEngU
import Derived.Laws.Cover3
namespace Go.Eng

theorem grow_reob {G : Glob} {e : Env} (ok : Ok G e) {id : Nat} {o0 o : Box} (h0 : e.ob id = some o0) (hk : o0.like o) (hh : ∀ e' : Env, Follows e e' → IdKeeps e e' → e'.w = e.w → e'.th = e.th → e'.kap = e.kap → Held e' id o) : Grow G e { e with ob := fun k => if k = id then some o else e.ob k } := by
  generalize he' : ({ e with ob := fun k => if k = id then some o else e.ob k } : Env) = e'
  have get : ∀ k o', e'.ob k = some o' → ∃ o'', e.ob k = some o'' ∧ o''.like o' := by
    intro k o' h
    subst he'
    simp only at h
    by_cases hi : k = id
    · subst hi; rw [if_pos rfl] at h; cases h; exact ⟨o0, h0, hk⟩
    · rw [if_neg hi] at h; exact ⟨o', h, o'.like_refl⟩
  have hth : e'.th = e.th := by subst he'; rfl
  have hkp : e'.kap = e.kap := by subst he'; rfl
  have hw : e'.w = e.w := by subst he'; rfl
  have F : Follows e e' := by
    refine ⟨by rw [hw]; exact Nat.le_refl _, fun b _ _ => by rw [hw], ?_, fun _ _ h => by subst he'; exact h, fun _ _ h => by subst he'; exact h⟩
    rintro b _ ⟨k, o', h1, h2⟩
    obtain ⟨o'', h3, _⟩ := get k o' h1
    exact ⟨k, o'', h3, hth ▸ h2⟩
  have I : IdKeeps e e' := fun k hu => ⟨by subst he'; exact hu, fun o' ho' => ⟨by rw [hth], by rw [hkp], get k o' ho'⟩⟩
  refine ⟨⟨by rw [hw]; exact ok.fr, by subst he'; exact ok.S, by subst he'; exact ok.Sp, ?_, ?_, ?_, ?_, ok.low⟩, F, I⟩
  · intro k o' h
    by_cases hi : k = id
    · have : o' = o := by subst he'; simp [hi] at h; exact h.symm
      subst this; subst hi
      exact hh e' F I hw hth hkp
    · have : e.ob k = some o' := by subst he'; simpa [hi] using h
      exact (ok.held k o' this).keep F I (by rw [hth]) (by rw [hkp]) (fun b _ => by rw [hw])
  · intro i j oi oj b h1 h2 h3 h4
    obtain ⟨oi', g1, _⟩ := get i oi h1
    obtain ⟨oj', g2, _⟩ := get j oj h2
    exact ok.inj i j oi' oj' b g1 g2 (hth ▸ h3) (hth ▸ h4)
  · intro i o' b h1 h2
    obtain ⟨o'', g1, _⟩ := get i o' h1
    exact ok.fresh i o'' b g1 (hth ▸ h2)
  · intro i o' h1
    obtain ⟨o'', g1, _⟩ := get i o' h1
    have := ok.used i o'' g1
    subst he'; exact this

/-- A run of elements laid over an own array's. -/
theorem Lies.splice {e : Env} {es m kp lo n : Nat} {f gx h : Nat → V} {cells vs : Array Value} (hl : Lies e (.arr es m f) cells kp) (hes : 0 < es) (hv : R e (.agg (.ar n es) gx) (.agg vs)) (hb : lo + n ≤ m) (h1 : ∀ j, lo ≤ j → j < lo + n → h j = gx (j - lo)) (h2 : ∀ j, j < m → j < lo ∨ lo + n ≤ j → h j = f j) :
    vs.size = n * es ∧ lo * es + vs.size ≤ cells.size ∧ Lies e (.arr es m h) (cells.toList.take (lo * es) ++ vs.toList ++ cells.toList.drop (lo * es + vs.toList.length)).toArray kp := by
  obtain ⟨c1, c2, c3, c4⟩ := hl
  obtain ⟨v1, v2, v3⟩ := arr_lies hv
  have hle : lo * es + vs.size ≤ cells.size := by
    rw [v1, ← Nat.add_mul, c2]; exact Nat.mul_le_mul_right _ (by omega)
  obtain ⟨s1, s2, s3⟩ := splice_get cells vs (lo * es) hle
  have hone : AllOne (cells.toList.take (lo * es) ++ vs.toList ++ cells.toList.drop (lo * es + vs.toList.length)).toArray := by
    intro c hc
    simp only [List.mem_toArray, List.mem_append] at hc
    rcases hc with (q | q) | q
    · exact c1 c (by simpa using List.mem_of_mem_take q)
    · exact v2 c (by simpa using q)
    · exact c1 c (by simpa using List.mem_of_mem_drop q)
  generalize (cells.toList.take (lo * es) ++ vs.toList ++ cells.toList.drop (lo * es + vs.toList.length)).toArray = cells' at s1 s2 s3 hone
  refine ⟨v1, hle, hone, by rw [s1]; exact c2, c3, fun j hj => ?_⟩
  have hjm : j * es + es ≤ cells.size := by
    have : (j + 1) * es ≤ m * es := Nat.mul_le_mul_right _ hj
    have h9 : m * es ≤ kp * es := Nat.mul_le_mul_right _ c3
    rw [Nat.succ_mul] at this; omega
  by_cases hin : lo ≤ j ∧ j < lo + n
  · rw [h1 j hin.1 hin.2]
    obtain ⟨r1, r2⟩ := v3 (j - lo) (by omega)
    refine ⟨r1, ?_⟩
    have hje : j * es = lo * es + (j - lo) * es := by rw [← Nat.add_mul]; congr 1; omega
    have hjn : (j - lo) * es + es ≤ vs.size := by
      have : (j - lo + 1) * es ≤ n * es := Nat.mul_le_mul_right _ (by omega)
      rw [Nat.succ_mul] at this; omega
    have : piece (gx (j - lo)) cells' (j * es) es = piece (gx (j - lo)) vs ((j - lo) * es) es := by
      unfold piece
      split
      · congr 1
        apply Array.ext
        · simp; omega
        · intro k q1 q2
          simp only [Array.size_extract] at q1 q2
          simp only [Array.getElem_extract]
          have := s3 ((j - lo) * es + k) (by omega)
          rw [show lo * es + ((j - lo) * es + k) = j * es + k by omega] at this
          rw [Array.getElem?_eq_getElem (by omega), Array.getElem?_eq_getElem (by omega)] at this
          exact Option.some.inj this
      · simp only [Array.getD_eq_getD_getElem?]
        have := s3 ((j - lo) * es) (by omega)
        rw [show lo * es + (j - lo) * es = j * es by omega] at this
        rw [this]
    rw [this]; exact r2
  · rw [h2 j hj (by omega)]
    obtain ⟨r1, r2⟩ := c4 j hj
    refine ⟨r1, ?_⟩
    rw [piece_other (f j) cells cells' (j * es) es s1 hjm (fun _ => hes) ?_]
    · exact r2
    · intro k q1 q2
      refine s2 k ?_
      rw [v1, ← Nat.add_mul]
      rcases (show j < lo ∨ lo + n ≤ j by omega) with q | q
      · left
        have : (j + 1) * es ≤ lo * es := Nat.mul_le_mul_right _ q
        rw [Nat.succ_mul] at this; omega
      · right
        have : (lo + n) * es ≤ j * es := Nat.mul_le_mul_right _ q
        omega

/-- A bound of a slice expression: one that is there, or the one that is meant where there is none. -/
def ndo : Option (Operand × IntKind × Int) → List (Nat × V)
  | none => []
  | some (x, k, i) => nd x (.int k i)
def cOko : Option (Operand × IntKind × Int) → Prop
  | none => True
  | some (x, k, i) => cOk x (.int k i)
def valo (o : Option (Operand × IntKind × Int)) (d : Int) : Int :=
  match o with
  | none => d
  | some (_, _, i) => i

theorem run_bound {P : Program} {w : World} (k : IntKind) (i : Int) (y : Nat) (code : BoundsCode) (h0 : 0 ≤ i) (h1 : i ≤ y) : (Instr.sliceBound (.int k i) y code).run P w = .ok i.toNat w := by
  simp [Instr.sliceBound, asIntOf, h0, h1]

theorem run_bounds {P : Program} {e : Env} {a : Act} {need : List (Nat × V)} (hn : ∀ p ∈ need, R e p.2 (a.tmps.getD p.1 undef)) {lo hi : Option (Operand × IntKind × Int)} (c1 : cOko lo) (c2 : cOko hi) (s1 : ∀ p ∈ ndo lo, p ∈ need) (s2 : ∀ p ∈ ndo hi, p ∈ need) {len cap l h : Nat}
    (hl : valo lo 0 = l) (hh : valo hi len = h) (h1 : l ≤ h) (h2 : h ≤ cap) (w : World) : (Instr.sliceBounds true len cap ((lo.map (·.1)).map a.eval) ((hi.map (·.1)).map a.eval) none).run P w = .ok (l, h, cap) w := by
  have b1 : ∀ k i code, (i : Int) = l → (Instr.sliceBound (.int k i) h code).run P w = .ok l w := by
    intro k i code hi'; rw [run_bound k i h code (by omega) (by omega)]; congr 1; omega
  have b2 : ∀ k i code, (i : Int) = h → (Instr.sliceBound (.int k i) cap code).run P w = .ok h w := by
    intro k i code hi'; rw [run_bound k i cap code (by omega) (by omega)]; congr 1; omega
  cases lo with
  | none =>
    have hl0 : l = 0 := by simp only [valo] at hl; omega
    subst hl0
    cases hi with
    | none =>
      have hh0 : h = len := by simp only [valo] at hh; omega
      subst hh0
      simp [Instr.sliceBounds]
    | some q =>
      obtain ⟨x, kd, i⟩ := q
      simp only [valo] at hh
      have : a.eval x = .int kd i := R.operand hn c2 s2
      simp [Instr.sliceBounds, this, b2 kd i _ hh]
  | some q =>
    obtain ⟨x, kd, i⟩ := q
    simp only [valo] at hl
    have hx : a.eval x = .int kd i := R.operand hn c1 s1
    cases hi with
    | none =>
      have hh0 : h = len := by simp only [valo] at hh; omega
      subst hh0
      simp [Instr.sliceBounds, hx, b1 kd i _ hl]
    | some q' =>
      obtain ⟨x', kd', i'⟩ := q'
      simp only [valo] at hh
      have : a.eval x' = .int kd' i' := R.operand hn c2 s2
      simp [Instr.sliceBounds, this, hx, b2 kd' i' _ hh, b1 kd i _ hl]

section
variable {G : Glob} {dst : Option Tmp} {ty : TypeId} {pos : String} {af : Array Edge} {g : Option (Nat × Bool)}

theorem does_eqnil (T E yT t es n : Nat) (f : Nat → V) (hT : G.P.underlying T = some (.slice E)) :
    Does G ⟨dst, .binOp .eql T (.tmp t) (.const (.slice none 0 0)) yT, ty, pos, af, g⟩ { need := [(t, .sl es n f)], eff := { v := .nilq n } } :=
  does_value rfl rfl fun e a _ hn _ => by
    obtain ⟨ad, cap, hx, hc, hor⟩ := hn (t, .sl es n f) (by simp)
    have h1 : a.eval (.tmp t) = .slice ad n cap := hx
    refine ⟨.bool ad.isNone, ?_, ad.isNone, rfl, fun hb => ?_⟩
    · have h2 : a.eval (.const (.slice none 0 0)) = .slice none 0 0 := rfl
      have e1 : binOp .eql T (.slice ad n cap) (.slice none 0 0) = (do pure (.bool (← Op.equal T (.slice ad n cap) (.slice none 0 0)))) := rfl
      have e2 : ∀ x y : Operand, eqGuard .eql T x y (.slice ad n cap) (.slice none 0 0) = pure () := fun _ _ => rfl
      have e3 : (Op.equal T (.slice ad n cap) (.slice none 0 0)).run G.P e.w = .ok ad.isNone e.w := run_equalIn_slice_nil e.w 9999 T E ad n cap hT
      simp only [execOp, h1, h2, e1, e2, Sem.run_bind, Sem.run_pure, Result.andThen_ok, e3]
    · rcases hor with h | ⟨ad', _, rfl, _⟩
      · exact h
      · simp at hb

theorem run_sliceAt {P : Program} {e : Env} {a : Act} {T es : Nat} (hE : ElOk P T none es) {need : List (Nat × V)} (hn : ∀ p ∈ need, R e p.2 (a.tmps.getD p.1 undef)) {lo hi : Option (Operand × IntKind × Int)} (c1 : cOko lo) (c2 : cOko hi) (s1 : ∀ p ∈ ndo lo, p ∈ need) (s2 : ∀ p ∈ ndo hi, p ∈ need) {len cap l h : Nat}
    (hl : valo lo 0 = l) (hh : valo hi len = h) (h1 : l ≤ h) (h2 : h ≤ cap) (w : World) (ad : Option Addr) : (Instr.sliceAt T (.slice ad len cap) ((lo.map (·.1)).map a.eval) ((hi.map (·.1)).map a.eval) none).run P w = .ok (.slice (if cap = l then ad else ad.map (·.add (l * es))) (h - l) (cap - l)) w := by
  obtain ⟨E, i, hu, hi', hs⟩ := hE.has
  have hb := run_bounds (P := P) hn c1 c2 s1 s2 hl hh h1 h2 w
  simp only [Instr.sliceAt, Instr.slice, Sem.run_bind, run_underlying hu, Result.andThen_ok, hb, sizeOf, typeInfo, run_program, hi', Sem.run_pure, hs]

/-- A part of an own array that lies from its head on: a view. -/
theorem sliceView {e : Env} {id es m l h k : Nat} {f : Nat → V} (ok : Ok G e) (hob : e.ob id = some (.arr es m f)) (hu : e.us id) (hm : h ≤ m) (hlh : l ≤ h) {x y : Value}
    (hx : match e.th id with | none => k = 0 ∧ ∃ a, x = .slice a 0 0 | some b => x = .slice (some ⟨b, 0, none⟩) k (e.kap id))
    (hy : ∀ ad cap, x = .slice ad k cap → h ≤ cap → y = .slice (if cap = l then ad else ad.map (·.add (l * es))) (h - l) (cap - l)) : R e (.view id l (h - l)) y := by
  refine ⟨hu, fun es' m' f' ho => ?_⟩
  rw [hob] at ho; cases ho
  have hh := ok.held id _ hob
  simp only [Held] at hh
  cases ht : e.th id with
  | none =>
    rw [ht] at hx hh
    obtain ⟨rfl, a, rfl⟩ := hx
    simp only at hh
    have hy' := hy a 0 rfl (by omega)
    have : l = 0 := by omega
    subst this
    have : h = 0 := by omega
    subst this
    subst hy'
    exact ⟨fun _ => ⟨rfl, a, by simp⟩, a, 0, by simp, by simp, .inl rfl⟩
  | some b =>
    rw [ht] at hx hh
    simp only at hx
    obtain ⟨cs, T, q1, q2, q3, q4, q5⟩ := hh
    have hy' := hy _ _ hx (by omega)
    subst hy'
    refine ⟨fun h0 => ?_, _, _, rfl, by omega, ?_⟩
    · subst h0
      by_cases hk : e.kap id = 0
      · simp [hk]
      · simp [hk, Addr.add_lit]
    · by_cases hz : h - l = 0
      · exact .inl hz
      · refine .inr ⟨b, rfl, ?_⟩
        rw [if_neg (by omega)]
        simp [Addr.add_lit]

theorem does_sliceo (T es m t id l h : Nat) (f : Nat → V) (lo hi : Option (Operand × IntKind × Int)) (low high : Option Operand) (hE : ElOk G.P T none es) (e1 : low = lo.map (·.1)) (e2 : high = hi.map (·.1)) (c1 : cOko lo) (c2 : cOko hi) (hl : valo lo 0 = l) (hh : valo hi m = h) (h1 : l ≤ h) (h2 : h ≤ m) :
    Does G ⟨dst, .slice T (.tmp t) low high none, ty, pos, af, g⟩ { need := (t, .own id) :: (ndo lo ++ ndo hi), nob := [(id, .arr es m f)], eff := { v := .view id l (h - l) } } :=
  does_value rfl rfl fun e a ok hn ho => by
    subst e1; subst e2
    obtain ⟨hu, hx⟩ := hn (t, .own id) (by simp)
    have hob := ho (id, .arr es m f) (by simp)
    have hx := hx es m f hob
    have hcap : ∃ ad cap, a.eval (.tmp t) = .slice ad m cap ∧ h ≤ cap := by
      have hh' := ok.held id _ hob
      simp only [Held] at hh'
      cases ht : e.th id with
      | none =>
        rw [ht] at hx hh'
        obtain ⟨h0, ad, hx⟩ := hx
        exact ⟨ad, 0, by rw [h0]; exact hx, by omega⟩
      | some b =>
        rw [ht] at hx hh'
        obtain ⟨cs, T', q1, q2, q3, q4, q5⟩ := hh'
        exact ⟨_, _, hx, by omega⟩
    obtain ⟨ad, cap, hev, hc⟩ := hcap
    have hr := run_sliceAt (P := G.P) (a := a) hE (need := (t, .own id) :: (ndo lo ++ ndo hi)) hn c1 c2 (fun p hp => by simp [hp]) (fun p hp => by simp [hp]) (len := m) (cap := cap) hl hh h1 hc e.w ad
    refine ⟨.slice (if cap = l then ad else ad.map (·.add (l * es))) (h - l) (cap - l), by simp only [execOp, hev, Option.map_none, Sem.run_bind, hr, Result.andThen_ok, Sem.run_pure], ?_⟩
    refine sliceView (k := m) (x := a.eval (.tmp t)) ok hob hu h2 h1 hx (fun ad' cap' hq _ => ?_)
    rw [hev] at hq; cases hq; rfl

theorem does_slicev (T es m t id k l h : Nat) (f : Nat → V) (lo hi : Option (Operand × IntKind × Int)) (low high : Option Operand) (hE : ElOk G.P T none es) (e1 : low = lo.map (·.1)) (e2 : high = hi.map (·.1)) (c1 : cOko lo) (c2 : cOko hi) (hl : valo lo 0 = l) (hh : valo hi k = h) (h1 : l ≤ h) (h2 : h ≤ m) :
    Does G ⟨dst, .slice T (.tmp t) low high none, ty, pos, af, g⟩ { need := (t, .view id 0 k) :: (ndo lo ++ ndo hi), nob := [(id, .arr es m f)], eff := { v := .view id l (h - l) } } :=
  does_value rfl rfl fun e a ok hn ho => by
    subst e1; subst e2
    obtain ⟨hu, hx⟩ := hn (t, .view id 0 k) (by simp)
    have hob := ho (id, .arr es m f) (by simp)
    have hx := (hx es m f hob).1 rfl
    have hcap : ∃ ad cap, a.eval (.tmp t) = .slice ad k cap ∧ h ≤ cap := by
      have hh' := ok.held id _ hob
      simp only [Held] at hh'
      cases ht : e.th id with
      | none =>
        rw [ht] at hx hh'
        obtain ⟨h0, ad, hx⟩ := hx
        exact ⟨ad, 0, by rw [h0]; exact hx, by omega⟩
      | some b =>
        rw [ht] at hx hh'
        obtain ⟨cs, T', q1, q2, q3, q4, q5⟩ := hh'
        exact ⟨_, _, hx, by omega⟩
    obtain ⟨ad, cap, hev, hc⟩ := hcap
    have hr := run_sliceAt (P := G.P) (a := a) hE (need := (t, .view id 0 k) :: (ndo lo ++ ndo hi)) hn c1 c2 (fun p hp => by simp [hp]) (fun p hp => by simp [hp]) (len := k) (cap := cap) hl hh h1 hc e.w ad
    refine ⟨.slice (if cap = l then ad else ad.map (·.add (l * es))) (h - l) (cap - l), by simp only [execOp, hev, Option.map_none, Sem.run_bind, hr, Result.andThen_ok, Sem.run_pure], ?_⟩
    refine sliceView (k := k) (x := a.eval (.tmp t)) ok hob hu h2 h1 hx (fun ad' cap' hq _ => ?_)
    rw [hev] at hq; cases hq; rfl

/-- A part of a slice that stays. -/
theorem does_slices (T es n t l h : Nat) (f : Nat → V) (lo hi : Option (Operand × IntKind × Int)) (low high : Option Operand) (hE : ElOk G.P T none es) (hes : 0 < es) (e1 : low = lo.map (·.1)) (e2 : high = hi.map (·.1)) (c1 : cOko lo) (c2 : cOko hi) (hl : valo lo 0 = l) (hh : valo hi n = h) (h1 : l ≤ h) (h2 : h ≤ n) :
    Does G ⟨dst, .slice T (.tmp t) low high none, ty, pos, af, g⟩ { need := (t, .sl es n f) :: (ndo lo ++ ndo hi), eff := { v := .sl es (h - l) (fun j => f (l + j)) } } :=
  does_value rfl rfl fun e a ok hn ho => by
    subst e1; subst e2
    obtain ⟨ad, cap, hx, hc, hor⟩ := hn (t, .sl es n f) (by simp)
    have hev : a.eval (.tmp t) = .slice ad n cap := hx
    have hr := run_sliceAt (P := G.P) (a := a) hE (need := (t, .sl es n f) :: (ndo lo ++ ndo hi)) hn c1 c2 (fun p hp => by simp [hp]) (fun p hp => by simp [hp]) (len := n) (cap := cap) hl hh h1 (by omega) e.w ad
    refine ⟨.slice (if cap = l then ad else ad.map (·.add (l * es))) (h - l) (cap - l), by simp only [execOp, hev, Option.map_none, Sem.run_bind, hr, Result.andThen_ok, Sem.run_pure], ?_⟩
    refine ⟨_, _, rfl, by omega, ?_⟩
    by_cases hz : h - l = 0
    · exact .inl hz
    right
    rcases hor with h0 | ⟨ad', cs, rfl, hS, hP, hO, hs, hcell, ha1, hr'⟩
    · omega
    obtain ⟨b, o, sp⟩ := ad'
    obtain rfl : sp = none := hcell.1
    have hle : (h - l) * es + l * es ≤ cs.size := by
      rw [hs, ← Nat.add_mul]; exact Nat.mul_le_mul_right _ (by omega)
    refine ⟨⟨b, o + l * es, none⟩, cs.extract (l * es) (l * es + (h - l) * es), ?_, hS, hP, hO, by simp; omega, ⟨rfl, hcell.2.1, fun i hi' => ?_⟩, allOne_extract ha1 _ _, fun j hj => ?_⟩
    · rw [if_neg (by omega)]; simp [Addr.add_lit]
    · simp only [Array.size_extract] at hi'
      have hc2 := hcell.2.2 (l * es + i) (by omega)
      simp only at hc2 ⊢
      rw [Nat.add_assoc, hc2, Array.getElem?_extract]
      simp only [show i < min (l * es + (h - l) * es) cs.size - l * es by omega, if_true]
    · obtain ⟨hzj, hrj⟩ := hr' (l + j) (by omega)
      refine ⟨hzj, ?_⟩
      have hjj : (j + 1) * es ≤ (h - l) * es := Nat.mul_le_mul_right _ hj
      rw [Nat.succ_mul] at hjj
      rw [piece_extract (f (l + j)) cs (l * es) ((h - l) * es) (j * es) es hjj (.inl hes) (by omega), ← Nat.add_mul]
      exact hrj

/-- clear of a part of an own array. -/
theorem does_clear (T es m t id lo n : Nat) (z0 : V) (f h : Nat → V) (hB : SlOk G.P T es z0) (hb : lo + n ≤ m) (h1 : ∀ j, lo ≤ j → j < lo + n → h j = z0) (h2 : ∀ j, j < m → j < lo ∨ lo + n ≤ j → h j = f j) :
    Does G ⟨dst, .call { callee := .builtin .clear, args := #[.tmp t], argTypes := #[T] }, ty, pos, af, g⟩ { need := [(t, .view id lo n)], nob := [(id, .arr es m f)], eff := { v := .any, upd := [(id, some (.arr es m h))] } } := by
  intro e a ok hnd K Q hK
  obtain ⟨hu, hx⟩ := hnd.1 (t, .view id lo n) (by simp)
  have hob := hnd.2.1 (id, .arr es m f) (by simp)
  obtain ⟨_, ad, c, hx, hnc, hor⟩ := hx es m f hob
  have hev : a.eval (.tmp t) = .slice ad n c := hx
  obtain ⟨E, i, z, hu', hi, hes, hz, hck, hzs⟩ := hB.has
  have hheld := ok.held id _ hob
  unfold Oper.wp
  by_cases hn0 : n = 0
  · subst hn0
    have hrun : (execOp a.eval ⟨dst, .call { callee := .builtin .clear, args := #[.tmp t], argTypes := #[T] }, ty, pos, af, g⟩).run G.P e.w = .ok (.value (.tuple #[])) e.w := by
      cases ad <;> simp [execOp, resolve, invoke, builtin, hev, Builtin.clear_, run_underlying hu']
    rw [hrun]
    refine hK _ { e with ob := fun k => if k = id then some (.arr es m h) else e.ob k } (grow_reob ok hob (o := .arr es m h) ⟨rfl, rfl⟩ ?_) (by rw [appOb_one]) (by simp) trivial
    intro e' F I hw ht hk
    have := hheld.keep F I (by rw [ht]) (by rw [hk]) (fun b _ => by rw [hw])
    simp only [Held] at this ⊢
    split
    · rename_i q; rw [q] at this; exact this
    · rename_i b q
      rw [q] at this
      obtain ⟨cs, T', q1, q2, q3, q4, q5⟩ := this
      exact ⟨cs, T', q1, q2, q3, q4, fun j hj => by rw [h2 j hj (by omega)]; exact q5 j hj⟩
  · rcases hor with q | ⟨b, hth, rfl⟩
    · exact absurd q hn0
    obtain ⟨cells, T', l1, l2⟩ := hheld.lies hth
    have hzr := zeros_R (e := e) hck hB.solid hB.size n hB.pos
    have hsp := Lies.splice (h := h) l2 hB.pos hzr hb (fun j q1 q2 => h1 j q1 q2) h2
    obtain ⟨s1, s2, s3⟩ := hsp
    have hzc : Builtin.zeroCells z.cells n = (Array.range (n * es)).map fun k => z.cells[k % z.cells.size]! := by
      simp only [Builtin.zeroCells, hzs]
    have hone : ∀ v ∈ ((Array.range (n * es)).map fun k => z.cells[k % z.cells.size]!).toList, v.oneCell' = true := by
      obtain ⟨_, hq, _, hq1, _⟩ := hzr
      cases hq
      exact fun v hv => hq1 v (by simpa using hv)
    have hst := run_storeCells_at (P := G.P) b (lo * es) T' _ 0 cells e.w l1 (by simpa using s2) hone
    have hrun : (execOp a.eval ⟨dst, .call { callee := .builtin .clear, args := #[.tmp t], argTypes := #[T] }, ty, pos, af, g⟩).run G.P e.w = .ok (.value (.tuple #[])) (e.w.setRow b (cells.toList.take (lo * es) ++ ((Array.range (n * es)).map fun k => z.cells[k % z.cells.size]!).toList ++ cells.toList.drop (lo * es + ((Array.range (n * es)).map fun k => z.cells[k % z.cells.size]!).toList.length)).toArray) := by
      have hn1 : ∃ n', n = n' + 1 := ⟨n - 1, by omega⟩
      obtain ⟨n', hn'⟩ := hn1
      have hm : (#[Operand.tmp t] : Array Operand).map a.eval = #[a.eval (.tmp t)] := by simp
      have hzv : ∀ w, (zeroValue E).run G.P w = .ok z w := by intro w; simp [zeroValue, typeInfo, hi, hz]
      simp only [Nat.add_zero] at hst
      simp only [execOp, resolve, Sem.run_bind, Sem.run_pure, Result.andThen_ok, invoke, builtin, hm, hev]
      have g0 : (#[T] : Array TypeId)[0]? = some T := rfl
      have g1 : (#[Value.slice (some ⟨b, lo * es, none⟩) n c] : Array Value)[0]? = some (Value.slice (some ⟨b, lo * es, none⟩) n c) := rfl
      unfold Builtin.clear_
      rw [g0, g1]
      subst hn'
      simp only [Sem.run_bind, run_underlying hu', Result.andThen_ok, hzv, hzc, hst, Sem.run_pure]
    rw [hrun]
    exact hK _ (e.write id b (.arr es m h) _) (grow_write ok hob hth l1 ⟨rfl, rfl⟩ s3) (by rw [appOb_one]; rfl) (by intro k; simp [Env.write]) trivial

/-- append of a later part of an own array to its head: in place. -/
theorem does_appendV (T es by_ m t u id i j k : Nat) (f h : Nat → V) (hA : ApOk G.P T es by_) (hij : i ≤ j) (hb : j + k ≤ m) (h1 : ∀ x, i ≤ x → x < i + k → h x = f (j + (x - i))) (h2 : ∀ x, x < m → x < i ∨ i + k ≤ x → h x = f x) :
    Does G ⟨dst, .call { callee := .builtin .append, args := #[.tmp t, .tmp u], argTypes := #[T, T] }, ty, pos, af, g⟩ { need := [(t, .view id 0 i), (u, .view id j k)], nob := [(id, .arr es m f)], eff := { v := .view id 0 (i + k), upd := [(id, some (.arr es m h))] } } := by
  intro e a ok hnd K Q hK
  obtain ⟨hu, hx⟩ := hnd.1 (t, .view id 0 i) (by simp)
  have hob := hnd.2.1 (id, .arr es m f) (by simp)
  have hx := (hx es m f hob).1 rfl
  obtain ⟨_, hy⟩ := hnd.1 (u, .view id j k) (by simp)
  obtain ⟨_, ad, c, hy, hkc, hor⟩ := hy es m f hob
  have ev2 : a.eval (.tmp u) = .slice ad k c := hy
  have hheld := ok.held id _ hob
  have hm2 : (#[Operand.tmp t, Operand.tmp u] : Array Operand).map a.eval = #[a.eval (.tmp t), a.eval (.tmp u)] := by simp
  have hex : ∀ v' w', (Builtin.append_ #[T, T] ty #[a.eval (.tmp t), a.eval (.tmp u)]).run G.P e.w = .ok v' w' → (execOp a.eval ⟨dst, .call { callee := .builtin .append, args := #[.tmp t, .tmp u], argTypes := #[T, T] }, ty, pos, af, g⟩).run G.P e.w = .ok (.value v') w' := by
    intro v' w' hrun
    simp only [execOp, resolve, Sem.run_bind, Sem.run_pure, Result.andThen_ok, invoke, builtin, hm2, hrun]
  unfold Oper.wp
  by_cases hk0 : k = 0
  · subst hk0
    have hrun : ∃ v', (Builtin.append_ #[T, T] ty #[a.eval (.tmp t), a.eval (.tmp u)]).run G.P e.w = .ok v' e.w ∧ v' = a.eval (.tmp t) := by
      cases hth : e.th id with
      | none =>
        rw [hth] at hx
        obtain ⟨h0, ab, hx⟩ := hx
        have ev1 : a.eval (.tmp t) = .slice ab 0 0 := hx
        exact ⟨_, by rw [ev1, ev2]; exact run_append_zero hA ab ad 0 0 c (Nat.le_refl _), ev1.symm⟩
      | some b =>
        rw [hth] at hx
        have ev1 : a.eval (.tmp t) = .slice (some ⟨b, 0, none⟩) i (e.kap id) := hx
        obtain ⟨cs, T', l1, l2, l3, l4, l5⟩ := hheld.lies hth
        exact ⟨_, by rw [ev1, ev2]; exact run_append_zero hA _ ad i (e.kap id) c (by omega), ev1.symm⟩
    obtain ⟨v', hrun, hv'⟩ := hrun
    rw [hex _ _ hrun, hv']
    refine hK _ { e with ob := fun k => if k = id then some (.arr es m h) else e.ob k } (grow_reob ok hob (o := .arr es m h) ⟨rfl, rfl⟩ ?_) (by rw [appOb_one]) (by simp) ?_
    · intro e' F I hw ht hk
      have := hheld.keep F I (by rw [ht]) (by rw [hk]) (fun b _ => by rw [hw])
      simp only [Held] at this ⊢
      split
      · rename_i q; rw [q] at this; exact this
      · rename_i b q
        rw [q] at this
        obtain ⟨cs, T', q1, q2, q3, q4, q5⟩ := this
        exact ⟨cs, T', q1, q2, q3, q4, fun j hj => by rw [h2 j hj (by omega)]; exact q5 j hj⟩
    · refine ⟨hu, fun es' m' f' ho => ?_⟩
      simp only [if_true, Option.some.injEq, Box.arr.injEq] at ho
      obtain ⟨rfl, rfl, rfl⟩ := ho
      refine ⟨fun _ => hx, ?_⟩
      cases hth : e.th id with
      | none =>
        rw [hth] at hx
        obtain ⟨h0, ab, hx⟩ := hx
        exact ⟨ab, 0, by rw [h0]; exact hx, by omega, .inl (by omega)⟩
      | some b =>
        rw [hth] at hx
        obtain ⟨cs, T', l1, l2, l3, l4, l5⟩ := hheld.lies hth
        exact ⟨_, _, hx, by omega, .inr ⟨b, rfl, by simp⟩⟩
  · rcases hor with q | ⟨b, hth, rfl⟩
    · exact absurd q hk0
    rw [hth] at hx
    have ev1 : a.eval (.tmp t) = .slice (some ⟨b, 0, none⟩) i (e.kap id) := hx
    obtain ⟨cells, T', l1, l2⟩ := hheld.lies hth
    obtain ⟨c1, c2, c3, c4⟩ := l2
    obtain ⟨E, inf, z, hu', hi, hes, hz, hzs, hz1, hby⟩ := hA.has
    have hsz : (j + k) * es ≤ cells.size := by rw [c2]; exact Nat.mul_le_mul_right _ (by omega)
    rw [Nat.add_mul] at hsz
    have hvs : R e (.agg (.ar k es) (fun x => f (j + x))) (.agg (cells.extract (j * es) (j * es + k * es))) := by
      refine ⟨_, rfl, by simp [Lay.tot]; omega, allOne_extract c1 _ _, fun x hxk => ?_⟩
      simp only [Lay.cnt] at hxk
      obtain ⟨r1, r2⟩ := c4 (j + x) (by omega)
      refine ⟨r1, ?_⟩
      simp only [Lay.off, Lay.sz]
      have hjj : (x + 1) * es ≤ k * es := Nat.mul_le_mul_right _ hxk
      rw [Nat.succ_mul] at hjj
      rw [piece_extract (f (j + x)) cells (j * es) (k * es) (x * es) es hjj (.inl hA.pos) (by omega), ← Nat.add_mul]
      exact r2
    obtain ⟨s1, s2, s3⟩ := Lies.splice (lo := i) (h := h) ⟨c1, c2, c3, c4⟩ hA.pos hvs (by omega) (fun x q1 q2 => by rw [h1 x q1 q2]) h2
    have hsub := cellsAt_list (sub_cells (off := j * es) (sz := k * es) l1)
    have hlen : (cells.extract (j * es) (j * es + k * es)).toList.length = k * inf.size := by rw [Array.length_toList, s1, hes]
    have hrun := run_append_room' (P := G.P) (ty := ty) e.w T E T' inf hu' hi b i (e.kap id) cells l1 ⟨b, j * es, none⟩ k c (cells.extract (j * es) (j * es + k * es)).toList hlen hsub (fun v hv => allOne_extract c1 (j * es) (j * es + k * es) v (Array.mem_toList_iff.1 hv)) (by omega) (by rw [hes, Array.length_toList]; exact s2)
    rw [hes] at hrun
    rw [hex _ _ (by rw [ev1, ev2]; exact hrun)]
    refine hK _ (e.write id b (.arr es m h) _) (grow_write ok hob hth l1 ⟨rfl, rfl⟩ s3) (by rw [appOb_one]; rfl) (by intro k; simp [Env.write]) ?_
    refine ⟨hu, fun es' m' f' ho => ?_⟩
    simp only [Env.write, if_true, Option.some.injEq, Box.arr.injEq] at ho
    obtain ⟨rfl, rfl, rfl⟩ := ho
    have hth' : (e.write id b (.arr es m h) (cells.toList.take (i * es) ++ (cells.extract (j * es) (j * es + k * es)).toList ++ cells.toList.drop (i * es + (cells.extract (j * es) (j * es + k * es)).toList.length)).toArray).th id = some b := hth
    rw [hth']
    exact ⟨fun _ => rfl, _, _, rfl, by show i + k ≤ e.kap id; omega, .inr ⟨b, rfl, by simp⟩⟩
end

/-- A number that is not above another one. -/
def inb (a b : Nat) : Option Unit := if a ≤ b then some () else none
theorem inb_of {a b : Nat} {β : Type} {f : Unit → Option β} {r : β} (h : (inb a b).bind f = some r) : a ≤ b ∧ f () = some r := by
  unfold inb at h
  split at h
  · rename_i hh; exact ⟨hh, h⟩
  · cases h
theorem inb_t {a b : Nat} (h : a ≤ b) : inb a b = some () := by simp [inb, h]
/-- Bounds of a slice expression. -/
def sb (l h : Int) (n : Nat) : Option Unit := if 0 ≤ l ∧ l ≤ h ∧ h ≤ n then some () else none
theorem sb_of {l h : Int} {n : Nat} {β : Type} {f : Unit → Option β} {r : β} (H : (sb l h n).bind f = some r) : (0 ≤ l ∧ l ≤ h ∧ h ≤ n) ∧ f () = some r := by
  unfold sb at H
  split at H
  · rename_i hh; exact ⟨hh, H⟩
  · cases H
theorem sb_t {l h : Int} {n : Nat} (h1 : 0 ≤ l ∧ l ≤ h ∧ h ≤ n) : sb l h n = some () := by simp only [sb, if_pos h1]

theorem getD_take {α : Type} (l : List α) (d : α) {n j : Nat} (h : j < n) : (l.take n).getD j d = l.getD j d := by
  simp [List.getD_eq_getElem?_getD, h]
theorem len_take {α : Type} {l : List α} {n : Nat} (h : n ≤ l.length) : (l.take n).length = n := by simp; omega
/-- A list with a run of its elements cleared. -/
def clr {α : Type} (l : List α) (d : α) (lo n : Nat) : List α := (List.range l.length).map fun j => if lo ≤ j ∧ j < lo + n then d else l.getD j d
theorem clr_len {α : Type} (l : List α) (d : α) (lo n : Nat) : (clr l d lo n).length = l.length := by simp [clr]
theorem clr_get {α : Type} (l : List α) (d d' : α) (lo n : Nat) {j : Nat} (h : j < l.length) : (clr l d lo n).getD j d' = if lo ≤ j ∧ j < lo + n then d else l.getD j d := by
  simp [clr, List.getD_eq_getElem?_getD, h]
/-- A list whose elements from j on, k of them, are laid down at i. -/
def shf {α : Type} (l : List α) (d : α) (i j k : Nat) : List α := (List.range l.length).map fun x => if i ≤ x ∧ x < i + k then l.getD (j + (x - i)) d else l.getD x d
theorem shf_len {α : Type} (l : List α) (d : α) (i j k : Nat) : (shf l d i j k).length = l.length := by simp [shf]
theorem shf_get {α : Type} (l : List α) (d : α) (i j k : Nat) {x : Nat} (h : x < l.length) : (shf l d i j k).getD x d = if i ≤ x ∧ x < i + k then l.getD (j + (x - i)) d else l.getD x d := by
  simp [shf, List.getD_eq_getElem?_getD, h]

section
variable {G : Glob} {dst : Option Tmp} {ty : TypeId} {pos : String} {af : Array Edge} {g : Option (Nat × Bool)}
/-- clear, on lists. -/
theorem does_clearL {α : Type} (e : α → V) (d : α) (l : List α) (T es t id lo n : Nat) (hB : SlOk G.P T es (e d)) (hb : lo + n ≤ l.length) :
    Does G ⟨dst, .call { callee := .builtin .clear, args := #[.tmp t], argTypes := #[T] }, ty, pos, af, g⟩ { need := [(t, .view id lo n)], nob := [(id, .arr es l.length fun j => e (l.getD j d))], eff := { v := .any, upd := [(id, some (.arr es (clr l d lo n).length fun j => e ((clr l d lo n).getD j d)))] } } := by
  rw [clr_len]
  refine does_clear T es l.length t id lo n (e d) _ _ hB hb (fun j h1 h2 => ?_) (fun j h1 h2 => ?_)
  · show e _ = e _
    rw [clr_get l d d lo n (by omega), if_pos ⟨h1, h2⟩]
  · show e _ = e _
    rw [clr_get l d d lo n h1, if_neg (by omega)]
/-- append of a later part of an own array to its head, on lists. -/
theorem does_appendVL {α : Type} (e : α → V) (d : α) (l : List α) (T es by_ t u id i j k : Nat) (hA : ApOk G.P T es by_) (hij : i ≤ j) (hb : j + k ≤ l.length) :
    Does G ⟨dst, .call { callee := .builtin .append, args := #[.tmp t, .tmp u], argTypes := #[T, T] }, ty, pos, af, g⟩ { need := [(t, .view id 0 i), (u, .view id j k)], nob := [(id, .arr es l.length fun j => e (l.getD j d))], eff := { v := .view id 0 (i + k), upd := [(id, some (.arr es (shf l d i j k).length fun x => e ((shf l d i j k).getD x d)))] } } := by
  rw [shf_len]
  refine does_appendV T es by_ l.length t u id i j k _ _ hA hij hb (fun x h1 h2 => ?_) (fun x h1 h2 => ?_)
  · show e _ = e _
    rw [shf_get l d i j k (by omega), if_pos ⟨h1, h2⟩]
  · show e _ = e _
    rw [shf_get l d i j k h1, if_neg (by omega)]
/-- A part of a slice that stays, on lists. -/
theorem does_slicesL {α : Type} (e : α → V) (d : α) (x : List α) (T es t l h : Nat) (lo hi : Option (Operand × IntKind × Int)) (low high : Option Operand) (hE : ElOk G.P T none es) (hes : 0 < es) (e1 : low = lo.map (·.1)) (e2 : high = hi.map (·.1)) (c1 : cOko lo) (c2 : cOko hi) (hl : valo lo 0 = l) (hh : valo hi x.length = h) (h1 : l ≤ h) (h2 : h ≤ x.length) :
    Does G ⟨dst, .slice T (.tmp t) low high none, ty, pos, af, g⟩ { need := (t, .sl es x.length fun j => e (x.getD j d)) :: (ndo lo ++ ndo hi), eff := { v := .sl es ((x.take h).drop l).length (fun j => e (((x.take h).drop l).getD j d)) } } := by
  have q := does_slices (G := G) (dst := dst) (ty := ty) (pos := pos) (af := af) (g := g) T es x.length t l h (fun j => e (x.getD j d)) lo hi low high hE hes e1 e2 c1 c2 hl hh h1 h2
  have hlen : ((x.take h).drop l).length = h - l := by simp; omega
  rw [hlen]
  intro ee a ok hn K Q hK
  refine q ee a ok hn K Q ?_
  intro y e' g1 g2 g3 g4
  refine hK y e' g1 g2 g3 ?_
  obtain ⟨ad, cap, q1, q2, q3⟩ := g4
  refine ⟨ad, cap, q1, q2, q3.imp_right ?_⟩
  rintro ⟨ad', cs, r1, r2, r3, r4, r5, r6, r7, r8⟩
  refine ⟨ad', cs, r1, r2, r3, r4, r5, r6, r7, fun j hj => ?_⟩
  have : ((x.take h).drop l).getD j d = x.getD (l + j) d := by
    simp [List.getD_eq_getElem?_getD, List.getElem?_drop, List.getElem?_take, show l + j < h by omega]
  have r9 := r8 j hj
  simp only [← this] at r9
  exact r9
end

section
variable {G : Glob} {dst : Option Tmp} {ty : TypeId} {pos : String} {af : Array Edge} {g : Option (Nat × Bool)}
theorem does_lenv (T es m t id k : Nat) (f : Nat → V) (hE : ElOk G.P T none es) : Does G ⟨dst, .call { callee := .builtin .len, args := #[.tmp t], argTypes := #[T] }, ty, pos, af, g⟩ { need := [(t, .view id 0 k)], nob := [(id, .arr es m f)], eff := { v := .int .i64 k } } :=
  does_value rfl rfl fun e a ok hn ho => by
    obtain ⟨hu', hp⟩ := hn (t, .view id 0 k) (by simp)
    obtain ⟨_, ad, c, hp, _⟩ := hp es m f (ho (id, .arr es m f) (by simp))
    obtain ⟨E, inf, hu, hi, hs⟩ := hE.has
    have h3 : a.eval (.tmp t) = .slice ad k c := hp
    exact ⟨.int .i64 k, by simp [execOp, resolve, invoke, builtin, h3, Builtin.len_, run_underlying hu, goInt], rfl⟩
end

section
variable {G : Glob} {dst : Option Tmp} {ty : TypeId} {pos : String} {af : Array Edge} {g : Option (Nat × Bool)}
/-- A slice expression with a bound of its own, its value unused. -/
theorem does_slice3 (T es m t id : Nat) (f : Nat → V) (x y z : Operand) (k1 k2 k3 : IntKind) (l h mx : Int) (hE : ElOk G.P T none es) (c1 : cOk x (.int k1 l)) (c2 : cOk y (.int k2 h)) (c3 : cOk z (.int k3 mx)) (h0 : 0 ≤ l) (h1 : l ≤ h) (h2 : h ≤ mx) (h3 : mx ≤ m) :
    Does G ⟨dst, .slice T (.tmp t) (some x) (some y) (some z), ty, pos, af, g⟩ { need := (t, .own id) :: (nd x (.int k1 l) ++ (nd y (.int k2 h) ++ nd z (.int k3 mx))), nob := [(id, .arr es m f)], eff := { v := .any } } :=
  does_value rfl rfl fun e a ok hn ho => by
    obtain ⟨hu, hx⟩ := hn (t, .own id) (by simp)
    have hob := ho (id, .arr es m f) (by simp)
    have hx := hx es m f hob
    have hcap : ∃ ad cap, a.eval (.tmp t) = .slice ad m cap ∧ m ≤ cap := by
      have hh' := ok.held id _ hob
      simp only [Held] at hh'
      cases ht : e.th id with
      | none =>
        rw [ht] at hx hh'
        obtain ⟨h0, ad, hx⟩ := hx
        exact ⟨ad, 0, by rw [h0]; exact hx, by omega⟩
      | some b =>
        rw [ht] at hx hh'
        obtain ⟨cs, T', q1, q2, q3, q4, q5⟩ := hh'
        exact ⟨_, _, hx, by omega⟩
    obtain ⟨ad, cap, hev, hc⟩ := hcap
    have e1 : a.eval x = .int k1 l := R.operand hn c1 (fun p hp => by simp [hp])
    have e2 : a.eval y = .int k2 h := R.operand hn c2 (fun p hp => by simp [hp])
    have e3 : a.eval z = .int k3 mx := R.operand hn c3 (fun p hp => by simp [hp])
    obtain ⟨E, i, hu2, hi', hs⟩ := hE.has
    have b3 : ∀ code, (Instr.sliceBound (.int k3 mx) cap code).run G.P e.w = .ok mx.toNat e.w := fun code => run_bound k3 mx cap code (by omega) (by omega)
    have b2 : ∀ code, (Instr.sliceBound (.int k2 h) mx.toNat code).run G.P e.w = .ok h.toNat e.w := fun code => run_bound k2 h mx.toNat code (by omega) (by omega)
    have b1 : ∀ code, (Instr.sliceBound (.int k1 l) h.toNat code).run G.P e.w = .ok l.toNat e.w := fun code => run_bound k1 l h.toNat code (by omega) (by omega)
    exact ⟨_, by simp [execOp, hev, e1, e2, e3, Instr.sliceAt, Instr.slice, Instr.sliceBounds, run_underlying hu2, b1, b2, b3, sizeOf, typeInfo, hi']; rfl, trivial⟩
end
end Go.Eng
