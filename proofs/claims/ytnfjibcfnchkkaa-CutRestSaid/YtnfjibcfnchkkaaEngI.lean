/- The engine's law on a function as a whole, and on what one state tells of another one. Conditions: none. -/
import Derived.Test.YtnfjibcfnchkkaaEngH
namespace Go.Eng

/-- How what a call has is handed back: own arrays as slices. -/
inductive Ret (ob : Nat → Option Box) : V → V → Prop where
  | data (v : V) (h : v.Data) : Ret ob v v
  | own (id es n : Nat) (f : Nat → V) (hm : ob id = some (.arr es n f)) (h : ∀ j, (f j).Data) : Ret ob (.own id) (.sl es n f)
  | agg (L : Lay) (f g : Nat → V) (hz : ∀ j, j < L.cnt → (g j).size = (f j).size ∧ (g j).isAgg = (f j).isAgg) (h : ∀ j, j < L.cnt → Ret ob (f j) (g j)) : Ret ob (.agg L f) (.agg L g)

theorem Ret.sound {G : Glob} {e : Env} (ok : Ok G e) {v v' : V} (h : Ret e.ob v v') : ∀ x, R e v x → R (Env.bare e.w G.S G.Sp) v' x := by
  have noOwn : ∀ b, ¬ (Env.bare e.w G.S G.Sp).Own b := by rintro b ⟨_, _, h, _⟩; cases h
  have mv : ∀ v, V.Data v → ∀ x, R e v x → R (Env.bare e.w G.S G.Sp) v x := R.move (e := e) (e' := Env.bare e.w G.S G.Sp) rfl (fun b h1 h2 _ => ⟨ok.S ▸ h1, ok.Sp ▸ h2, noOwn b⟩)
  have far : ∀ b id o, e.ob id = some o → e.th id = some b → ¬ G.S b ∧ ¬ G.Sp b := by
    intro b id o h1 h2
    have hf := ok.fresh id o b h1 h2
    constructor <;> intro h
    · have := ok.low b (.inl h)
      rcases hf with h3 | h3
      · omega
      · exact this.2 h3
    · have := ok.low b (.inr h)
      rcases hf with h3 | h3
      · omega
      · exact this.2 h3
  induction h with
  | data v h => exact mv v h
  | own id es n f hm h =>
    rintro x ⟨hu, hx⟩
    have hx := hx es n f hm
    have hheld := ok.held id _ hm
    cases hth : e.th id with
    | none =>
      rw [hth] at hx
      obtain ⟨h0, a, hx⟩ := hx
      subst h0
      exact ⟨a, 0, hx, Nat.le_refl _, .inl rfl⟩
    | some b =>
      rw [hth] at hx
      obtain ⟨cs, T, l1, l2, l3, l4, l5⟩ := hheld.lies hth
      obtain ⟨f1, f2⟩ := far b id _ hm hth
      have hle : n * es ≤ cs.size := by rw [l3]; exact Nat.mul_le_mul_right _ l4
      refine ⟨_, e.kap id, hx, l4, .inr ⟨_, cs.extract 0 (0 + n * es), rfl, f1, f2, noOwn _, by simp; omega, sub_cells l1.1, allOne_extract l2 _ _, fun j hj => ?_⟩⟩
      obtain ⟨hz, hr⟩ := l5 j hj
      refine ⟨hz, ?_⟩
      have : (j + 1) * es ≤ n * es := Nat.mul_le_mul_right _ hj
      rw [Nat.succ_mul] at this
      rw [piece_extract (f j) cs 0 (n * es) (j * es) es this (by
        cases ha : (f j).isAgg with
        | true => exact .inr rfl
        | false => rw [← hz, size_pos ha]; exact .inl (by omega)) (by omega), Nat.zero_add]
      exact mv _ (h j) _ hr
  | agg L f g hz h ih =>
    rintro x ⟨cs, hx, hs, h1, hr⟩
    refine ⟨cs, hx, hs, h1, fun j hj => ?_⟩
    obtain ⟨r1, r2⟩ := hr j hj
    obtain ⟨z1, z2⟩ := hz j hj
    refine ⟨z1.trans r1, ?_⟩
    have := ih j hj _ r2
    unfold piece at this ⊢
    rw [z2]; exact this

/-- What a result's slot hands back. -/
def RetOne (P : Program) (s : St) : ResultVar → V → Prop
  | .tmp t, v => ∃ u, lk s.sl t = some u ∧ Ret s.obf u v
  | .cell t T, v => ∃ id u, lk s.sl t = some (.ptr id 0 []) ∧ s.obf id = some (.var u) ∧ Ret s.obf u v ∧ TyOk P T u.isAgg u.size

def oneRun (P : Program) (tmps : Array Value) (w : World) (x : Value) : ResultVar → Prop
  | .tmp t => tmps[t]?.getD undef = x
  | .cell a t => ∃ ad, tmps[a]?.getD undef = .pointer (some ad) ∧ (loadVar t ad).run P w = .ok x w

theorem RetOne.run {G : Glob} {nt : Nat} {s : St} {a : Act} {e : Env} (h : Rel G nt s a e) {r : ResultVar} {v : V} (hr : RetOne G.P s r v) :
    ∃ x, oneRun G.P a.tmps e.w x r ∧ R (Env.bare e.w G.S G.Sp) v x := by
  cases r with
  | tmp t =>
    obtain ⟨u, h1, h2⟩ := hr
    exact ⟨_, by simp only [oneRun, Array.getD_eq_getD_getElem?], (h.ob ▸ h2 : Ret e.ob u v).sound h.ok _ (h.slots t u h1)⟩
  | cell t T =>
    obtain ⟨id, u, h1, h2, h3, hT⟩ := hr
    obtain ⟨hu, hx⟩ := h.slots t _ h1
    rw [← h.ob] at h2 h3
    obtain ⟨b, hb, hx⟩ := hx _ h2
    obtain ⟨b', cs, T', e1, e2, e3, e4, e5⟩ := h.ok.held id _ h2
    obtain rfl : b = b' := by rw [hb] at e1; exact Option.some.inj e1
    refine ⟨_, ?_, h3.sound h.ok _ e5⟩
    exact ⟨_, by rw [← Array.getD_eq_getD_getElem?]; exact hx, run_loadVar_row' hT e2.1 (by omega)⟩

def RetL (P : Program) (s : St) : List ResultVar → List V → Prop
  | [], [] => True
  | r :: rs, v :: vs => RetOne P s r v ∧ RetL P s rs vs
  | _, _ => False

/-- Several results are a tuple. -/
def resV : List V → V
  | [v] => v
  | vs => .tup vs.length (fun j => vs.getD j (.bool false))

theorem results_run {G : Glob} {nt : Nat} {s : St} {a : Act} {e : Env} (h : Rel G nt s a e) {fn : Func} {rs : List ResultVar} (hrs : fn.results = rs.toArray) {vs : List V} (hr : RetL G.P s rs vs) (hn : rs.length ≤ 3) :
    ∃ x, (results fn a.tmps).run G.P e.w = .ok x e.w ∧ R (Env.bare e.w G.S G.Sp) (resV vs) x := by
  match rs, vs, hr, hn with
  | [], [], _, _ => exact ⟨.tuple #[], by simp [results, hrs], ⟨#[], rfl, rfl, fun j hj => absurd hj (by simp)⟩⟩
  | [r], [v], ⟨h1, _⟩, _ =>
    obtain ⟨x, hx, hR⟩ := h1.run h
    refine ⟨x, ?_, hR⟩
    cases r with
    | tmp t => simp only [oneRun] at hx; simp [results, hrs, hx]
    | cell t T => obtain ⟨ad, q1, q2⟩ := hx; simp [results, hrs, q1, asAddr, q2]
  | [r1, r2], [v1, v2], ⟨h1, h2, _⟩, _ =>
    obtain ⟨x1, hx1, hR1⟩ := h1.run h
    obtain ⟨x2, hx2, hR2⟩ := h2.run h
    refine ⟨.tuple #[x1, x2], ?_, ⟨#[x1, x2], rfl, rfl, fun j hj => ?_⟩⟩
    · cases r1 <;> cases r2 <;> simp only [oneRun] at hx1 hx2 <;> (try obtain ⟨ad1, p1, q1⟩ := hx1) <;> (try obtain ⟨ad2, p2, q2⟩ := hx2) <;> simp [results, asAddr, *]
    · match j, hj with
      | 0, _ => exact hR1
      | 1, _ => exact hR2
      | n + 2, hj => exact absurd hj (by simp)
  | [r1, r2, r3], [v1, v2, v3], ⟨h1, h2, h3, _⟩, _ =>
    obtain ⟨x1, hx1, hR1⟩ := h1.run h
    obtain ⟨x2, hx2, hR2⟩ := h2.run h
    obtain ⟨x3, hx3, hR3⟩ := h3.run h
    refine ⟨.tuple #[x1, x2, x3], ?_, ⟨#[x1, x2, x3], rfl, rfl, fun j hj => ?_⟩⟩
    · cases r1 <;> cases r2 <;> cases r3 <;> simp only [oneRun] at hx1 hx2 hx3 <;> (try obtain ⟨ad1, p1, q1⟩ := hx1) <;> (try obtain ⟨ad2, p2, q2⟩ := hx2) <;> (try obtain ⟨ad3, p3, q3⟩ := hx3) <;> simp [results, asAddr, *]
    · match j, hj with
      | 0, _ => exact hR1
      | 1, _ => exact hR2
      | 2, _ => exact hR3
      | n + 3, hj => exact absurd hj (by simp)

/-- The end of a function, as its code's post. -/
def FnPost (G : Glob) (fn : Func) (nt : Nat) (res : V) (x : Exit) (a : Act) (w : World) : Prop :=
  match x with
  | .normal | .ret => ∃ s vs, Reach G nt s a w ∧ RetL G.P s fn.results.toList vs ∧ fn.results.size ≤ 3 ∧ resV vs = res
  | _ => False

def initSl : Nat → List V → List (Nat × V)
  | _, [] => []
  | i, v :: vs => (i, v) :: initSl (i + 1) vs

theorem lk_init : ∀ (vs : List V) (k t : Nat) (v : V), lk (initSl k vs) t = some v → k ≤ t ∧ vs[t - k]? = some v
  | [], _, _, _, h => by simp [initSl, lk] at h
  | u :: vs, k, t, v, h => by
    simp only [initSl, lk_cons] at h
    split at h
    · rename_i hk; subst hk; cases h; exact ⟨Nat.le_refl _, by simp⟩
    · obtain ⟨h1, h2⟩ := lk_init vs (k + 1) t v h
      refine ⟨by omega, ?_⟩
      rw [show t - k = (t - (k + 1)) + 1 by omega]; simpa using h2

theorem spec_of {P : Program} {K : FuncId} {fn : Func} {c : Code} {args : List V} {res : V} (hf : P.funcs[K]? = some fn) (hb : fn.body = some c) (hnt : args.length ≤ fn.ntmps)
    (h : ∀ G : Glob, G.P = P → AW G fn.ntmps { sl := initSl 0 args, ob := [], nx := 0 } c (FnPost G fn fn.ntmps res)) : FSpec P K args res := by
  intro w S Sp xs hlow hargs
  obtain ⟨hsz, hargs⟩ := hargs
  have G : ∃ G : Glob, G = { P := P, w0 := w, W := fun _ => False, S := S, Sp := Sp } := ⟨_, rfl⟩
  obtain ⟨G, hG⟩ := G
  have hok : Ok G (Env.bare w S Sp) := by
    subst hG
    refine ⟨Frame0.refl _ _, rfl, rfl, ?_, ?_, ?_, ?_, fun b hb => ⟨hlow b hb, fun h => h⟩⟩
    · intro id o h; cases h
    · intro i j oi oj b h; cases h
    · intro i o b h; cases h
    · intro i o h; cases h
  have hP : G.P = P := by subst hG; rfl
  have hw := h G hP { tmps := xs ++ Array.replicate (fn.ntmps - xs.size) undef, defers := [] } w ⟨Env.bare w S Sp, rfl, ⟨hok, ?_, ?_, ?_, ?_, rfl⟩⟩
  · rw [hP] at hw
    refine calls_of_wp hf hb (wp_mono hw ?_)
    intro x a w' hq
    have fin : (∃ s vs, Reach G fn.ntmps s a w' ∧ RetL G.P s fn.results.toList vs ∧ fn.results.size ≤ 3 ∧ resV vs = res) →
        a.defers = [] ∧ ∃ v, (results fn a.tmps).run P w' = .ok v w' ∧ ∃ y, (Ending.returned v) = .returned y ∧ R (Env.bare w' S Sp) res y ∧ Frame0 (fun _ => False) w w' := by
      rintro ⟨s, vs, ⟨e, rfl, hrel⟩, hret, hn, hres⟩
      obtain ⟨y, hy, hR⟩ := results_run hrel (fn := fn) (rs := fn.results.toList) (by simp) hret (by simpa using hn)
      refine ⟨hrel.defs, y, by rw [← hP]; exact hy, y, rfl, ?_, ?_⟩
      · subst hres; subst hG; exact hR
      · have := hrel.ok.fr; subst hG; exact this
    cases x with
    | normal => exact fin hq
    | ret => exact fin hq
    | exit i => exact hq.elim
    | goto l => exact hq.elim
    | panic c => exact hq.elim
    | outgrown => exact hq.elim
  · intro t v hv
    obtain ⟨_, h2⟩ := lk_init args 0 t v hv
    have hlt : t < args.length := by have := (List.getElem?_eq_some_iff.1 h2).1; omega
    have := hargs t v h2
    have e1 : (xs ++ Array.replicate (fn.ntmps - xs.size) undef).getD t undef = xs.getD t undef := by
      simp only [Array.getD_eq_getD_getElem?]
      rw [Array.getElem?_append_left (by omega)]
    rw [e1]; exact this
  · funext id; rfl
  · intro k hk; exact hk.elim
  · simp; omega

/-- Renamed claims. -/
def Ren (ρ : Nat → Nat) (nx : Nat) : V → V → Prop
  | .own i, v => v = .own (ρ i) ∧ i < nx
  | .ptr i off p, v => v = .ptr (ρ i) off p ∧ i < nx
  | .agg L f, v => (v = .agg L f ∧ V.Plain (.agg L f)) ∨ ∃ g, v = .agg L g ∧ ∀ j, Ren ρ nx (f j) (g j)
  | v1, v => v = v1 ∧ v1.Plain

def RenB (ρ : Nat → Nat) (nx : Nat) : Box → Box → Prop
  | .var v1, .var v => Ren ρ nx v1 v
  | .arr es n f, .arr es' n' f' => es' = es ∧ n' = n ∧ ∀ j, Ren ρ nx (f j) (f' j)
  | _, _ => False

theorem Ren.size {ρ : Nat → Nat} {nx : Nat} {v1 v : V} (h : Ren ρ nx v1 v) : v.size = v1.size ∧ v.isAgg = v1.isAgg := by
  cases v1 with
  | own i => obtain ⟨h, _⟩ := h; subst h; exact ⟨rfl, rfl⟩
  | ptr i off p => obtain ⟨h, _⟩ := h; subst h; exact ⟨rfl, rfl⟩
  | agg L f =>
    rcases h with ⟨h, _⟩ | ⟨g, h, _⟩
    · subst h; exact ⟨rfl, rfl⟩
    · subst h; exact ⟨rfl, rfl⟩
  | _ => obtain ⟨h, _⟩ := h; subst h; exact ⟨rfl, rfl⟩

section
variable {G : Glob} {nt : Nat}
theorem Ren.sound {e e2 : Env} {ρ : Nat → Nat} {nx : Nat} (F : Follows e e2)
    (hid : ∀ i, i < nx → e.us (ρ i) → e2.us i ∧ ∀ o2, e2.ob i = some o2 → e2.th i = e.th (ρ i) ∧ e2.kap i = e.kap (ρ i) ∧ ∃ o, e.ob (ρ i) = some o ∧ o.like o2) (v1 : V) : ∀ v, Ren ρ nx v1 v → ∀ x, R e v x → R e2 v1 x := by
  induction v1 with
  | own i =>
    rintro v ⟨rfl, hlt⟩ x ⟨hu, hx⟩
    obtain ⟨h1, h2⟩ := hid i hlt hu
    refine ⟨h1, fun es n f ho2 => ?_⟩
    obtain ⟨ht, hk, o, ho, hl⟩ := h2 _ ho2
    cases o with
    | var v => exact hl.elim
    | arr es' n' f' =>
      obtain ⟨rfl, rfl⟩ := hl
      have := hx _ _ _ ho
      rw [ht, hk]; exact this
  | ptr i off p =>
    rintro v ⟨rfl, hlt⟩ x ⟨hu, hx⟩
    obtain ⟨h1, h2⟩ := hid i hlt hu
    refine ⟨h1, fun o2 ho2 => ?_⟩
    obtain ⟨ht, hk, o, ho, hl⟩ := h2 _ ho2
    rw [ht]; exact hx o ho
  | agg L f ih =>
    rintro v (⟨rfl, hp⟩ | ⟨g, rfl, hg⟩) x hx
    · exact R.keep F _ (.inr hp) x hx
    · obtain ⟨cs, hx, hs, h1, hr⟩ := hx
      refine ⟨cs, hx, hs, h1, fun j hj => ?_⟩
      obtain ⟨r1, r2⟩ := hr j hj
      obtain ⟨z1, z2⟩ := (hg j).size
      refine ⟨z1 ▸ r1, ?_⟩
      have := ih j (g j) (hg j) _ r2
      unfold piece at this ⊢
      rw [← z2]; exact this
  | int k n => rintro v ⟨rfl, hp⟩ x hx; exact R.keep F _ (.inr hp) x hx
  | bool b => rintro v ⟨rfl, hp⟩ x hx; exact R.keep F _ (.inr hp) x hx
  | str s => rintro v ⟨rfl, hp⟩ x hx; exact R.keep F _ (.inr hp) x hx
  | sl es n f _ => rintro v ⟨rfl, hp⟩ x hx; exact R.keep F _ (.inr hp) x hx
  | cptr u _ => rintro v ⟨rfl, hp⟩ x hx; exact R.keep F _ (.inr hp) x hx
  | fn k n f _ => rintro v ⟨rfl, hp⟩ x hx; exact R.keep F _ (.inr hp) x hx
  | tup n f _ => rintro v ⟨rfl, hp⟩ x hx; exact R.keep F _ (.inr hp) x hx
  | opt c u _ => rintro v ⟨rfl, hp⟩ x hx; exact R.keep F _ (.inr hp) x hx
  | any => rintro v ⟨rfl, hp⟩ x hx; exact R.keep F _ (.inr hp) x hx
  | nilq n => rintro v ⟨rfl, hp⟩ x hx; exact R.keep F _ (.inr hp) x hx
  | nil => rintro v ⟨rfl, hp⟩ x hx; exact R.keep F _ (.inr hp) x hx
  | view i lo n => rintro v ⟨rfl, hp⟩ x hx; exact hp.elim
  | cq i p => rintro v ⟨rfl, hp⟩ x hx; exact hp.elim

/-- Unlike names have unlike names. -/
def injB (ρ : Nat → Nat) (l : List Nat) : Bool := l.all fun i => l.all fun j => !(Nat.beq (ρ i) (ρ j)) || Nat.beq i j

/-- WHAT ONE STATE TELLS OF ANOTHER ONE: slots and own variables that are told still, their names renamed. -/
theorem cov_of {s s1 : St} (ρ : Nat → Nat) (hsl : All (fun p => ∃ v, lk s.sl p.1 = some v ∧ Ren ρ s1.nx p.2 v) s1.sl)
    (hob : All (fun p => p.1 < s1.nx ∧ ∃ o1 o, p.2 = some o1 ∧ s.obf (ρ p.1) = some o ∧ RenB ρ s1.nx o1 o) s1.ob) (hinjB : injB ρ (s1.ob.map (·.1)) = true) : Cov G nt s s1 := by
  have hinj : ∀ i ∈ s1.ob.map (·.1), ∀ j ∈ s1.ob.map (·.1), ρ i = ρ j → i = j := by
    intro i hi j hj h
    have := List.all_eq_true.1 (List.all_eq_true.1 hinjB i hi) j hj
    rw [h] at this
    simp only [Nat.beq_refl, Bool.not_true, Bool.false_or] at this
    exact Nat.eq_of_beq_eq_true this
  rintro a w ⟨e, rfl, hrel⟩
  have obIn : ∀ (l : List (Nat × Option Box)) id o1, appOb l (fun _ => none) id = some o1 → ∃ p ∈ l, p.1 = id ∧ p.2 = some o1 := by
    intro l id o1
    induction l with
    | nil => intro h; simp [appOb, lk] at h
    | cons q l ih =>
      obtain ⟨k, o⟩ := q
      intro h
      simp only [appOb, lk_cons] at h ih
      by_cases hk : k = id
      · rw [if_pos hk] at h; exact ⟨(k, o), by simp, hk, h⟩
      · rw [if_neg hk] at h
        obtain ⟨p, h1, h2⟩ := ih h
        exact ⟨p, by simp [h1], h2⟩
  have e2 : ∃ e2 : Env, e2 = { e with th := fun i => e.th (ρ i), kap := fun i => e.kap (ρ i), ob := s1.obf, us := fun i => i < s1.nx ∧ e.us (ρ i) } := ⟨_, rfl⟩
  obtain ⟨e2, he2⟩ := e2
  have hget : ∀ id o1, e2.ob id = some o1 → id < s1.nx ∧ id ∈ s1.ob.map (·.1) ∧ ∃ o, e.ob (ρ id) = some o ∧ RenB ρ s1.nx o1 o := by
    intro id o1 h
    subst he2
    obtain ⟨p, hp, h1, h2⟩ := obIn _ _ _ h
    obtain ⟨k1, o1', o, k2, k3, k4⟩ := hob.mem p hp
    rw [h2] at k2; cases k2
    subst h1
    exact ⟨k1, List.mem_map.2 ⟨p, hp, rfl⟩, o, by rw [hrel.ob]; exact k3, k4⟩
  have hw : e2.w = e.w := by subst he2; rfl
  have hS : e2.S = e.S := by subst he2; rfl
  have hSp : e2.Sp = e.Sp := by subst he2; rfl
  have hth : ∀ i, e2.th i = e.th (ρ i) := by intro i; subst he2; rfl
  have hkap : ∀ i, e2.kap i = e.kap (ρ i) := by intro i; subst he2; rfl
  have hown : ∀ b, e2.Own b → e.Own b := by
    rintro b ⟨id, o1, h1, h2⟩
    obtain ⟨_, _, o, h3, _⟩ := hget id o1 h1
    exact ⟨ρ id, o, h3, (hth id).symm.trans h2⟩
  have F : Follows e e2 := ⟨by rw [hw]; exact Nat.le_refl _, fun b _ _ => by rw [hw], fun b _ h => hown b h, fun b _ h => hS ▸ h, fun b _ h => hSp ▸ h⟩
  have hid : ∀ i, i < s1.nx → e.us (ρ i) → e2.us i ∧ ∀ o2, e2.ob i = some o2 → e2.th i = e.th (ρ i) ∧ e2.kap i = e.kap (ρ i) ∧ ∃ o, e.ob (ρ i) = some o ∧ o.like o2 := by
    intro i hi hu
    refine ⟨by subst he2; exact ⟨hi, hu⟩, fun o2 ho2 => ⟨hth i, hkap i, ?_⟩⟩
    obtain ⟨_, _, o, h3, h4⟩ := hget i o2 ho2
    refine ⟨o, h3, ?_⟩
    cases o2 <;> cases o <;> first | trivial | exact h4.elim | exact ⟨h4.1.symm, h4.2.1.symm⟩
  have snd := fun v1 v h x => Ren.sound (ρ := ρ) (nx := s1.nx) F hid v1 v h x
  refine ⟨e2, hw, ⟨⟨by rw [hw]; exact hrel.ok.fr, hS.trans hrel.ok.S, hSp.trans hrel.ok.Sp, ?_, ?_, ?_, ?_, hrel.ok.low⟩, ?_, by subst he2; rfl, ?_, hrel.size, hrel.defs⟩⟩
  · intro id o1 h
    obtain ⟨_, _, o, h3, h4⟩ := hget id o1 h
    have hh := hrel.ok.held _ o h3
    cases o1 with
    | var v1 =>
      cases o with
      | arr es n f => exact h4.elim
      | var v =>
        obtain ⟨b, cs, T, a1, a2, a3, a4, a5⟩ := hh
        obtain ⟨z1, z2⟩ := Ren.size h4
        refine ⟨b, cs, T, (hth id).trans a1, by rw [hw]; exact a2, by rw [a3, z1], a4, ?_⟩
        have := snd v1 v h4 _ a5
        unfold piece at this ⊢
        rw [z1, z2] at this; exact this
    | arr es n f =>
      cases o with
      | var v => exact h4.elim
      | arr es' n' f' =>
        obtain ⟨rfl, rfl, h5⟩ := h4
        simp only [Held] at hh ⊢
        rw [hth id]
        cases ht : e.th (ρ id) with
        | none => rw [ht] at hh; exact hh
        | some b =>
          rw [ht] at hh
          obtain ⟨cs, T, a1, a2, a3, a4, a5⟩ := hh
          refine ⟨cs, T, by rw [hw]; exact a1, by rw [hkap]; exact a2, by rw [hkap]; exact a3, a4, fun j hj => ?_⟩
          obtain ⟨z1, z2⟩ := (h5 j).size
          obtain ⟨r1, r2⟩ := a5 j hj
          refine ⟨z1 ▸ r1, ?_⟩
          have := snd _ _ (h5 j) _ r2
          unfold piece at this ⊢
          rw [z2] at this; exact this
  · intro i j oi oj b h1 h2 h3 h4
    obtain ⟨_, m1, o, k1, _⟩ := hget i oi h1
    obtain ⟨_, m2, o', k2, _⟩ := hget j oj h2
    exact hinj i m1 j m2 (hrel.ok.inj _ _ o o' b k1 k2 ((hth i).symm.trans h3) ((hth j).symm.trans h4))
  · intro i o1 b h1 h2
    obtain ⟨_, _, o, k1, _⟩ := hget i o1 h1
    exact hrel.ok.fresh _ o b k1 ((hth i).symm.trans h2)
  · intro i o1 h1
    obtain ⟨k0, _, o, k1, _⟩ := hget i o1 h1
    subst he2
    exact ⟨k0, hrel.ok.used _ o k1⟩
  · intro t v1 hv
    have hmem : ∃ p ∈ s1.sl, p.1 = t ∧ p.2 = v1 := by
      clear hob hinj hget hsl
      generalize s1.sl = l at hv
      induction l with
      | nil => simp [lk] at hv
      | cons q l ih =>
        obtain ⟨k, u⟩ := q
        rw [lk_cons] at hv
        by_cases hk : k = t
        · rw [if_pos hk] at hv
          exact ⟨(k, u), by simp, hk, Option.some.inj hv⟩
        · rw [if_neg hk] at hv
          obtain ⟨p, h1, h2⟩ := ih hv
          exact ⟨p, by simp [h1], h2⟩
    obtain ⟨p, hp, rfl, rfl⟩ := hmem
    obtain ⟨v, h1, h2⟩ := hsl.mem p hp
    exact snd _ v h2 _ (hrel.slots _ v h1)
  · intro k hk
    subst he2
    exact hk.1
end
end Go.Eng
