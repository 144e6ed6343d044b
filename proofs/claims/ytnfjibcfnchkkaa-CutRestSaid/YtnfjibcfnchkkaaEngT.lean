/- The engine's laws on calls that take own arrays and hand them back, and on states that give own arrays up. Conditions: none. -/
import Derived.Test.YtnfjibcfnchkkaaEngS
namespace Go.Eng

/-- Claims in one world, seen by another environment. -/
theorem R.shift {e e' : Env} (hw : e'.w = e.w) (h1 : ∀ b, ¬ e.Sp b → ¬ e.Own b → ¬ e'.Sp b ∧ ¬ e'.Own b) (h2 : ∀ b, ¬ e.S b → ¬ e.Sp b → ¬ e.Own b → ¬ e'.S b) (v : V) : (IdKeeps e e' ∨ v.Plain) → ∀ x, R e v x → R e' v x := by
  induction v with
  | int k n => exact fun _ x h => h
  | bool b => exact fun _ x h => h
  | str s => exact fun _ x h => h
  | any => exact fun _ x h => h
  | nilq n => exact fun _ x h => h
  | nil => exact fun _ x h => h
  | cq id p =>
    rintro hid x ⟨hu, h⟩
    rcases hid with hid | hid
    · obtain ⟨hu', hk⟩ := hid id hu
      refine ⟨hu', fun es m f ho' => ?_⟩
      obtain ⟨ht, hκ, o, ho, hm⟩ := hk _ ho'
      cases o with
      | var v => exact hm.elim
      | arr es2 n2 f2 =>
        obtain ⟨rfl, rfl⟩ := hm
        have := h _ _ _ ho
        unfold Env.cap at this ⊢
        rw [ht, hκ]; exact this
    · exact hid.elim
  | view id lo n =>
    rintro hid x ⟨hu, h⟩
    rcases hid with hid | hid
    · obtain ⟨hu', hk⟩ := hid id hu
      refine ⟨hu', fun es m f ho' => ?_⟩
      obtain ⟨ht, hκ, o, ho, hm⟩ := hk _ ho'
      cases o with
      | var v => exact hm.elim
      | arr es2 n2 f2 =>
        obtain ⟨rfl, rfl⟩ := hm
        have := h _ _ _ ho
        rw [ht, hκ]; exact this
    · exact hid.elim
  | agg L f ih =>
    rintro hid x ⟨cs, hx, hs, h1, h⟩
    exact ⟨cs, hx, hs, h1, fun j hj => ⟨(h j hj).1, ih j (hid.imp_right fun p => p j) _ (h j hj).2⟩⟩
  | sl es n f ih =>
    rintro hid x ⟨a, cap, hx, hc, h⟩
    refine ⟨a, cap, hx, hc, h.imp_right ?_⟩
    rintro ⟨ad, cs, ha, hS, hP, hO, hs, hcell, ha1, hj⟩
    exact ⟨ad, cs, ha, h2 _ hS hP hO, (h1 _ hP hO).1, (h1 _ hP hO).2, hs, by rw [hw]; exact hcell, ha1, fun j q => ⟨(hj j q).1, ih j (hid.imp_right fun p => p j) _ (hj j q).2⟩⟩
  | own id =>
    rintro hid x ⟨hu, h⟩
    rcases hid with hid | hid
    · obtain ⟨hu', hk⟩ := hid id hu
      refine ⟨hu', fun es n f ho' => ?_⟩
      obtain ⟨ht, hκ, o, ho, hm⟩ := hk _ ho'
      cases o with
      | var v => exact hm.elim
      | arr es2 n2 f2 =>
        obtain ⟨rfl, rfl⟩ := hm
        have := h _ _ _ ho
        rw [ht, hκ]; exact this
    · exact hid.elim
  | ptr id off p =>
    rintro hid x ⟨hu, h⟩
    rcases hid with hid | hid
    · obtain ⟨hu', hk⟩ := hid id hu
      refine ⟨hu', fun o' ho' => ?_⟩
      obtain ⟨ht, hκ, o, ho, hm⟩ := hk _ ho'
      rw [ht]; exact h _ ho
    · exact hid.elim
  | cptr v ih =>
    rintro hid x ⟨ad, cs, hx, hP, hO, hs, hcell, ha1, h⟩
    exact ⟨ad, cs, hx, (h1 _ hP hO).1, (h1 _ hP hO).2, hs, by rw [hw]; exact hcell, ha1, ih (hid.imp_right id) _ h⟩
  | fn k n f ih =>
    rintro hid x ⟨cs, hx, hs, h⟩
    exact ⟨cs, hx, hs, fun j hj => ih j (hid.imp_right fun p => p j) _ (h j hj)⟩
  | tup n f ih =>
    rintro hid x ⟨cs, hx, hs, h⟩
    exact ⟨cs, hx, hs, fun j hj => ih j (hid.imp_right fun p => p j) _ (h j hj)⟩
  | opt c v ih =>
    rintro hid x ⟨h1, h2⟩
    exact ⟨fun hc => ih (hid.imp_right id) _ (h1 hc), h2⟩

theorem own_far {G : Glob} {e : Env} (ok : Ok G e) {b id : Nat} {o : Box} (h1 : e.ob id = some o) (h2 : e.th id = some b) : ¬ e.S b ∧ ¬ e.Sp b := by
  have hf := ok.fresh id o b h1 h2
  constructor <;> intro h
  · have := ok.low b (.inl (ok.S ▸ h))
    rcases hf with h3 | h3
    · omega
    · exact this.2 h3
  · have := ok.low b (.inr (ok.Sp ▸ h))
    rcases hf with h3 | h3
    · omega
    · exact this.2 h3

/-- Claims of one state, in another one: names changed, own arrays given up or cut. -/
inductive To (ob ob1 : Nat → Option Box) (ρ : Nat → Nat) (nx : Nat) (fz : List Nat) : V → V → Prop
  | plain (v : V) (h : v.Plain) : To ob ob1 ρ nx fz v v
  | own (i : Nat) (o1 o : Box) (h : i < nx) (h1 : ob1 i = some o1) (h2 : ob (ρ i) = some o) (hl : o.like o1) : To ob ob1 ρ nx fz (.own i) (.own (ρ i))
  | dead (i k : Nat) (h : i < nx) (h1 : ob1 i = none) (hk : k = ρ i) : To ob ob1 ρ nx fz (.own i) (.own k)
  | view (i lo n : Nat) (o1 o : Box) (h : i < nx) (h1 : ob1 i = some o1) (h2 : ob (ρ i) = some o) (hl : o.like o1) : To ob ob1 ρ nx fz (.view i lo n) (.view (ρ i) lo n)
  | ptr (i off : Nat) (p : List Nat) (o1 o : Box) (h : i < nx) (h1 : ob1 i = some o1) (h2 : ob (ρ i) = some o) : To ob ob1 ρ nx fz (.ptr i off p) (.ptr (ρ i) off p)
  | shr (i k k' es m : Nat) (f g : Nat → V) (h : i < nx) (h1 : ob1 i = some (.arr es k' g)) (h2 : ob (ρ i) = some (.arr es m f)) (hk : k' = k) : To ob ob1 ρ nx fz (.own i) (.view (ρ i) 0 k)
  | frz (i es n : Nat) (f : Nat → V) (h : ob i = some (.arr es n f)) (hd : ∀ j, (f j).Data) (hf : i ∈ fz) : To ob ob1 ρ nx fz (.sl es n f) (.own i)
  | frv (i es n m lo : Nat) (f : Nat → V) (h : ob i = some (.arr es m f)) (hn : lo + n ≤ m) (hd : ∀ j, (f j).Data) (hf : i ∈ fz) : To ob ob1 ρ nx fz (.sl es n (fun j => f (lo + j))) (.view i lo n)
  | agg (L : Lay) (f g : Nat → V) (h : ∀ j, To ob ob1 ρ nx fz (f j) (g j)) : To ob ob1 ρ nx fz (.agg L f) (.agg L g)
  | tup (n : Nat) (f g : Nat → V) (h : ∀ j, To ob ob1 ρ nx fz (f j) (g j)) : To ob ob1 ρ nx fz (.tup n f) (.tup n g)

theorem To.size {ob ob1 : Nat → Option Box} {ρ : Nat → Nat} {nx : Nat} {fz : List Nat} {v1 v : V} (h : To ob ob1 ρ nx fz v1 v) : v.size = v1.size ∧ v.isAgg = v1.isAgg := by
  cases h <;> exact ⟨rfl, rfl⟩

theorem To.sound {G : Glob} {e e2 : Env} {ρ : Nat → Nat} {nx : Nat} {fz : List Nat} (ok : Ok G e) (hw : e2.w = e.w) (hS : e2.S = e.S) (hSp : e2.Sp = e.Sp) (hth : ∀ i, e2.th i = e.th (ρ i)) (hkap : ∀ i, e2.kap i = e.kap (ρ i))
    (hus : ∀ i, i < nx → e.us (ρ i) → e2.us i) (hown : ∀ b, e2.Own b → ∃ j o, e.ob j = some o ∧ e.th j = some b ∧ j ∉ fz) {v1 v : V} (h : To e.ob e2.ob ρ nx fz v1 v) : ∀ x, R e v x → R e2 v1 x := by
  have hO : ∀ b, ¬ e.Own b → ¬ e2.Own b := fun b h1 h2 => by obtain ⟨j, o, h3, h4, _⟩ := hown b h2; exact h1 ⟨j, o, h3, h4⟩
  have mv : ∀ v, V.Data v → ∀ x, R e v x → R e2 v x := R.move hw (fun b h1 h2 h3 => ⟨hS ▸ h1, hSp ▸ h2, hO b h3⟩)
  have notO : ∀ i o b, e.ob i = some o → e.th i = some b → i ∈ fz → ¬ e2.Own b := by
    intro i o b h1 h2 h3 h4
    obtain ⟨j, o', h5, h6, h7⟩ := hown b h4
    exact h7 (ok.inj j i o' o b h5 h1 h6 h2 ▸ h3)
  induction h with
  | plain v h => exact R.shift hw (fun b h1 h2 => ⟨hSp ▸ h1, hO b h2⟩) (fun b h1 _ _ => hS ▸ h1) v (.inr h)
  | own i o1 o hi h1 h2 hl =>
    rintro x ⟨hu, hx⟩
    refine ⟨hus i hi hu, fun es n f ho => ?_⟩
    rw [h1] at ho; cases ho
    cases o with
    | var v => exact hl.elim
    | arr es' n' f' =>
      obtain ⟨rfl, rfl⟩ := hl
      have := hx _ _ _ h2
      rw [hth, hkap]; exact this
  | dead i k hi h1 hk =>
    rintro x ⟨hu, hx⟩
    exact ⟨hus i hi (hk ▸ hu), fun es n f ho => by rw [h1] at ho; cases ho⟩
  | view i lo n o1 o hi h1 h2 hl =>
    rintro x ⟨hu, hx⟩
    refine ⟨hus i hi hu, fun es m f ho => ?_⟩
    rw [h1] at ho; cases ho
    cases o with
    | var v => exact hl.elim
    | arr es' n' f' =>
      obtain ⟨rfl, rfl⟩ := hl
      have := hx _ _ _ h2
      rw [hth, hkap]; exact this
  | ptr i off p o1 o hi h1 h2 =>
    rintro x ⟨hu, hx⟩
    refine ⟨hus i hi hu, fun o' ho => ?_⟩
    rw [hth]; exact hx o h2
  | shr i k k' es m f g hi h1 h2 hk =>
    subst hk
    rintro x ⟨hu, hx⟩
    refine ⟨hus i hi hu, fun es' n f' ho => ?_⟩
    rw [h1] at ho; cases ho
    have := (hx _ _ _ h2).1 rfl
    rw [hth, hkap]; exact this
  | frz i es n f h hd hf =>
    rintro x ⟨hu, hx⟩
    have hx := hx es n f h
    have hheld := ok.held i _ h
    cases ht : e.th i with
    | none =>
      rw [ht] at hx
      obtain ⟨h0, a, hx⟩ := hx
      subst h0
      exact ⟨a, 0, hx, Nat.le_refl _, .inl rfl⟩
    | some b =>
      rw [ht] at hx
      obtain ⟨cs, T, l1, l2, l3, l4, l5⟩ := hheld.lies ht
      obtain ⟨f1, f2⟩ := own_far ok h ht
      have hle : n * es ≤ cs.size := by rw [l3]; exact Nat.mul_le_mul_right _ l4
      refine ⟨_, e.kap i, hx, l4, .inr ⟨_, cs.extract 0 (0 + n * es), rfl, hS ▸ f1, hSp ▸ f2, notO i _ b h ht hf, by simp; omega, by rw [hw]; exact sub_cells l1.1, allOne_extract l2 _ _, fun j hj => ?_⟩⟩
      obtain ⟨hz, hr⟩ := l5 j hj
      refine ⟨hz, ?_⟩
      have : (j + 1) * es ≤ n * es := Nat.mul_le_mul_right _ hj
      rw [Nat.succ_mul] at this
      rw [piece_extract (f j) cs 0 (n * es) (j * es) es this (by
        cases ha : (f j).isAgg with
        | true => exact .inr rfl
        | false => rw [← hz, size_pos ha]; exact .inl (by omega)) (by omega), Nat.zero_add]
      exact mv _ (hd j) _ hr
  | frv i es n m lo f h hn hd hf =>
    rintro x ⟨hu, hx⟩
    obtain ⟨_, ad, c, hx, hnc, hor⟩ := hx es m f h
    have hheld := ok.held i _ h
    refine ⟨ad, c, hx, hnc, hor.imp_right ?_⟩
    rintro ⟨b, ht, rfl⟩
    obtain ⟨cs, T, l1, l2, l3, l4, l5⟩ := hheld.lies ht
    obtain ⟨f1, f2⟩ := own_far ok h ht
    have hle : (lo + n) * es ≤ cs.size := by rw [l3]; exact Nat.mul_le_mul_right _ (by omega)
    rw [Nat.add_mul] at hle
    refine ⟨_, cs.extract (lo * es) (lo * es + n * es), rfl, hS ▸ f1, hSp ▸ f2, notO i _ b h ht hf, by simp; omega, by rw [hw]; exact sub_cells l1.1, allOne_extract l2 _ _, fun j hj => ?_⟩
    obtain ⟨hz, hr⟩ := l5 (lo + j) (by omega)
    refine ⟨hz, ?_⟩
    have : (j + 1) * es ≤ n * es := Nat.mul_le_mul_right _ hj
    rw [Nat.succ_mul] at this
    rw [piece_extract (f (lo + j)) cs (lo * es) (n * es) (j * es) es this (by
      cases ha : (f (lo + j)).isAgg with
      | true => exact .inr rfl
      | false => rw [← hz, size_pos ha]; exact .inl (by omega)) (by omega), ← Nat.add_mul]
    exact mv _ (hd _) _ hr
  | agg L f g h ih =>
    rintro x ⟨cs, hx, hs, h1, hr⟩
    refine ⟨cs, hx, hs, h1, fun j hj => ?_⟩
    obtain ⟨r1, r2⟩ := hr j hj
    obtain ⟨z1, z2⟩ := (h j).size
    refine ⟨z1 ▸ r1, ?_⟩
    have := ih j _ r2
    unfold piece at this ⊢
    rw [← z2]; exact this
  | tup n f g h ih =>
    rintro x ⟨cs, hx, hs, hr⟩
    exact ⟨cs, hx, hs, fun j hj => ih j _ (hr j hj)⟩

def BoxTo (ob ob1 : Nat → Option Box) (ρ : Nat → Nat) (nx : Nat) (fz : List Nat) : Box → Box → Prop
  | .var v1, .var v => To ob ob1 ρ nx fz v1 v
  | .arr es n f, .arr es' n' f' => es' = es ∧ n ≤ n' ∧ ∀ j, j < n → f j = f' j ∧ (f j).Data
  | _, _ => False

section
variable {G : Glob} {nt : Nat}
/-- WHAT ONE STATE TELLS OF ANOTHER ONE, own arrays given up or cut. -/
theorem cov_to {s s1 : St} (ρ : Nat → Nat) (fz : List Nat) (hsl : All (fun p => ∃ v, lk s.sl p.1 = some v ∧ To s.obf s1.obf ρ s1.nx fz p.2 v) s1.sl)
    (hob : All (fun p => p.1 < s1.nx ∧ ∃ o1 o, p.2 = some o1 ∧ s.obf (ρ p.1) = some o ∧ BoxTo s.obf s1.obf ρ s1.nx fz o1 o) s1.ob) (hinjB : injB ρ (s1.ob.map (·.1)) = true)
    (hfz : (s1.ob.map (·.1)).all (fun j => !fz.contains (ρ j)) = true) : Cov G nt s s1 := by
  have hinj : ∀ i ∈ s1.ob.map (·.1), ∀ j ∈ s1.ob.map (·.1), ρ i = ρ j → i = j := by
    intro i hi j hj h
    have := List.all_eq_true.1 (List.all_eq_true.1 hinjB i hi) j hj
    rw [h] at this
    simp only [Nat.beq_refl, Bool.not_true, Bool.false_or] at this
    exact Nat.eq_of_beq_eq_true this
  have hfz' : ∀ i ∈ s1.ob.map (·.1), ρ i ∉ fz := by
    intro i hi h
    have := List.all_eq_true.1 hfz i hi
    simp [h] at this
  rintro a w ⟨e, rfl, hrel⟩
  have obIn : ∀ (l : List (Nat × Option Box)) id o1, appOb l (fun _ => none) id = some o1 → ∃ p ∈ l, p.1 = id ∧ p.2 = some o1 := by
    intro l id o1
    induction l with
    | nil => intro h; simp [appOb, lk] at h
    | cons q l ih =>
      obtain ⟨k, o⟩ := q
      intro h
      simp only [appOb, lk_cons] at h ih
      by_cases hk : k = id
      · rw [if_pos hk] at h; exact ⟨(k, o), by simp, hk, h⟩
      · rw [if_neg hk] at h
        obtain ⟨p, h1, h2⟩ := ih h
        exact ⟨p, by simp [h1], h2⟩
  have e2 : ∃ e2 : Env, e2 = { e with th := fun i => e.th (ρ i), kap := fun i => e.kap (ρ i), ob := s1.obf, us := fun i => i < s1.nx ∧ e.us (ρ i) } := ⟨_, rfl⟩
  obtain ⟨e2, he2⟩ := e2
  have hob2 : e2.ob = s1.obf := by subst he2; rfl
  have hget : ∀ id o1, e2.ob id = some o1 → id < s1.nx ∧ id ∈ s1.ob.map (·.1) ∧ ∃ o, e.ob (ρ id) = some o ∧ BoxTo s.obf s1.obf ρ s1.nx fz o1 o := by
    intro id o1 h
    rw [hob2] at h
    obtain ⟨p, hp, h1, h2⟩ := obIn _ _ _ h
    obtain ⟨k1, o1', o, k2, k3, k4⟩ := hob.mem p hp
    rw [h2] at k2; cases k2
    subst h1
    exact ⟨k1, List.mem_map.2 ⟨p, hp, rfl⟩, o, by rw [hrel.ob]; exact k3, k4⟩
  have hw : e2.w = e.w := by subst he2; rfl
  have hS : e2.S = e.S := by subst he2; rfl
  have hSp : e2.Sp = e.Sp := by subst he2; rfl
  have hth : ∀ i, e2.th i = e.th (ρ i) := by intro i; subst he2; rfl
  have hkap : ∀ i, e2.kap i = e.kap (ρ i) := by intro i; subst he2; rfl
  have hus : ∀ i, i < s1.nx → e.us (ρ i) → e2.us i := by intro i h1 h2; subst he2; exact ⟨h1, h2⟩
  have hown : ∀ b, e2.Own b → ∃ j o, e.ob j = some o ∧ e.th j = some b ∧ j ∉ fz := by
    rintro b ⟨id, o1, h1, h2⟩
    obtain ⟨_, hm, o, h3, _⟩ := hget id o1 h1
    exact ⟨ρ id, o, h3, (hth id).symm.trans h2, hfz' id hm⟩
  have snd : ∀ v1 v, To s.obf s1.obf ρ s1.nx fz v1 v → ∀ x, R e v x → R e2 v1 x := fun v1 v h => To.sound hrel.ok hw hS hSp hth hkap hus hown (by rw [hrel.ob, hob2]; exact h)
  have mv : ∀ v, V.Data v → ∀ x, R e v x → R e2 v x := fun v hv => snd v v (.plain v hv.plain)
  refine ⟨e2, hw, ⟨⟨by rw [hw]; exact hrel.ok.fr, hS.trans hrel.ok.S, hSp.trans hrel.ok.Sp, ?_, ?_, ?_, ?_, hrel.ok.low⟩, ?_, hob2, ?_, hrel.size, hrel.defs⟩⟩
  · intro id o1 h
    obtain ⟨_, _, o, h3, h4⟩ := hget id o1 h
    have hh := hrel.ok.held _ o h3
    cases o1 with
    | var v1 =>
      cases o with
      | arr es n f => exact h4.elim
      | var v =>
        obtain ⟨b, cs, T, a1, a2, a3, a4, a5⟩ := hh
        obtain ⟨z1, z2⟩ := To.size h4
        refine ⟨b, cs, T, (hth id).trans a1, by rw [hw]; exact a2, by rw [a3, z1], a4, ?_⟩
        have := snd v1 v h4 _ a5
        unfold piece at this ⊢
        rw [z1, z2] at this; exact this
    | arr es n f =>
      cases o with
      | var v => exact h4.elim
      | arr es' n' f' =>
        obtain ⟨rfl, hle, h5⟩ := h4
        simp only [Held] at hh ⊢
        rw [hth id]
        cases ht : e.th (ρ id) with
        | none => rw [ht] at hh; simp only at hh ⊢; omega
        | some b =>
          rw [ht] at hh
          obtain ⟨cs, T, a1, a2, a3, a4, a5⟩ := hh
          refine ⟨cs, T, by rw [hw]; exact a1, by rw [hkap]; exact a2, by rw [hkap]; omega, a4, fun j hj => ?_⟩
          obtain ⟨q1, q2⟩ := h5 j hj
          obtain ⟨r1, r2⟩ := a5 j (by omega)
          rw [q1] at q2 ⊢
          exact ⟨r1, mv _ q2 _ r2⟩
  · intro i j oi oj b h1 h2 h3 h4
    obtain ⟨_, m1, o, k1, _⟩ := hget i oi h1
    obtain ⟨_, m2, o', k2, _⟩ := hget j oj h2
    exact hinj i m1 j m2 (hrel.ok.inj _ _ o o' b k1 k2 ((hth i).symm.trans h3) ((hth j).symm.trans h4))
  · intro i o1 b h1 h2
    obtain ⟨_, _, o, k1, _⟩ := hget i o1 h1
    exact hrel.ok.fresh _ o b k1 ((hth i).symm.trans h2)
  · intro i o1 h1
    obtain ⟨k0, _, o, k1, _⟩ := hget i o1 h1
    exact hus i k0 (hrel.ok.used _ o k1)
  · intro t v1 hv
    have hmem : ∃ p ∈ s1.sl, p.1 = t ∧ p.2 = v1 := by
      clear hob hinj hget hsl hob2 snd hown mv he2 hfz hfz'
      generalize s1.sl = l at hv
      induction l with
      | nil => simp [lk] at hv
      | cons q l ih =>
        obtain ⟨k, u⟩ := q
        rw [lk_cons] at hv
        by_cases hk : k = t
        · rw [if_pos hk] at hv
          exact ⟨(k, u), by simp, hk, Option.some.inj hv⟩
        · rw [if_neg hk] at hv
          obtain ⟨p, h1, h2⟩ := ih hv
          exact ⟨p, by simp [h1], h2⟩
    obtain ⟨p, hp, rfl, rfl⟩ := hmem
    obtain ⟨v, h1, h2⟩ := hsl.mem p hp
    exact snd _ v h2 _ (hrel.slots _ v h1)
  · intro k hk
    subst he2
    exact hk.1

theorem reach_of {s s1 : St} {a : Act} {w : World} (hr : Reach G nt s a w) (c : Cov G nt s s1) : Reach G nt s1 a w := c a w hr
theorem boxTo_arr {ob ob1 : Nat → Option Box} {ρ : Nat → Nat} {nx : Nat} {fz : List Nat} {es n : Nat} {f : Nat → V} (hd : ∀ j, (f j).Data) : BoxTo ob ob1 ρ nx fz (.arr es n f) (.arr es n f) := ⟨rfl, Nat.le_refl _, fun j _ => ⟨rfl, hd j⟩⟩
theorem boxTo_var {ob ob1 : Nat → Option Box} {ρ : Nat → Nat} {nx : Nat} {fz : List Nat} {v : V} (hd : v.Plain) : BoxTo ob ob1 ρ nx fz (.var v) (.var v) := .plain v hd
theorem boxTo_st {ob ob1 : Nat → Option Box} {ρ : Nat → Nat} {nx : Nat} {fz : List Nat} {v1 v : V} (h : To ob ob1 ρ nx fz v1 v) : BoxTo ob ob1 ρ nx fz (.var v1) (.var v) := h
theorem boxTo_take {ob ob1 : Nat → Option Box} {ρ : Nat → Nat} {nx : Nat} {fz : List Nat} {α : Type} (e : α → V) (d : α) {es n : Nat} {l : List α} (hd : ∀ x, (e x).Data) : BoxTo ob ob1 ρ nx fz (.arr es (l.take n).length fun j => e ((l.take n).getD j d)) (.arr es l.length fun j => e (l.getD j d)) :=
  ⟨rfl, List.length_take_le' _ _, fun j hj => ⟨by
    have : j < n := Nat.lt_of_lt_of_le hj (List.length_take_le _ _)
    congr 1
    simp [List.getD_eq_getElem?_getD, List.getElem?_take, this], hd _⟩⟩

/-- A condition that tells whether a slice is nil: both ways are open, the one only where the slice has no element. -/
theorem aw_condq {s : St} {Q : Exit → Act → World → Prop} {t n : Nat} {c d : Code} (hb : lk s.sl t = some (.nilq n)) (h1 : n = 0 → AW G nt s c Q) (h2 : AW G nt s d Q) : AW G nt s (.cond (.tmp t) c d) Q := by
  rintro a w ⟨e, rfl, hrel⟩
  obtain ⟨b, hx, hn⟩ := hrel.slots t _ hb
  have : a.eval (.tmp t) = .bool b := hx
  exact wp_cond_split this (fun hb => h1 (hn hb) a _ ⟨e, rfl, hrel⟩) (fun hb => h2 a _ ⟨e, rfl, hrel⟩)
end

open Classical in
/-- An answer that must be the same, whether an empty slice is nil or not. -/
noncomputable def nilq {β : Type} (n : Nat) (a b : Option β) : Option β := if n = 0 → a = b then b else none
theorem nilq_of {β : Type} {n : Nat} {a b : Option β} {r : β} (h : nilq n a b = some r) : (n = 0 → a = some r) ∧ b = some r := by
  unfold nilq at h
  split at h
  · rename_i hh; exact ⟨fun q => (hh q).trans h, h⟩
  · cases h
theorem nilq_t {β : Type} {n : Nat} {a b : Option β} {r : β} (h : n = 0 → a = some r) (h2 : b = some r) : nilq n a b = some r := by
  unfold nilq
  rw [if_pos (fun q => (h q).trans h2.symm), h2]
end Go.Eng
