/- Chapter 11: the functions are as the document says; pure laws. Conditions: none. -/
import Derived.Test.YtnfjibcfnchkkaaPd
set_option linter.unusedVariables false
set_option linter.unusedSimpArgs false
namespace Go.Proofs.Ytnfjibcfnchkkaa
open Go.Eng R9
theorem ref_loop {low most m : Nat → Int} (hlow : U32 low) (hmost : U32 most) (hm : U32 m) : ∀ (k : Nat) (T : api_Place → Prop) (ok : Bool) (out : Ps) (at_ : api_Place), out.length + k = 100 →
    (ok = true → T at_ ∧ (∀ s, T s → s = at_ ∨ Bef at_ s) ∧ (Lit.int .u32 at_.Round).wf = true ∧ ∀ s, (Base low most m s ∧ Bef at_ s) ↔ (T s ∧ Bef at_ s)) → (ok = false → ∀ s, ¬ T s) →
    ∃ P, loop (ω := Fl ((_root_.List api_Place)) (_root_.List api_Place)) (fun (x3 : Bool × _root_.List api_Place × api_Place) =>
      if (x3.1 && (decide ((x3.2.1.length : Int) < 100))) then
        (fit (x3.2.1 ++ ([x3.2.2] : _root_.List api_Place)).length 24).bind fun _ =>
        (congressref11_Next x3.2.2 false low most m).bind fun v6 =>
        some (.next (v6.2, (x3.2.1 ++ ([x3.2.2] : _root_.List api_Place)), v6.1))
      else
        some (.done (.nx (x3.2.1)))) (ok, out, at_) = some (.nx (out ++ P)) ∧ First P k T
  | 0, T, ok, out, at_, hl, h1, h2 => by
    refine ⟨[], ?_, .inl rfl⟩
    have : decide ((out.length : Int) < 100) = false := decide_eq_false (by omega)
    rw [loop_dn (w := .nx out) (by simp only [this, Bool.and_false, Bool.false_eq_true, if_false])]
    simp
  | k + 1, T, false, out, at_, hl, h1, h2 => by
    refine ⟨[], ?_, .inr (h2 rfl)⟩
    rw [loop_dn (w := .nx out) (by simp only [Bool.false_and, Bool.false_eq_true, if_false])]
    simp
  | k + 1, T, true, out, at_, hl, h1, h2 => by
    obtain ⟨t1, t2, t3, t4⟩ := h1 rfl
    obtain ⟨p, b, e1, e2, e3⟩ := next_eq (same := false) t3 hlow hmost hm
    have hQ : ∀ s, Qn at_ false low most m s ↔ (T s ∧ Bef at_ s) := by
      intro s
      rw [← t4]
      constructor
      · rintro ⟨q1, q2, q3⟩
        refine ⟨q1, ?_⟩
        rcases bef_tri s at_ with q | q | q
        · exact absurd q q2
        · exact q
        · exact absurd (q3 q) (by decide)
      · rintro ⟨q1, q2⟩
        exact ⟨q1, fun q => (q.tr q2).irr, fun q => by rw [q] at q2; exact q2.irr.elim⟩
    obtain ⟨P, f1, f2⟩ := ref_loop hlow hmost hm k (fun s => T s ∧ Bef at_ s) b (out ++ [at_]) p (by simp only [List.length_append, List.length_cons, List.length_nil]; omega) (fun hb => by
      obtain ⟨q1, q2⟩ := e2 hb
      have q3 := (hQ p).1 q1
      refine ⟨q3, fun s hs => q2 s ((hQ s).2 hs), ?_, fun s => ?_⟩
      · obtain ⟨⟨z1, z2, z3, z4, z5, z6⟩, _⟩ := q1
        have w1 := wf_u32.1 (hmost p.From.toNat (by omega))
        have w2 := wf_u32.1 (hlow p.From.toNat (by omega))
        unfold missFr at z5
        rw [wf_u32]; omega
      · constructor
        · rintro ⟨b1, b2⟩
          exact ⟨(t4 s).1 ⟨b1, q3.2.tr b2⟩, b2⟩
        · rintro ⟨b1, b2⟩
          exact ⟨((t4 s).2 b1).1, b2⟩) (fun hb s hs => e3 hb s ((hQ s).2 hs))
    refine ⟨at_ :: P, ?_, by omega, t1, t2, f2⟩
    have hd : decide ((out.length : Int) < 100) = true := decide_eq_true (by omega)
    rw [loop_nx (s' := (b, out ++ [at_], p)) (by
      simp only [hd, Bool.and_self, if_true]
      rw [R9.fit_t (by simp only [List.length_append, List.length_cons, List.length_nil]; omega) (by omega), e1]; rfl), f1]
    simp
theorem u32z : U32 (fun _ => 0) := fun _ _ => rfl
theorem rmissing_eq {a b m : Nat → Int} (ha : U32 a) (hb : U32 b) (hm : U32 m) : ∃ P, congressref11_Missing a b m = some P ∧ First P 100 (Sp m (missFr a) b) := by
  obtain ⟨p, ok, e1, e2, e3⟩ := next_eq (at_ := { Round := 0, From := 0, Slot := 0 }) (same := true) (by rfl) ha hb hm
  have hQ : ∀ s, Qn { Round := 0, From := 0, Slot := 0 } true a b m s ↔ Sp m (missFr a) b s := by
    intro s
    constructor
    · exact fun h => h.1
    · intro h
      refine ⟨h, fun q => ?_, fun _ => rfl⟩
      obtain ⟨z1, z2, z3, z4, z5, z6⟩ := h
      have w := wf_u32.1 (ha s.From.toNat (by omega))
      unfold missFr at z5
      unfold Bef at q; rw [bef_iff] at q; simp only at q; omega
  obtain ⟨P, f1, f2⟩ := ref_loop ha hb hm 100 (Sp m (missFr a) b) ok [] p rfl (fun h => by
    obtain ⟨q1, q2⟩ := e2 h
    have q3 := (hQ p).1 q1
    refine ⟨q3, fun s hs => q2 s ((hQ s).2 hs), ?_, fun s => Iff.rfl⟩
    obtain ⟨z1, z2, z3, z4, z5, z6⟩ := q3
    have w1 := wf_u32.1 (hb p.From.toNat (by omega))
    have w2 := wf_u32.1 (ha p.From.toNat (by omega))
    unfold missFr at z5
    rw [wf_u32]; omega) (fun h s hs => e3 h s ((hQ s).2 hs))
  refine ⟨P, ?_, f2⟩
  unfold congressref11_Missing
  rw [e1]
  simp only [Option.bind_some]
  rw [f1]
  rfl
theorem rrest_eq {g : api_Place} {b m : Nat → Int} (hg : (Lit.int .u32 g.Round).wf = true) (hb : U32 b) (hm : U32 m) : ∃ P, congressref11_Rest g b m = some P ∧ First P 100 (Sp m (restFr g) b) := by
  obtain ⟨p, ok, e1, e2, e3⟩ := next_eq (at_ := g) (same := true) hg u32z hb hm
  have hQ : ∀ s, Qn g true (fun _ => 0) b m s ↔ Sp m (restFr g) b s := by
    intro s
    rw [rest_iff]
    exact ⟨fun h => ⟨h.1, h.2.1⟩, fun h => ⟨h.1, h.2, fun _ => rfl⟩⟩
  obtain ⟨P, f1, f2⟩ := ref_loop u32z hb hm 100 (Sp m (restFr g) b) ok [] p rfl (fun h => by
    obtain ⟨q1, q2⟩ := e2 h
    have q3 := (hQ p).1 q1
    refine ⟨q3, fun s hs => q2 s ((hQ s).2 hs), ?_, fun s => ?_⟩
    · obtain ⟨⟨z1, z2, z3, z4, z5, z6⟩, _⟩ := q1
      have w1 := wf_u32.1 (hb p.From.toNat (by omega))
      unfold missFr at z5
      dsimp only at z5
      rw [wf_u32]; omega
    · rw [rest_iff]
      constructor
      · rintro ⟨b1, b2⟩
        exact ⟨⟨b1, fun q => q1.2.1 (b2.tr q)⟩, b2⟩
      · rintro ⟨b1, b2⟩; exact ⟨b1.1, b2⟩) (fun h s hs => e3 h s ((hQ s).2 hs))
  refine ⟨P, ?_, f2⟩
  unfold congressref11_Rest
  have e0 : (aset (fun _ => 0) [] : Nat → Int) = fun _ => 0 := rfl
  rw [e0, e1]
  simp only [Option.bind_some]
  rw [f1]
  rfl
theorem places_refl (q : Ps) (hl : q.length ≤ 1000000) : congressref11_Places q q = some true := by
  unfold congressref11_Places
  rw [if_neg (by simp)]
  rw [loop_seq (s0 := (0 : Int)) (fun n => (n : Int)) q.length (w := .nx ()) rfl (fun n hn => by
    have hn' : (n : Int) < (q.length : Int) := by omega
    have e1 : IntKind.i64.wrap ((n : Int) + 1) = ((n + 1 : Nat) : Int) := by rw [w64] <;> omega
    have e2 : b_api_Place (q.getD n z_api_Place) (q.getD n z_api_Place) = true := beqP.2 rfl
    simp only [hn', decide_true, if_true, ib_n hn, Option.bind_some, Int.toNat_natCast, e1, lt, e2, Bool.not_true, Bool.false_eq_true, if_false]) (by simp)]
  rfl
theorem two_at (a b : Int) (j : Nat) : aset (fun _ => (0 : Int)) [(0, a), (1, b)] j = if j = 1 then b else if j = 0 then a else 0 := rfl
theorem one_at (a : Int) (j : Nat) : aset (fun _ => (0 : Int)) [(0, a)] j = if j = 0 then a else 0 := rfl
theorem u32_two {a b : Int} (ha : (Lit.int .u32 a).wf = true) (hb : (Lit.int .u32 b).wf = true) : U32 (aset (fun _ => (0 : Int)) [(0, a), (1, b)]) := by
  intro j hj
  rw [two_at]
  split
  · exact hb
  · split
    · exact ha
    · rfl
theorem u32_one {a : Int} (ha : (Lit.int .u32 a).wf = true) : U32 (aset (fun _ => (0 : Int)) [(0, a)]) := by
  intro j hj
  rw [one_at]
  split
  · exact ha
  · rfl
theorem nat_of {f : Nat → Int} (h : U32 f) : Nat8 f := fun j hj => (wf_u32.1 (h j hj)).1
theorem fixed_eq : congresslaw11_fixed = some true := by
  obtain ⟨P, p1, p2⟩ := missing_eq (a := aset (fun _ => 0) [(0, 1), (1, 2)]) (b := aset (fun _ => 0) [(0, 2), (1, 3)]) (m := aset (fun _ => 0) [(0, 1), (1, 1)]) (u32_two rfl rfl) (u32_two rfl rfl)
  obtain ⟨R, r1, r2⟩ := rest_eq (g := { Round := 0, From := 0, Slot := 0 }) (b := aset (fun _ => 0) [(0, 1), (1, 1)]) (m := aset (fun _ => 0) [(0, 1), (1, 1)]) rfl (u32_two rfl rfl)
  have mem2 : ∀ s : api_Place, 0 ≤ s.From → s.From < 8 → aset (fun _ => (0 : Int)) [(0, 1), (1, 1)] s.From.toNat ≠ 0 → s.From = 0 ∨ s.From = 1 := by
    intro s h0 h8 h
    rw [two_at] at h
    by_cases h1 : s.From.toNat = 1
    · omega
    · rw [if_neg h1] at h
      by_cases h2 : s.From.toNat = 0
      · omega
      · rw [if_neg h2] at h; exact absurd rfl h
  have plx : ∀ (s : api_Place) (i r : Int), s.Slot = 0 → s.From = i → s.Round = r → s = pl i r := by
    intro s i r h1 h2 h3; rw [pl_of h1, h2, h3]
  have eP : P = [pl 0 2, pl 1 3] := by
    refine First.uniq _ _ 100 _ p2 ⟨by omega, ?_, ?_, by omega, ⟨?_, rfl⟩, ?_, .inr ?_⟩
    · exact ⟨rfl, by decide, by decide, by decide, by decide, by decide⟩
    · rintro s ⟨z1, z2, z3, z4, z5, z6⟩
      rcases mem2 s z2 z3 z4 with h | h <;> unfold missFr at z5 <;> rw [h] at z5 z6
      · left; exact plx s 0 2 z1 h (by simp only [two_at] at z5 z6; simp at z5 z6; omega)
      · right
        unfold Bef; rw [bef_iff]
        simp only [two_at] at z5 z6; simp at z5 z6
        simp only [pl]; omega
    · exact ⟨rfl, by decide, by decide, by decide, by decide, by decide⟩
    · rintro s ⟨⟨z1, z2, z3, z4, z5, z6⟩, hb⟩
      left
      rcases mem2 s z2 z3 z4 with h | h <;> unfold missFr at z5 <;> rw [h] at z5 z6
      · exfalso
        unfold Bef at hb; rw [bef_iff] at hb
        simp only [two_at] at z5 z6; simp at z5 z6
        simp only [pl] at hb; omega
      · exact plx s 1 3 z1 h (by simp only [two_at] at z5 z6; simp at z5 z6; omega)
    · rintro s ⟨⟨⟨z1, z2, z3, z4, z5, z6⟩, _⟩, hb⟩
      unfold Bef at hb; rw [bef_iff] at hb
      rcases mem2 s z2 z3 z4 with h | h <;> unfold missFr at z5 <;> rw [h] at z5 z6 <;> simp only [two_at] at z5 z6 <;> simp at z5 z6 <;> simp only [pl] at hb <;> omega
  have eR : R = [pl 0 1, pl 1 1] := by
    have fr1 : ∀ i : Int, 0 ≤ i → restFr { Round := 0, From := 0, Slot := 0 } i = 1 := by
      intro i hi
      unfold restFr
      have : befF (pl i 0) { Round := 0, From := 0, Slot := 0 } = false := by
        rw [Bool.eq_false_iff]; intro h; rw [bef_iff] at h; simp only [pl] at h; omega
      simp only [this, Bool.false_eq_true, if_false]
      decide
    refine First.uniq _ _ 100 _ r2 ⟨by omega, ?_, ?_, by omega, ⟨?_, rfl⟩, ?_, .inr ?_⟩
    · exact ⟨rfl, by decide, by decide, by decide, by decide, by decide⟩
    · rintro s ⟨z1, z2, z3, z4, z5, z6⟩
      rw [fr1 _ z2] at z5
      rcases mem2 s z2 z3 z4 with h | h <;> rw [h] at z6
      · left; exact plx s 0 1 z1 h (by simp only [two_at] at z6; simp at z6; omega)
      · right
        unfold Bef; rw [bef_iff]
        simp only [two_at] at z6; simp at z6
        simp only [pl]; omega
    · exact ⟨rfl, by decide, by decide, by decide, by decide, by decide⟩
    · rintro s ⟨⟨z1, z2, z3, z4, z5, z6⟩, hb⟩
      left
      rw [fr1 _ z2] at z5
      rcases mem2 s z2 z3 z4 with h | h <;> rw [h] at z6
      · exfalso
        unfold Bef at hb; rw [bef_iff] at hb
        simp only [two_at] at z6; simp at z6
        simp only [pl] at hb; omega
      · exact plx s 1 1 z1 h (by simp only [two_at] at z6; simp at z6; omega)
    · rintro s ⟨⟨⟨z1, z2, z3, z4, z5, z6⟩, _⟩, hb⟩
      rw [fr1 _ z2] at z5
      unfold Bef at hb; rw [bef_iff] at hb
      rcases mem2 s z2 z3 z4 with h | h <;> rw [h] at z6 <;> simp only [two_at] at z6 <;> simp at z6 <;> simp only [pl] at hb <;> omega
  unfold congresslaw11_fixed
  rw [p1, r1, union_eq _ (by simp), union_eq _ (by simp), within_eq (nat_of (u32_one rfl)), within_eq (nat_of (u32_one rfl)), eP, eR]
  have u1 : b_a8_u32 (uniF [aset (fun _ => 0) [(0, 1), (1, 3)], aset (fun _ => 0) [(0, 2), (1, 2)]]) (aset (fun _ => 0) [(0, 2), (1, 3)]) = true := by decide
  have u2 : b_a8_u32 (uniF []) (aset (fun _ => 0) []) = true := by decide
  have u3 : leB (aset (fun _ => 0) [(0, 1)]) (aset (fun _ => 0) [(0, 1)]) = true := by decide
  have u4 : leB (aset (fun _ => 0) [(0, 2)]) (aset (fun _ => 0) [(0, 1)]) = false := by decide
  have u5 : congressref11_Places [pl 0 2, pl 1 3] [({ Round := 2, From := 0, Slot := 0 } : api_Place), ({ Round := 3, From := 1, Slot := 0 } : api_Place)] = some true := places_refl [pl 0 2, pl 1 3] (by decide)
  simp only [Option.bind_some, whn, u1, u2, u3, u4, u5, Bool.and_self, if_true, Bool.not_false, lt]
  rfl
theorem pure_cutTells (a0 : (_root_.List (Nat → Int))) (a1 : congresslaw11_Two) (w0 : (a0.length ≤ maxLen ∧ a0.length * 32 ≤ 140737488351232) ∧ ∀ j, j < a0.length → ∀ k, k < 8 → (Lit.int .u32 ((a0.getD j (fun _ => 0)) k)).wf = true) (w1 : w_congresslaw11_Two a1) : congresslaw11_CutTells a0 a1 = some true := by
  obtain ⟨wA, wB, wM, wG⟩ := w1
  obtain ⟨P, p1, p2⟩ := missing_eq (m := a1.M) wA wB
  obtain ⟨P', p3, p4⟩ := rmissing_eq wA wB wM
  obtain ⟨R, r1, r2⟩ := rest_eq (m := a1.M) wG.1 wB
  obtain ⟨R', r3, r4⟩ := rrest_eq wG.1 wB wM
  have e1 := First.uniq _ _ _ _ p4 p2
  have e2 := First.uniq _ _ _ _ r4 r2
  subst e1; subst e2
  have l1 := First.len _ _ _ p2
  have l2 := First.len _ _ _ r2
  unfold congresslaw11_CutTells
  rw [fixed_eq, union_eq _ (by omega), runion_eq _ (by omega), within_eq (nat_of wB), rwithin_eq, p1, p3, r1, r3]
  simp only [Option.bind_some, whn, if_true, brefl8, Bool.and_self, beq_self_eq_true, places_refl P' (by omega), places_refl R' (by omega)]
theorem leB_ext {u b : Nat → Int} {l : _root_.List (Nat → Int)} (hu : u = uniF l) (hb : Nat8 b) : leB u b = l.all fun g => leB g b := by
  rw [Bool.eq_iff_iff, leB_iff, List.all_eq_true]
  constructor
  · intro h g hg
    rw [leB_iff]
    intro j hj
    have := h j hj
    rw [hu, uni_le hj] at this
    exact this.2 g hg
  · intro h j hj
    rw [hu, uni_le hj]
    exact ⟨hb j hj, fun g hg => leB_iff.1 (h g hg) j hj⟩
theorem pure_cutUnion (a0 : (_root_.List (Nat → Int))) (a1 : (_root_.List (Nat → Int))) (a2 : (Nat → Int)) (w0 : (a0.length ≤ maxLen ∧ a0.length * 32 ≤ 140737488351232) ∧ ∀ j, j < a0.length → ∀ k, k < 8 → (Lit.int .u32 ((a0.getD j (fun _ => 0)) k)).wf = true) (w1 : (a1.length ≤ maxLen ∧ a1.length * 32 ≤ 140737488351232) ∧ ∀ j, j < a1.length → ∀ k, k < 8 → (Lit.int .u32 ((a1.getD j (fun _ => 0)) k)).wf = true) (w2 : ∀ j, j < 8 → (Lit.int .u32 (a2 j)).wf = true) : congresslaw11_CutUnion a0 a1 a2 = some true := by
  have nb := nat_of w2
  unfold congresslaw11_CutUnion
  rw [fixed_eq]
  simp only [Option.bind_some, lt, Bool.not_true, Bool.false_or]
  by_cases hb : ((decide ((a0.length : Int) > 50)) || (decide ((a1.length : Int) > 50))) = true
  · rw [if_pos hb]
  · rw [if_neg hb]
    rw [Bool.not_eq_true, Bool.or_eq_false_iff, decide_eq_false_iff_not, decide_eq_false_iff_not] at hb
    rw [union_eq a0 (by omega)]
    simp only [Option.bind_some]
    obtain ⟨u, hu⟩ : ∃ u, u = uniF a0 := ⟨_, rfl⟩
    have nu : Nat8 u := by rw [hu]; exact uni_nat a0
    rw [← hu]
    have hin : ∀ g ∈ a0, leB g u = true := by
      have h := leB_ext (b := u) hu nu
      have h2 : leB u u = true := leB_iff.2 fun _ _ => Int.le_refl _
      rw [h2] at h
      exact List.all_eq_true.1 h.symm
    rw [loop_seq (s0 := (true, (0 : Int))) (fun n => ((a0.take n).all (fun g => leB g a2), (n : Int))) a0.length (w := .nx (a0.all fun g => leB g a2)) rfl (fun n hn => by
      have hn' : (n : Int) < (a0.length : Int) := by omega
      have e1 : IntKind.i64.wrap ((n : Int) + 1) = ((n + 1 : Nat) : Int) := by rw [w64] <;> omega
      have ibt : ∀ g, ibg g (n : Int) a0.length = some () := fun g => ibg_t (fun _ => by omega)
      simp only [hn', decide_true, if_true, ib_n hn, Option.bind_some, Int.toNat_natCast, e1, ibt, whn, within_eq nu, within_eq nb, hin _ (getD_in (d := (fun _ => (0 : Int))) hn), Bool.not_true, Bool.false_eq_true, if_false]
      rw [take_s (d := (fun _ => (0 : Int))) hn, List.all_append]
      cases (a0.take n).all (fun g => leB g a2) <;> simp) (by simp)]
    simp only [Option.bind_some, Fl.elim, List.nil_append]
    rw [R9.fit_t (by omega) (by omega), R9.fit_t (by rw [List.length_append]; omega) (by omega), within_eq nb, union_eq a1 (by omega), union_eq (a1 ++ a0) (by rw [List.length_append]; omega)]
    simp only [Option.bind_some, leB_ext hu nb, beq_self_eq_true, whn, if_true]
    rw [union_eq _ (by simp), union_eq _ (by simp)]
    have e2 : b_a8_u32 (uniF [u, uniF a1]) (uniF (a1 ++ a0)) = true := all8.2 fun j hj => uni_eq hj fun r => by
      rw [uni_le hj]
      constructor
      · rintro ⟨h1, h2⟩
        refine ⟨h1, fun g hg => ?_⟩
        rcases List.mem_cons.1 hg with rfl | hg
        · rw [hu, uni_le hj]; exact ⟨h1, fun g hg => h2 g (List.mem_append.2 (.inr hg))⟩
        · rcases List.mem_cons.1 hg with rfl | hg
          · rw [uni_le hj]; exact ⟨h1, fun g hg => h2 g (List.mem_append.2 (.inl hg))⟩
          · cases hg
      · rintro ⟨h1, h2⟩
        have a := h2 u (by simp)
        have b := h2 (uniF a1) (by simp)
        rw [hu, uni_le hj] at a
        rw [uni_le hj] at b
        refine ⟨h1, fun g hg => ?_⟩
        rcases List.mem_append.1 hg with h | h
        · exact b.2 g h
        · exact a.2 g h
    have e3 : b_a8_u32 (uniF [u, u]) u = true := all8.2 fun j hj => uni_eq hj fun r => by
      have := nu j hj
      constructor
      · intro h
        refine ⟨by omega, fun g hg => ?_⟩
        rcases List.mem_cons.1 hg with rfl | hg
        · exact h
        · rcases List.mem_cons.1 hg with rfl | hg
          · exact h
          · cases hg
      · rintro ⟨_, h⟩; exact h u (by simp)
    simp only [Option.bind_some, e2, e3, Bool.and_self, if_true]
theorem pure_cutWithin (a0 : (Nat → Int)) (a1 : (Nat → Int)) (a2 : (Nat → Int)) (w0 : ∀ j, j < 8 → (Lit.int .u32 (a0 j)).wf = true) (w1 : ∀ j, j < 8 → (Lit.int .u32 (a1 j)).wf = true) (w2 : ∀ j, j < 8 → (Lit.int .u32 (a2 j)).wf = true) : congresslaw11_CutWithin a0 a1 a2 = some true := by
  unfold congresslaw11_CutWithin
  rw [fixed_eq, within_eq (nat_of w0), within_eq (nat_of w1), within_eq (nat_of w0), within_eq (nat_of w2), within_eq (nat_of w2)]
  have h0 : leB a0 a0 = true := leB_iff.2 fun _ _ => Int.le_refl _
  simp only [Option.bind_some, whn, h0, Bool.not_true, Bool.not_false, if_true, Bool.or_self, Bool.true_and, Bool.false_or]
  have hanti : leB a0 a1 = true → leB a1 a0 = b_a8_u32 a0 a1 := by
    intro h
    rw [Bool.eq_iff_iff, all8, leB_iff]
    have h := leB_iff.1 h
    constructor
    · intro h2 j hj; have := h j hj; have := h2 j hj; omega
    · intro h2 j hj; have := h2 j hj; omega
  have htr : leB a0 a1 = true → leB a1 a2 = true → leB a0 a2 = true := by
    intro h1 h2
    have h1 := leB_iff.1 h1
    have h2 := leB_iff.1 h2
    exact leB_iff.2 fun j hj => Int.le_trans (h1 j hj) (h2 j hj)
  cases h1 : leB a0 a1 with
  | false => simp
  | true =>
    rw [hanti h1]
    cases h2 : leB a1 a2 with
    | false => simp
    | true => rw [htr h1 h2]; simp
end Go.Proofs.Ytnfjibcfnchkkaa
