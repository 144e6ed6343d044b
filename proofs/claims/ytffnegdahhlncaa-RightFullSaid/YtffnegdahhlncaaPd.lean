/- Pure laws of chapter 16: tables that may be, and what is done with them. Conditions: none. -/
import Derived.Test.YtffnegdahhlncaaPc
set_option linter.unusedVariables false
set_option linter.unusedSimpArgs false
namespace Go.Proofs.Ytffnegdahhlncaa
open Go.Eng
/-- A table that may be. -/
structure Ok (t : Tab) : Prop where
  each : ∀ r ∈ t, r.Handle ≠ 0 ∧ gv r.Give = true
  one : (t.map (·.Handle)).Nodup
  len : t.length ≤ 16
theorem Ok.room {t : Tab} (h : Ok t) : Room t := ⟨by have := h.len; have := big16; omega, by have := h.len; omega⟩
theorem Ok.uniq {t : Tab} (h : Ok t) {i j : Nat} (hi : i < t.length) (hj : j < t.length) (e : (t.getD i z_api_Right).Handle = (t.getD j z_api_Right).Handle) : i = j := by
  have hi' : i < (t.map (·.Handle)).length := by simpa using hi
  have hj' : j < (t.map (·.Handle)).length := by simpa using hj
  refine (List.getElem_inj h.one (h₀ := hi') (h₁ := hj')).1 ?_
  rw [List.getD_eq_getElem?_getD, List.getD_eq_getElem?_getD, List.getElem?_eq_getElem hi, List.getElem?_eq_getElem hj] at e
  simpa using e
theorem may_iff (t : Tab) : mayF t = true ↔ Ok t := by
  unfold mayF
  simp only [Bool.and_eq_true, List.all_eq_true, List.mem_range, decide_eq_true_eq, Bool.not_eq_true', okB, Bool.or_eq_false_iff, Bool.not_eq_false', bne_eq_false_iff_eq, beq_eq_false_iff_ne]
  constructor
  · rintro ⟨h1, h2⟩
    refine ⟨fun r hr => ?_, ?_, h2⟩
    · obtain ⟨i, hi, rfl⟩ := List.getElem_of_mem hr
      have := h1 i hi
      rw [List.getD_eq_getElem?_getD, List.getElem?_eq_getElem hi] at this
      exact ⟨this.1.1, this.1.2⟩
    · rw [List.nodup_iff_pairwise_ne, List.pairwise_iff_getElem]
      intro i j hi hj hij e
      have hi' : i < t.length := by simpa using hi
      have hj' : j < t.length := by simpa using hj
      have a := (h1 i hi').2
      have b := (h1 j hj').2
      rw [List.getD_eq_getElem?_getD, List.getElem?_eq_getElem hi'] at a
      rw [List.getD_eq_getElem?_getD, List.getElem?_eq_getElem hj'] at b
      simp only [List.getElem_map] at e
      simp only [Option.getD_some] at a b
      rw [← e, a] at b
      omega
  · intro h
    refine ⟨fun i hi => ?_, h.len⟩
    have hm : t.getD i z_api_Right ∈ t := getD_in hi
    refine ⟨h.each _ hm, ?_⟩
    rcases findF_spec t (t.getD i z_api_Right).Handle with ⟨h1, h2⟩ | ⟨k, h1, h2, h3, h4, _⟩
    · unfold getF at h2
      rw [List.find?_eq_none] at h2
      have := h2 _ hm
      simp at this
    · rw [h2, h.uniq h1 hi h4]
theorem get_iff {t : Tab} (h : Ok t) (o : Int) (r : api_Right) : getF t o = some r ↔ r ∈ t ∧ r.Handle = o := by
  constructor
  · intro q
    exact ⟨List.mem_of_find?_eq_some q, by simpa using List.find?_some q⟩
  · rintro ⟨q1, q2⟩
    obtain ⟨i, hi, rfl⟩ := List.getElem_of_mem q1
    have hd : t.getD i z_api_Right = t[i] := by rw [List.getD_eq_getElem?_getD, List.getElem?_eq_getElem hi]; rfl
    rcases findF_spec t o with ⟨h1, h2⟩ | ⟨k, h1, h2, h3, h4, _⟩
    · unfold getF at h2
      rw [List.find?_eq_none] at h2
      have := h2 _ q1
      simp [q2] at this
    · have : k = i := h.uniq h1 hi (by rw [h4, hd, q2])
      subst this
      rw [h3, hd]
theorem get_none {t : Tab} (o : Int) : getF t o = none ↔ ∀ r ∈ t, r.Handle ≠ o := by
  unfold getF; rw [List.find?_eq_none]; simp
/-- Behind a mint. -/
theorem mint_ok {t : Tab} (h : Ok t) {a s g : Int} {u : Tab} (e : mintF t a s g = (u, 0)) : Ok u ∧ u.length = t.length + 1 ∧ gv g = true ∧ getF t a = none ∧ ∀ r, r ∈ u ↔ r ∈ t ∨ r = { Handle := a, Session := s, Give := g, Revoked := false } := by
  unfold mintF at e
  split at e
  · simp at e
  · rename_i q
    split at e
    · simp at e
    · rename_i hl
      have e' := (Prod.mk.inj e).1
      subst e'
      simp only [Bool.or_eq_true, not_or, Bool.not_eq_true, Bool.not_eq_false', beq_eq_false_iff_ne, Option.isSome_eq_false_iff, Option.isNone_iff_eq_none] at q
      obtain ⟨⟨q1, q2⟩, q3⟩ := q
      have q3' := (get_none a).1 q3
      refine ⟨⟨fun r hr => ?_, ?_, by simp; omega⟩, by simp, q2, q3, fun r => by simp⟩
      · rcases List.mem_append.1 hr with hr | hr
        · exact h.each r hr
        · simp at hr; subst hr; exact ⟨q1, q2⟩
      · rw [List.map_append, List.nodup_append]
        refine ⟨h.one, by simp, fun x hx y hy => ?_⟩
        simp at hx hy
        obtain ⟨r, hr, rfl⟩ := hx
        subst hy
        exact q3' r hr
/-- Behind a revocation. -/
theorem rev_ok {t : Tab} (h : Ok t) {a : Int} {u : Tab} (e : revF t a = (u, 0)) : Ok u ∧ u.length = t.length ∧ ∃ r0, r0 ∈ t ∧ r0.Handle = a ∧ ∀ r, r ∈ u ↔ (r ∈ t ∧ r.Handle ≠ a) ∨ r = { r0 with Revoked := true } := by
  unfold revF at e
  rcases findF_spec t a with ⟨h1, h2⟩ | ⟨i, h1, h2, h3, h4, _⟩
  · rw [h2] at e; simp at e
  · rw [h3, h2] at e
    simp only [Int.toNat_natCast] at e
    split at e
    · simp at e
    · have e' := (Prod.mk.inj e).1
      subst e'
      have hm : t.getD i z_api_Right ∈ t := getD_in h1
      have hd : t.getD i z_api_Right = t[i] := by rw [List.getD_eq_getElem?_getD, List.getElem?_eq_getElem h1]; rfl
      have mem : ∀ r, r ∈ t.set i { t.getD i z_api_Right with Revoked := true } ↔ (r ∈ t ∧ r.Handle ≠ a) ∨ r = { t.getD i z_api_Right with Revoked := true } := by
        intro r
        constructor
        · intro hr
          obtain ⟨j, hj, rfl⟩ := List.getElem_of_mem hr
          have hj' : j < t.length := by simpa using hj
          by_cases hij : i = j
          · right; subst hij; simp
          · left
            rw [List.getElem_set_ne hij]
            refine ⟨List.getElem_mem _, fun q => hij (h.uniq h1 hj' ?_)⟩
            rw [h4, List.getD_eq_getElem?_getD, List.getElem?_eq_getElem hj']; exact q.symm
        · rintro (⟨q1, q2⟩ | rfl)
          · obtain ⟨j, hj, rfl⟩ := List.getElem_of_mem q1
            have hij : i ≠ j := by rintro rfl; exact q2 (hd ▸ h4)
            have : (t.set i { t.getD i z_api_Right with Revoked := true })[j]'(by simpa using hj) = t[j] := List.getElem_set_ne hij _
            rw [← this]; exact List.getElem_mem _
          · exact List.mem_set h1 _
      refine ⟨⟨fun r hr => ?_, ?_, by simpa using h.len⟩, by simp, _, hm, h4, mem⟩
      · rcases (mem r).1 hr with q | rfl
        · exact h.each r q.1
        · exact h.each (t.getD i z_api_Right) hm
      · rw [List.map_set]
        have : (t.map (·.Handle)).set i (t.getD i z_api_Right).Handle = t.map (·.Handle) := by
          apply List.ext_getElem (by simp)
          intro j q1 q2
          by_cases hij : i = j
          · subst hij; simp only [List.getElem_set_self, List.getElem_map, hd]
          · rw [List.getElem_set_ne hij]
        rw [this]; exact h.one
theorem rev_no {t : Tab} (h : Ok t) {a : Int} (e : (revF t a).2 ≠ 0) : ∀ r ∈ t, r.Handle = a → r.Revoked = true := by
  intro r hr ha
  have hg := (get_iff h a r).2 ⟨hr, ha⟩
  unfold revF at e
  rw [hg] at e
  simp only at e
  split at e
  · assumption
  · exact absurd rfl e
theorem drop_ok {t : Tab} (h : Ok t) (s : Int) : Ok (dropF t s) ∧ ∀ r, r ∈ dropF t s ↔ r ∈ t ∧ r.Session ≠ s := by
  have mem : ∀ r, r ∈ dropF t s ↔ r ∈ t ∧ r.Session ≠ s := fun r => by simp [dropF]
  refine ⟨⟨fun r hr => h.each r ((mem r).1 hr).1, ?_, ?_⟩, mem⟩
  · exact (List.Sublist.map _ List.filter_sublist).nodup h.one
  · have := List.length_filter_le (fun r : api_Right => !(r.Session == s)) t
    have := h.len
    unfold dropF; omega
def doneF (t : Tab) (x : congresslaw16_Do) : Tab :=
  if x.Do = 0 then (if (mintF t x.Handle x.Session x.Give).2 = 0 then (mintF t x.Handle x.Session x.Give).1 else t)
  else if x.Do = 1 then (if (revF t x.Handle).2 = 0 then (revF t x.Handle).1 else t)
  else if x.Do = 2 then dropF t x.Session else t
theorem done_eq {t : Tab} (hr : Room t) (x : congresslaw16_Do) : congresslaw16_done t x = some (doneF t x) := by
  unfold congresslaw16_done doneF
  simp only [jn, mint_eq _ _ _ _ hr, rev_eq _ _ hr, drop_eq _ _ hr, Option.bind_some, beq_iff_eq]
  repeat' split
  all_goals rfl
theorem done_ok {t : Tab} (h : Ok t) (x : congresslaw16_Do) : Ok (doneF t x) := by
  unfold doneF
  split
  · split
    · rename_i q; exact (mint_ok h (a := x.Handle) (s := x.Session) (g := x.Give) (Prod.ext rfl q)).1
    · exact h
  · split
    · split
      · rename_i q; exact (rev_ok h (a := x.Handle) (Prod.ext rfl q)).1
      · exact h
    · split
      · exact (drop_ok h _).1
      · exact h
theorem done_other {t : Tab} (h : Ok t) (x : congresslaw16_Do) (hx : x.Do ≠ 2) {o : Int} (ho : o ≠ x.Handle) : getF (doneF t x) o = getF t o := by
  have hk := done_ok h x
  apply Option.ext
  intro r
  rw [show (getF (doneF t x) o = some r) = _ from propext (get_iff hk o r), show (getF t o = some r) = _ from propext (get_iff h o r)]
  refine and_congr_left fun hr => ?_
  unfold doneF
  split
  · split
    · rename_i q
      rw [(mint_ok h (a := x.Handle) (s := x.Session) (g := x.Give) (Prod.ext rfl q)).2.2.2.2 r]
      constructor
      · rintro (q | rfl)
        · exact q
        · exact absurd hr (Ne.symm ho)
      · exact .inl
    · rfl
  · split
    · split
      · rename_i q
        obtain ⟨_, _, r0, p1, p2, p3⟩ := rev_ok h (a := x.Handle) (Prod.ext rfl q)
        rw [p3 r]
        constructor
        · rintro (q | rfl)
          · exact q.1
          · exact absurd (hr.symm.trans p2) ho
        · exact fun q => .inl ⟨q, by rw [hr]; exact ho⟩
      · rfl
    · rfl
theorem pure_rightApart (a0 : (_root_.List api_Right)) (a1 : congresslaw16_Do) (a2 : congresslaw16_Do) (w0 : (a0.length ≤ maxLen ∧ a0.length * 32 ≤ 140737488351232) ∧ ∀ j, j < a0.length → w_api_Right (a0.getD j z_api_Right)) (w1 : w_congresslaw16_Do a1) (w2 : w_congresslaw16_Do a2) : congresslaw16_RightApart a0 a1 a2 = some true := by
  have hr : Room a0 := w0.1
  unfold congresslaw16_RightApart
  simp only [fixed_eq, Option.bind_some, whn, Bool.not_true, Bool.not_false, if_true, may_eq _ hr, Bool.false_or]
  by_cases hm : mayF a0 = true
  · have hok := (may_iff a0).1 hm
    simp only [hm, Bool.not_true, Bool.false_or]
    by_cases hc : ((a2.Handle == a1.Handle) || (a1.Do == 2)) = true
    · rw [if_pos hc]
    · rw [if_neg hc]
      simp only [Bool.or_eq_true, beq_iff_eq, not_or] at hc
      have hk := done_ok hok a1
      simp only [check_eq _ _ _ hr, done_eq hr, Option.bind_some, check_eq _ _ _ hk.room, checkF, done_other hok a1 hc.2 hc.1, beq_self_eq_true, Bool.and_self, Bool.and_true, if_true, may_eq _ hk.room, (may_iff _).2 hk]
  · have hm' : mayF a0 = false := by simpa using hm
    simp only [hm', Bool.not_false, Bool.true_or, if_true]

/-- What is told of one handle, ahead and behind. -/
def Inv (o : Int) (t : Tab) (session give : Int) : Prop :=
  Ok t ∧ (give = 0 → ∀ r ∈ t, r.Handle = o → r.Revoked = true) ∧ (give ≠ 0 → ∃ r ∈ t, r.Handle = o ∧ r.Session = session ∧ r.Give = give ∧ r.Revoked = false)
theorem gv_ne {g : Int} (h : gv g = true) : g ≠ 0 := by simp [gv] at h; omega
theorem inv_step {o : Int} {t : Tab} {s g : Int} (h : Inv o t s g) (x : congresslaw16_Do) (s' g' g2 : Int)
    (e1 : (s', g') = if (((x.Do == 0) && (x.Handle == o)) && decide (((doneF t x).length : Int) > (t.length : Int))) = true then (x.Session, x.Give) else (s, g))
    (e2 : g2 = if (((x.Do == 1) && (x.Handle == o)) || ((x.Do == 2) && (x.Session == s'))) = true then 0 else g') : Inv o (doneF t x) s' g2 := by
  obtain ⟨hok, i1, i2⟩ := h
  refine ⟨done_ok hok x, ?_⟩
  by_cases d0 : x.Do = 0
  · have hn : (((x.Do == 1) && (x.Handle == o)) || ((x.Do == 2) && (x.Session == s'))) = false := by simp [d0]
    rw [hn] at e2
    simp only [Bool.false_eq_true, if_false] at e2
    subst e2
    by_cases q : (mintF t x.Handle x.Session x.Give).2 = 0
    · obtain ⟨_, m2, m3, m4, m5⟩ := mint_ok hok (a := x.Handle) (s := x.Session) (g := x.Give) (u := (mintF t x.Handle x.Session x.Give).1) (Prod.ext rfl q)
      have hd : doneF t x = (mintF t x.Handle x.Session x.Give).1 := by unfold doneF; rw [if_pos d0, if_pos q]
      rw [hd] at e1 ⊢
      by_cases ho : x.Handle = o
      · rw [if_pos (by rw [m2]; simp [d0, ho]; omega)] at e1
        cases e1
        exact ⟨fun q => absurd q (gv_ne m3), fun _ => ⟨_, (m5 _).2 (.inr rfl), ho, rfl, rfl, rfl⟩⟩
      · rw [if_neg (by simp [ho])] at e1
        cases e1
        refine ⟨fun q r hr hh => ?_, fun q => ?_⟩
        · rcases (m5 r).1 hr with k | k
          · exact i1 q r k hh
          · subst k; exact absurd hh ho
        · obtain ⟨r, k1, k2⟩ := i2 q
          exact ⟨r, (m5 r).2 (.inl k1), k2⟩
    · have hd : doneF t x = t := by unfold doneF; rw [if_pos d0, if_neg q]
      rw [hd] at e1 ⊢
      rw [if_neg (by simp)] at e1
      cases e1
      exact ⟨i1, i2⟩
  · rw [if_neg (by simp [d0])] at e1
    cases e1
    by_cases d1 : x.Do = 1
    · by_cases q : (revF t x.Handle).2 = 0
      · obtain ⟨_, _, r0, m1, m2, m3⟩ := rev_ok hok (a := x.Handle) (u := (revF t x.Handle).1) (Prod.ext rfl q)
        have hd : doneF t x = (revF t x.Handle).1 := by unfold doneF; rw [if_neg d0, if_pos d1, if_pos q]
        rw [hd]
        by_cases ho : x.Handle = o
        · rw [if_pos (by simp [d1, ho])] at e2
          subst e2
          refine ⟨fun _ r hr hh => ?_, fun q => absurd rfl q⟩
          rcases (m3 r).1 hr with k | rfl
          · exact absurd (hh.trans ho.symm) k.2
          · rfl
        · rw [if_neg (by simp [d1, ho])] at e2
          subst e2
          refine ⟨fun q r hr hh => ?_, fun q => ?_⟩
          · rcases (m3 r).1 hr with k | rfl
            · exact i1 q r k.1 hh
            · rfl
          · obtain ⟨r, k1, k2, k3⟩ := i2 q
            exact ⟨r, (m3 r).2 (.inl ⟨k1, by rw [k2]; exact Ne.symm ho⟩), k2, k3⟩
      · have hd : doneF t x = t := by unfold doneF; rw [if_neg d0, if_pos d1, if_neg q]
        rw [hd]
        have hrn := rev_no hok q
        by_cases ho : x.Handle = o
        · rw [if_pos (by simp [d1, ho])] at e2
          subst e2
          exact ⟨fun _ r hr hh => hrn r hr (hh.trans ho.symm), fun q => absurd rfl q⟩
        · rw [if_neg (by simp [d1, ho])] at e2
          subst e2
          exact ⟨i1, i2⟩
    · by_cases d2 : x.Do = 2
      · have hd : doneF t x = dropF t x.Session := by unfold doneF; rw [if_neg d0, if_neg d1, if_pos d2]
        rw [hd]
        have mem := (drop_ok hok x.Session).2
        by_cases hs : x.Session = s
        · rw [if_pos (by simp [d2, hs])] at e2
          subst e2
          refine ⟨fun _ r hr hh => ?_, fun q => absurd rfl q⟩
          obtain ⟨k1, k2⟩ := (mem r).1 hr
          by_cases hg : g = 0
          · exact i1 hg r k1 hh
          · obtain ⟨r1, p1, p2, p3, _⟩ := i2 hg
            have : getF t o = some r := (get_iff hok o r).2 ⟨k1, hh⟩
            rw [(get_iff hok o r1).2 ⟨p1, p2⟩] at this
            cases this
            exact absurd (p3.trans hs.symm) k2
        · rw [if_neg (by simp [d1, hs])] at e2
          subst e2
          refine ⟨fun q r hr hh => i1 q r ((mem r).1 hr).1 hh, fun q => ?_⟩
          obtain ⟨r, k1, k2, k3, k4⟩ := i2 q
          exact ⟨r, (mem r).2 ⟨k1, by rw [k3]; exact Ne.symm hs⟩, k2, k3, k4⟩
      · have hd : doneF t x = t := by unfold doneF; rw [if_neg d0, if_neg d1, if_neg d2]
        rw [hd]
        rw [if_neg (by simp [d1, d2])] at e2
        subst e2
        exact ⟨i1, i2⟩
theorem has0 (w : Int) : hasB 0 w = false := by
  unfold hasB
  by_cases h : gv w = true
  · have : iand .i64 0 w = 0 := by
      have e : iand .i64 0 w = IntKind.i64.wrap ((BitVec.ofInt 64 0 &&& BitVec.ofInt 64 w).toNat : Int) := rfl
      rw [e]; simp; decide
    rw [this]
    have := gv_ne h
    simp [h]; omega
  · simp [h]
theorem pure_rightMinted (a0 : (_root_.List congresslaw16_Do)) (a1 : Int) (a2 : Int) (w0 : (a0.length ≤ maxLen ∧ a0.length * 32 ≤ 140737488351232) ∧ ∀ j, j < a0.length → w_congresslaw16_Do (a0.getD j z_congresslaw16_Do)) (w1 : (Lit.int .u64 a1).wf = true) (w2 : (Lit.int .i64 a2).wf = true) : congresslaw16_RightMinted a0 a1 a2 = some true := by
  unfold congresslaw16_RightMinted
  obtain ⟨w, hw, t, s, g, hwe, hinv⟩ := loop_count (σ := (_root_.List api_Right) × Int × Int × Int) (ω := Fl (Bool) ((_root_.List api_Right) × Int × Int)) (body := fun (x1 : (_root_.List api_Right) × Int × Int × Int) =>
    if ((decide (x1.2.2.2 < (a0.length : Int))) && (decide (x1.2.2.2 < 100))) then
      (ib x1.2.2.2 a0.length).bind fun _ =>
      (congresslaw16_done x1.1 (a0.getD x1.2.2.2.toNat z_congresslaw16_Do)).bind fun v4 =>
      lt ((((((a0.getD x1.2.2.2.toNat z_congresslaw16_Do).Do) == 0) && (((a0.getD x1.2.2.2.toNat z_congresslaw16_Do).Handle) == a1)) && (decide ((v4.length : Int) > (x1.1.length : Int)))) : Bool) fun v6 =>
      jn (fun x8 : Int × Int =>
        lt ((((((a0.getD x1.2.2.2.toNat z_congresslaw16_Do).Do) == 1) && (((a0.getD x1.2.2.2.toNat z_congresslaw16_Do).Handle) == a1)) || ((((a0.getD x1.2.2.2.toNat z_congresslaw16_Do).Do) == 2) && (((a0.getD x1.2.2.2.toNat z_congresslaw16_Do).Session) == x8.1))) : Bool) fun v9 =>
        jn (fun x11 : Int =>
          some (.next (v4, x8.1, x11, (IntKind.i64.wrap (x1.2.2.2 + 1))))) fun j10 =>
        if v9 then
          j10 (0)
        else
          j10 (x8.2)) fun j7 =>
      if v6 then
        j7 ((a0.getD x1.2.2.2.toNat z_congresslaw16_Do).Session, (a0.getD x1.2.2.2.toNat z_congresslaw16_Do).Give)
      else
        j7 (x1.2.1, x1.2.2.1)
    else
      some (.done (.nx (x1.1, x1.2.1, x1.2.2.1)))) (fun n st => st.2.2.2 = (n : Int) ∧ Inv a1 st.1 st.2.1 st.2.2.1) (fun w => ∃ t s g, w = .nx (t, s, g) ∧ Inv a1 t s g) (min a0.length 100) (s0 := (([] : _root_.List api_Right), 0, 0, 0))
    ⟨rfl, ⟨fun r hr => by simp at hr, by simp, by simp⟩, fun _ r hr => by simp at hr, fun q => absurd rfl q⟩
    (fun n st hn hs => by
      obtain ⟨t, s, g, i⟩ := st
      obtain ⟨rfl, hinv⟩ := hs
      simp only at hinv
      left
      have hn' : n < a0.length := by omega
      have e1 : IntKind.i64.wrap ((n : Int) + 1) = ((n + 1 : Nat) : Int) := by rw [w64 (by omega) (by omega)]; rfl
      simp only
      rw [if_pos (by simp; omega), ib_n hn']
      simp only [Option.bind_some, Int.toNat_natCast, done_eq hinv.1.room, lt, jn, e1]
      have key := fun s' g' g2 a b => inv_step hinv (a0.getD n z_congresslaw16_Do) s' g' g2 a b
      by_cases h6 : ((((a0.getD n z_congresslaw16_Do).Do == 0) && ((a0.getD n z_congresslaw16_Do).Handle == a1)) && decide (((doneF t (a0.getD n z_congresslaw16_Do)).length : Int) > (t.length : Int))) = true
      · rw [if_pos h6]
        by_cases h9 : ((((a0.getD n z_congresslaw16_Do).Do == 1) && ((a0.getD n z_congresslaw16_Do).Handle == a1)) || (((a0.getD n z_congresslaw16_Do).Do == 2) && ((a0.getD n z_congresslaw16_Do).Session == (a0.getD n z_congresslaw16_Do).Session))) = true
        · rw [if_pos h9]
          exact ⟨_, rfl, rfl, key (a0.getD n z_congresslaw16_Do).Session (a0.getD n z_congresslaw16_Do).Give 0 (by rw [if_pos h6]) (by rw [if_pos h9])⟩
        · rw [if_neg h9]
          exact ⟨_, rfl, rfl, key (a0.getD n z_congresslaw16_Do).Session (a0.getD n z_congresslaw16_Do).Give (a0.getD n z_congresslaw16_Do).Give (by rw [if_pos h6]) (by rw [if_neg h9])⟩
      · rw [if_neg h6]
        by_cases h9 : ((((a0.getD n z_congresslaw16_Do).Do == 1) && ((a0.getD n z_congresslaw16_Do).Handle == a1)) || (((a0.getD n z_congresslaw16_Do).Do == 2) && ((a0.getD n z_congresslaw16_Do).Session == s))) = true
        · rw [if_pos h9]
          exact ⟨_, rfl, rfl, key s g 0 (by rw [if_neg h6]) (by rw [if_pos h9])⟩
        · rw [if_neg h9]
          exact ⟨_, rfl, rfl, key s g g (by rw [if_neg h6]) (by rw [if_neg h9])⟩)
    (fun st hs => by
      obtain ⟨t, s, g, i⟩ := st
      obtain ⟨rfl, hinv⟩ := hs
      exact ⟨_, by simp only; rw [if_neg (by simp; omega)], t, s, g, rfl, hinv⟩)
  rw [hw]
  subst hwe
  obtain ⟨hok, i1, i2⟩ := hinv
  simp only [Option.bind_some, Fl.elim, fixed_eq, Bool.not_true, Bool.not_false, whn, if_true, may_eq _ hok.room, (may_iff t).2 hok, Bool.false_or, Bool.or_self, Bool.false_eq_true, if_false, check_eq _ _ _ hok.room, lt]
  have e1 : (((decide (a2 < 1)) || (decide (a2 > 7))) || ((iand .i64 g a2) != a2)) = !hasB g a2 := by
    rw [← lit_not]; unfold hasB
    cases gv a2 <;> simp [bne]
  rw [e1]
  by_cases hg : g = 0
  · subst hg
    rw [has0]
    simp only [Bool.not_false, if_true]
    have : checkF t a1 a2 = (0, 160) := by
      unfold checkF
      cases hq : getF t a1 with
      | none => rfl
      | some r =>
        obtain ⟨q1, q2⟩ := (get_iff hok a1 r).1 hq
        simp [i1 rfl r q1 q2]
    rw [this]; rfl
  · obtain ⟨r, q1, q2, q3, q4, q5⟩ := i2 hg
    have : checkF t a1 a2 = if hasB g a2 = true then (s, 0) else (0, 160) := by
      unfold checkF
      rw [(get_iff hok a1 r).2 ⟨q1, q2⟩]
      simp [q3, q4, q5]
    rw [this]
    cases hasB g a2 with
    | true => simp
    | false => rfl

/-- The table behind so many mints. -/
def entF (p : Int) (k : Nat) : api_Right := { Handle := ((k + 1 : Nat) : Int), Session := IntKind.u64.wrap (p + IntKind.u64.wrap (((k + 1 : Nat) : Int).tmod 2)), Give := 1, Revoked := k == 0 }
def tabF (p : Int) (n : Nat) : Tab := (List.range n).map (entF p)
theorem tab_s (p : Int) (n : Nat) : tabF p (n + 1) = tabF p n ++ [entF p n] := by simp [tabF, List.range_succ]
theorem tab_len (p : Int) (n : Nat) : (tabF p n).length = n := by simp [tabF]
theorem tab_mem {p : Int} {n : Nat} {r : api_Right} : r ∈ tabF p n ↔ ∃ k, k < n ∧ r = entF p k := by
  simp only [tabF, List.mem_map, List.mem_range]
  constructor
  · rintro ⟨k, h1, rfl⟩; exact ⟨k, h1, rfl⟩
  · rintro ⟨k, h1, rfl⟩; exact ⟨k, h1, rfl⟩
theorem tab_none {p : Int} {n m : Nat} (h : n ≤ m) : getF (tabF p n) ((m + 1 : Nat) : Int) = none := by
  rw [get_none]
  intro r hr
  obtain ⟨k, hk, rfl⟩ := tab_mem.1 hr
  simp only [entF]; omega
theorem rev_one (p : Int) (n : Nat) (h : 0 < n) : (revF (tabF p n) 1).2 ≠ 0 := by
  have hg : getF (tabF p n) 1 = some (entF p 0) := by
    obtain ⟨m, rfl⟩ : ∃ m, n = m + 1 := ⟨n - 1, by omega⟩
    unfold getF tabF
    rw [List.range_succ_eq_map]
    simp [entF]
  unfold revF
  rw [hg]
  simp [entF]
theorem tab_drop (p : Int) (hp : 0 ≤ p ∧ p ≤ 18446744073709551615) : ∀ n, (dropF (tabF p n) p).length = (n + 1) / 2
  | 0 => rfl
  | n + 1 => by
    have ih := tab_drop p hp n
    unfold dropF at ih ⊢
    rw [tab_s, List.filter_append, List.length_append, ih]
    have hm : ((n + 1 : Nat) : Int).tmod 2 = ((n + 1) % 2 : Nat) := by rfl
    by_cases h : (n + 1) % 2 = 0
    · have e : (entF p n).Session = p := by
        simp only [entF, hm, h]
        rw [show IntKind.u64.wrap ((0 : Nat) : Int) = 0 by decide, wu64]; omega
      rw [List.filter_cons_of_neg (by simp [e])]
      simp; omega
    · have h1 : (n + 1) % 2 = 1 := by omega
      have e : (entF p n).Session ≠ p := by
        simp only [entF, hm, h1]
        rw [show IntKind.u64.wrap ((1 : Nat) : Int) = 1 by decide, wu64]; omega
      rw [List.filter_cons_of_pos (by simp [e])]
      simp; omega
theorem tab_room (p : Int) {n : Nat} (h : n ≤ 16) : Room (tabF p n) := ⟨by rw [tab_len]; have := big16; omega, by rw [tab_len]; omega⟩
theorem pure_rightFull (a0 : Int) (a1 : Int) (w0 : (Lit.int .i64 a0).wf = true) (w1 : (Lit.int .u64 a1).wf = true) : congresslaw16_RightFull a0 a1 = some true := by
  have hp := wf_u64.1 w1
  unfold congresslaw16_RightFull
  simp only [fixed_eq, Option.bind_some, Bool.not_true, Bool.false_or]
  by_cases hc : ((decide (a0 < 0)) || (decide (a0 > 30))) = true
  · rw [if_pos hc]
  rw [if_neg hc]
  simp only [Bool.or_eq_true, decide_eq_true_eq, not_or] at hc
  obtain ⟨N, rfl⟩ : ∃ N : Nat, a0 = N := ⟨a0.toNat, by omega⟩
  rw [loop_seq (F := fun n => (((n + 1 : Nat) : Int), tabF a1 (min n 16))) N (s0 := (1, [])) (w := .nx (tabF a1 (min N 16))) rfl]
  · simp only [Option.bind_some, Fl.elim, drop_eq _ _ (tab_room a1 (Nat.min_le_right N 16)), tab_len, tab_drop a1 hp, lt]
    have e0 : IntKind.i64.wrap (((min N 16 : Nat) : Int) + 1) = ((min N 16 : Nat) : Int) + 1 := w64 (by omega) (by omega)
    rw [e0, w64 (by rw [Int.tdiv_eq_ediv_of_nonneg (by omega)]; omega) (by rw [Int.tdiv_eq_ediv_of_nonneg (by omega)]; omega)]
    have e1 : ((min N 16 : Nat) : Int) = if 16 < (N : Int) then 16 else (N : Int) := by split <;> omega
    have e2 : (((min N 16 + 1) / 2 : Nat) : Int) = (((min N 16 : Nat) : Int) + 1).tdiv 2 := by rw [Int.tdiv_eq_ediv_of_nonneg (by omega)]; omega
    rw [← e1, e2]
    simp
  · intro n hn
    have e1 : IntKind.i64.wrap (((n + 1 : Nat) : Int) + 1) = ((n + 1 + 1 : Nat) : Int) := by rw [w64 (by omega) (by omega)]; rfl
    have e2 : IntKind.u64.wrap (((n + 1 : Nat) : Int)) = ((n + 1 : Nat) : Int) := by rw [wu64]; omega
    simp only
    rw [if_pos (by simp; omega), jn, e1, e2, mint_eq _ _ _ _ (tab_room a1 (Nat.min_le_right n 16))]
    simp only [Option.bind_some, lt]
    by_cases h16 : n < 16
    · have hm : min n 16 = n := by omega
      have hm2 : min (n + 1) 16 = n + 1 := by omega
      rw [hm, hm2]
      have em : mintF (tabF a1 n) ((n + 1 : Nat) : Int) (IntKind.u64.wrap (a1 + IntKind.u64.wrap (((n + 1 : Nat) : Int).tmod 2))) 1 = (tabF a1 n ++ [{ entF a1 n with Revoked := false }], 0) := by
        unfold mintF
        rw [tab_none (Nat.le_refl n), tab_len, if_neg (by simp [gv]; omega), if_neg (by omega)]; rfl
      rw [em]
      have hd : decide (((n + 1 : Nat) : Int) ≤ 16) = true := by simp; omega
      simp only [hd, beq_self_eq_true, bne_self_eq_false, Bool.false_and, Bool.or_self, Bool.false_eq_true, if_false, if_true, jn]
      have hroom : Room (tabF a1 n ++ [{ entF a1 n with Revoked := false }]) := ⟨by simp [tab_len]; have := big16; omega, by simp [tab_len]; omega⟩
      rw [rev_eq _ _ hroom]
      simp only [Option.bind_some]
      by_cases h0 : n = 0
      · subst h0
        rw [if_pos (by simp [revF, getF, tabF, entF])]
        simp [revF, getF, tabF, entF, findF, fidx, List.range_succ]
      · have he : ({ entF a1 n with Revoked := false } : api_Right) = entF a1 n := by simp [entF, h0]
        rw [he, ← tab_s]
        rw [if_neg (by simpa using rev_one a1 (n + 1) (by omega))]
    · have hm : min n 16 = 16 := by omega
      have hm2 : min (n + 1) 16 = 16 := by omega
      rw [hm, hm2]
      have em : mintF (tabF a1 16) ((n + 1 : Nat) : Int) (IntKind.u64.wrap (a1 + IntKind.u64.wrap (((n + 1 : Nat) : Int).tmod 2))) 1 = ([], 161) := by
        unfold mintF
        rw [tab_none (by omega), tab_len, if_neg (by simp [gv]; omega), if_pos (by omega)]
      rw [em]
      have hd : decide (((n + 1 : Nat) : Int) ≤ 16) = false := by simp; omega
      simp only [hd]
      rw [if_neg (by decide), jn, if_neg (by decide)]
      simp only [rev_eq _ _ (tab_room a1 (Nat.le_refl 16))]
      simp only [Option.bind_some]
      rw [if_neg (by simpa using rev_one a1 16 (by omega))]
  · simp only
    rw [if_neg (by simp; omega)]
end Go.Proofs.Ytffnegdahhlncaa
