/- The engine's last words: loops as plain functions, states cut down, own views. Conditions: none. -/
import Derived.Test.YtnfjibcfnchkkaaEngL
namespace Go.Eng

/-- What a round leaves: a next state, or an end. -/
inductive Stp (σ ω : Type) where
  | next (s : σ)
  | done (w : ω)

/-- What a piece of code leaves: a state, or the function's answer. -/
inductive Fl (ρ σ : Type) where
  | nx (s : σ)
  | rt (r : ρ)

/-- So many rounds lead from a state to an end. -/
inductive Runs {σ ω : Type} (body : σ → Option (Stp σ ω)) : Nat → σ → ω → Prop where
  | done (s : σ) (w : ω) (h : body s = some (.done w)) : Runs body 0 s w
  | next (n : Nat) (s s' : σ) (w : ω) (h : body s = some (.next s')) (r : Runs body n s' w) : Runs body (n + 1) s w

theorem Runs.det {σ ω : Type} {body : σ → Option (Stp σ ω)} {n : Nat} {s : σ} {w : ω} (h : Runs body n s w) : ∀ {m : Nat} {w' : ω}, Runs body m s w' → w' = w := by
  induction h with
  | done s w h =>
    intro m w' h'
    cases h' with
    | done _ _ h2 => rw [h] at h2; cases h2; rfl
    | next _ _ _ _ h2 _ => rw [h] at h2; cases h2
  | next n s s' w h r ih =>
    intro m w' h'
    cases h' with
    | done _ _ h2 => rw [h] at h2; cases h2
    | next _ _ _ _ h2 r2 => rw [h] at h2; cases h2; exact ih r2

open Classical in
/-- A loop, as a function: the end to which its rounds lead, if they lead to one. -/
noncomputable def loop {σ ω : Type} (body : σ → Option (Stp σ ω)) (s : σ) : Option ω :=
  if h : ∃ w n, Runs body n s w then some h.choose else none

theorem loop_iff {σ ω : Type} {body : σ → Option (Stp σ ω)} {s : σ} {w : ω} : loop body s = some w ↔ ∃ n, Runs body n s w := by
  unfold loop
  constructor
  · intro h
    split at h
    · rename_i hh
      obtain ⟨n, hn⟩ := hh.choose_spec
      cases h
      exact ⟨n, hn⟩
    · cases h
  · rintro ⟨n, hn⟩
    have hh : ∃ w n, Runs body n s w := ⟨w, n, hn⟩
    rw [dif_pos hh]
    obtain ⟨m, hm⟩ := hh.choose_spec
    rw [hn.det hm]

/-- A loop's first round. -/
theorem loop_eq {σ ω : Type} (body : σ → Option (Stp σ ω)) (s : σ) : loop body s = match body s with
    | none => none
    | some (.next s') => loop body s'
    | some (.done w) => some w := by
  cases hb : body s with
  | none =>
    cases hl : loop body s with
    | none => rfl
    | some w =>
      obtain ⟨n, hn⟩ := loop_iff.1 hl
      cases hn with
      | done _ _ h => rw [hb] at h; cases h
      | next _ _ _ _ h _ => rw [hb] at h; cases h
  | some x =>
    cases x with
    | done w => exact loop_iff.2 ⟨0, .done s w hb⟩
    | next s' =>
      simp only
      cases hl : loop body s' with
      | some w =>
        obtain ⟨n, hn⟩ := loop_iff.1 hl
        exact loop_iff.2 ⟨n + 1, .next n s s' w hb hn⟩
      | none =>
        cases hl2 : loop body s with
        | none => rfl
        | some w =>
          obtain ⟨n, hn⟩ := loop_iff.1 hl2
          cases hn with
          | done _ _ h => rw [hb] at h; cases h
          | next n _ s2 _ h r =>
            rw [hb] at h; cases h
            have := loop_iff.2 ⟨n, r⟩
            rw [hl] at this; cases this

section
variable {G : Glob} {nt : Nat}

/-- A state, cut down to what is wanted further on. -/
theorem cov_prune {s s1 : St} (hsl : All (fun p => lk s.sl p.1 = some p.2) s1.sl) (hob : All (fun p => s.obf p.1 = p.2) s1.ob) (hnx : s.nx ≤ s1.nx) : Cov G nt s s1 := by
  rintro a w ⟨e, rfl, hrel⟩
  have obIn : ∀ (l : List (Nat × Option Box)) id o1, appOb l (fun _ => none) id = some o1 → ∃ p ∈ l, p.1 = id ∧ p.2 = some o1 := by
    intro l id o1
    induction l with
    | nil => intro h; simp [appOb, lk] at h
    | cons q l ih =>
      obtain ⟨k, o⟩ := q
      intro h
      simp only [appOb, lk_cons] at h ih
      by_cases hk : k = id
      · rw [if_pos hk] at h; exact ⟨(k, o), by simp, hk, h⟩
      · rw [if_neg hk] at h
        obtain ⟨p, h1, h2⟩ := ih h
        exact ⟨p, by simp [h1], h2⟩
  have hget : ∀ id o, s1.obf id = some o → e.ob id = some o := by
    intro id o h
    obtain ⟨p, hp, h1, h2⟩ := obIn _ _ _ h
    have := hob.mem p hp
    rw [hrel.ob, ← h1, this, h2]
  have F : Follows e { e with ob := s1.obf } := by
    refine ⟨Nat.le_refl _, fun _ _ _ => rfl, ?_, fun _ _ h => h, fun _ _ h => h⟩
    rintro b _ ⟨id, o, h1, h2⟩
    exact ⟨id, o, hget id o h1, h2⟩
  have I : IdKeeps e { e with ob := s1.obf } := fun id hu => ⟨hu, fun o' ho' => ⟨rfl, rfl, o', hget id o' ho', o'.like_refl⟩⟩
  refine ⟨{ e with ob := s1.obf }, rfl, ⟨⟨hrel.ok.fr, hrel.ok.S, hrel.ok.Sp, ?_, ?_, ?_, ?_, hrel.ok.low⟩, ?_, rfl, ?_, hrel.size, hrel.defs⟩⟩
  · intro id o h
    exact (hrel.ok.held id o (hget id o h)).keep F I rfl rfl (fun b _ => rfl)
  · intro i j oi oj b h1 h2 h3 h4
    exact hrel.ok.inj i j oi oj b (hget i oi h1) (hget j oj h2) h3 h4
  · intro i o b h1 h2
    exact hrel.ok.fresh i o b (hget i o h1) h2
  · intro i o h1
    exact hrel.ok.used i o (hget i o h1)
  · intro t v hv
    have hmem : ∃ p ∈ s1.sl, p.1 = t ∧ p.2 = v := by
      clear hob hget F I hsl
      generalize s1.sl = l at hv
      induction l with
      | nil => simp [lk] at hv
      | cons q l ih =>
        obtain ⟨k, u⟩ := q
        rw [lk_cons] at hv
        by_cases hk : k = t
        · rw [if_pos hk] at hv
          exact ⟨(k, u), by simp, hk, Option.some.inj hv⟩
        · rw [if_neg hk] at hv
          obtain ⟨p, h1, h2⟩ := ih hv
          exact ⟨p, by simp [h1], h2⟩
    obtain ⟨p, hp, rfl, rfl⟩ := hmem
    exact R.keep F _ (.inl I) _ (hrel.slots _ _ (hsl.mem p hp))
  · intro k hk
    exact Nat.lt_of_lt_of_le (hrel.us k hk) hnx

/-- A loop whose rounds a plain function tells. -/
theorem aw_runs {σ ω : Type} (hd : σ → St) {body : σ → Option (Stp σ ω)} {s0 : σ} {w0 : ω} {c : Code} {s : St} {Q : Exit → Act → World → Prop} (H : loop body s0 = some w0) (hc : Cov G nt s (hd s0))
    (round : ∀ x st, body x = some st → (∀ w, st = .done w → w = w0) → AW G nt (hd x) c (Exit.then (fun a w => ∃ y, st = .next y ∧ Reach G nt (hd y) a w) Q)) : AW G nt s (.loop c) Q := by
  obtain ⟨n, hn⟩ := loop_iff.1 H
  refine aw_loop (ι := σ × Nat) (fun p => hd p.1) (fun p => Runs body p.2 p.1 w0) (fun p => p.2) (s0, n) hn hc ?_
  rintro ⟨x, m⟩ hm
  simp only at hm ⊢
  cases hm with
  | done _ _ h =>
    intro a w hr
    refine wp_mono (round x _ h (fun w hw => by cases hw; rfl) a w hr) (fun e a' w' hq => ?_)
    cases e with
    | normal => obtain ⟨y, hy, _⟩ := hq; cases hy
    | _ => exact hq
  | next k _ y _ h r =>
    intro a w hr
    refine wp_mono (round x _ h (fun w hw => by cases hw) a w hr) (fun e a' w' hq => ?_)
    cases e with
    | normal =>
      obtain ⟨z, hz, hr2⟩ := hq
      cases hz
      exact ⟨(y, k), r, Nat.lt_succ_self _, hr2⟩
    | _ => exact hq
end
end Go.Eng
