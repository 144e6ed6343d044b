/- Pure laws of chapter 10: what stands in frames is of no moment. Conditions: none. -/
import Derived.Test.YtbkofjefhnnmlaaPc
set_option linter.unusedVariables false
set_option linter.unusedSimpArgs false
namespace Go.Proofs.Ytbkofjefhnnmlaa
open Go.Eng
def key (y : api_Kept) : Int × Int := (y.From, y.Round)
def Al (a b : Tab) : Prop := a.map key = b.map key
theorem Al.len {a b : Tab} (h : Al a b) : a.length = b.length := by simpa using congrArg List.length h
theorem Al.at_ {a b : Tab} (h : Al a b) {n : Nat} (hn : n < a.length) : (a.getD n z_api_Kept).From = (b.getD n z_api_Kept).From ∧ (a.getD n z_api_Kept).Round = (b.getD n z_api_Kept).Round := by
  have hb : n < b.length := h.len ▸ hn
  have := congrArg (fun l => l[n]?) h
  simp only [List.getElem?_map, List.getElem?_eq_getElem hn, List.getElem?_eq_getElem hb, Option.map_some, Option.some.injEq, key, Prod.mk.injEq] at this
  rw [List.getD_eq_getElem?_getD, List.getD_eq_getElem?_getD, List.getElem?_eq_getElem hn, List.getElem?_eq_getElem hb]
  exact this
theorem old_key {x x' y y' : api_Kept} (h : key x = key x') (hy : key y = key y') : oldB x y = oldB x' y' := by
  simp only [key, Prod.mk.injEq] at h hy
  simp only [oldB, h.1, h.2, hy.1, hy.2]
theorem filter_al {x x' : api_Kept} (h : key x = key x') : ∀ {a b : Tab}, Al a b → Al (a.filter fun y => !oldB x y) (b.filter fun y => !oldB x' y)
  | [], [], _ => rfl
  | [], _ :: _, e => by simp [Al] at e
  | _ :: _, [], e => by simp [Al] at e
  | y :: a, y' :: b, e => by
    simp only [Al, List.map_cons, List.cons.injEq] at e
    have ih := filter_al h (a := a) (b := b) e.2
    have ho := old_key h e.1
    by_cases hq : oldB x y = true
    · rw [List.filter_cons_of_neg (by simp [hq]), List.filter_cons_of_neg (by rw [← ho]; simp [hq])]; exact ih
    · have hq' := Bool.eq_false_iff.2 hq
      rw [List.filter_cons_of_pos (by simp [hq']), List.filter_cons_of_pos (by rw [← ho]; simp [hq'])]
      simp only [Al, List.map_cons, e.1]
      rw [show (a.filter fun y => !oldB x y).map key = (b.filter fun y => !oldB x' y).map key from ih]
theorem take_al {a b : Tab} (h : Al a b) (c m : Nat → Int) {x x' : api_Kept} (hx : key x = key x') : Al (takeF a c m x).1 (takeF b c m x').1 ∧ (takeF a c m x).2 = (takeF b c m x').2 := by
  have hx' := hx
  simp only [key, Prod.mk.injEq] at hx'
  have hn : nextB c m x = nextB c m x' := by simp only [nextB, hx'.1, hx'.2]
  unfold takeF
  rw [hn]
  split
  · refine ⟨?_, by simp only [hx'.1, hx'.2]⟩
    have := filter_al hx h
    simp only [Al, List.map_append, List.map_cons, List.map_nil] at this ⊢
    rw [this, hx]
  · exact ⟨h, rfl⟩
def offF (p : api_Packet) : Tab := (if p.Round > 1 then [({ From := (IntKind.i64.wrap (p.From)), Round := (IntKind.u32.wrap (p.Round - 1)), Frame := p.Older } : api_Kept)] else []) ++ [({ From := (IntKind.i64.wrap (p.From)), Round := p.Round, Frame := p.Newest } : api_Kept), ({ From := (IntKind.i64.wrap (p.RelayOf)), Round := p.RelayRound, Frame := p.Relay } : api_Kept)]
theorem offered_eq (p : api_Packet) : kept_offered p = some (offF p) := by
  have hb := big8
  unfold kept_offered offF
  simp only [jn, lt, decide_eq_true_eq]
  split
  · rw [fit_t (by simp; omega) (by simp)]
    simp only [Option.bind_some]
    rw [fit_t (by simp; omega) (by simp)]; rfl
  · rw [fit_t (by simp; omega) (by simp)]; rfl
theorem off_len (p : api_Packet) : (offF p).length ≤ 3 := by unfold offF; split <;> simp
abbrev S3 := (Nat → Int) × Tab × Tab
def stepF (m most : Nat → Int) (s : S3) (x : api_Kept) : S3 :=
  if ((decide (x.From ≥ 8)) || (decide (x.Round > most x.From.toNat))) = true then s
  else ((takeF s.2.1 s.1 m x).2.1, (takeF s.2.1 s.1 m x).1, if (takeF s.2.1 s.1 m x).2.2 = true then s.2.2 ++ [x] else s.2.2)
theorem fold_room (m most : Nat → Int) : ∀ (xs : Tab) (s : S3) (k : Nat), Room k s.2.1 → s.2.2.length ≤ k → Room (k + xs.length) (xs.foldl (stepF m most) s).2.1 ∧ (xs.foldl (stepF m most) s).2.2.length ≤ k + xs.length
  | [], s, k, h, h2 => ⟨h, h2⟩
  | x :: xs, s, k, h, h2 => by
    have h1 : Room (k + 1) (stepF m most s x).2.1 ∧ (stepF m most s x).2.2.length ≤ k + 1 := by
      unfold stepF
      split
      · exact ⟨by unfold Room at h ⊢; omega, by omega⟩
      · refine ⟨take_room h, ?_⟩
        simp only
        split
        · simp; omega
        · omega
    have := fold_room m most xs (stepF m most s x) (k + 1) h1.1 h1.2
    rw [List.foldl_cons, List.length_cons, show k + (xs.length + 1) = k + 1 + xs.length by omega]
    exact this
theorem offer_eq (l : Tab) (c m : Nat → Int) (p : api_Packet) (most : Nat → Int) (hr : Room 0 l) (hf : ∀ x ∈ offF p, 0 ≤ x.From) : kept_Offer l c m p most =
    some (((offF p).foldl (stepF m most) (c, l, [])).2.1, ((offF p).foldl (stepF m most) (c, l, [])).1, ((offF p).foldl (stepF m most) (c, l, [])).2.2) := by
  have ho := off_len p
  have hb := big8
  unfold kept_Offer
  rw [clone_eq l hr (by omega), offered_eq]
  simp only [Option.bind_some]
  rw [loop_seq (F := fun n => ((n : Int), ((offF p).take n).foldl (stepF m most) (c, l, []))) (offF p).length (s0 := (0, c, l, [])) (w := .nx ((offF p).foldl (stepF m most) (c, l, []))) rfl]
  · rfl
  · intro n hn
    have e1 : IntKind.i64.wrap ((n : Int) + 1) = ((n + 1 : Nat) : Int) := by rw [w64 (by omega) (by omega)]; rfl
    have hx0 := hf _ (getD_in (d := z_api_Kept) hn)
    have hrm := fold_room m most ((offF p).take n) (c, l, []) 0 hr (by simp)
    have hlt : ((offF p).take n).length = n := by simp; omega
    rw [hlt] at hrm
    rw [take_s (d := z_api_Kept) hn, List.foldl_append]
    simp only [List.foldl_cons, List.foldl_nil]
    generalize ((offF p).take n).foldl (stepF m most) (c, l, []) = s at hrm
    rw [if_pos (by simp; omega), jn, ib_n hn]
    simp only [Option.bind_some, Int.toNat_natCast]
    rw [ibg_t (fun q => ⟨hx0, by rw [Bool.not_eq_true', decide_eq_false_iff_not] at q; omega⟩)]
    simp only [Option.bind_some, lt, e1, stepF]
    by_cases h : ((decide (((offF p).getD n z_api_Kept).From ≥ 8)) || (decide (((offF p).getD n z_api_Kept).Round > most ((offF p).getD n z_api_Kept).From.toNat))) = true
    · rw [if_pos h, if_pos h]
    · rw [if_neg h, if_neg h, take_eq _ _ _ _ hrm.1 (by omega)]
      simp only [Option.bind_some]
      by_cases h2 : (takeF s.2.1 s.1 m ((offF p).getD n z_api_Kept)).2.2 = true
      · have hlen : (s.2.2 ++ [(offF p).getD n z_api_Kept]).length = s.2.2.length + 1 := by simp
        rw [if_pos h2, if_pos h2, fit_t (by omega) (by omega)]; rfl
      · rw [if_neg h2, if_neg h2]
  · simp only
    rw [if_neg (by simp), List.take_length]
theorem fold_al (m most : Nat → Int) (f : Nat → (Nat → api_Entry)) : ∀ (xs ys : Tab) (s t : S3), Al xs ys → (∀ y ∈ ys, y.Frame = f) → s.1 = t.1 → Al s.2.1 t.2.1 → Al s.2.2 t.2.2 → (∀ y ∈ t.2.2, y.Frame = f) →
    (xs.foldl (stepF m most) s).1 = (ys.foldl (stepF m most) t).1 ∧ Al (xs.foldl (stepF m most) s).2.1 (ys.foldl (stepF m most) t).2.1 ∧ Al (xs.foldl (stepF m most) s).2.2 (ys.foldl (stepF m most) t).2.2 ∧ ∀ y ∈ (ys.foldl (stepF m most) t).2.2, y.Frame = f
  | [], [], s, t, _, _, h1, h2, h3, h4 => ⟨h1, h2, h3, h4⟩
  | [], _ :: _, _, _, e, _, _, _, _, _ => by simp [Al] at e
  | _ :: _, [], _, _, e, _, _, _, _, _ => by simp [Al] at e
  | x :: xs, y :: ys, s, t, e, hf, h1, h2, h3, h4 => by
    simp only [Al, List.map_cons, List.cons.injEq] at e
    have hk := e.1
    simp only [key, Prod.mk.injEq] at hk
    rw [List.foldl_cons, List.foldl_cons]
    obtain ⟨t1, t2⟩ := take_al h2 t.1 m e.1
    have hs : (stepF m most s x).1 = (stepF m most t y).1 ∧ Al (stepF m most s x).2.1 (stepF m most t y).2.1 ∧ Al (stepF m most s x).2.2 (stepF m most t y).2.2 ∧ ∀ z ∈ (stepF m most t y).2.2, z.Frame = f := by
      unfold stepF
      rw [hk.1, hk.2]
      split
      · exact ⟨h1, h2, h3, h4⟩
      · rw [h1]
        refine ⟨by rw [t2], t1, ?_, ?_⟩
        · rw [t2]
          simp only
          split
          · simp only [Al, List.map_append, List.map_cons, List.map_nil, e.1]
            rw [show s.2.2.map key = t.2.2.map key from h3]
          · exact h3
        · intro z hz
          simp only at hz
          split at hz
          · rcases List.mem_append.1 hz with hz | hz
            · exact h4 z hz
            · simp at hz; subst hz; exact hf _ (by simp)
          · exact h4 z hz
    exact fold_al m most f xs ys _ _ e.2 (fun z hz => hf z (by simp [hz])) hs.1 hs.2.1 hs.2.2.1 hs.2.2.2
theorem pure_keptBlind (a0 : congresslaw10_Was) (a1 : api_Packet) (a2 : (Nat → (Nat → api_Entry))) (w0 : w_congresslaw10_Was a0) (w1 : w_api_Packet a1) (w2 : ∀ j, j < 3 → ∀ j1, j1 < 2 → w_api_Entry ((a2 j) j1)) : congresslaw10_KeptBlind a0 a1 a2 = some true := by
  have hr : Room 0 a0.L := room_of w0.1.1.2
  have hF := wf_u32.1 w1.1
  have hR := wf_u32.1 w1.2.2.2.2.2.2.2.2.2.2.2.2.1
  have hoff : ∀ p : api_Packet, p.From = a1.From → p.RelayOf = a1.RelayOf → ∀ x ∈ offF p, 0 ≤ x.From := by
    intro p h1 h2 x hx
    have q1 : IntKind.i64.wrap p.From = p.From := w64 (by omega) (by omega)
    have q2 : IntKind.i64.wrap p.RelayOf = p.RelayOf := w64 (by omega) (by omega)
    unfold offF at hx
    rw [q1, q2] at hx
    rcases List.mem_append.1 hx with hx | hx
    · split at hx
      · simp at hx; subst hx; simp only; omega
      · simp at hx
    · simp at hx
      rcases hx with rfl | rfl <;> simp only <;> omega
  obtain ⟨q, hq⟩ : ∃ q : api_Packet, q = { a1 with Newest := a2, Older := a2, Relay := a2 } := ⟨_, rfl⟩
  have qF : q.From = a1.From ∧ q.RelayOf = a1.RelayOf := by rw [hq]; exact ⟨rfl, rfl⟩
  have hal : Al (offF a1) (offF q) ∧ ∀ y ∈ offF q, y.Frame = a2 := by
    rw [hq]
    unfold offF
    by_cases h : a1.Round > 1
    · simp only [if_pos h]
      exact ⟨rfl, by simp⟩
    · simp only [if_neg h]
      exact ⟨rfl, by simp⟩
  unfold congresslaw10_KeptBlind
  rw [loop_seq (F := fun n => ((n : Int), fun j => if j < n then (4294967295 : Int) else 0)) 8 (s0 := (0, (aset (fun _ => 0) []))) (w := .nx (fun j => if j < 8 then (4294967295 : Int) else 0)) (by simp [aset])]
  · simp only [Option.bind_some, Fl.elim]
    rw [offer_eq _ _ _ _ _ hr (hoff a1 rfl rfl)]
    simp only [lt]
    rw [show ({ a1 with Newest := a2, Older := a2, Relay := a2 } : api_Packet) = q from hq.symm, offer_eq _ _ _ _ _ hr (hoff q qF.1 qF.2)]
    simp only [Option.bind_some, fixed_eq, Bool.not_true, Bool.false_or]
    obtain ⟨k1, k2, k3, k4⟩ := fold_al a0.M (fun j => if j < 8 then (4294967295 : Int) else 0) a2 (offF a1) (offF q) (a0.C, a0.L, []) (a0.C, a0.L, []) hal.1 hal.2 rfl rfl rfl (by simp)
    have r1 := fold_room a0.M (fun j => if j < 8 then (4294967295 : Int) else 0) (offF a1) (a0.C, a0.L, []) 0 hr (by simp)
    have ho := off_len a1
    have hm := maxLen_le
    have hb := big8
    generalize (offF a1).foldl (stepF a0.M (fun j => if j < 8 then (4294967295 : Int) else 0)) (a0.C, a0.L, []) = s at k1 k2 k3 k4 r1
    generalize (offF q).foldl (stepF a0.M (fun j => if j < 8 then (4294967295 : Int) else 0)) (a0.C, a0.L, []) = t at k1 k2 k3 k4
    have l1 := k2.len
    have l2 := k3.len
    have lm := r1.1.len (by omega)
    rw [k1, brefl8, l1, l2]
    rw [if_neg (by simp)]
    rw [loop_seq (F := fun n => ((n : Nat) : Int)) t.2.1.length (s0 := 0) (w := .nx ()) rfl]
    · simp only [Option.bind_some, Fl.elim]
      rw [loop_seq (F := fun n => ((n : Nat) : Int)) t.2.2.length (s0 := 0) (w := .nx ()) rfl]
      · rfl
      · intro n hn
        obtain ⟨e1, e2⟩ := k3.at_ (l2 ▸ hn)
        have e3 := k4 _ (getD_in (d := z_api_Kept) hn)
        have hib : ∀ g, ibg g (n : Int) t.2.2.length = some () := fun g => ibg_t fun _ => by omega
        rw [if_pos (by simp; omega), ib_n hn]
        simp only [Option.bind_some, hib, Int.toNat_natCast, e1, e2, e3, breflF, bne_self_eq_false, Bool.not_true, Bool.or_self, Bool.false_eq_true, if_false]
        rw [w64 (by omega) (by omega)]; rfl
      · rw [if_neg (by simp)]
    · intro n hn
      obtain ⟨e1, e2⟩ := k2.at_ (l1 ▸ hn)
      have hib : ∀ g, ibg g (n : Int) t.2.1.length = some () := fun g => ibg_t fun _ => by omega
      rw [if_pos (by simp; omega), ib_n hn]
      simp only [Option.bind_some, hib, Int.toNat_natCast, e1, e2, bne_self_eq_false, Bool.or_self, Bool.false_eq_true, if_false]
      rw [w64 (by omega) (by omega)]; rfl
    · rw [if_neg (by simp)]
  · intro n hn
    have e1 : IntKind.i64.wrap ((n : Int) + 1) = ((n + 1 : Nat) : Int) := by rw [w64 (by omega) (by omega)]; rfl
    simp only
    rw [if_pos (by simp; omega), ib_n hn]
    simp only [Option.bind_some, e1, Int.toNat_natCast, Option.some.injEq, Stp.next.injEq, Prod.mk.injEq, true_and]
    funext j
    simp only [aupd]
    by_cases hj : j = n
    · subst hj; simp
    · have : j < n + 1 ↔ j < n := by omega
      simp [hj, this]
  · rfl
end Go.Proofs.Ytbkofjefhnnmlaa
