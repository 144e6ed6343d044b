/- Chapter 22: what is delivered over a whole play. Conditions: none. -/
import Derived.Test.YtclblogdciebnaaPd
set_option linter.unusedVariables false
set_option linter.unusedSimpArgs false
namespace Go.Proofs.Ytclblogdciebnaa
open Go.Eng R9
/-- How two entries, handed over one behind the other, stand. -/
def Rel (x y : api_Wait) : Prop :=
  (ordB x.Entry = true → ordB y.Entry = true → Bef x y) ∧
  (x.Place.From = y.Place.From → x.Entry.Service = y.Entry.Service → x.Entry.Kind = y.Entry.Kind → Bef x y) ∧
  (x.Entry.Kind = 1 → y.Entry.Kind = 1 → x.Entry.Service = 1 → y.Entry.Service = 0 ∨ y.Entry.Service = 1 → x.Place.Round ≤ y.Place.Round)
theorem Rel.of {x y : api_Wait} (h : Bef x y) : Rel x y := ⟨fun _ _ => h, fun _ _ _ => h, fun _ _ _ _ => by unfold Bef at h; rw [bef_iff] at h; omega⟩
/-- A place of a member, in a round that it has said. -/
def Pl (m c : Nat → Int) (w : api_Wait) : Prop := 0 ≤ w.Place.From ∧ w.Place.From < 8 ∧ m w.Place.From.toNat ≠ 0 ∧ 1 ≤ w.Place.Round ∧ w.Place.Round ≤ c w.Place.From.toNat
/-- What stands behind an entry handed over. -/
def Fu (m c : Nat → Int) (x : api_Wait) : Prop :=
  (ordB x.Entry = true → ∀ p : api_Place, 0 ≤ p.From → p.From < 8 → m p.From.toNat ≠ 0 → c p.From.toNat < p.Round → befF x.Place p = true) ∧
  (x.Entry.Kind = 1 → x.Entry.Service = 1 → ∀ j, j < 8 → m j ≠ 0 → x.Place.Round ≤ c j + 1)
theorem ord_srv {e : api_Entry} (h : ordB e = true) : srvB e = 2 ∨ srvB e = 3 := by
  unfold ordB at h; unfold srvB
  simp only [Bool.or_eq_true, bne_iff_ne, beq_iff_eq] at h
  by_cases hk : e.Kind = 1
  · rw [if_pos hk]
    rcases h with (h | h) | h
    · exact absurd hk h
    · exact .inl h
    · exact .inr h
  · rw [if_neg hk]; exact .inl rfl
theorem fut {m c : Nat → Int} (uc : U32 c) {x : api_Wait} (hp : Pl m c x) (h : isB c m x = true) : Fu m c x := by
  obtain ⟨p1, p2, p3, p4, p5⟩ := hp
  have hf8 : x.Place.From.toNat < 8 := by omega
  unfold isB at h
  refine ⟨fun ho p h0 h8 hm hr => ?_, fun hk hs j hj hm => ?_⟩
  · have h2 : servF c m x.Place 2 = true := by
      rcases ord_srv ho with e | e
      · rw [e] at h; exact h
      · rw [e] at h; exact serv32 uc h
    rw [s2, Bool.and_eq_true, Bool.and_eq_true, decide_eq_true_eq, ahead_iff] at h2
    obtain ⟨_, h3, h4⟩ := h2
    have hl := least_mem (p1 := m) uc (show p.From.toNat < 8 by omega) hm
    rw [bef_iff]
    by_cases he : x.Place.Round = p.Round
    · right
      refine ⟨he, ?_⟩
      by_cases hj : x.Place.From < p.From
      · exact .inl hj
      · exfalso
        by_cases hj2 : p.From = x.Place.From
        · rw [hj2] at hr; omega
        · have := h4 p.From.toNat (by omega) hm; omega
    · left; omega
  · have e : srvB x.Entry = 1 := by unfold srvB; rw [if_pos hk]; exact hs
    rw [e, s1, Bool.and_eq_true, decide_eq_true_eq] at h
    have hl := least_mem (p1 := m) uc hj hm
    omega
theorem mono {m c : Nat → Int} (uc : U32 c) {x y : api_Wait} (hx : Pl m c x) (hy : Pl m c y) (hb : Bef y x) (hf : x.Place.From = y.Place.From) (hs : srvB x.Entry = srvB y.Entry) (h : isB c m x = true) : isB c m y = true := by
  obtain ⟨p1, p2, p3, p4, p5⟩ := hx
  obtain ⟨q1, q2, q3, q4, q5⟩ := hy
  unfold Bef at hb
  rw [bef_iff] at hb
  have hr : y.Place.Round ≤ x.Place.Round := by omega
  have ask : askF c m y.Place = true := askF_iff.2 ⟨q1, q2, q3, by omega, q5⟩
  unfold isB at *
  rw [hs] at h
  unfold servF at *
  rw [ask, Bool.true_and]
  rw [Bool.and_eq_true] at h
  have h := h.2
  split
  · rfl
  · next k0 =>
    rw [if_neg k0] at h
    split
    · next k1 => rw [if_pos k1, decide_eq_true_eq] at h; rw [decide_eq_true_eq]; omega
    · next k1 =>
      rw [if_neg k1] at h
      split
      · next k2 =>
        rw [if_pos k2, Bool.and_eq_true, decide_eq_true_eq, ahead_iff] at h
        rw [Bool.and_eq_true, decide_eq_true_eq, ahead_iff]
        refine ⟨by omega, fun j hj hm => ?_⟩
        rw [← hf] at hj
        have := h.2 j hj hm; omega
      · next k2 =>
        rw [if_neg k2] at h
        split
        · next k3 => rw [if_pos k3, decide_eq_true_eq] at h; rw [decide_eq_true_eq]; omega
        · next k3 => rw [if_neg k3] at h; cases h
theorem caus {m c : Nat → Int} {x y : api_Wait} (hx : Pl m c x) (hy : Pl m c y) (kx : x.Entry.Kind = 1) (ky : y.Entry.Kind = 1) (sx : x.Entry.Service = 1) (sy : y.Entry.Service = 0 ∨ y.Entry.Service = 1) (hr : y.Place.Round < x.Place.Round) (h : isB c m x = true) : isB c m y = true := by
  obtain ⟨q1, q2, q3, q4, q5⟩ := hy
  have ask : askF c m y.Place = true := askF_iff.2 ⟨q1, q2, q3, by omega, q5⟩
  have ex : srvB x.Entry = 1 := by unfold srvB; rw [if_pos kx]; exact sx
  have ey : srvB y.Entry = y.Entry.Service := by unfold srvB; rw [if_pos ky]
  unfold isB at *
  rw [ex, s1, Bool.and_eq_true, decide_eq_true_eq] at h
  rw [ey]
  rcases sy with e | e
  · rw [e, s0, ask]; rfl
  · rw [e, s1, ask, decide_eq_true (by omega)]; rfl
/-- What is handed over is fit to be; what is not ordered and stays is not. -/
theorem rd_is {c m : Nat → Int} : ∀ (q : Ws) (h : Bool), (∀ x ∈ (rdF c m h q).1, isB c m x = true) ∧ (∀ y ∈ (rdF c m h q).2, ordB y.Entry = false → isB c m y = false)
  | [], h => ⟨fun x hx => (by cases hx), fun x hx => (by cases hx)⟩
  | w :: q, h => by
    obtain ⟨i1, i2⟩ := rd_is q (h || badB c m w)
    simp only [rdF]
    by_cases ho : okB c m h w = true
    · rw [if_pos ho]
      refine ⟨fun x hx => ?_, i2⟩
      rcases List.mem_cons.1 hx with rfl | hx
      · unfold okB at ho; rw [Bool.and_eq_true] at ho; exact ho.1
      · exact i1 x hx
    · rw [if_neg ho]
      refine ⟨i1, fun y hy hn => ?_⟩
      rcases List.mem_cons.1 hy with rfl | hy
      · unfold okB at ho
        rw [hn] at ho
        simpa using ho
      · exact i2 y hy hn
theorem rd_held {c m : Nat → Int} : ∀ (q : Ws), ∀ x ∈ (rdF c m true q).1, ordB x.Entry = false
  | [], x, hx => by cases hx
  | w :: q, x, hx => by
    simp only [rdF, Bool.true_or] at hx
    by_cases ho : okB c m true w = true
    · rw [if_pos ho] at hx
      rcases List.mem_cons.1 hx with rfl | hx
      · unfold okB at ho
        rw [Bool.and_eq_true, Bool.and_true, Bool.not_eq_true'] at ho; exact ho.2
      · exact rd_held q x hx
    · rw [if_neg ho] at hx
      exact rd_held q x hx
theorem rd_ord {c m : Nat → Int} : ∀ (q : Ws) (h : Bool), q.Pairwise Bef → ∀ x ∈ (rdF c m h q).1, ∀ y ∈ (rdF c m h q).2, (Bef x y ∨ Bef y x) ∧ (ordB x.Entry = true → ordB y.Entry = true → Bef x y)
  | [], h, hs, x, hx, y, hy => by cases hx
  | w :: q, h, hs, x, hx, y, hy => by
    have ih := rd_ord (c := c) (m := m) q (h || badB c m w) (List.pairwise_cons.1 hs).2
    have hw := (List.pairwise_cons.1 hs).1
    simp only [rdF] at hx hy
    by_cases ho : okB c m h w = true
    · rw [if_pos ho] at hx hy
      rcases List.mem_cons.1 hx with rfl | hx
      · have := hw y ((rd_sub2 c m q _).mem hy)
        exact ⟨.inl this, fun _ _ => this⟩
      · exact ih x hx y hy
    · rw [if_neg ho] at hx hy
      rcases List.mem_cons.1 hy with rfl | hy
      · refine ⟨.inr (hw x ((rd_sub1 c m q _).mem hx)), fun h1 h2 => ?_⟩
        exfalso
        have hb : (h || badB c m y) = true := by
          unfold okB at ho; unfold badB
          rw [h2] at ho ⊢
          cases h <;> simp_all
        rw [hb] at hx
        have := rd_held q x hx
        rw [h1] at this; cases this
      · exact ih x hx y hy
theorem rd_rel {c m : Nat → Int} (uc : U32 c) {q : Ws} (hs : q.Pairwise Bef) (hp : ∀ w ∈ q, Pl m c w) : ∀ x ∈ (rdF c m false q).1, ∀ y ∈ (rdF c m false q).2, Rel x y := by
  intro x hx y hy
  have px := hp x ((rd_sub1 c m q false).mem hx)
  have py := hp y ((rd_sub2 c m q false).mem hy)
  have ix := (rd_is q false).1 x hx
  obtain ⟨h1, h2⟩ := rd_ord q false hs x hx y hy
  rcases h1 with h1 | h1
  · exact .of h1
  · refine ⟨h2, fun e1 e2 e3 => ?_, fun kx ky sx sy => ?_⟩
    · have eo : ordB x.Entry = ordB y.Entry := by unfold ordB; rw [e2, e3]
      have es : srvB x.Entry = srvB y.Entry := by unfold srvB; rw [e2, e3]
      cases ho : ordB y.Entry with
      | true => exact h2 (by rw [eo]; exact ho) ho
      | false =>
        have := (rd_is q false).2 y hy ho
        rw [mono uc px py h1 e1 es ix] at this; cases this
    · have ho : ordB y.Entry = false := by
        unfold ordB
        rcases sy with e | e <;> simp [ky, e]
      have := (rd_is q false).2 y hy ho
      by_cases hr : y.Place.Round < x.Place.Round
      · rw [caus px py kx ky sx sy hr ix] at this; cases this
      · omega
/-- What a frame brings. -/
def newsF (f r : Int) (es : _root_.List api_Entry) : Nat → Ws
  | 0 => []
  | n + 1 => if b_api_Entry (es.getD n z_api_Entry) zE = true then newsF f r es n else mkW f r es n :: newsF f r es n
theorem mem_news {f r : Int} {es : _root_.List api_Entry} {x : api_Wait} : ∀ n, x ∈ newsF f r es n → x.Place.Round = r ∧ x.Place.From = f ∧ x.Place.Slot < n
  | 0, h => by cases h
  | n + 1, h => by
    unfold newsF at h
    split at h
    · obtain ⟨h1, h2, h3⟩ := mem_news n h; exact ⟨h1, h2, by omega⟩
    · rcases List.mem_cons.1 h with rfl | h
      · exact ⟨rfl, rfl, by simp [mkW]; omega⟩
      · obtain ⟨h1, h2, h3⟩ := mem_news n h; exact ⟨h1, h2, by omega⟩
theorem add_perm {q : Ws} {f r : Int} {es : _root_.List api_Entry} (h : ∀ w ∈ q, ¬ (w.Place.Round = r ∧ w.Place.From = f)) : ∀ n, (addF q f r es n).Perm (newsF f r es n ++ q)
  | 0 => .refl _
  | n + 1 => by
    have ih := add_perm (es := es) h n
    unfold addF newsF
    split
    · exact ih
    · have hn : hasP (mkW f r es n) (addF q f r es n) = false := by
        cases hh : hasP (mkW f r es n) (addF q f r es n) with
        | false => rfl
        | true =>
          exfalso
          obtain ⟨x, hx, hp⟩ := List.any_eq_true.1 hh
          have e := beqP.1 hp
          have ef : x.Place.Round = r ∧ x.Place.From = f ∧ x.Place.Slot = (n : Int) := by rw [e]; exact ⟨rfl, rfl, rfl⟩
          rcases List.mem_append.1 ((ih.mem_iff).1 hx) with h1 | h1
          · have := (mem_news n h1).2.2; omega
          · exact h x h1 ⟨ef.1, ef.2.1⟩
      unfold putF
      rw [hn, if_neg (by decide)]
      exact (insW_perm _ _).trans (.cons _ ih)
theorem news_len (f r : Int) (es : _root_.List api_Entry) : ∀ n, (newsF f r es n).length ≤ n
  | 0 => Nat.le_refl _
  | n + 1 => by
    have := news_len f r es n
    unfold newsF
    split
    · omega
    · simp only [List.length_cons]; omega
structure Inv (m : Nat → Int) (n : Nat) (q out A : Ws) (c : Nat → Int) : Prop where
  cb : ∀ j, j < 8 → 0 ≤ c j ∧ c j ≤ n
  qs : q.Pairwise Bef
  sa : A.Pairwise Bef
  pm : (out ++ q).Perm A
  pl : ∀ w ∈ A, Pl m c w
  oo : out.Pairwise Rel
  oq : ∀ x ∈ out, ∀ y ∈ q, Rel x y
  fu : ∀ x ∈ out, Fu m c x
  ln : A.length ≤ 4 * n
theorem Inv.u32 {m : Nat → Int} {n : Nat} {q out A : Ws} {c : Nat → Int} (h : Inv m n q out A c) (hn : n ≤ 1000) : U32 c := fun j hj => by
  have := h.cb j hj
  rw [wf_u32]; omega
theorem Inv.up {m : Nat → Int} {n : Nat} {q out A : Ws} {c : Nat → Int} (h : Inv m n q out A c) : Inv m (n + 1) q out A c :=
  { h with cb := fun j hj => by have := h.cb j hj; omega, ln := by have := h.ln; omega }
theorem Inv.step {m : Nat → Int} {n : Nat} {q out A : Ws} {c : Nat → Int} (h : Inv m n q out A c) (hn : n < 1000) {f r : Int} {es : _root_.List api_Entry} (f0 : 0 ≤ f) (f8 : f < 8) (fm : m f.toNat ≠ 0) (hr : r = c f.toNat + 1) (hl : es.length ≤ 4) :
    Inv m (n + 1) (rdF (aupd c f.toNat r) m false (addF q f r es es.length)).2 (out ++ (rdF (aupd c f.toNat r) m false (addF q f r es es.length)).1) (addF A f r es es.length) (aupd c f.toNat r) := by
  have hf8 : f.toNat < 8 := by omega
  have hcb := h.cb f.toNat hf8
  have ge : ∀ j, c j ≤ aupd c f.toNat r j := fun j => by
    simp only [aupd]
    by_cases e : j = f.toNat
    · rw [if_pos e, e]; omega
    · rw [if_neg e]; omega
  have atf : aupd c f.toNat r f.toNat = r := by simp only [aupd, if_true]
  have cb' : ∀ j, j < 8 → 0 ≤ aupd c f.toNat r j ∧ aupd c f.toNat r j ≤ (n + 1 : Nat) := fun j hj => by
    have := h.cb j hj
    simp only [aupd]
    by_cases e : j = f.toNat
    · rw [if_pos e]; omega
    · rw [if_neg e]; omega
  have uc : U32 (aupd c f.toNat r) := fun j hj => by have := cb' j hj; rw [wf_u32]; omega
  have freeA : ∀ w ∈ A, ¬ (w.Place.Round = r ∧ w.Place.From = f) := fun w hw e => by
    have := (h.pl w hw).2.2.2.2
    rw [e.2, e.1] at this; omega
  have inA : ∀ w, w ∈ out ++ q → w ∈ A := fun w hw => (h.pm.mem_iff).1 hw
  have freeq : ∀ w ∈ q, ¬ (w.Place.Round = r ∧ w.Place.From = f) := fun w hw => freeA w (inA w (List.mem_append.2 (.inr hw)))
  have pq := add_perm (es := es) freeq es.length
  have pA := add_perm (es := es) freeA es.length
  have plA : ∀ w ∈ addF A f r es es.length, Pl m (aupd c f.toNat r) w := fun w hw => by
    rcases List.mem_append.1 ((pA.mem_iff).1 hw) with h1 | h1
    · obtain ⟨e1, e2, e3⟩ := mem_news _ h1
      exact ⟨by rw [e2]; exact f0, by rw [e2]; exact f8, by rw [e2]; exact fm, by rw [e1]; omega, by rw [e2, e1, atf]; omega⟩
    · obtain ⟨a1, a2, a3, a4, a5⟩ := h.pl w h1
      exact ⟨a1, a2, a3, a4, by have := ge w.Place.From.toNat; omega⟩
  have plq : ∀ w ∈ addF q f r es es.length, Pl m (aupd c f.toNat r) w := fun w hw => by
    refine plA w ((pA.mem_iff).2 (List.mem_append.2 ?_))
    rcases List.mem_append.1 ((pq.mem_iff).1 hw) with h1 | h1
    · exact .inl h1
    · exact .inr (inA w (List.mem_append.2 (.inr h1)))
  have qs1 := addF_sorted h.qs f r es es.length
  have oq1 : ∀ x ∈ out, ∀ y ∈ addF q f r es es.length, Rel x y := fun x hx y hy => by
    rcases List.mem_append.1 ((pq.mem_iff).1 hy) with h1 | h1
    · obtain ⟨e1, e2, e3⟩ := mem_news _ h1
      obtain ⟨g1, g2⟩ := h.fu x hx
      have px := h.pl x (inA x (List.mem_append.2 (.inl hx)))
      refine ⟨fun o1 o2 => g1 o1 y.Place (by omega) (by omega) (by rw [e2]; exact fm) (by rw [e2, e1]; omega), fun q1 q2 q3 => ?_, fun k1 k2 s1 s2 => ?_⟩
      · have := px.2.2.2.2
        rw [q1, e2] at this
        unfold Bef; rw [bef_iff]; left; omega
      · have := g2 k1 s1 f.toNat hf8 fm; omega
    · exact h.oq x hx y h1
  have P := rd_perm (aupd c f.toNat r) m (addF q f r es es.length) false
  have S1 := rd_sub1 (aupd c f.toNat r) m (addF q f r es es.length) false
  have S2 := rd_sub2 (aupd c f.toNat r) m (addF q f r es es.length) false
  have RR := rd_rel uc qs1 plq
  have IS := (rd_is (c := aupd c f.toNat r) (m := m) (addF q f r es es.length) false).1
  generalize (rdF (aupd c f.toNat r) m false (addF q f r es es.length)).1 = a at *
  generalize (rdF (aupd c f.toNat r) m false (addF q f r es es.length)).2 = b at *
  refine { cb := cb', qs := qs1.sublist S2, sa := addF_sorted h.sa f r es es.length, pm := ?_, pl := plA, oo := ?_, oq := ?_, fu := ?_, ln := ?_ }
  · rw [List.append_assoc]
    refine ((List.Perm.refl out).append P).trans (((List.Perm.refl out).append pq).trans ?_)
    refine List.Perm.trans ?_ (((List.Perm.refl _).append h.pm).trans pA.symm)
    rw [← List.append_assoc, ← List.append_assoc]
    exact (List.perm_append_comm).append (.refl q)
  · rw [List.pairwise_append]
    refine ⟨h.oo, (qs1.sublist S1).imp fun hh => .of hh, fun x hx y hy => oq1 x hx y (S1.mem hy)⟩
  · intro x hx y hy
    rcases List.mem_append.1 hx with h1 | h1
    · exact oq1 x h1 y (S2.mem hy)
    · exact RR x h1 y hy
  · intro x hx
    rcases List.mem_append.1 hx with h1 | h1
    · obtain ⟨g1, g2⟩ := h.fu x h1
      exact ⟨fun o p p1 p2 p3 p4 => g1 o p p1 p2 p3 (by have := ge p.From.toNat; omega), fun k s j hj hm => by have := g2 k s j hj hm; have := ge j; omega⟩
    · exact fut uc (plq x (S1.mem h1)) (IS x h1)
  · have := pA.length_eq
    have h2 := news_len f r es es.length
    have := h.ln
    simp only [List.length_append] at *
    omega
theorem inv0 (m : Nat → Int) : Inv m 0 [] [] [] (aset (fun _ => 0) []) where
  cb := fun j hj => ⟨Int.le_refl _, Int.le_refl _⟩
  qs := .nil
  sa := .nil
  pm := .refl _
  pl := fun w hw => by cases hw
  oo := .nil
  oq := fun x hx => by cases hx
  fu := fun x hx => by cases hx
  ln := Nat.le_refl _
/-- A frame that does not count. -/
def skipB (p0 : congresslaw22_Play) (c : Nat → Int) (n : Nat) : Bool := ((((decide (((p0.L.getD n z_congresslaw22_Frame).From) < 0)) || (decide (((p0.L.getD n z_congresslaw22_Frame).From) > 7))) || ((p0.M ((iand .i64 ((p0.L.getD n z_congresslaw22_Frame).From) 7).toNat)) == 0)) || (((p0.L.getD n z_congresslaw22_Frame).Round) != (IntKind.u32.wrap ((c ((iand .i64 ((p0.L.getD n z_congresslaw22_Frame).From) 7).toNat)) + 1))))
structure Sta where
  q : Ws
  out : Ws
  A : Ws
  c : Nat → Int
def fr (p0 : congresslaw22_Play) (n : Nat) : congresslaw22_Frame := p0.L.getD n z_congresslaw22_Frame
def es4 (p0 : congresslaw22_Play) (n : Nat) : _root_.List api_Entry := (((fr p0 n).L).take ((if 4 < (((fr p0 n).L).length : Int) then 4 else (((fr p0 n).L).length : Int)).toNat)).drop 0
def nxt (p0 : congresslaw22_Play) (s : Sta) (n : Nat) : Sta :=
  if skipB p0 s.c n = true then s else
    let f := (fr p0 n).From; let r := (fr p0 n).Round; let es := es4 p0 n
    let c := aupd s.c f.toNat r
    ⟨(rdF c p0.M false (addF s.q f r es es.length)).2, s.out ++ (rdF c p0.M false (addF s.q f r es es.length)).1, addF s.A f r es es.length, c⟩
def sta (p0 : congresslaw22_Play) : Nat → Sta
  | 0 => ⟨[], [], [], aset (fun _ => 0) []⟩
  | n + 1 => nxt p0 (sta p0 n) n
theorem es4_len (p0 : congresslaw22_Play) (n : Nat) : (es4 p0 n).length ≤ 4 := by
  unfold es4
  simp only [List.drop_zero, List.length_take]
  split <;> omega
theorem skip_not {p0 : congresslaw22_Play} {c : Nat → Int} {n k : Nat} (hc : ∀ j, j < 8 → 0 ≤ c j ∧ c j ≤ k) (hk : k ≤ 1000) (h : skipB p0 c n = false) :
    0 ≤ (fr p0 n).From ∧ (fr p0 n).From < 8 ∧ p0.M (fr p0 n).From.toNat ≠ 0 ∧ (fr p0 n).Round = c (fr p0 n).From.toNat + 1 ∧ iand .i64 (fr p0 n).From 7 = (fr p0 n).From ∧ IntKind.u32.wrap (c (fr p0 n).From.toNat + 1) = (fr p0 n).Round := by
  unfold skipB at h
  have ef : p0.L.getD n z_congresslaw22_Frame = fr p0 n := rfl
  rw [ef] at h
  simp only [Bool.or_eq_false_iff, decide_eq_false_iff_not] at h
  obtain ⟨⟨⟨h1, h2⟩, h3⟩, h4⟩ := h
  have e7 : iand .i64 (fr p0 n).From 7 = (fr p0 n).From := and7 (by omega) (by omega)
  rw [e7] at h3 h4
  have hb := hc (fr p0 n).From.toNat (by omega)
  have ew : IntKind.u32.wrap (c (fr p0 n).From.toNat + 1) = c (fr p0 n).From.toNat + 1 := by rw [w32]; omega
  rw [ew] at h4
  have h4' : (fr p0 n).Round = c (fr p0 n).From.toNat + 1 := by simpa using h4
  exact ⟨by omega, by omega, by simpa using h3, h4', e7, by rw [ew, h4']⟩
theorem sta_inv (p0 : congresslaw22_Play) : ∀ n, n ≤ 1000 → Inv p0.M n (sta p0 n).q (sta p0 n).out (sta p0 n).A (sta p0 n).c
  | 0, _ => inv0 _
  | n + 1, hn => by
    have ih := sta_inv p0 n (by omega)
    have e : sta p0 (n + 1) = nxt p0 (sta p0 n) n := rfl
    rw [e]
    unfold nxt
    by_cases hs : skipB p0 (sta p0 n).c n = true
    · rw [if_pos hs]; exact ih.up
    · rw [if_neg hs]
      rw [Bool.not_eq_true] at hs
      obtain ⟨h1, h2, h3, h4, _, _⟩ := skip_not ih.cb (by omega) hs
      exact ih.step (by omega) h1 h2 h3 h4 (es4_len p0 n)
def cntF (p0 : congresslaw22_Play) : Nat := min p0.L.length 60
theorem wf_fr {p0 : congresslaw22_Play} (w : w_congresslaw22_Play p0) {n : Nat} (hn : n < p0.L.length) : w_congresslaw22_Frame (fr p0 n) := w.2.2 n hn
theorem deliv_eq {p0 : congresslaw22_Play} (w : w_congresslaw22_Play p0) : congresslaw22_delivered p0 = some ((sta p0 (cntF p0)).out ++ (sta p0 (cntF p0)).q) := by
  have lens : ∀ n, n ≤ 1000 → (sta p0 n).out.length + (sta p0 n).q.length ≤ 4 * n := fun n hn => by
    have h := sta_inv p0 n hn
    have := h.pm.length_eq
    rw [List.length_append] at this
    have := h.ln; omega
  unfold congresslaw22_delivered
  rw [loop_seq (s0 := ((0 : Int), ([] : Ws), ([] : Ws), aset (fun _ => 0) [])) (fun n => ((n : Int), (sta p0 n).q, (sta p0 n).out, (sta p0 n).c)) (cntF p0) (w := .nx ((sta p0 (cntF p0)).q, (sta p0 (cntF p0)).out)) rfl (fun n hn => by
    have hn1 : n < p0.L.length := by unfold cntF at hn; omega
    have hn2 : n < 60 := by unfold cntF at hn; omega
    have hn' : (n : Int) < (p0.L.length : Int) := by omega
    have hn60 : (n : Int) < 60 := by omega
    have e1 : IntKind.i64.wrap ((n : Int) + 1) = ((n + 1 : Nat) : Int) := by rw [w64] <;> omega
    have I := sta_inv p0 n (by omega)
    have I2 := sta_inv p0 (n + 1) (by omega)
    have L1 := lens n (by omega)
    have L2 := lens (n + 1) (by omega)
    have ibt : ∀ g x, ibg g (iand .i64 x 7) 8 = some () := fun g x => ibg_t (fun _ => and7_in x)
    have ibt2 : ∀ x, ib (iand .i64 x 7) 8 = some () := fun x => ib_t (and7_in x).1 (and7_in x).2
    have esk : (((((decide (((p0.L.getD n z_congresslaw22_Frame).From) < 0)) || (decide (((p0.L.getD n z_congresslaw22_Frame).From) > 7))) || ((p0.M ((iand .i64 ((p0.L.getD n z_congresslaw22_Frame).From) 7).toNat)) == 0)) || (((p0.L.getD n z_congresslaw22_Frame).Round) != (IntKind.u32.wrap (((sta p0 n).c ((iand .i64 ((p0.L.getD n z_congresslaw22_Frame).From) 7).toNat)) + 1)))) : Bool) = skipB p0 (sta p0 n).c n := rfl
    have ef : p0.L.getD n z_congresslaw22_Frame = fr p0 n := rfl
    have es : sta p0 (n + 1) = nxt p0 (sta p0 n) n := rfl
    simp only [hn', hn60, decide_true, Bool.and_self, if_true, jn, ib_n hn1, Option.bind_some, Int.toNat_natCast, e1, ibt, ibt2, lt, esk]
    by_cases hs : skipB p0 (sta p0 n).c n = true
    · rw [if_pos hs, es]
      unfold nxt
      rw [if_pos hs]
    · rw [if_neg hs]
      rw [Bool.not_eq_true] at hs
      obtain ⟨h1, h2, h3, h4, h5, h6⟩ := skip_not I.cb (by omega) hs
      have e4 : (((fr p0 n).L).take ((if 4 < (((fr p0 n).L).length : Int) then 4 else (((fr p0 n).L).length : Int)).toNat)).drop 0 = es4 p0 n := rfl
      simp only [ef, h5, h6]
      rw [sb_t (by split <;> omega)]
      simp only [Option.bind_some, e4]
      have hq4 := es4_len p0 n
      rw [es] at L2 ⊢
      unfold nxt at L2 ⊢
      rw [if_neg (by rw [hs]; decide)] at L2 ⊢
      simp only at L2 ⊢
      have hwq : wfQ (addF (sta p0 n).q (fr p0 n).From (fr p0 n).Round (es4 p0 n) (es4 p0 n).length) := by
        refine wfQ_add (fun x hx => ?_) (wf_fr w hn1).2.1 _
        obtain ⟨a1, a2, a3, a4, a5⟩ := I.pl x ((I.pm.mem_iff).1 (List.mem_append.2 (.inr hx)))
        have := I.cb x.Place.From.toNat (by omega)
        rw [wf_u32]; omega
      have hal := addF_len (sta p0 n).q (fr p0 n).From (fr p0 n).Round (es4 p0 n) (es4 p0 n).length
      rw [add_eq _ _ _ _ (by omega)]
      simp only [Option.bind_some]
      rw [ready_eq hwq (by omega)]
      simp only [Option.bind_some]
      rw [R9.fit_t (by omega) (by omega)]
      rfl) (by
    have : ((decide (((cntF p0 : Nat) : Int) < (p0.L.length : Int))) && (decide (((cntF p0 : Nat) : Int) < 60))) = false := by
      rw [Bool.and_eq_false_iff, decide_eq_false_iff_not, decide_eq_false_iff_not]; unfold cntF; omega
    simp only [this, Bool.false_eq_true, if_false])]
  have hc : cntF p0 ≤ 60 := by unfold cntF; omega
  have := lens (cntF p0) (by omega)
  simp only [Option.bind_some, Fl.elim]
  rw [flush_eq _ (by omega)]
  simp only [Option.bind_some]
  rw [R9.fit_t (by rw [List.length_append]; omega) (by omega)]
  rfl
theorem all_eq {p0 : congresslaw22_Play} (w : w_congresslaw22_Play p0) : congresslaw22_all p0 = some (sta p0 (cntF p0)).A := by
  unfold congresslaw22_all
  rw [loop_seq (s0 := (([] : Ws), (0 : Int), aset (fun _ => 0) [])) (fun n => ((sta p0 n).A, (n : Int), (sta p0 n).c)) (cntF p0) (w := .nx ((sta p0 (cntF p0)).A)) rfl (fun n hn => by
    have hn1 : n < p0.L.length := by unfold cntF at hn; omega
    have hn2 : n < 60 := by unfold cntF at hn; omega
    have hn' : (n : Int) < (p0.L.length : Int) := by omega
    have hn60 : (n : Int) < 60 := by omega
    have e1 : IntKind.i64.wrap ((n : Int) + 1) = ((n + 1 : Nat) : Int) := by rw [w64] <;> omega
    have I := sta_inv p0 n (by omega)
    have ibt : ∀ g x, ibg g (iand .i64 x 7) 8 = some () := fun g x => ibg_t (fun _ => and7_in x)
    have ibt2 : ∀ x, ib (iand .i64 x 7) 8 = some () := fun x => ib_t (and7_in x).1 (and7_in x).2
    have esk : (((((decide (((p0.L.getD n z_congresslaw22_Frame).From) < 0)) || (decide (((p0.L.getD n z_congresslaw22_Frame).From) > 7))) || ((p0.M ((iand .i64 ((p0.L.getD n z_congresslaw22_Frame).From) 7).toNat)) == 0)) || (((p0.L.getD n z_congresslaw22_Frame).Round) != (IntKind.u32.wrap (((sta p0 n).c ((iand .i64 ((p0.L.getD n z_congresslaw22_Frame).From) 7).toNat)) + 1)))) : Bool) = skipB p0 (sta p0 n).c n := rfl
    have ef : p0.L.getD n z_congresslaw22_Frame = fr p0 n := rfl
    have es : sta p0 (n + 1) = nxt p0 (sta p0 n) n := rfl
    simp only [hn', hn60, decide_true, Bool.and_self, if_true, jn, ib_n hn1, Option.bind_some, Int.toNat_natCast, e1, ibt, ibt2, lt, esk]
    by_cases hs : skipB p0 (sta p0 n).c n = true
    · rw [if_pos hs, es]
      unfold nxt
      rw [if_pos hs]
    · rw [if_neg hs]
      rw [Bool.not_eq_true] at hs
      obtain ⟨h1, h2, h3, h4, h5, h6⟩ := skip_not I.cb (by omega) hs
      have e4 : (((fr p0 n).L).take ((if 4 < (((fr p0 n).L).length : Int) then 4 else (((fr p0 n).L).length : Int)).toNat)).drop 0 = es4 p0 n := rfl
      simp only [ef, h5, h6]
      rw [sb_t (by split <;> omega)]
      simp only [Option.bind_some, e4]
      have hq4 := es4_len p0 n
      have := I.ln
      rw [es]
      unfold nxt
      rw [if_neg (by rw [hs]; decide)]
      rw [radd_eq _ _ _ _ (by omega)]
      rfl) (by
    have : ((decide (((cntF p0 : Nat) : Int) < (p0.L.length : Int))) && (decide (((cntF p0 : Nat) : Int) < 60))) = false := by
      rw [Bool.and_eq_false_iff, decide_eq_false_iff_not, decide_eq_false_iff_not]; unfold cntF; omega
    simp only [this, Bool.false_eq_true, if_false])]
  rfl
theorem done_all (p0 : congresslaw22_Play) : ((sta p0 (cntF p0)).out ++ (sta p0 (cntF p0)).q).Pairwise Rel ∧ ((sta p0 (cntF p0)).out ++ (sta p0 (cntF p0)).q).Perm (sta p0 (cntF p0)).A ∧ (sta p0 (cntF p0)).A.Nodup ∧ (sta p0 (cntF p0)).A.length ≤ 240 := by
  have hc : cntF p0 ≤ 60 := by unfold cntF; omega
  have I := sta_inv p0 (cntF p0) (by omega)
  refine ⟨?_, I.pm, sorted_nodup I.sa, by have := I.ln; omega⟩
  rw [List.pairwise_append]
  exact ⟨I.oo, I.qs.imp fun h => .of h, I.oq⟩
theorem pw_at {R : api_Wait → api_Wait → Prop} {d : Ws} (h : d.Pairwise R) {i j : Nat} (hij : i < j) (hj : j < d.length) : R (d.getD i z_api_Wait) (d.getD j z_api_Wait) := by
  have := List.pairwise_iff_getElem.1 h i j (by omega) hj hij
  rw [List.getD_eq_getElem?_getD, List.getD_eq_getElem?_getD, List.getElem?_eq_getElem hj, List.getElem?_eq_getElem (show i < d.length by omega)]
  exact this
theorem pure_queueOrder (a0 : congresslaw22_Play) (w0 : w_congresslaw22_Play a0) : congresslaw22_QueueOrder a0 = some true := by
  unfold congresslaw22_QueueOrder
  rw [deliv_eq w0, all_eq w0, fixed_eq]
  obtain ⟨h1, h2, h3, h4⟩ := done_all a0
  generalize (sta a0 (cntF a0)).out ++ (sta a0 (cntF a0)).q = d at *
  generalize (sta a0 (cntF a0)).A = A at *
  have hl := h2.length_eq
  simp only [Option.bind_some, Bool.not_true, Bool.false_or]
  rw [if_neg (by simp [hl])]
  have hnd : d.Nodup := (h2.nodup_iff).2 h3
  refine loop_cb (fun n s => s.1 = A ∧ s.2.2.1 = (n : Int) ∧ (s.2.1 = true ∨ ∃ j, j < n ∧ s.2.2.2 = (d.getD j z_api_Wait).Place ∧ ordB (d.getD j z_api_Wait).Entry = true)) (fun w => w = .nx ()) d.length ⟨rfl, rfl, .inl rfl⟩
    (fun n s hn hs => by
      obtain ⟨s1, s2, s3, s4⟩ := s
      obtain ⟨g1, g2, g3⟩ := hs
      simp only at g1 g2 g3
      subst g1; subst g2
      have hn' : (n : Int) < (d.length : Int) := by omega
      have e1 : IntKind.i64.wrap ((n : Int) + 1) = ((n + 1 : Nat) : Int) := by rw [w64] <;> omega
      have hA : hasB s1 (d.getD n z_api_Wait) = true := has_iff.2 ((h2.mem_iff).1 (getD_in hn))
      have hB : hasB ((d.take n).drop 0) (d.getD n z_api_Wait) = false := by
        cases hh : hasB ((d.take n).drop 0) (d.getD n z_api_Wait) with
        | false => rfl
        | true =>
          exfalso
          have hm := has_iff.1 hh
          rw [List.drop_zero] at hm
          have h5 := hnd
          rw [← List.take_append_drop n d, List.nodup_append] at h5
          have hd : d.drop n = d.getD n z_api_Wait :: d.drop (n + 1) := by
            rw [List.getD_eq_getElem?_getD, List.getElem?_eq_getElem hn]; exact List.drop_eq_getElem_cons hn
          exact h5.2.2 _ hm _ (by rw [hd]; exact List.mem_cons_self ..) rfl
      have ibt : ∀ g, ibg g (n : Int) d.length = some () := fun g => ibg_t (fun _ => by omega)
      have sbt : ∀ g, sbg g 0 (n : Int) d.length = some () := fun g => sbg_t (fun _ => by omega)
      have hlt : ((d.take n).drop 0).length ≤ 1000000 := by rw [List.drop_zero, List.length_take]; omega
      left
      simp only [hn', decide_true, if_true, jn, ib_n hn, Option.bind_some, Int.toNat_natCast, e1, has_eq s1 _ (show s1.length ≤ 1000000 by omega), hA, ibt, sbt, whn, Bool.not_true, Bool.not_false, has_eq _ _ hlt, hB, Bool.or_self, Bool.false_eq_true, if_false, rordered_eq, rbefore_eq]
      by_cases ho : ordB (d.getD n z_api_Wait).Entry = true
      · rw [if_pos ho]
        have hbf : s2 = true ∨ (s2 = false ∧ befF s4 (d.getD n z_api_Wait).Place = true) := by
          cases hs2 : s2 with
          | true => exact .inl rfl
          | false =>
            right
            rcases g3 with g3 | ⟨j, hj, he, hoj⟩
            · rw [hs2] at g3; cases g3
            · rw [he]; exact ⟨rfl, (pw_at h1 hj hn).1 hoj ho⟩
        refine ⟨(s1, false, ((n + 1 : Nat) : Int), (d.getD n z_api_Wait).Place), ?_, rfl, rfl, .inr ⟨n, by omega, rfl, ho⟩⟩
        rcases hbf with rfl | ⟨rfl, hb⟩
        · rfl
        · rw [hb]; rfl
      · rw [if_neg ho]
        refine ⟨(s1, s2, ((n + 1 : Nat) : Int), s4), rfl, rfl, rfl, ?_⟩
        rcases g3 with g3 | ⟨j, hj, he, hoj⟩
        · exact .inl g3
        · exact .inr ⟨j, by omega, he, hoj⟩)
    (fun s hs => by
      obtain ⟨s1, s2, s3, s4⟩ := s
      obtain ⟨g1, g2, g3⟩ := hs
      simp only at g1 g2 g3
      subst g1; subst g2
      refine ⟨_, ?_, rfl⟩
      simp only [Int.lt_irrefl, decide_false, Bool.false_eq_true, if_false])
    (fun w hw => by subst hw; rfl)
theorem pure_queueFifo (a0 : congresslaw22_Play) (w0 : w_congresslaw22_Play a0) : congresslaw22_QueueFifo a0 = some true := by
  unfold congresslaw22_QueueFifo
  rw [deliv_eq w0, fixed_eq]
  obtain ⟨h1, h2, h3, h4⟩ := done_all a0
  generalize (sta a0 (cntF a0)).out ++ (sta a0 (cntF a0)).q = d at *
  have hl := h2.length_eq
  simp only [Option.bind_some]
  rw [loop_seq (s0 := (0 : Int)) (fun n => (n : Int)) d.length (w := .nx ()) rfl (fun n hn => by
    have hn' : (n : Int) < (d.length : Int) := by omega
    have e1 : IntKind.i64.wrap ((n : Int) + 1) = ((n + 1 : Nat) : Int) := by rw [w64] <;> omega
    simp only [hn', decide_true, if_true]
    rw [loop_seq (s0 := (0 : Int)) (fun i => (i : Int)) n (w := .nx ()) rfl (fun i hi => by
      have hi' : (i : Int) < (n : Int) := by omega
      have hi2 : i < d.length := by omega
      have e2 : IntKind.i64.wrap ((i : Int) + 1) = ((i + 1 : Nat) : Int) := by rw [w64] <;> omega
      obtain ⟨R1, R2, R3⟩ := pw_at h1 hi hn
      simp only [hi', decide_true, if_true, ib_n hi2, ib_n hn, Option.bind_some, Int.toNat_natCast, e2, rbefore_eq, whn, lt]
      have hc2 : (((((((d.getD i z_api_Wait).Entry.Kind == 1) && ((d.getD n z_api_Wait).Entry.Kind == 1)) && ((d.getD i z_api_Wait).Entry.Service == 1)) && (((d.getD n z_api_Wait).Entry.Service == 0) || ((d.getD n z_api_Wait).Entry.Service == 1))) && (decide ((d.getD n z_api_Wait).Place.Round < (d.getD i z_api_Wait).Place.Round))) : Bool) = false := by
        cases hh : (((((((d.getD i z_api_Wait).Entry.Kind == 1) && ((d.getD n z_api_Wait).Entry.Kind == 1)) && ((d.getD i z_api_Wait).Entry.Service == 1)) && (((d.getD n z_api_Wait).Entry.Service == 0) || ((d.getD n z_api_Wait).Entry.Service == 1))) && (decide ((d.getD n z_api_Wait).Place.Round < (d.getD i z_api_Wait).Place.Round))) : Bool) with
        | false => rfl
        | true =>
          exfalso
          simp only [Bool.and_eq_true, Bool.or_eq_true, beq_iff_eq, decide_eq_true_eq] at hh
          have := R3 hh.1.1.1.1 hh.1.1.1.2 hh.1.1.2 hh.1.2; omega
      by_cases hc : (((d.getD i z_api_Wait).Place.From == (d.getD n z_api_Wait).Place.From) && ((d.getD i z_api_Wait).Entry.Service == (d.getD n z_api_Wait).Entry.Service) && ((d.getD i z_api_Wait).Entry.Kind == (d.getD n z_api_Wait).Entry.Kind)) = true
      · have hc' := hc
        simp only [Bool.and_eq_true, beq_iff_eq] at hc'
        have hb : befF (d.getD i z_api_Wait).Place (d.getD n z_api_Wait).Place = true := R2 hc'.1.1 hc'.1.2 hc'.2
        rw [if_pos hc, hc]
        simp only [Option.bind_some, hb, Bool.not_true, Bool.and_false, Bool.false_eq_true, if_false, hc2]
      · rw [if_neg hc]
        rw [Bool.not_eq_true] at hc
        simp only [Option.bind_some, hc, Bool.not_false, Bool.and_true, Bool.false_eq_true, if_false, hc2]) (by simp)]
    simp only [Option.bind_some, Fl.elim, e1]) (by simp)]
  rfl
end Go.Proofs.Ytclblogdciebnaa
