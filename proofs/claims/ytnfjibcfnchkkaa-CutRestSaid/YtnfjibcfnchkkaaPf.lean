/- Chapter 11: what is missing, received one after the other, makes the union; what is left behind a later place. Conditions: none. -/
import Derived.Test.YtnfjibcfnchkkaaPe
set_option linter.unusedVariables false
set_option linter.unusedSimpArgs false
namespace Go.Proofs.Ytnfjibcfnchkkaa
open Go.Eng R9
theorem and7 {x : Int} (h0 : 0 ≤ x) (h8 : x < 8) : iand .i64 x 7 = x := by
  obtain ⟨d, rfl⟩ : ∃ d : Nat, x = (d : Int) := ⟨x.toNat, by omega⟩
  have h : d < 8 := by omega
  match d, h with
  | 0, _ => decide
  | 1, _ => decide
  | 2, _ => decide
  | 3, _ => decide
  | 4, _ => decide
  | 5, _ => decide
  | 6, _ => decide
  | 7, _ => decide
theorem pw_at {R : api_Place → api_Place → Prop} {d : Ps} (h : d.Pairwise R) {i j : Nat} (hij : i < j) (hj : j < d.length) : R (d.getD i z_api_Place) (d.getD j z_api_Place) := by
  have := List.pairwise_iff_getElem.1 h i j (by omega) hj hij
  rw [List.getD_eq_getElem?_getD, List.getD_eq_getElem?_getD, List.getElem?_eq_getElem hj, List.getElem?_eq_getElem (show i < d.length by omega)]
  exact this
theorem in_take {d : Ps} {n : Nat} {x : api_Place} (h : x ∈ d.take n) : ∃ i, i < n ∧ i < d.length ∧ x = d.getD i z_api_Place := by
  obtain ⟨i, hi, rfl⟩ := List.getElem_of_mem h
  rw [List.length_take] at hi
  refine ⟨i, by omega, by omega, ?_⟩
  rw [List.getElem_take, List.getD_eq_getElem?_getD, List.getElem?_eq_getElem (by omega)]; rfl
theorem take_in {d : Ps} {n i : Nat} (h : i < n) (hd : i < d.length) : d.getD i z_api_Place ∈ d.take n := by
  have : i < (d.take n).length := by rw [List.length_take]; omega
  have h2 : (d.take n)[i] = d.getD i z_api_Place := by
    rw [List.getElem_take, List.getD_eq_getElem?_getD, List.getElem?_eq_getElem hd]; rfl
  rw [← h2]; exact List.getElem_mem this
theorem before_in {d : Ps} (h : d.Pairwise Bef) {n : Nat} (hn : n < d.length) {x : api_Place} (hx : x ∈ d) (hb : Bef x (d.getD n z_api_Place)) : x ∈ d.take n := by
  obtain ⟨i, hi, rfl⟩ := List.getElem_of_mem hx
  have e : d[i] = d.getD i z_api_Place := by rw [List.getD_eq_getElem?_getD, List.getElem?_eq_getElem hi]; rfl
  rw [e] at hb ⊢
  by_cases hin : i < n
  · exact take_in hin hi
  · exfalso
    by_cases hin2 : i = n
    · rw [hin2] at hb; exact hb.irr
    · exact (hb.tr (pw_at h (show n < i by omega) hi)).irr
theorem pure_cutMissing (a0 : congresslaw11_Two) (w0 : w_congresslaw11_Two a0) : congresslaw11_CutMissing a0 = some true := by
  obtain ⟨wA, wB, wM, wG⟩ := w0
  obtain ⟨P, p1, p2⟩ := missing_eq (m := a0.M) wA wB
  have hl := First.len _ _ _ p2
  have hs := First.sorted _ _ _ p2
  have hmem := First.mem _ _ _ p2
  have hrest := First.rest _ _ _ p2
  unfold congresslaw11_CutMissing
  rw [p1, fixed_eq]
  simp only [Option.bind_some, Bool.not_true, Bool.false_or]
  rw [if_neg (by simp; omega)]
  refine loop_cb (fun n s => s.1 = (n : Int) ∧ ∀ j : Nat, j < 8 → (∀ x ∈ P.take n, x.From = (j : Int) → x.Round ≤ s.2 j) ∧ (s.2 j = a0.A j ∨ pl (j : Int) (s.2 j) ∈ P.take n))
    (fun w => ∃ c, w = .nx c ∧ ∀ j : Nat, j < 8 → (∀ x ∈ P, x.From = (j : Int) → x.Round ≤ c j) ∧ (c j = a0.A j ∨ pl (j : Int) (c j) ∈ P)) P.length (s0 := ((0 : Int), a0.A)) ⟨rfl, fun j hj => ⟨fun x hx => (by simp at hx), .inl rfl⟩⟩
    (fun n s hn hs' => by
      obtain ⟨s1, c⟩ := s
      obtain ⟨h1, h2⟩ := hs'
      simp only at h1 h2
      subst h1
      left
      have hn' : (n : Int) < (P.length : Int) := by omega
      have e1 : IntKind.i64.wrap ((n : Int) + 1) = ((n + 1 : Nat) : Int) := by rw [w64] <;> omega
      have hx := getD_in (d := z_api_Place) hn
      obtain ⟨x, ex⟩ : ∃ x, x = P.getD n z_api_Place := ⟨_, rfl⟩
      have hbefore : ∀ y, y ∈ P → Bef y x → y ∈ P.take n := fun y hy hb => before_in hs hn hy (by rw [← ex]; exact hb)
      have hprev : 0 < n → befF (P.getD (n - 1) z_api_Place) x = true := fun h0 => by rw [ex]; exact pw_at hs (show n - 1 < n by omega) hn
      have htake : P.take (n + 1) = P.take n ++ [x] := by rw [take_s (d := z_api_Place) hn, ex]
      have hearlier : ∀ y ∈ P.take n, Bef y x := fun y hy => by
        obtain ⟨i, i1, i2, rfl⟩ := in_take hy
        rw [ex]; exact pw_at hs i1 hn
      rw [← ex] at hx
      obtain ⟨z1, z2, z3, z4, z5, z6⟩ := hmem x hx
      have h78 : x.From.toNat < 8 := by omega
      have wb := wf_u32.1 (wB x.From.toNat h78)
      have wa := wf_u32.1 (wA x.From.toNat h78)
      unfold missFr at z5
      obtain ⟨c1, c2⟩ := h2 x.From.toNat h78
      have hcast : ((x.From.toNat : Nat) : Int) = x.From := by omega
      rw [hcast] at c1 c2
      have cA : a0.A x.From.toNat ≤ c x.From.toNat := by
        rcases c2 with q | q
        · omega
        · obtain ⟨_, _, _, _, y5, _⟩ := hmem _ (List.mem_of_mem_take q)
          unfold missFr at y5; simp only [pl] at y5; omega
      have hlt : c x.From.toNat < x.Round := by
        rcases c2 with q | q
        · omega
        · have := hearlier _ q
          rw [pl_bef] at this
          rcases this with r | ⟨r, r2⟩
          · exact r
          · omega
      have hle : x.Round ≤ c x.From.toNat + 1 := by
        by_cases hq : x.Round ≤ c x.From.toNat + 1
        · exact hq
        · exfalso
          have hS : Sp a0.M (missFr a0.A) a0.B (pl x.From (x.Round - 1)) := ⟨rfl, z2, z3, z4, by unfold missFr; simp only [pl]; omega, by simp only [pl]; omega⟩
          have hb : Bef (pl x.From (x.Round - 1)) x := by rw [pl_bef]; left; omega
          have hin : pl x.From (x.Round - 1) ∈ P := by
            rcases hrest _ hS with q | ⟨_, q⟩
            · exact q
            · exact ((q x hx).tr hb).irr.elim
          have := c1 _ (hbefore _ hin hb) rfl
          simp only [pl] at this; omega
      have hround : x.Round = c x.From.toNat + 1 := by omega
      have e7 : iand .i64 x.From 7 = x.From := and7 z2 z3
      have ew : IntKind.u32.wrap (c x.From.toNat + 1) = x.Round := by rw [w32]; omega
      have ibt : ∀ g, ibg (g && decide ((n : Int) > 0)) (IntKind.i64.wrap ((n : Int) - 1)) P.length = some () := fun g => ibg_t (fun h => by
        simp only [Bool.and_eq_true, decide_eq_true_eq] at h
        rw [w64] <;> omega)
      have ibt2 : ∀ g, ibg g x.From 8 = some () := fun g => ibg_t (fun _ => by omega)
      have ibt3 : ib x.From 8 = some () := ib_t z2 (by omega)
      have his : congressref10_Is a0.M x.From = some true := by
        unfold congressref10_Is
        rw [ibt2]
        simp only [Option.bind_some, Option.some.injEq, Bool.and_eq_true, decide_eq_true_eq, bne_iff_ne, ne_eq]
        exact ⟨⟨by omega, z3⟩, z4⟩
      refine ⟨(((n + 1 : Nat) : Int), aupd c x.From.toNat x.Round), ?_, rfl, ?_⟩
      · simp only [hn', decide_true, if_true, ib_n hn, Option.bind_some, Int.toNat_natCast, e1, ← ex, his, ibt, z1, bne_self_eq_false, Bool.not_true, Bool.or_self, Bool.not_false, Bool.true_and, Bool.false_or, whn, lt, rbefore_eq]
        by_cases h0 : n = 0
        · subst h0
          simp only [Int.natCast_zero, gt_iff_lt, Int.lt_irrefl, decide_false, Bool.false_eq_true, if_false, Option.bind_some, Bool.false_and, e7, ibt3, ibt2, ew, bne_self_eq_false, Bool.not_false, Bool.false_or]
          rw [if_neg (by simp; omega)]
        · have e2 : (IntKind.i64.wrap ((n : Int) - 1)).toNat = n - 1 := by rw [w64] <;> omega
          have e3 : decide ((n : Int) > 0) = true := decide_eq_true (by omega)
          simp only [e2, e3, if_true, Option.bind_some, hprev (by omega), Bool.not_true, Bool.and_false, Bool.false_eq_true, if_false, e7, ibt3, ibt2, ew, bne_self_eq_false, Bool.not_false, Bool.false_or]
          rw [if_neg (by simp; omega)]
      · intro j hj
        rw [htake]
        simp only [aupd]
        by_cases hjx : j = x.From.toNat
        · rw [if_pos hjx]
          have hjc : (j : Int) = x.From := by omega
          refine ⟨fun y hy hyf => ?_, .inr ?_⟩
          · rcases List.mem_append.1 hy with q | q
            · have := hearlier y q
              unfold Bef at this; rw [bef_iff] at this; omega
            · rw [List.mem_singleton] at q; rw [q]; omega
          · refine List.mem_append.2 (.inr ?_)
            rw [List.mem_singleton, hjc]; exact (pl_of z1).symm
        · rw [if_neg hjx]
          obtain ⟨d1, d2⟩ := h2 j hj
          refine ⟨fun y hy hyf => ?_, ?_⟩
          · rcases List.mem_append.1 hy with q | q
            · exact d1 y q hyf
            · rw [List.mem_singleton] at q; rw [q] at hyf; omega
          · rcases d2 with q | q
            · exact .inl q
            · exact .inr (List.mem_append.2 (.inl q)))
    (fun s hs' => by
      obtain ⟨s1, c⟩ := s
      obtain ⟨h1, h2⟩ := hs'
      simp only at h1 h2
      subst h1
      rw [List.take_length] at h2
      exact ⟨.nx c, by simp only [Int.lt_irrefl, decide_false, Bool.false_eq_true, if_false], c, rfl, h2⟩)
    (fun w hw => by
      obtain ⟨c, rfl, hc⟩ := hw
      simp only [Fl.elim]
      by_cases h100 : P.length = 100
      · rw [if_pos (by simp [h100])]
      · rw [if_neg (by simp; omega)]
        rw [loop_seq (s0 := (0 : Int)) (fun n => (n : Int)) 8 (w := .nx ()) rfl (fun n hn => by
          have hn' : (n : Int) < 8 := by omega
          have e1 : IntKind.i64.wrap ((n : Int) + 1) = ((n + 1 : Nat) : Int) := by rw [w64] <;> omega
          have ibt : ∀ g, ibg g (n : Int) 8 = some () := fun g => ibg_t (fun _ => by omega)
          simp only [hn', decide_true, if_true, ib_n hn, ibt, Option.bind_some, Int.toNat_natCast, e1, lt]
          rw [if_neg]
          intro h
          rw [Bool.and_eq_true, bne_iff_ne, bne_iff_ne] at h
          obtain ⟨hM, hne⟩ := h
          apply hne
          obtain ⟨c1, c2⟩ := hc n hn
          by_cases hab : a0.A n < a0.B n
          · rw [if_pos hab]
            have hS : Sp a0.M (missFr a0.A) a0.B (pl (n : Int) (a0.B n)) := ⟨rfl, by simp only [pl]; omega, by simp only [pl]; omega, by simpa [pl] using hM, by unfold missFr; simp only [pl, Int.toNat_natCast]; omega, by simp only [pl, Int.toNat_natCast]; omega⟩
            have hin : pl (n : Int) (a0.B n) ∈ P := by
              rcases hrest _ hS with q | ⟨q, _⟩
              · exact q
              · exact absurd q h100
            have h3 := c1 _ hin rfl
            simp only [pl] at h3
            rcases c2 with q | q
            · omega
            · obtain ⟨_, _, _, _, _, y6⟩ := hmem _ q
              simp only [pl, Int.toNat_natCast] at y6; omega
          · rw [if_neg hab]
            rcases c2 with q | q
            · exact q
            · obtain ⟨_, _, _, _, y5, y6⟩ := hmem _ q
              unfold missFr at y5
              simp only [pl, Int.toNat_natCast] at y5 y6; omega) (by simp)]
        rfl)
theorem tw_get {p : api_Place → Bool} : ∀ (l : Ps) (n : Nat), n < (l.takeWhile p).length → p (l.getD n z_api_Place) = true
  | [], n, h => by simp at h
  | x :: l, n, h => by
    by_cases hx : p x = true
    · rw [List.takeWhile_cons_of_pos hx, List.length_cons] at h
      cases n with
      | zero => simpa using hx
      | succ n => simpa using tw_get l n (by omega)
    · rw [List.takeWhile_cons_of_neg hx] at h; simp at h
theorem tw_end {p : api_Place → Bool} : ∀ (l : Ps), (l.takeWhile p).length < l.length → p (l.getD (l.takeWhile p).length z_api_Place) = false
  | [], h => by simp at h
  | x :: l, h => by
    by_cases hx : p x = true
    · rw [List.takeWhile_cons_of_pos hx, List.length_cons, List.length_cons] at h
      rw [List.takeWhile_cons_of_pos hx, List.length_cons]
      simpa using tw_end l (by omega)
    · rw [List.takeWhile_cons_of_neg hx]; simpa using hx
theorem drop_not {g : api_Place} : ∀ (l : Ps), l.Pairwise Bef → ∀ x ∈ l.dropWhile (fun x => befF x g), ¬ Bef x g
  | [], _, x, hx => by cases hx
  | y :: l, h, x, hx => by
    obtain ⟨h1, h2⟩ := List.pairwise_cons.1 h
    by_cases hy : befF y g = true
    · rw [List.dropWhile_cons_of_pos (by exact hy)] at hx
      exact drop_not l h2 x hx
    · rw [List.dropWhile_cons_of_neg (by exact hy)] at hx
      rcases List.mem_cons.1 hx with rfl | hx
      · exact hy
      · exact fun q => hy ((h1 x hx).tr q)
theorem take_bef {g : api_Place} : ∀ (l : Ps), ∀ x ∈ l.takeWhile (fun x => befF x g), Bef x g
  | [], x, hx => by cases hx
  | y :: l, x, hx => by
    by_cases hy : befF y g = true
    · rw [List.takeWhile_cons_of_pos (by exact hy)] at hx
      rcases List.mem_cons.1 hx with rfl | hx
      · exact hy
      · exact take_bef l x hx
    · rw [List.takeWhile_cons_of_neg (by exact hy)] at hx; cases hx
theorem pure_cutRest (a0 : congresslaw11_Two) (a1 : api_Place) (w0 : w_congresslaw11_Two a0) (w1 : w_api_Place a1) : congresslaw11_CutRest a0 a1 = some true := by
  obtain ⟨wA, wB, wM, wG⟩ := w0
  obtain ⟨R, r1, r2⟩ := rest_eq (m := a0.M) wG.1 wB
  obtain ⟨L, l1, l2⟩ := rest_eq (m := a0.M) w1.1 wB
  have hl := First.len _ _ _ r2
  have hs := First.sorted _ _ _ r2
  have hmem := First.mem _ _ _ r2
  have hrest := First.rest _ _ _ r2
  unfold congresslaw11_CutRest
  rw [r1, l1, fixed_eq, rbefore_eq]
  simp only [Option.bind_some, Bool.not_true, Bool.not_false, whn, if_true, Bool.false_or]
  by_cases hb : (befF a1 a0.Given || decide ((R.length : Int) ≥ 100)) = true
  · rw [if_pos hb]
  · rw [if_neg hb]
    rw [Bool.not_eq_true, Bool.or_eq_false_iff, decide_eq_false_iff_not] at hb
    obtain ⟨hnb, hlen⟩ := hb
    have hnb : ¬ Bef a1 a0.Given := by unfold Bef; rw [hnb]; decide
    obtain ⟨k, hk⟩ : ∃ k, k = (R.takeWhile fun x => befF x a1).length := ⟨_, rfl⟩
    have hkl : k ≤ R.length := by rw [hk]; exact (List.takeWhile_sublist _).length_le
    rw [loop_seq (s0 := (0 : Int)) (fun n => (n : Int)) k (w := .nx (k : Int)) rfl (fun n hn => by
      have hn' : (n : Int) < (R.length : Int) := by omega
      have e1 : IntKind.i64.wrap ((n : Int) + 1) = ((n + 1 : Nat) : Int) := by rw [w64] <;> omega
      have ibt : ∀ g, ibg g (n : Int) R.length = some () := fun g => ibg_t (fun _ => by omega)
      have hb := tw_get (p := fun x => befF x a1) R n (by omega)
      simp only [hn', decide_true, if_true, ibt, Option.bind_some, Int.toNat_natCast, e1, rbefore_eq, hb, Bool.and_self]) (by
      by_cases hq : k < R.length
      · have hn' : (k : Int) < (R.length : Int) := by omega
        have ibt : ∀ g, ibg g (k : Int) R.length = some () := fun g => ibg_t (fun _ => by omega)
        have hb := tw_end (p := fun x => befF x a1) R (by omega)
        rw [← hk] at hb
        simp only [hn', decide_true, if_true, ibt, Option.bind_some, Int.toNat_natCast, rbefore_eq, hb, Bool.and_false, Bool.false_eq_true, if_false]
      · have hn' : decide ((k : Int) < (R.length : Int)) = false := decide_eq_false (by omega)
        have ibt : ibg false (k : Int) R.length = some () := ibg_t (fun h => by cases h)
        simp only [hn', ibt, Option.bind_some, Bool.false_and, Bool.false_eq_true, if_false])]
    simp only [Option.bind_some, Fl.elim]
    rw [sb_t (by omega)]
    simp only [Option.bind_some, Int.toNat_natCast]
    have hdrop : (R.take R.length).drop k = R.dropWhile fun x => befF x a1 := by
      rw [List.take_length, hk]; exact (tw_take _ R).2
    have hF : First ((R.dropWhile fun x => befF x a1).take 100) 100 (Sp a0.M (restFr a1) a0.B) := by
      refine first_take _ 100 _ (hs.sublist (List.dropWhile_sublist _)) (fun x hx => ?_) (fun s hs' => .inl ?_)
      · have hx2 := (List.dropWhile_sublist _).mem hx
        rw [rest_iff]
        exact ⟨(rest_iff.1 (hmem x hx2)).1, drop_not R hs x hx⟩
      · rw [rest_iff] at hs'
        have hS : Sp a0.M (restFr a0.Given) a0.B s := by
          rw [rest_iff]
          refine ⟨hs'.1, fun q => ?_⟩
          rcases bef_tri a0.Given a1 with r | r | r
          · exact hs'.2 (Bef.tr q r)
          · exact hnb r
          · rw [← r] at hs'; exact hs'.2 q
        have hin : s ∈ R := by
          rcases hrest s hS with q | ⟨q, _⟩
          · exact q
          · omega
        rw [← List.takeWhile_append_dropWhile (p := fun x => befF x a1) (l := R), List.mem_append] at hin
        rcases hin with q | q
        · exact absurd (take_bef R s q) hs'.2
        · exact q
    have hl2 : (R.dropWhile fun x => befF x a1).length ≤ 100 := Nat.le_trans (List.dropWhile_sublist _).length_le hl
    rw [List.take_of_length_le hl2] at hF
    have e := First.uniq _ _ _ _ l2 hF
    rw [hdrop, e, places_refl _ (by omega)]
    rfl
end Go.Proofs.Ytnfjibcfnchkkaa
