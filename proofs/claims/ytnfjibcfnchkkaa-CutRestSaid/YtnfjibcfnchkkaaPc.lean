/- Chapter 11: unions in closed form; the first places of a set, as the sort lays them. Conditions: none. -/
import Derived.Test.YtnfjibcfnchkkaaPb
import Derived.Test.YtnfjibcfnchkkaaEngC
set_option linter.unusedVariables false
set_option linter.unusedSimpArgs false
namespace Go.Proofs.Ytnfjibcfnchkkaa
open Go.Eng R9
abbrev Ps := _root_.List api_Place
def Bef (a b : api_Place) : Prop := befF a b = true
theorem Bef.tr {a b c : api_Place} (h1 : Bef a b) (h2 : Bef b c) : Bef a c := bef_trans h1 h2
theorem Bef.irr {a : api_Place} (h : Bef a a) : False := by
  unfold Bef at h; rw [bef_iff] at h; omega
theorem all8 {x y : Nat → Int} : b_a8_u32 x y = true ↔ ∀ j, j < 8 → x j = y j := by
  simp [b_a8_u32, List.all_eq_true, List.mem_range]
theorem brefl8 (x : Nat → Int) : b_a8_u32 x x = true := all8.2 fun _ _ => rfl
def Nat8 (f : Nat → Int) : Prop := ∀ j, j < 8 → 0 ≤ f j
def mxF (f g : Nat → Int) (n : Nat) : Nat → Int := fun j => if j < n ∧ f j < g j then g j else f j
theorem mxF_s (f g : Nat → Int) (n : Nat) : aupd (mxF f g n) n (if mxF f g n n < g n then g n else mxF f g n n) = mxF f g (n + 1) := by
  funext j
  by_cases hj : j = n
  · subst hj
    have e : mxF f g j j = f j := by simp [mxF]
    simp only [aupd, if_true, e]
    simp [mxF]
  · have : j < n + 1 ↔ j < n := by omega
    simp [aupd, mxF, hj, this]
theorem mx1 (f : Nat → Int) (g : Nat → Int) (l : _root_.List (Nat → Int)) (i : Nat) (hi : i < l.length) (hg : l.getD i (fun _ => 0) = g) : (loop (ω := Fl ((Nat → Int)) ((Nat → Int))) (fun (x3 : Int × (Nat → Int)) =>
        if (decide (x3.1 < 8)) then
          jn (fun x13 : (Nat → Int) =>
            some (.next ((IntKind.i64.wrap (x3.1 + 1)), x13))) fun j5 =>
          (ib (i : Int) l.length).bind fun _ =>
          (ib x3.1 8).bind fun _ =>
          (ib x3.1 8).bind fun _ =>
          lt ((decide (((l.getD (i : Int).toNat (fun _ => 0)) x3.1.toNat) > (x3.2 x3.1.toNat))) : Bool) fun v9 =>
          if v9 then
            (ib (i : Int) l.length).bind fun _ =>
            (ib x3.1 8).bind fun _ =>
            (ib x3.1 8).bind fun _ =>
            j5 (aupd x3.2 x3.1.toNat ((l.getD (i : Int).toNat (fun _ => 0)) x3.1.toNat))
          else
            j5 (x3.2)
        else
          some (.done (.nx (x3.2)))) (0, f)) = some (.nx (mxF f g 8)) := by
  subst hg
  refine loop_seq (fun n => ((n : Int), mxF f (l.getD i (fun _ => 0)) n)) 8 (Prod.ext rfl (funext fun j => by simp [mxF])) (fun n hn => ?_) (by simp)
  have hn' : (n : Int) < 8 := by omega
  have e1 : IntKind.i64.wrap ((n : Int) + 1) = ((n + 1 : Nat) : Int) := by rw [w64] <;> omega
  simp only [hn', decide_true, if_true, ib_n hn, ib_n hi, Option.bind_some, Int.toNat_natCast, e1, lt, jn]
  rw [← mxF_s]
  by_cases h : mxF f (l.getD i fun _ => 0) n n < (l.getD i fun _ => 0) n
  · have hd : decide ((l.getD i fun _ => 0) n > mxF f (l.getD i fun _ => 0) n n) = true := by simpa using h
    rw [if_pos hd, if_pos h]
  · have hd : ¬ decide ((l.getD i fun _ => 0) n > mxF f (l.getD i fun _ => 0) n n) = true := by simpa using h
    rw [if_neg hd, if_neg h]
    congr 3
    funext k
    by_cases hk : k = n
    · subst hk; simp [aupd]
    · simp [aupd, hk]
def uniF (l : _root_.List (Nat → Int)) : Nat → Int := l.foldl (fun f g => mxF f g 8) (fun _ => 0)
theorem uni_s (l : _root_.List (Nat → Int)) (g : Nat → Int) : uniF (l ++ [g]) = mxF (uniF l) g 8 := by unfold uniF; rw [List.foldl_append]; rfl
theorem runion_eq (l : _root_.List (Nat → Int)) (hl : l.length ≤ 1000000000000000000) : congressref11_Union l = some (uniF l) := by
  unfold congressref11_Union
  rw [loop_seq (s0 := (0, aset (fun _ => 0) [])) (fun n => ((n : Int), uniF (l.take n))) l.length (w := .nx (uniF l)) (by simp [uniF, aset]) (fun n hn => by
    have hn' : (n : Int) < (l.length : Int) := by omega
    have e1 : IntKind.i64.wrap ((n : Int) + 1) = ((n + 1 : Nat) : Int) := by rw [w64] <;> omega
    simp only [hn', decide_true, if_true]
    rw [mx1 (uniF (l.take n)) (l.getD n fun _ => 0) l n hn rfl]
    simp only [Option.bind_some, Fl.elim, e1, take_s (d := fun _ => 0) hn, uni_s]) (by simp)]
  simp only [Option.bind_some, Fl.elim]
theorem union_eq (l : _root_.List (Nat → Int)) (hl : l.length ≤ 1000000000000000000) : cut_Union l = some (uniF l) := by
  unfold cut_Union
  rw [loop_seq (s0 := (0, fun _ => 0)) (fun n => ((n : Int), uniF (l.take n))) l.length (w := .nx (uniF l)) (by simp [uniF]) (fun n hn => by
    have hn' : (n : Int) < (l.length : Int) := by omega
    have e1 : IntKind.i64.wrap ((n : Int) + 1) = ((n + 1 : Nat) : Int) := by rw [w64] <;> omega
    simp only [hn', decide_true, if_true, ib_n hn, Option.bind_some]
    rw [loop_seq (s0 := ((0 : Int), uniF (l.take n))) (fun k => ((k : Int), mxF (uniF (l.take n)) (l.getD n fun _ => 0) k)) 8 (w := .nx (mxF (uniF (l.take n)) (l.getD n fun _ => 0) 8)) (Prod.ext rfl (funext fun j => by simp [mxF])) (fun k hk => by
      have hk' : (k : Int) < 8 := by omega
      have e2 : IntKind.i64.wrap ((k : Int) + 1) = ((k + 1 : Nat) : Int) := by rw [w64] <;> omega
      simp only [hk', decide_true, if_true, ib_n hk, Option.bind_some, Int.toNat_natCast, e2, lt, mxF_s]) (by simp)]
    simp only [Option.bind_some, Fl.elim, e1, take_s (d := fun _ => 0) hn, uni_s]) (by simp)]
  simp only [Option.bind_some, Fl.elim]
theorem fold_le : ∀ (l : _root_.List (Nat → Int)) (f : Nat → Int), ∀ j, j < 8 → ∀ r, ((l.foldl (fun f g => mxF f g 8) f) j ≤ r ↔ f j ≤ r ∧ ∀ g ∈ l, g j ≤ r)
  | [], f, j, hj, r => by simp
  | a :: l, f, j, hj, r => by
    have hm : mxF f a 8 j ≤ r ↔ f j ≤ r ∧ a j ≤ r := by
      simp only [mxF, hj, true_and]
      by_cases h : f j < a j
      · rw [if_pos h]; omega
      · rw [if_neg h]; omega
    rw [List.foldl_cons, fold_le l _ j hj r, hm]
    constructor
    · rintro ⟨⟨h1, h2⟩, h3⟩
      refine ⟨h1, fun g hg => ?_⟩
      rcases List.mem_cons.1 hg with rfl | hg
      · exact h2
      · exact h3 g hg
    · rintro ⟨h1, h2⟩
      exact ⟨⟨h1, h2 a (by simp)⟩, fun g hg => h2 g (by simp [hg])⟩
theorem uni_le {l : _root_.List (Nat → Int)} {j : Nat} (hj : j < 8) {r : Int} : uniF l j ≤ r ↔ 0 ≤ r ∧ ∀ g ∈ l, g j ≤ r := fold_le l _ j hj r
theorem uni_nat (l : _root_.List (Nat → Int)) : Nat8 (uniF l) := fun j hj => by
  have := ((uni_le (l := l) hj (r := uniF l j)).1 (Int.le_refl _)).1; exact this
theorem uni_eq {l : _root_.List (Nat → Int)} {j : Nat} (hj : j < 8) {x : Int} (h : ∀ r, x ≤ r ↔ 0 ≤ r ∧ ∀ g ∈ l, g j ≤ r) : uniF l j = x := by
  have h1 := (uni_le (l := l) hj (r := x)).2 ((h x).1 (Int.le_refl _))
  have h2 := (h (uniF l j)).2 ((uni_le hj).1 (Int.le_refl _))
  omega
def leB (a b : Nat → Int) : Bool := (List.range 8).all fun j => !decide (a j > b j)
theorem leB_iff {a b : Nat → Int} : leB a b = true ↔ ∀ j, j < 8 → a j ≤ b j := by
  simp only [leB, List.all_eq_true, List.mem_range, Bool.not_eq_true', decide_eq_false_iff_not]
  constructor
  · intro h j hj; have := h j hj; omega
  · intro h j hj; have := h j hj; omega
theorem within_eq {a b : Nat → Int} (hb : Nat8 b) : cut_Within a b = some (leB a b) := by
  unfold cut_Within
  rw [union_eq _ (by simp)]
  simp only [Option.bind_some, Option.some.injEq]
  rw [Bool.eq_iff_iff, all8, leB_iff]
  constructor
  · intro h j hj
    have := h j hj
    exact ((uni_le hj).1 (Int.le_of_eq this)).2 a (by simp)
  · intro h j hj
    refine uni_eq hj fun r => ?_
    have := h j hj
    have := hb j hj
    constructor
    · intro h1
      refine ⟨by omega, fun g hg => ?_⟩
      rcases List.mem_cons.1 hg with rfl | hg
      · omega
      · rcases List.mem_cons.1 hg with rfl | hg
        · exact h1
        · cases hg
    · rintro ⟨_, h2⟩; exact h2 b (by simp)
theorem rwithin_eq (a b : Nat → Int) : congressref11_Within a b = some (leB a b) := by
  unfold congressref11_Within
  rw [scan (fun j => decide (a j > b j)) 8 (fun n hn => by
    have hn' : (n : Int) < 8 := by omega
    have e1 : IntKind.i64.wrap ((n : Int) + 1) = ((n + 1 : Nat) : Int) := by rw [w64] <;> omega
    simp only [hn', decide_true, if_true, ib_n hn, Option.bind_some, Int.toNat_natCast, e1]) (by simp)]
  have e : ((List.range 8).all fun j => !decide (a j > b j)) = leB a b := rfl
  rw [e]
  cases leB a b <;> rfl

/-- The first so many of a set of places, in order. -/
def First : Ps → Nat → (api_Place → Prop) → Prop
  | [], n, S => n = 0 ∨ ∀ s, ¬ S s
  | x :: P, n, S => 0 < n ∧ S x ∧ (∀ s, S s → s = x ∨ Bef x s) ∧ First P (n - 1) (fun s => S s ∧ Bef x s)
theorem First.uniq : ∀ (P P' : Ps) (n : Nat) (S : api_Place → Prop), First P n S → First P' n S → P = P'
  | [], [], _, _, _, _ => rfl
  | [], y :: P', n, S, h, k => by
    rcases h with h | h
    · exact absurd k.1 (by omega)
    · exact absurd k.2.1 (h y)
  | x :: P, [], n, S, h, k => by
    rcases k with k | k
    · exact absurd h.1 (by omega)
    · exact absurd h.2.1 (k x)
  | x :: P, y :: P', n, S, h, k => by
    obtain ⟨h1, h2, h3, h4⟩ := h
    obtain ⟨k1, k2, k3, k4⟩ := k
    have e : x = y := by
      rcases h3 y k2 with q | q
      · exact q.symm
      · rcases k3 x h2 with r | r
        · exact r
        · exact (Bef.irr (q.tr r)).elim
    subst e
    rw [First.uniq P P' _ _ h4 k4]
theorem First.len : ∀ (P : Ps) (n : Nat) (S : api_Place → Prop), First P n S → P.length ≤ n
  | [], _, _, _ => Nat.zero_le _
  | x :: P, n, S, h => by
    have := First.len P (n - 1) _ h.2.2.2
    have := h.1
    simp only [List.length_cons]; omega
theorem First.mem : ∀ (P : Ps) (n : Nat) (S : api_Place → Prop), First P n S → ∀ x ∈ P, S x
  | [], _, _, _, x, hx => by cases hx
  | y :: P, n, S, h, x, hx => by
    rcases List.mem_cons.1 hx with rfl | hx
    · exact h.2.1
    · exact (First.mem P (n - 1) _ h.2.2.2 x hx).1
theorem First.sorted : ∀ (P : Ps) (n : Nat) (S : api_Place → Prop), First P n S → P.Pairwise Bef
  | [], _, _, _ => .nil
  | y :: P, n, S, h => List.pairwise_cons.2 ⟨fun x hx => (First.mem P (n - 1) _ h.2.2.2 x hx).2, First.sorted P (n - 1) _ h.2.2.2⟩
/-- What is of the set, and not among the first, is behind them all, which are as many as they may be. -/
theorem First.rest : ∀ (P : Ps) (n : Nat) (S : api_Place → Prop), First P n S → ∀ s, S s → s ∈ P ∨ (P.length = n ∧ ∀ x ∈ P, Bef x s)
  | [], n, S, h, s, hs => by
    rcases h with h | h
    · exact .inr ⟨by simp [h], fun x hx => by cases hx⟩
    · exact absurd hs (h s)
  | y :: P, n, S, h, s, hs => by
    obtain ⟨h1, h2, h3, h4⟩ := h
    rcases h3 s hs with rfl | q
    · exact .inl (by simp)
    · rcases First.rest P (n - 1) _ h4 s ⟨hs, q⟩ with r | ⟨r1, r2⟩
      · exact .inl (by simp [r])
      · refine .inr ⟨by simp only [List.length_cons]; omega, fun x hx => ?_⟩
        rcases List.mem_cons.1 hx with rfl | hx
        · exact q
        · exact r2 x hx
theorem first_take : ∀ (L : Ps) (n : Nat) (S : api_Place → Prop), L.Pairwise Bef → (∀ x ∈ L, S x) → (∀ s, S s → s ∈ L ∨ n ≤ (L.filter fun x => befF x s).length) → First (L.take n) n S
  | [], n, S, _, _, h3 => by
    by_cases hn : n = 0
    · rw [hn]; exact .inl rfl
    · rw [List.take_nil]
      refine .inr fun s hs => ?_
      rcases h3 s hs with q | q
      · cases q
      · simp at q; exact hn q
  | x :: L, 0, S, _, _, _ => .inl rfl
  | x :: L, m + 1, S, h1, h2, h3 => by
    obtain ⟨k1, k2⟩ := List.pairwise_cons.1 h1
    have low : ∀ s, S s → s = x ∨ Bef x s := by
      intro s hs
      rcases h3 s hs with q | q
      · rcases List.mem_cons.1 q with q | q
        · exact .inl q
        · exact .inr (k1 s q)
      · right
        by_cases hb : befF x s = true
        · exact hb
        · rw [List.filter_cons_of_neg (by exact hb)] at q
          cases hf : L.filter (fun x => befF x s) with
          | nil => rw [hf] at q; simp at q
          | cons y r =>
            have hy : y ∈ L.filter (fun x => befF x s) := by rw [hf]; simp
            rw [List.mem_filter] at hy
            exact (k1 y hy.1).tr hy.2
    rw [List.take_succ_cons]
    refine ⟨by omega, h2 x (by simp), low, ?_⟩
    refine first_take L m _ k2 (fun y hy => ⟨h2 y (by simp [hy]), k1 y hy⟩) (fun s hs => ?_)
    obtain ⟨hs, hb⟩ := hs
    rcases h3 s hs with q | q
    · rcases List.mem_cons.1 q with rfl | q
      · exact (hb.irr).elim
      · exact .inl q
    · right
      rw [List.filter_cons_of_pos (by exact hb), List.length_cons] at q
      omega
def pl (i r : Int) : api_Place := { Round := r, From := i, Slot := 0 }
def rowF (i a : Int) (n : Nat) : Ps := (List.range n).map fun (j : Nat) => pl i (a + j)
theorem rowF_s (i a : Int) (n : Nat) : rowF i a (n + 1) = rowF i a n ++ [pl i (a + n)] := by
  unfold rowF; rw [List.range_succ, List.map_append]; rfl
theorem rowF_len (i a : Int) (n : Nat) : (rowF i a n).length = n := by unfold rowF; simp
theorem mem_row {i a : Int} {n : Nat} {x : api_Place} : x ∈ rowF i a n ↔ x.From = i ∧ x.Slot = 0 ∧ a ≤ x.Round ∧ x.Round < a + n := by
  unfold rowF
  simp only [List.mem_map, List.mem_range]
  constructor
  · rintro ⟨j, hj, rfl⟩
    exact ⟨rfl, rfl, by simp only [pl]; omega, by simp only [pl]; omega⟩
  · rintro ⟨h1, h2, h3, h4⟩
    refine ⟨(x.Round - a).toNat, by omega, ?_⟩
    cases x
    simp only [pl, api_Place.mk.injEq] at *
    omega
theorem row_nodup (i a : Int) (n : Nat) : (rowF i a n).Nodup := by
  unfold rowF
  have := (List.pairwise_lt_range (n := n)).map (S := fun x y : api_Place => x ≠ y) (fun (j : Nat) => pl i (a + j)) (fun x y h e => by
    simp only [pl, api_Place.mk.injEq] at e; omega)
  exact this
def cntF (a last : Int) : Nat := if last + 1 - a < 100 then (last + 1 - a).toNat else 100
theorem cntF_le (a last : Int) : cntF a last ≤ 100 := by unfold cntF; split <;> omega
def rows (fr : Int → Int) (last : Nat → Int) : _root_.List Int → Ps
  | [] => []
  | i :: l => rowF i (fr i) (cntF (fr i) (last i.toNat)) ++ rows fr last l
theorem rows_s (fr : Int → Int) (last : Nat → Int) (i : Int) : ∀ l, rows fr last (l ++ [i]) = rows fr last l ++ rowF i (fr i) (cntF (fr i) (last i.toNat))
  | [] => by simp [rows]
  | a :: l => by rw [List.cons_append, rows, rows_s fr last i l, rows, List.append_assoc]
theorem rows_len (fr : Int → Int) (last : Nat → Int) : ∀ l, (rows fr last l).length ≤ 100 * l.length
  | [] => Nat.le_refl _
  | i :: l => by
    have := rows_len fr last l
    have := cntF_le (fr i) (last i.toNat)
    simp only [rows, List.length_append, rowF_len, List.length_cons]; omega
theorem mem_rows {fr : Int → Int} {last : Nat → Int} {x : api_Place} : ∀ l, x ∈ rows fr last l ↔ x.From ∈ l ∧ x ∈ rowF x.From (fr x.From) (cntF (fr x.From) (last x.From.toNat))
  | [] => by simp [rows]
  | i :: l => by
    rw [rows, List.mem_append, mem_rows l, List.mem_cons]
    constructor
    · rintro (h | ⟨h1, h2⟩)
      · have e := (mem_row.1 h).1
        refine ⟨.inl e, by rw [e]; exact h⟩
      · exact ⟨.inr h1, h2⟩
    · rintro ⟨h1 | h1, h2⟩
      · left; rw [← h1]; exact h2
      · exact .inr ⟨h1, h2⟩
theorem rows_nodup {fr : Int → Int} {last : Nat → Int} : ∀ l, l.Nodup → (rows fr last l).Nodup
  | [], _ => .nil
  | i :: l, h => by
    obtain ⟨h1, h2⟩ := List.nodup_cons.1 h
    rw [rows, List.nodup_append]
    refine ⟨row_nodup _ _ _, rows_nodup l h2, fun a ha b hb e => ?_⟩
    subst e
    have e := (mem_row.1 ha).1
    have := ((mem_rows l).1 hb).1
    rw [e] at this; exact h1 this
theorem row_sub {fr : Int → Int} {last : Nat → Int} {i : Int} : ∀ l, i ∈ l → (rowF i (fr i) (cntF (fr i) (last i.toNat))).Sublist (rows fr last l)
  | [], h => by cases h
  | a :: l, h => by
    rw [rows]
    rcases List.mem_cons.1 h with rfl | h
    · exact List.sublist_append_left _ _
    · exact (row_sub l h).trans (List.sublist_append_right _ _)
theorem listF_nodup (f : Nat → Int) (n : Nat) : (listF f n).Nodup := by
  unfold listF
  exact ((List.pairwise_lt_range (n := n)).filter _).map (S := fun x y : Int => x ≠ y) (fun (j : Nat) => (j : Int)) (fun x y h e => by omega)
def cfF (a b : api_Place) : Int := if befF a b = true then -1 else if befF b a = true then 1 else 0
theorem cf_eq (a b : api_Place) : cut_places_1 a b = some (cfF a b) := by
  unfold cut_places_1 cfF
  rw [before_eq, before_eq]
  simp only [Option.bind_some]
  split
  · rfl
  · split <;> rfl
theorem lt_cf (a b : api_Place) : Go.Proofs.ltOf cfF a b = befF a b := by
  unfold Go.Proofs.ltOf cfF
  by_cases h : befF a b = true
  · rw [if_pos h, h]; rfl
  · rw [if_neg h]
    rw [Bool.not_eq_true] at h
    rw [h]
    split <;> rfl
theorem swo : Go.Sort.SWO (Go.Proofs.ltOf cfF) where
  irrefl x := by
    rw [lt_cf]
    cases h : befF x x with
    | false => rfl
    | true => exact (Bef.irr h).elim
  trans x y z h1 h2 := by rw [lt_cf] at *; exact bef_trans h1 h2
  ntrans x y z h1 h2 := by
    rw [lt_cf] at *
    cases h : befF x z with
    | false => rfl
    | true =>
      exfalso
      rcases bef_tri x y with q | q | q
      · rw [h1] at q; cases q
      · have := bef_trans q h; rw [h2] at this; cases this
      · rw [q, h2] at h; cases h
/-- The sort: of places, each once. -/
theorem srt_places {L : Ps} (hn : L.Nodup) (hl : L.length ≤ 1000000) : ∃ L', srt cut_places_1 L = some L' ∧ L'.Perm L ∧ L'.Pairwise Bef := by
  refine ⟨_, srt_t ⟨cfF, cf_eq, swo, fun x y h1 h2 => ?_, by omega, rfl⟩, List.mergeSort_perm _ _, ?_⟩
  · rw [lt_cf] at *
    rcases bef_tri x y with q | q | q
    · rw [h1] at q; cases q
    · rw [h2] at q; cases q
    · exact q
  · have h1 : (L.mergeSort fun x y => !(Go.Proofs.ltOf cfF) y x).Pairwise (fun x y => (!(Go.Proofs.ltOf cfF) y x) = true) := by
      refine List.pairwise_mergeSort (fun a b c h1 h2 => ?_) (fun a b => ?_) L
      · rw [lt_cf] at *
        rw [Bool.not_eq_true'] at *
        have := swo.ntrans c b a (by rw [lt_cf]; exact h2) (by rw [lt_cf]; exact h1)
        rw [lt_cf] at this; exact this
      · rw [lt_cf, lt_cf]
        cases h : befF b a with
        | false => rfl
        | true =>
          cases h2 : befF a b with
          | false => rfl
          | true => exact (Bef.irr (Bef.tr h h2)).elim
    have h2 : (L.mergeSort fun x y => !(Go.Proofs.ltOf cfF) y x).Nodup := ((List.mergeSort_perm _ _).nodup_iff).2 hn
    refine (h1.and h2).imp fun {a b} h => ?_
    obtain ⟨h3, h4⟩ := h
    rw [lt_cf, Bool.not_eq_true'] at h3
    rcases bef_tri a b with q | q | q
    · exact q
    · rw [h3] at q; cases q
    · exact absurd q h4
/-- The places asked for. -/
def Sp (m : Nat → Int) (fr : Int → Int) (last : Nat → Int) (s : api_Place) : Prop := s.Slot = 0 ∧ 0 ≤ s.From ∧ s.From < 8 ∧ m s.From.toNat ≠ 0 ∧ fr s.From ≤ s.Round ∧ s.Round ≤ last s.From.toNat
theorem places_eq {m last : Nat → Int} {f : Int → Option Int} {fr : Int → Int} (hf : ∀ i ∈ listF m 8, f i = some (fr i) ∧ 1 ≤ fr i ∧ fr i ≤ 4294967296) (hlast : U32 last) :
    ∃ P, cut_places m f last = some P ∧ First P 100 (Sp m fr last) := by
  have hm : (9223372036854775807 : Nat) ≤ maxLen := by decide
  have hl8 := listF_len m 8
  have hlen := rows_len fr last (listF m 8)
  have hnd := rows_nodup (fr := fr) (last := last) _ (listF_nodup m 8)
  obtain ⟨L', e1, e2, e3⟩ := srt_places hnd (by omega)
  have hL' := e2.length_eq
  refine ⟨L'.take 100, ?_, ?_⟩
  · unfold cut_places
    rw [list_eq]
    simp only [Option.bind_some]
    rw [loop_seq (s0 := ((0 : Int), ([] : Ps))) (fun n => ((n : Int), rows fr last ((listF m 8).take n))) (listF m 8).length (w := .nx (rows fr last (listF m 8))) rfl (fun n hn => by
      have hn' : (n : Int) < ((listF m 8).length : Int) := by omega
      have e4 : IntKind.i64.wrap ((n : Int) + 1) = ((n + 1 : Nat) : Int) := by rw [w64] <;> omega
      obtain ⟨j, hj, hj8, hjm⟩ := listF_in.1 (getD_in (d := (0 : Int)) hn)
      have hfi := hf _ (getD_in (d := (0 : Int)) hn)
      have hrl := rows_len fr last ((listF m 8).take n)
      have htl : ((listF m 8).take n).length ≤ 8 := by rw [List.length_take]; omega
      have hw := wf_u32.1 (hlast j hj8)
      rw [hj] at hfi
      obtain ⟨f1, f2, f3⟩ := hfi
      simp only [hn', decide_true, if_true, ib_n hn, Option.bind_some, Int.toNat_natCast, hj, f1]
      have e5 : IntKind.u64.wrap (last j) = last j := by rw [wu64]; omega
      have e6 : IntKind.u64.wrap (fr (j : Int) + 100) = fr (j : Int) + 100 := by rw [wu64]; omega
      have hc := cntF_le (fr (j : Int)) (last j)
      rw [loop_seq (s0 := (fr (j : Int), rows fr last ((listF m 8).take n))) (fun k => (fr (j : Int) + k, rows fr last ((listF m 8).take n) ++ rowF (j : Int) (fr (j : Int)) k)) (cntF (fr (j : Int)) (last j)) (w := .nx (rows fr last ((listF m 8).take n) ++ rowF (j : Int) (fr (j : Int)) (cntF (fr (j : Int)) (last j)))) (by simp [rowF]) (fun k hk => by
        have hk2 : fr (j : Int) + k ≤ last j ∧ k < 100 := by unfold cntF at hk; split at hk <;> omega
        have e7 : IntKind.u64.wrap (fr (j : Int) + k + 1) = fr (j : Int) + ((k + 1 : Nat) : Int) := by rw [wu64]; omega
        have e8 : IntKind.u32.wrap (fr (j : Int) + k) = fr (j : Int) + k := by rw [w32]; omega
        have d1 : decide (fr (j : Int) + k ≤ last j) = true := decide_eq_true hk2.1
        have d2 : decide (fr (j : Int) + k < fr (j : Int) + 100) = true := decide_eq_true (by omega)
        simp only [ib_n hj8, Option.bind_some, e5, e6, e7, e8, d1, d2, Bool.and_self, lt, if_true]
        rw [R9.fit_t (by simp only [List.length_append, rowF_len, List.length_cons, List.length_nil]; omega) (by omega), rowF_s, ← List.append_assoc]
        rfl) (by
        have hN : ¬ (fr (j : Int) + (cntF (fr (j : Int)) (last j) : Nat) ≤ last j ∧ fr (j : Int) + (cntF (fr (j : Int)) (last j) : Nat) < fr (j : Int) + 100) := by unfold cntF; split <;> omega
        have d : (decide (fr (j : Int) + (cntF (fr (j : Int)) (last j) : Nat) ≤ last j) && decide (fr (j : Int) + (cntF (fr (j : Int)) (last j) : Nat) < fr (j : Int) + 100)) = false := by
          rw [Bool.eq_false_iff]; intro h; simp only [Bool.and_eq_true, decide_eq_true_eq] at h; exact hN h
        simp only [ib_n hj8, Option.bind_some, e5, e6, d, lt, Bool.false_eq_true, if_false])]
      simp only [Option.bind_some, Fl.elim, e4, take_s (d := (0 : Int)) hn, rows_s, hj, Int.toNat_natCast]) (by simp)]
    simp only [Option.bind_some, Fl.elim, e1, Nat.sub_zero]
    by_cases hc : (100 : Int) < (L'.length : Int)
    · rw [if_pos hc, sb_t (by omega)]
      simp only [Option.bind_some]
      rw [inb_t (by omega)]
      rfl
    · rw [if_neg hc, sb_t (by omega)]
      simp only [Option.bind_some]
      rw [inb_t (by omega)]
      simp only [Option.bind_some, Int.toNat_natCast]
      rw [List.take_of_length_le (Nat.le_refl _), List.take_of_length_le (by omega)]
  · refine first_take L' 100 _ e3 (fun x hx => ?_) (fun s hs => ?_)
    · obtain ⟨h1, h2⟩ := (mem_rows _).1 ((e2.mem_iff).1 hx)
      obtain ⟨j, hj, hj8, hjm⟩ := listF_in.1 h1
      obtain ⟨_, h3, h4, h5⟩ := mem_row.1 h2
      refine ⟨h3, by omega, by omega, by rw [hj]; exact hjm, h4, ?_⟩
      unfold cntF at h5; split at h5 <;> omega
    · obtain ⟨s1, s2, s3, s4, s5, s6⟩ := hs
      have hin : s.From ∈ listF m 8 := listF_in.2 ⟨s.From.toNat, by omega, by omega, s4⟩
      by_cases hr : s.Round < fr s.From + 100
      · left
        refine (e2.mem_iff).2 ((mem_rows _).2 ⟨hin, mem_row.2 ⟨rfl, s1, s5, ?_⟩⟩)
        unfold cntF; split <;> omega
      · right
        have hcn : cntF (fr s.From) (last s.From.toNat) = 100 := by unfold cntF; rw [if_neg (by omega)]
        have hsub := (row_sub (fr := fr) (last := last) _ hin).filter (fun x => befF x s)
        have hall : (rowF s.From (fr s.From) (cntF (fr s.From) (last s.From.toNat))).filter (fun x => befF x s) = rowF s.From (fr s.From) (cntF (fr s.From) (last s.From.toNat)) := by
          rw [List.filter_eq_self]
          intro x hx
          obtain ⟨h1, h2, h3, h4⟩ := mem_row.1 hx
          rw [bef_iff]; left; rw [hcn] at h4; omega
        rw [hall] at hsub
        have := hsub.length_le
        rw [rowF_len, hcn] at this
        have h2 := (e2.filter (fun x => befF x s)).length_eq
        omega
end Go.Proofs.Ytnfjibcfnchkkaa
