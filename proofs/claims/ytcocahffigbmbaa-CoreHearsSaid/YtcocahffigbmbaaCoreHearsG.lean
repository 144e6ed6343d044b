/- The law is proved here. Put together by a tool (shake.py) out of our own texts. Conditions: none. -/
import Derived.Test.YtcocahffigbmbaaCoreHearsF
import Derived.Test.YtcocahffigbmbaaRows
import Derived.WalkKit
import Derived.ProofKit
import Derived.ShutString
import Derived.Carry
set_option linter.unusedVariables false
set_option linter.unusedSimpArgs false
section
set_option linter.unusedVariables false
set_option linter.unusedSimpArgs false
namespace Go.Proofs.Ytcocahffigbmbaa.R11
open Go.Eng
theorem all8 {x y : Nat → Int} : b_a8_u32 x y = true ↔ ∀ j, j < 8 → x j = y j := by
  simp [b_a8_u32, List.all_eq_true, List.mem_range]
theorem brefl8 (x : Nat → Int) : b_a8_u32 x x = true := all8.2 fun _ _ => rfl
def Nat8 (f : Nat → Int) : Prop := ∀ j, j < 8 → 0 ≤ f j
def mxF (f g : Nat → Int) (n : Nat) : Nat → Int := fun j => if j < n ∧ f j < g j then g j else f j
theorem mxF_s (f g : Nat → Int) (n : Nat) : aupd (mxF f g n) n (if mxF f g n n < g n then g n else mxF f g n n) = mxF f g (n + 1) := by
  funext j
  by_cases hj : j = n
  · subst hj
    have e : mxF f g j j = f j := by simp [mxF]
    simp only [aupd, if_true, e]
    simp [mxF]
  · have : j < n + 1 ↔ j < n := by omega
    simp [aupd, mxF, hj, this]
theorem mx1 (f : Nat → Int) (g : Nat → Int) (l : _root_.List (Nat → Int)) (i : Nat) (hi : i < l.length) (hg : l.getD i (fun _ => 0) = g) : (loop (ω := Fl ((Nat → Int)) ((Nat → Int))) (fun (x3 : Int × (Nat → Int)) =>
        if (decide (x3.1 < 8)) then
          jn (fun x13 : (Nat → Int) =>
            some (.next ((IntKind.i64.wrap (x3.1 + 1)), x13))) fun j5 =>
          (ib (i : Int) l.length).bind fun _ =>
          (ib x3.1 8).bind fun _ =>
          (ib x3.1 8).bind fun _ =>
          lt ((decide (((l.getD (i : Int).toNat (fun _ => 0)) x3.1.toNat) > (x3.2 x3.1.toNat))) : Bool) fun v9 =>
          if v9 then
            (ib (i : Int) l.length).bind fun _ =>
            (ib x3.1 8).bind fun _ =>
            (ib x3.1 8).bind fun _ =>
            j5 (aupd x3.2 x3.1.toNat ((l.getD (i : Int).toNat (fun _ => 0)) x3.1.toNat))
          else
            j5 (x3.2)
        else
          some (.done (.nx (x3.2)))) (0, f)) = some (.nx (mxF f g 8)) := by
  subst hg
  refine loop_seq (fun n => ((n : Int), mxF f (l.getD i (fun _ => 0)) n)) 8 (Prod.ext rfl (funext fun j => by simp [mxF])) (fun n hn => ?_) (by simp)
  have hn' : (n : Int) < 8 := by omega
  have e1 : IntKind.i64.wrap ((n : Int) + 1) = ((n + 1 : Nat) : Int) := by rw [w64] <;> omega
  simp only [hn', decide_true, if_true, ib_n hn, ib_n hi, Option.bind_some, Int.toNat_natCast, e1, lt, jn]
  rw [← mxF_s]
  by_cases h : mxF f (l.getD i fun _ => 0) n n < (l.getD i fun _ => 0) n
  · have hd : decide ((l.getD i fun _ => 0) n > mxF f (l.getD i fun _ => 0) n n) = true := by simpa using h
    rw [if_pos hd, if_pos h]
  · have hd : ¬ decide ((l.getD i fun _ => 0) n > mxF f (l.getD i fun _ => 0) n n) = true := by simpa using h
    rw [if_neg hd, if_neg h]
    congr 3
    funext k
    by_cases hk : k = n
    · subst hk; simp [aupd]
    · simp [aupd, hk]
def uniF (l : _root_.List (Nat → Int)) : Nat → Int := l.foldl (fun f g => mxF f g 8) (fun _ => 0)
theorem uni_s (l : _root_.List (Nat → Int)) (g : Nat → Int) : uniF (l ++ [g]) = mxF (uniF l) g 8 := by unfold uniF; rw [List.foldl_append]; rfl
theorem runion_eq (l : _root_.List (Nat → Int)) (hl : l.length ≤ 1000000000000000000) : congressref11_Union l = some (uniF l) := by
  unfold congressref11_Union
  rw [loop_seq (s0 := (0, aset (fun _ => 0) [])) (fun n => ((n : Int), uniF (l.take n))) l.length (w := .nx (uniF l)) (by simp [uniF, aset]) (fun n hn => by
    have hn' : (n : Int) < (l.length : Int) := by omega
    have e1 : IntKind.i64.wrap ((n : Int) + 1) = ((n + 1 : Nat) : Int) := by rw [w64] <;> omega
    simp only [hn', decide_true, if_true]
    rw [mx1 (uniF (l.take n)) (l.getD n fun _ => 0) l n hn rfl]
    simp only [Option.bind_some, Fl.elim, e1, take_s (d := fun _ => 0) hn, uni_s]) (by simp)]
  simp only [Option.bind_some, Fl.elim]
theorem union_eq (l : _root_.List (Nat → Int)) (hl : l.length ≤ 1000000000000000000) : cut_Union l = some (uniF l) := by
  unfold cut_Union
  rw [loop_seq (s0 := (0, fun _ => 0)) (fun n => ((n : Int), uniF (l.take n))) l.length (w := .nx (uniF l)) (by simp [uniF]) (fun n hn => by
    have hn' : (n : Int) < (l.length : Int) := by omega
    have e1 : IntKind.i64.wrap ((n : Int) + 1) = ((n + 1 : Nat) : Int) := by rw [w64] <;> omega
    simp only [hn', decide_true, if_true, ib_n hn, Option.bind_some]
    rw [loop_seq (s0 := ((0 : Int), uniF (l.take n))) (fun k => ((k : Int), mxF (uniF (l.take n)) (l.getD n fun _ => 0) k)) 8 (w := .nx (mxF (uniF (l.take n)) (l.getD n fun _ => 0) 8)) (Prod.ext rfl (funext fun j => by simp [mxF])) (fun k hk => by
      have hk' : (k : Int) < 8 := by omega
      have e2 : IntKind.i64.wrap ((k : Int) + 1) = ((k + 1 : Nat) : Int) := by rw [w64] <;> omega
      simp only [hk', decide_true, if_true, ib_n hk, Option.bind_some, Int.toNat_natCast, e2, lt, mxF_s]) (by simp)]
    simp only [Option.bind_some, Fl.elim, e1, take_s (d := fun _ => 0) hn, uni_s]) (by simp)]
  simp only [Option.bind_some, Fl.elim]
theorem fold_le : ∀ (l : _root_.List (Nat → Int)) (f : Nat → Int), ∀ j, j < 8 → ∀ r, ((l.foldl (fun f g => mxF f g 8) f) j ≤ r ↔ f j ≤ r ∧ ∀ g ∈ l, g j ≤ r)
  | [], f, j, hj, r => by simp
  | a :: l, f, j, hj, r => by
    have hm : mxF f a 8 j ≤ r ↔ f j ≤ r ∧ a j ≤ r := by
      simp only [mxF, hj, true_and]
      by_cases h : f j < a j
      · rw [if_pos h]; omega
      · rw [if_neg h]; omega
    rw [List.foldl_cons, fold_le l _ j hj r, hm]
    constructor
    · rintro ⟨⟨h1, h2⟩, h3⟩
      refine ⟨h1, fun g hg => ?_⟩
      rcases List.mem_cons.1 hg with rfl | hg
      · exact h2
      · exact h3 g hg
    · rintro ⟨h1, h2⟩
      exact ⟨⟨h1, h2 a (by simp)⟩, fun g hg => h2 g (by simp [hg])⟩
theorem uni_le {l : _root_.List (Nat → Int)} {j : Nat} (hj : j < 8) {r : Int} : uniF l j ≤ r ↔ 0 ≤ r ∧ ∀ g ∈ l, g j ≤ r := fold_le l _ j hj r
theorem uni_eq {l : _root_.List (Nat → Int)} {j : Nat} (hj : j < 8) {x : Int} (h : ∀ r, x ≤ r ↔ 0 ≤ r ∧ ∀ g ∈ l, g j ≤ r) : uniF l j = x := by
  have h1 := (uni_le (l := l) hj (r := x)).2 ((h x).1 (Int.le_refl _))
  have h2 := (h (uniF l j)).2 ((uni_le hj).1 (Int.le_refl _))
  omega
def leB (a b : Nat → Int) : Bool := (List.range 8).all fun j => !decide (a j > b j)
theorem leB_iff {a b : Nat → Int} : leB a b = true ↔ ∀ j, j < 8 → a j ≤ b j := by
  simp only [leB, List.all_eq_true, List.mem_range, Bool.not_eq_true', decide_eq_false_iff_not]
  constructor
  · intro h j hj; have := h j hj; omega
  · intro h j hj; have := h j hj; omega
theorem within_eq {a b : Nat → Int} (hb : Nat8 b) : cut_Within a b = some (leB a b) := by
  unfold cut_Within
  rw [union_eq _ (by simp)]
  simp only [Option.bind_some, Option.some.injEq]
  rw [Bool.eq_iff_iff, all8, leB_iff]
  constructor
  · intro h j hj
    have := h j hj
    exact ((uni_le hj).1 (Int.le_of_eq this)).2 a (by simp)
  · intro h j hj
    refine uni_eq hj fun r => ?_
    have := h j hj
    have := hb j hj
    constructor
    · intro h1
      refine ⟨by omega, fun g hg => ?_⟩
      rcases List.mem_cons.1 hg with rfl | hg
      · omega
      · rcases List.mem_cons.1 hg with rfl | hg
        · exact h1
        · cases hg
    · rintro ⟨_, h2⟩; exact h2 b (by simp)
theorem rwithin_eq (a b : Nat → Int) : congressref11_Within a b = some (leB a b) := by
  unfold congressref11_Within
  rw [scan (fun j => decide (a j > b j)) 8 (fun n hn => by
    have hn' : (n : Int) < 8 := by omega
    have e1 : IntKind.i64.wrap ((n : Int) + 1) = ((n + 1 : Nat) : Int) := by rw [w64] <;> omega
    simp only [hn', decide_true, if_true, ib_n hn, Option.bind_some, Int.toNat_natCast, e1]) (by simp)]
  have e : ((List.range 8).all fun j => !decide (a j > b j)) = leB a b := rfl
  rw [e]
  cases leB a b <;> rfl
end Go.Proofs.Ytcocahffigbmbaa.R11
end

section
set_option linter.unusedVariables false
set_option linter.unusedSimpArgs false
namespace Go.Proofs.Ytcocahffigbmbaa.R12
open Go.Eng
theorem all8 {x y : Nat → Int} : b_a8_u32 x y = true ↔ ∀ j, j < 8 → x j = y j := by
  simp [b_a8_u32, List.all_eq_true, List.mem_range]
theorem brefl8 (x : Nat → Int) : b_a8_u32 x x = true := all8.2 fun _ _ => rfl
def cmpI (a b : Int) : Int := if a < b then -1 else if a > b then 1 else 0
theorem cmpu_eq (a b : Int) : cmp_Compare_uint32 a b = some (cmpI a b) := by
  simp only [cmp_Compare_uint32, cmp_isNaN_uint32, Option.bind_some, bne_self_eq_false, Bool.false_eq_true, if_false, decide_eq_true_eq, cmpI]
  split
  · rfl
  · split <;> rfl
theorem or_eq (a b c : Int) : cmp_Or_int [a, b, c] = some (if a ≠ 0 then a else if b ≠ 0 then b else c) := by
  have e1 : IntKind.i64.wrap 1 = 1 := by rw [w64] <;> omega
  have e2 : IntKind.i64.wrap 2 = 2 := by rw [w64] <;> omega
  have e3 : IntKind.i64.wrap 3 = 3 := by rw [w64] <;> omega
  unfold cmp_Or_int
  by_cases ha : a = 0
  · rw [loop_nx (s := 0) (s' := 1) (by simp [ib, ha, e1])]
    by_cases hb : b = 0
    · rw [loop_nx (s := 1) (s' := 2) (by simp [ib, hb, e2])]
      by_cases hc : c = 0
      · rw [loop_nx (s := 2) (s' := 3) (by simp [ib, hc, e3]), loop_dn (s := 3) (w := .nx ()) (by simp)]
        simp [ha, hb, hc, Fl.elim]
      · rw [loop_dn (s := 2) (w := .rt c) (by simp [ib, hc])]
        simp [ha, hb, Fl.elim]
    · rw [loop_dn (s := 1) (w := .rt b) (by simp [ib, hb])]
      simp [ha, hb, Fl.elim]
  · rw [loop_dn (s := 0) (w := .rt a) (by simp [ib, ha])]
    simp [ha, Fl.elim]
def cmpId (p q : api_Id) : Int := if cmpI p.Epoch q.Epoch ≠ 0 then cmpI p.Epoch q.Epoch else if cmpI p.Coord q.Coord ≠ 0 then cmpI p.Coord q.Coord else cmpI p.Inc q.Inc
theorem cmp_eq (p q : api_Id) : ident_Compare p q = some (cmpId p q) := by
  simp only [ident_Compare, cmpu_eq, or_eq, Option.bind_some, cmpId]
theorem cmpI_r (a b : Int) : cmpI a b = -1 ∨ cmpI a b = 0 ∨ cmpI a b = 1 := by unfold cmpI; split; omega; split <;> omega
theorem cmp_r (p q : api_Id) : cmpId p q = -1 ∨ cmpId p q = 0 ∨ cmpId p q = 1 := by
  have h2 := cmpI_r p.Epoch q.Epoch
  have h4 := cmpI_r p.Coord q.Coord
  have h6 := cmpI_r p.Inc q.Inc
  unfold cmpId; split
  · omega
  · split <;> omega
theorem beqId {p q : api_Id} : b_api_Id p q = true ↔ p = q := by
  cases p; cases q; simp [b_api_Id]
theorem breflId (p : api_Id) : b_api_Id p p = true := beqId.2 rfl
def listF (f : Nat → Int) (n : Nat) : _root_.List Int := ((List.range n).filter fun j => f j != 0).map fun (j : Nat) => (j : Int)
theorem listF_s (f : Nat → Int) (n : Nat) : listF f (n + 1) = if f n ≠ 0 then listF f n ++ [(n : Int)] else listF f n := by
  unfold listF
  rw [List.range_succ, List.filter_append, List.map_append]
  by_cases h : f n = 0 <;> simp [h]
theorem listF_len (f : Nat → Int) (n : Nat) : (listF f n).length ≤ n := by
  unfold listF
  rw [List.length_map]
  exact Nat.le_trans (List.length_filter_le _ _) (by simp)
theorem fit_t {n b : Nat} (h : n ≤ 1000000) (hb : b ≤ 100) : fit n b = some () := by
  unfold fit
  rw [if_pos]
  refine ⟨by unfold maxLen; omega, ?_⟩
  have : n * b ≤ 1000000 * 100 := Nat.mul_le_mul h hb
  omega
theorem list_eq (f : Nat → Int) : ident_List f = some (listF f 8) := by
  unfold ident_List
  rw [loop_seq (s0 := (0, ([] : _root_.List Int))) (fun n => ((n : Int), listF f n)) 8 (w := .nx (listF f 8)) rfl (fun n hn => by
    have hn' : (n : Int) < 8 := by omega
    have e1 : IntKind.i64.wrap ((n : Int) + 1) = ((n + 1 : Nat) : Int) := by rw [w64] <;> omega
    have hl := listF_len f n
    simp only [hn', decide_true, if_true, jn, ib_n hn, Option.bind_some, Int.toNat_natCast, e1]
    rw [fit_t (by simp; omega) (by omega), listF_s]
    by_cases h : f n = 0 <;> simp [h]) (by simp)]
  simp only [Option.bind_some, Fl.elim]
theorem rlist_eq {f : Nat → Int} (w : ∀ j, j < 8 → (Lit.int .u32 (f j)).wf = true) : congressref07_List f = some (listF f 8) := by
  unfold congressref07_List
  rw [loop_seq (s0 := (0, ([] : _root_.List Int))) (fun n => ((n : Int), listF f n)) 8 (w := .nx (listF f 8)) rfl (fun n hn => by
    have hn' : (n : Int) < 8 := by omega
    have e1 : IntKind.i64.wrap ((n : Int) + 1) = ((n + 1 : Nat) : Int) := by rw [w64] <;> omega
    have hl := listF_len f n
    have hw := wf_u32.1 (w n hn)
    simp only [hn', decide_true, if_true, jn, ib_n hn, Option.bind_some, Int.toNat_natCast, e1]
    rw [fit_t (by simp; omega) (by omega), listF_s]
    by_cases h : f n = 0
    · simp [h]
    · rw [if_pos (by simp; omega), if_pos h]; rfl) (by simp)]
  simp only [Option.bind_some, Fl.elim]
def leastF (f : Nat → Int) : Int × Bool := if (listF f 8).length = 0 then (0, false) else ((listF f 8).getD 0 0, true)
theorem least_eq (f : Nat → Int) : ident_Least f = some (leastF f) := by
  unfold ident_Least leastF
  rw [list_eq]
  simp only [Option.bind_some]
  by_cases h : (listF f 8).length = 0
  · simp [h]
  · rw [if_neg (by simpa using h), if_neg h, ib_t (by omega) (by omega)]; rfl
def hasF (f : Nat → Int) (i v : Int) : Bool := ((((decide (i ≥ 0)) && (decide (i < 8))) && (v != 0)) && (f i.toNat == v))
theorem has_eq (f : Nat → Int) (i v : Int) : ident_Has f i v = some (hasF f i v) := by
  unfold ident_Has
  rw [ibg_t (by simp; omega)]; rfl
theorem rcmp_eq (p q : api_Id) : congressref07_Compare p q = some (cmpId p q) := by
  have e1 : IntKind.i64.wrap 1 = 1 := by rw [w64] <;> omega
  have e2 : IntKind.i64.wrap 2 = 2 := by rw [w64] <;> omega
  have e3 : IntKind.i64.wrap 3 = 3 := by rw [w64] <;> omega
  have c1 : ∀ a b : Int, cmpI a b = if a < b then -1 else if a > b then 1 else 0 := fun _ _ => rfl
  have a0 : ∀ p : api_Id, aset (fun _ => (0 : Int)) [(0, p.Epoch), (1, p.Coord), (2, p.Inc)] 0 = p.Epoch := fun _ => rfl
  have a1 : ∀ p : api_Id, aset (fun _ => (0 : Int)) [(0, p.Epoch), (1, p.Coord), (2, p.Inc)] 1 = p.Coord := fun _ => rfl
  have a2 : ∀ p : api_Id, aset (fun _ => (0 : Int)) [(0, p.Epoch), (1, p.Coord), (2, p.Inc)] 2 = p.Inc := fun _ => rfl
  have t1 : (1 : Int).toNat = 1 := rfl
  have t2 : (2 : Int).toNat = 2 := rfl
  unfold congressref07_Compare
  simp only [congressref07_three, Option.bind_some]
  by_cases h1 : p.Epoch < q.Epoch
  · rw [loop_dn (s := 0) (w := .rt (-1)) (by simp [ib, a0, h1])]; simp [h1, Fl.elim, cmpId, c1]
  by_cases h2 : p.Epoch > q.Epoch
  · rw [loop_dn (s := 0) (w := .rt 1) (by simp [ib, a0, h1, h2])]; simp [h1, h2, Fl.elim, cmpId, c1]
  rw [loop_nx (s := 0) (s' := 1) (by simp [ib, a0, h1, h2, e1])]
  by_cases h3 : p.Coord < q.Coord
  · rw [loop_dn (s := 1) (w := .rt (-1)) (by simp [ib, a1, t1, h3])]; simp [h1, h2, h3, Fl.elim, cmpId, c1]
  by_cases h4 : p.Coord > q.Coord
  · rw [loop_dn (s := 1) (w := .rt 1) (by simp [ib, a1, t1, h3, h4])]; simp [h1, h2, h3, h4, Fl.elim, cmpId, c1]
  rw [loop_nx (s := 1) (s' := 2) (by simp [ib, a1, t1, h3, h4, e2])]
  by_cases h5 : p.Inc < q.Inc
  · rw [loop_dn (s := 2) (w := .rt (-1)) (by simp [ib, a2, t2, h5])]; simp [h1, h2, h3, h4, h5, Fl.elim, cmpId, c1]
  by_cases h6 : p.Inc > q.Inc
  · rw [loop_dn (s := 2) (w := .rt 1) (by simp [ib, a2, t2, h5, h6])]; simp [h1, h2, h3, h4, h5, h6, Fl.elim, cmpId, c1]
  rw [loop_nx (s := 2) (s' := 3) (by simp [ib, a2, t2, h5, h6, e3]), loop_dn (s := 3) (w := .nx ()) (by simp)]
  simp [h1, h2, h3, h4, h5, h6, Fl.elim, cmpId, c1]
def mxF (f g : Nat → Int) (n : Nat) : Nat → Int := fun j => if j < n ∧ f j < g j then g j else f j
theorem mxF_s (f g : Nat → Int) (n : Nat) : aupd (mxF f g n) n (if mxF f g n n < g n then g n else mxF f g n n) = mxF f g (n + 1) := by
  funext j
  by_cases hj : j = n
  · subst hj
    have e : mxF f g j j = f j := by simp [mxF]
    simp only [aupd, if_true, e]
    simp [mxF]
  · have : j < n + 1 ↔ j < n := by omega
    simp [aupd, mxF, hj, this]
theorem union_eq (a b : Nat → Int) : cut_Union [a, b] = some (mxF (mxF (fun _ => 0) a 8) b 8) := by
  have inner : ∀ (l : _root_.List (Nat → Int)) (i : Nat) (_ : i < l.length) (f : Nat → Int), (loop (ω := Fl ((Nat → Int)) ((Nat → Int))) (fun (x4 : Int × (Nat → Int)) =>
        if (decide (x4.1 < 8)) then
          (ib x4.1 8).bind fun _ =>
          (ib x4.1 8).bind fun _ =>
          (ib x4.1 8).bind fun _ =>
          lt (aupd x4.2 x4.1.toNat (if (x4.2 x4.1.toNat) < ((l.getD i (fun _ => 0)) x4.1.toNat) then (l.getD i (fun _ => 0)) x4.1.toNat else x4.2 x4.1.toNat) : (Nat → Int)) fun v9 =>
          some (.next ((IntKind.i64.wrap (x4.1 + 1)), v9))
        else
          some (.done (.nx (x4.2)))) (0, f)) = some (.nx (mxF f (l.getD i (fun _ => 0)) 8)) := by
    intro l i hi f
    refine loop_seq (fun n => ((n : Int), mxF f (l.getD i (fun _ => 0)) n)) 8 (Prod.ext rfl (funext fun j => by simp [mxF])) (fun n hn => ?_) (by simp)
    have hn' : (n : Int) < 8 := by omega
    have e1 : IntKind.i64.wrap ((n : Int) + 1) = ((n + 1 : Nat) : Int) := by rw [w64] <;> omega
    simp only [hn', decide_true, if_true, ib_n hn, Option.bind_some, Int.toNat_natCast, e1, lt, mxF_s]
  have e1 : IntKind.i64.wrap ((0 : Int) + 1) = 1 := by rw [w64] <;> omega
  have e2 : IntKind.i64.wrap ((1 : Int) + 1) = 2 := by rw [w64] <;> omega
  unfold cut_Union
  rw [loop_nx (s := (0, fun _ => 0)) (s' := (1, mxF (fun _ => 0) a 8)) (by
    have h := inner [a, b] 0 (by simp) (fun _ => 0)
    simp only [Int.toNat_zero, h, Option.bind_some, Fl.elim, e1]
    simp [ib])]
  rw [loop_nx (s := (1, mxF (fun _ => 0) a 8)) (s' := (2, mxF (mxF (fun _ => 0) a 8) b 8)) (by
    have h := inner [a, b] 1 (by simp) (mxF (fun _ => 0) a 8)
    simp only [show (1 : Int).toNat = 1 from rfl, h, Option.bind_some, Fl.elim, e2]
    simp [ib])]
  rw [loop_dn (s := (2, mxF (mxF (fun _ => 0) a 8) b 8)) (w := .nx (mxF (mxF (fun _ => 0) a 8) b 8)) (by simp)]
  simp only [Option.bind_some, Fl.elim]
theorem listF_in {f : Nat → Int} {n : Nat} {x : Int} : x ∈ listF f n ↔ ∃ j : Nat, x = (j : Int) ∧ j < n ∧ f j ≠ 0 := by
  simp only [listF, List.mem_map, List.mem_filter, List.mem_range]
  constructor
  · rintro ⟨j, ⟨h1, h2⟩, h3⟩; exact ⟨j, h3.symm, h1, by simpa using h2⟩
  · rintro ⟨j, rfl, h1, h2⟩; exact ⟨j, ⟨h1, by simpa using h2⟩, rfl⟩
def eachF (p0 : api_Core) (f : api_Peer → Bool) : Bool := (listF p0.Wanted 8).all fun x => !((x != p0.Self) && (((p0.Peers x.toNat).Inc != p0.Wanted x.toNat) || (!f (p0.Peers x.toNat))))
theorem each_eq (p0 : api_Core) (f : api_Peer → Bool) : gather_each p0 (fun z => some (f z)) = some (eachF p0 f) := by
  have hl := listF_len p0.Wanted 8
  unfold gather_each
  rw [list_eq]
  simp only [Option.bind_some]
  rw [seek (ρ := Bool) (listF p0.Wanted 8) (fun x => (x != p0.Self) && (((p0.Peers x.toNat).Inc != p0.Wanted x.toNat) || (!f (p0.Peers x.toNat)))) (fun _ => false) (fun n hn => by
    have hn' : (n : Int) < ((listF p0.Wanted 8).length : Int) := by omega
    have e1 : IntKind.i64.wrap ((n : Int) + 1) = ((n + 1 : Nat) : Int) := by rw [w64] <;> omega
    obtain ⟨j, hj, hj8, _⟩ := listF_in.1 (getD_in (d := (0 : Int)) hn)
    have ibt : ∀ g, ibg g (j : Int) 8 = some () := fun g => ibg_t (fun _ => by omega)
    simp only [hn', decide_true, if_true, ib_n hn, hj, ib_n hj8, ibt, Option.bind_some, Int.toNat_natCast, e1, lt, whn]
    by_cases h1 : (((j : Int) != p0.Self) && (!((p0.Peers j).Inc != p0.Wanted j))) = true
    · rw [if_pos h1]; rfl
    · rw [if_neg h1]
      simp only [Option.bind_some]
      have e2 : (((j : Int) != p0.Self) && (((p0.Peers j).Inc != p0.Wanted j) || (!false))) = (((j : Int) != p0.Self) && (((p0.Peers j).Inc != p0.Wanted j) || (!f (p0.Peers j)))) := by
        revert h1
        cases ((j : Int) != p0.Self) <;> cases ((p0.Peers j).Inc != p0.Wanted j) <;> simp
      rw [e2]) (by simp)]
  simp only [Option.bind_some]
  exact elim_all _ _
theorem all_eq (p0 : api_Core) : gather_All p0 = some (eachF p0 fun z => b_api_Id z.Promise p0.Promise) := by
  have e : (fun z0 => gather_All_1 z0 p0) = fun z => some (b_api_Id z.Promise p0.Promise) := rfl
  unfold gather_All
  rw [e, each_eq]; rfl
theorem done_eq (p0 : api_Core) : gather_Done p0 = some (eachF p0 fun z => ((b_api_Id z.Promise p0.Promise) && z.Ready) || (b_api_Id z.Conf p0.Promise)) := by
  have e : (fun z0 => gather_Done_1 z0 p0) = fun z => some (((b_api_Id z.Promise p0.Promise) && z.Ready) || (b_api_Id z.Conf p0.Promise)) := rfl
  unfold gather_Done
  rw [e, each_eq]; rfl
def standsF (p0 : api_Core) (p1 : Nat → Int) : Bool :=
  if ((((IntKind.i64.wrap (p0.Promise.Coord)) != p0.Self) || (p0.Promise.Inc != p0.Own)) || (!(b_a8_u32 p0.Wanted p1))) then false
  else (listF p1 8).all fun x => !((((x != p0.Self) && (((p0.Peers x.toNat).Inc) == (p1 x.toNat))) && (decide (cmpId (p0.Peers x.toNat).Promise p0.Promise > 0))))
theorem stands_eq (p0 : api_Core) (p1 : Nat → Int) : gather_stands p0 p1 = some (standsF p0 p1) := by
  have hl := listF_len p1 8
  unfold gather_stands standsF
  simp only [lt, list_eq, Option.bind_some]
  split
  · rfl
  rw [seek (ρ := Bool) (listF p1 8) (fun x => ((x != p0.Self) && (((p0.Peers x.toNat).Inc) == (p1 x.toNat))) && (decide (cmpId (p0.Peers x.toNat).Promise p0.Promise > 0))) (fun _ => false) (fun n hn => by
    have hn' : (n : Int) < ((listF p1 8).length : Int) := by omega
    have e1 : IntKind.i64.wrap ((n : Int) + 1) = ((n + 1 : Nat) : Int) := by rw [w64] <;> omega
    obtain ⟨j, hj, hj8, _⟩ := listF_in.1 (getD_in (d := (0 : Int)) hn)
    have ibt : ∀ g, ibg g (j : Int) 8 = some () := fun g => ibg_t (fun _ => by omega)
    simp only [hn', decide_true, if_true, ib_n hn, hj, ib_n hj8, ibt, Option.bind_some, Int.toNat_natCast, e1, cmp_eq, whn]
    by_cases h1 : (((j : Int) != p0.Self) && (((p0.Peers j).Inc) == (p1 j))) = true
    · rw [if_pos h1]; rfl
    · rw [if_neg h1]
      simp only [Bool.not_eq_true] at h1
      simp only [Option.bind_some, h1, Bool.false_and]) (by simp)]
  simp only [Option.bind_some]
  exact elim_all _ _
def propF (p0 : api_Core) (p1 : Nat → Int) : api_Id × Bool :=
  if ((((!(leastF p1).2) || ((leastF p1).1 != p0.Self)) || (p0.Epoch == 4294967295)) || standsF p0 p1) then ({ Epoch := 0, Coord := 0, Inc := 0 }, false)
  else ({ Epoch := (IntKind.u32.wrap (p0.Epoch + 1)), Coord := (IntKind.u32.wrap (p0.Self)), Inc := p0.Own }, true)
theorem prop_eq (p0 : api_Core) (p1 : Nat → Int) : gather_Propose p0 p1 = some (propF p0 p1) := by
  unfold gather_Propose propF
  simp only [least_eq, stands_eq, Option.bind_some, whn, lt]
  by_cases h : (((!(leastF p1).2) || ((leastF p1).1 != p0.Self)) || (p0.Epoch == 4294967295)) = true
  · simp only [h, Bool.not_true, Bool.false_eq_true, if_false, Option.bind_some, Bool.true_or, if_true]
  · simp only [Bool.not_eq_true] at h
    simp only [h, Bool.not_false, if_true, Option.bind_some, Bool.false_or]
    split <;> rfl
def updF (p : api_Peer) (k : api_Packet) : api_Peer :=
  if k.Inc < p.Inc then p
  else if k.Inc > p.Inc ∨ cmpId k.Promise p.Promise > 0 then { Inc := k.Inc, Conf := k.Conf, Promise := k.Promise, Cut := k.Count, Ready := k.Ready }
  else if cmpId k.Promise p.Promise < 0 then p
  else if cmpId k.Conf p.Conf = 1 then { p with Conf := k.Conf, Cut := k.Count, Ready := p.Ready || k.Ready }
  else if cmpId k.Conf p.Conf = 0 then { p with Cut := mxF (mxF (fun _ => 0) p.Cut 8) k.Count 8, Ready := p.Ready || k.Ready }
  else { p with Ready := p.Ready || k.Ready }
theorem upd_eq (p : api_Peer) (k : api_Packet) : gather_Update p k = some (updF p k) := by
  unfold gather_Update updF
  simp only [lt, cmp_eq, union_eq, Option.bind_some, jn, decide_eq_true_eq, Bool.or_eq_true, beq_iff_eq]
  repeat' split
  all_goals first | rfl | (exfalso; omega) | skip
def Cov (v : api_Peer) (k : api_Packet) : Prop :=
  k.Inc < v.Inc ∨ (k.Inc = v.Inc ∧ (cmpId k.Promise v.Promise < 0 ∨ (cmpId k.Promise v.Promise = 0 ∧ (k.Ready = true → v.Ready = true) ∧ (cmpId k.Conf v.Conf < 0 ∨ (cmpId k.Conf v.Conf = 0 ∧ ∀ j, j < 8 → k.Count j ≤ v.Cut j)))))
def Nat8 (f : Nat → Int) : Prop := ∀ j, j < 8 → 0 ≤ f j
theorem mx_ge {f g : Nat → Int} (hf : Nat8 f) {j : Nat} (hj : j < 8) : f j ≤ mxF (mxF (fun _ => 0) f 8) g 8 j ∧ g j ≤ mxF (mxF (fun _ => 0) f 8) g 8 j := by
  have := hf j hj
  simp only [mxF, hj, true_and]
  constructor <;> (split <;> split <;> omega)
def adoptF (p0 : api_Id) (p1 p2 : Int) (p3 : api_Packet) : Bool := decide (cmpId p3.Promise p0 > 0) && hasF p3.Wanted p1 p2
theorem adopt_eq (p0 : api_Id) (p1 p2 : Int) (p3 : api_Packet) : gather_Adopt p0 p1 p2 p3 = some (adoptF p0 p1 p2 p3) := by
  unfold gather_Adopt adoptF
  simp only [cmp_eq, has_eq, Option.bind_some, whn]
  by_cases h : decide (cmpId p3.Promise p0 > 0) = true
  · rw [if_pos h]; rfl
  · rw [if_neg h]
    simp only [Bool.not_eq_true] at h
    simp only [h, Option.bind_some, Bool.false_and]
def cndF (p0 : api_Core) (x : Int) : Bool := ((((x != p0.Self) && (((p0.Peers x.toNat).Inc) == (p0.Wanted x.toNat))) && (b_api_Id ((p0.Peers x.toNat).Conf) p0.Conf)) && (b_api_Id ((p0.Peers x.toNat).Promise) p0.Promise))
def tgF (p0 : api_Core) (l : _root_.List Int) (f : Nat → Int) : Nat → Int := l.foldl (fun f x => if cndF p0 x = true then mxF (mxF (fun _ => 0) f 8) (p0.Peers x.toNat).Cut 8 else f) f
theorem tg_s (p0 : api_Core) (l : _root_.List Int) (f : Nat → Int) (x : Int) : tgF p0 (l ++ [x]) f = if cndF p0 x = true then mxF (mxF (fun _ => 0) (tgF p0 l f) 8) (p0.Peers x.toNat).Cut 8 else tgF p0 l f := by
  unfold tgF; rw [List.foldl_append]; rfl
theorem target_eq (p0 : api_Core) : gather_Target p0 = some (tgF p0 (listF p0.Wanted 8) p0.Cut) := by
  have hl := listF_len p0.Wanted 8
  unfold gather_Target
  rw [list_eq]
  simp only [Option.bind_some]
  rw [loop_seq (s0 := (0, p0.Cut)) (fun n => ((n : Int), tgF p0 ((listF p0.Wanted 8).take n) p0.Cut)) (listF p0.Wanted 8).length (w := .nx (tgF p0 (listF p0.Wanted 8) p0.Cut)) rfl (fun n hn => by
    have hn' : (n : Int) < ((listF p0.Wanted 8).length : Int) := by omega
    have e1 : IntKind.i64.wrap ((n : Int) + 1) = ((n + 1 : Nat) : Int) := by rw [w64] <;> omega
    obtain ⟨j, hj, hj8, _⟩ := listF_in.1 (getD_in (d := (0 : Int)) hn)
    have ibt : ∀ g, ibg g (j : Int) 8 = some () := fun g => ibg_t (fun _ => by omega)
    rw [take_s (d := 0) hn, tg_s]
    simp only [hn', decide_true, if_true, ib_n hn, hj, ib_n hj8, ibt, Option.bind_some, Int.toNat_natCast, e1, lt, jn, union_eq]
    by_cases hc : cndF p0 (j : Int) = true
    · have hc' := hc
      simp only [cndF, Int.toNat_natCast] at hc'
      rw [if_pos hc, if_pos hc']
    · have hc' := hc
      simp only [cndF, Int.toNat_natCast] at hc'
      rw [if_neg hc, if_neg hc']) (by simp)]
  simp only [Option.bind_some, Fl.elim]
theorem mx_le {f g : Nat → Int} (hf : Nat8 f) {j : Nat} (hj : j < 8) (r : Int) : mxF (mxF (fun _ => 0) f 8) g 8 j ≤ r ↔ f j ≤ r ∧ g j ≤ r := by
  have := hf j hj
  simp only [mxF, hj, true_and]
  constructor
  · intro h
    by_cases h1 : 0 < f j
    · rw [if_pos h1] at h
      by_cases h2 : f j < g j
      · rw [if_pos h2] at h; omega
      · rw [if_neg h2] at h; omega
    · rw [if_neg h1] at h
      by_cases h2 : 0 < g j
      · rw [if_pos h2] at h; omega
      · rw [if_neg h2] at h; omega
  · rintro ⟨h1, h2⟩
    split <;> split <;> omega
theorem tg_le (p0 : api_Core) {j : Nat} (hj : j < 8) (r : Int) : ∀ (l : _root_.List Int) (f : Nat → Int), Nat8 f → (tgF p0 l f j ≤ r ↔ f j ≤ r ∧ ∀ x ∈ l, cndF p0 x = true → (p0.Peers x.toNat).Cut j ≤ r)
  | [], f, hf => by simp [tgF]
  | a :: l, f, hf => by
    have e : tgF p0 (a :: l) f = tgF p0 l (if cndF p0 a = true then mxF (mxF (fun _ => 0) f 8) (p0.Peers a.toNat).Cut 8 else f) := rfl
    rw [e]
    by_cases hc : cndF p0 a = true
    · rw [if_pos hc, tg_le p0 hj r l _ (fun i hi => Int.le_trans (hf i hi) (mx_ge hf hi).1), mx_le hf hj]
      constructor
      · rintro ⟨⟨h1, h2⟩, h3⟩
        refine ⟨h1, fun x hx hcx => ?_⟩
        rcases List.mem_cons.1 hx with rfl | hx
        · exact h2
        · exact h3 x hx hcx
      · rintro ⟨h1, h2⟩
        exact ⟨⟨h1, h2 a (by simp) hc⟩, fun x hx hcx => h2 x (by simp [hx]) hcx⟩
    · rw [if_neg hc, tg_le p0 hj r l f hf]
      constructor
      · rintro ⟨h1, h3⟩
        refine ⟨h1, fun x hx hcx => ?_⟩
        rcases List.mem_cons.1 hx with rfl | hx
        · exact absurd hcx hc
        · exact h3 x hx hcx
      · rintro ⟨h1, h2⟩
        exact ⟨h1, fun x hx hcx => h2 x (by simp [hx]) hcx⟩
theorem mx1 (f : Nat → Int) (g : Nat → Int) (l : _root_.List (Nat → Int)) (i : Nat) (hi : i < l.length) (hg : l.getD i (fun _ => 0) = g) : (loop (ω := Fl ((Nat → Int)) ((Nat → Int))) (fun (x3 : Int × (Nat → Int)) =>
        if (decide (x3.1 < 8)) then
          jn (fun x13 : (Nat → Int) =>
            some (.next ((IntKind.i64.wrap (x3.1 + 1)), x13))) fun j5 =>
          (ib (i : Int) l.length).bind fun _ =>
          (ib x3.1 8).bind fun _ =>
          (ib x3.1 8).bind fun _ =>
          lt ((decide (((l.getD (i : Int).toNat (fun _ => 0)) x3.1.toNat) > (x3.2 x3.1.toNat))) : Bool) fun v9 =>
          if v9 then
            (ib (i : Int) l.length).bind fun _ =>
            (ib x3.1 8).bind fun _ =>
            (ib x3.1 8).bind fun _ =>
            j5 (aupd x3.2 x3.1.toNat ((l.getD (i : Int).toNat (fun _ => 0)) x3.1.toNat))
          else
            j5 (x3.2)
        else
          some (.done (.nx (x3.2)))) (0, f)) = some (.nx (mxF f g 8)) := by
  subst hg
  refine loop_seq (fun n => ((n : Int), mxF f (l.getD i (fun _ => 0)) n)) 8 (Prod.ext rfl (funext fun j => by simp [mxF])) (fun n hn => ?_) (by simp)
  have hn' : (n : Int) < 8 := by omega
  have e1 : IntKind.i64.wrap ((n : Int) + 1) = ((n + 1 : Nat) : Int) := by rw [w64] <;> omega
  simp only [hn', decide_true, if_true, ib_n hn, ib_n hi, Option.bind_some, Int.toNat_natCast, e1, lt, jn]
  rw [← mxF_s]
  by_cases h : mxF f (l.getD i fun _ => 0) n n < (l.getD i fun _ => 0) n
  · have hd : decide ((l.getD i fun _ => 0) n > mxF f (l.getD i fun _ => 0) n n) = true := by simpa using h
    rw [if_pos hd, if_pos h]
  · have hd : ¬ decide ((l.getD i fun _ => 0) n > mxF f (l.getD i fun _ => 0) n n) = true := by simpa using h
    rw [if_neg hd, if_neg h]
    congr 3
    funext k
    by_cases hk : k = n
    · subst hk; simp [aupd]
    · simp [aupd, hk]
def uniF (l : _root_.List (Nat → Int)) : Nat → Int := l.foldl (fun f g => mxF f g 8) (fun _ => 0)
theorem uni_s (l : _root_.List (Nat → Int)) (g : Nat → Int) : uniF (l ++ [g]) = mxF (uniF l) g 8 := by unfold uniF; rw [List.foldl_append]; rfl
theorem runion_eq (l : _root_.List (Nat → Int)) (hl : l.length ≤ 1000000) : congressref11_Union l = some (uniF l) := by
  unfold congressref11_Union
  rw [loop_seq (s0 := (0, aset (fun _ => 0) [])) (fun n => ((n : Int), uniF (l.take n))) l.length (w := .nx (uniF l)) (by simp [uniF, aset]) (fun n hn => by
    have hn' : (n : Int) < (l.length : Int) := by omega
    have e1 : IntKind.i64.wrap ((n : Int) + 1) = ((n + 1 : Nat) : Int) := by rw [w64] <;> omega
    simp only [hn', decide_true, if_true]
    rw [mx1 (uniF (l.take n)) (l.getD n fun _ => 0) l n hn rfl]
    simp only [Option.bind_some, Fl.elim, e1, take_s (d := fun _ => 0) hn, uni_s]) (by simp)]
  simp only [Option.bind_some, Fl.elim]
theorem uni_ge : ∀ (l : _root_.List (Nat → Int)) (f : Nat → Int), Nat8 f → ∀ j, j < 8 → ∀ r, ((l.foldl (fun f g => mxF f g 8) f) j ≤ r ↔ f j ≤ r ∧ ∀ g ∈ l, g j ≤ r)
  | [], f, hf, j, hj, r => by simp
  | a :: l, f, hf, j, hj, r => by
    have hm : ∀ i, i < 8 → (mxF f a 8 i ≤ r ↔ f i ≤ r ∧ a i ≤ r) := by
      intro i hi
      simp only [mxF, hi, true_and]
      by_cases h : f i < a i
      · rw [if_pos h]; omega
      · rw [if_neg h]; omega
    have hn : Nat8 (mxF f a 8) := by
      intro i hi
      have := hf i hi
      simp only [mxF, hi, true_and]; split <;> omega
    rw [List.foldl_cons, uni_ge l _ hn j hj r, hm j hj]
    constructor
    · rintro ⟨⟨h1, h2⟩, h3⟩
      refine ⟨h1, fun g hg => ?_⟩
      rcases List.mem_cons.1 hg with rfl | hg
      · exact h2
      · exact h3 g hg
    · rintro ⟨h1, h2⟩
      exact ⟨⟨h1, h2 a (by simp)⟩, fun g hg => h2 g (by simp [hg])⟩
def othF (c : api_Core) : _root_.List Int := (listF c.Wanted 8).filter fun x => x != c.Self
theorem others_eq (c : api_Core) (hw : ∀ j, j < 8 → (Lit.int .u32 (c.Wanted j)).wf = true) : congressref12_others c = some (othF c) := by
  have hl := listF_len c.Wanted 8
  unfold congressref12_others
  rw [rlist_eq hw]
  simp only [Option.bind_some]
  rw [loop_seq (s0 := (0, ([] : _root_.List Int))) (fun n => ((n : Int), ((listF c.Wanted 8).take n).filter fun x => x != c.Self)) (listF c.Wanted 8).length (w := .nx (othF c)) (by simp) (fun n hn => by
    have hn' : (n : Int) < ((listF c.Wanted 8).length : Int) := by omega
    have e1 : IntKind.i64.wrap ((n : Int) + 1) = ((n + 1 : Nat) : Int) := by rw [w64] <;> omega
    have hfl := List.length_filter_le (fun x => x != c.Self) ((listF c.Wanted 8).take n)
    simp only [hn', decide_true, if_true, ib_n hn, Option.bind_some, Int.toNat_natCast, e1, jn, take_s (d := (0 : Int)) hn, List.filter_append]
    rw [fit_t (by simp at hfl ⊢; omega) (by omega)]
    simp only [Option.bind_some]
    by_cases h : ((listF c.Wanted 8).getD n 0 != c.Self) = true
    · rw [if_pos h, List.filter_cons_of_pos (by exact h)]; rfl
    · rw [if_neg h, List.filter_cons_of_neg (by exact h)]; simp) (by simp [othF])]
  simp only [Option.bind_some, Fl.elim]
theorem oth_in {c : api_Core} {x : Int} (h : x ∈ othF c) : ∃ j : Nat, x = (j : Int) ∧ j < 8 := by
  unfold othF at h
  obtain ⟨j, h1, h2, _⟩ := listF_in.1 (List.mem_filter.1 h).1
  exact ⟨j, h1, h2⟩
theorem oth_len (c : api_Core) : (othF c).length ≤ 8 := Nat.le_trans (List.length_filter_le _ _) (listF_len c.Wanted 8)
theorem all_filter (l : _root_.List Int) (p q : Int → Bool) : (l.filter p).all q = l.all fun x => !p x || q x := by
  induction l with
  | nil => rfl
  | cons a l ih =>
    by_cases h : p a = true
    · rw [List.filter_cons_of_pos h]; simp only [List.all_cons, ih, h, Bool.not_true, Bool.false_or]
    · rw [List.filter_cons_of_neg h]; simp only [Bool.not_eq_true] at h; simp only [List.all_cons, ih, h, Bool.not_false, Bool.true_or, Bool.true_and]
theorem rall_eq (c : api_Core) (hw : ∀ j, j < 8 → (Lit.int .u32 (c.Wanted j)).wf = true) : congressref12_All c = some (eachF c fun z => b_api_Id z.Promise c.Promise) := by
  have hl := oth_len c
  unfold congressref12_All
  rw [others_eq c hw]
  simp only [Option.bind_some]
  rw [seek (ρ := Bool) (othF c) (fun x => (((c.Peers x.toNat).Inc != c.Wanted x.toNat) || (!(b_api_Id (c.Peers x.toNat).Promise c.Promise)))) (fun _ => false) (fun n hn => by
    have hn' : (n : Int) < ((othF c).length : Int) := by omega
    have e1 : IntKind.i64.wrap ((n : Int) + 1) = ((n + 1 : Nat) : Int) := by rw [w64] <;> omega
    obtain ⟨j, hj, hj8⟩ := oth_in (getD_in (d := (0 : Int)) hn)
    simp only [hn', decide_true, if_true, ib_n hn, hj, ib_n hj8, Option.bind_some, Int.toNat_natCast, e1, lt]) (by simp)]
  simp only [Option.bind_some]
  rw [elim_all]
  unfold eachF othF
  rw [all_filter]
  congr 2
  funext x
  cases (x != c.Self) <;> simp
theorem rdone_eq (c : api_Core) (hw : ∀ j, j < 8 → (Lit.int .u32 (c.Wanted j)).wf = true) : congressref12_Done c = some (eachF c fun z => ((b_api_Id z.Promise c.Promise) && z.Ready) || (b_api_Id z.Conf c.Promise)) := by
  have hl := oth_len c
  unfold congressref12_Done
  rw [others_eq c hw]
  simp only [Option.bind_some]
  rw [seek (ρ := Bool) (othF c) (fun x => (((c.Peers x.toNat).Inc != c.Wanted x.toNat) || ((!(b_api_Id (c.Peers x.toNat).Conf c.Promise)) && ((!(b_api_Id (c.Peers x.toNat).Promise c.Promise)) || (!(c.Peers x.toNat).Ready))))) (fun _ => false) (fun n hn => by
    have hn' : (n : Int) < ((othF c).length : Int) := by omega
    have e1 : IntKind.i64.wrap ((n : Int) + 1) = ((n + 1 : Nat) : Int) := by rw [w64] <;> omega
    obtain ⟨j, hj, hj8⟩ := oth_in (getD_in (d := (0 : Int)) hn)
    simp only [hn', decide_true, if_true, ib_n hn, hj, ib_n hj8, Option.bind_some, Int.toNat_natCast, e1, lt]
    by_cases h : ((c.Peers j).Inc != c.Wanted j) = true
    · simp only [h, Bool.true_or, if_true]
    · have h' := Bool.eq_false_iff.2 h
      simp only [h', Bool.false_or, Bool.false_eq_true, if_false]) (by simp)]
  simp only [Option.bind_some]
  rw [elim_all]
  unfold eachF othF
  rw [all_filter]
  congr 2
  funext x
  show (!(x != c.Self) || !(((c.Peers x.toNat).Inc != c.Wanted x.toNat) || ((!(b_api_Id (c.Peers x.toNat).Conf c.Promise)) && ((!(b_api_Id (c.Peers x.toNat).Promise c.Promise)) || (!(c.Peers x.toNat).Ready))))) = !((x != c.Self) && (((c.Peers x.toNat).Inc != c.Wanted x.toNat) || (!(((b_api_Id (c.Peers x.toNat).Promise c.Promise) && (c.Peers x.toNat).Ready) || (b_api_Id (c.Peers x.toNat).Conf c.Promise)))))
  cases (x != c.Self) <;> cases ((c.Peers x.toNat).Inc != c.Wanted x.toNat) <;> cases (b_api_Id (c.Peers x.toNat).Conf c.Promise) <;> cases (b_api_Id (c.Peers x.toNat).Promise c.Promise) <;> cases (c.Peers x.toNat).Ready <;> rfl
def cutsF (c : api_Core) (l : _root_.List Int) : _root_.List (Nat → Int) := c.Cut :: ((l.filter fun x => ((((c.Peers x.toNat).Inc == c.Wanted x.toNat) && (b_api_Id (c.Peers x.toNat).Promise c.Promise)) && (b_api_Id (c.Peers x.toNat).Conf c.Conf))).map fun x => (c.Peers x.toNat).Cut)
theorem rtarget_eq (c : api_Core) (hw : ∀ j, j < 8 → (Lit.int .u32 (c.Wanted j)).wf = true) : congressref12_Target c = some (uniF (cutsF c (othF c))) := by
  have hl := oth_len c
  have hcl : ∀ l : _root_.List Int, (cutsF c l).length ≤ l.length + 1 := fun l => by
    simp only [cutsF, List.length_cons, List.length_map]
    have := List.length_filter_le (fun x => ((((c.Peers x.toNat).Inc == c.Wanted x.toNat) && (b_api_Id (c.Peers x.toNat).Promise c.Promise)) && (b_api_Id (c.Peers x.toNat).Conf c.Conf))) l
    omega
  have hcs : ∀ (l : _root_.List Int) (x : Int), cutsF c (l ++ [x]) = if ((((c.Peers x.toNat).Inc == c.Wanted x.toNat) && (b_api_Id (c.Peers x.toNat).Promise c.Promise)) && (b_api_Id (c.Peers x.toNat).Conf c.Conf)) = true then cutsF c l ++ [(c.Peers x.toNat).Cut] else cutsF c l := by
    intro l x
    simp only [cutsF, List.filter_append, List.map_append]
    split
    · rename_i h; rw [List.filter_cons_of_pos (by exact h)]; simp
    · rename_i h; rw [List.filter_cons_of_neg (by exact h)]; simp
  unfold congressref12_Target
  rw [others_eq c hw]
  simp only [Option.bind_some]
  rw [loop_seq (s0 := (0, ([c.Cut] : _root_.List (Nat → Int)))) (fun n => ((n : Int), cutsF c ((othF c).take n))) (othF c).length (w := .nx (cutsF c (othF c))) rfl (fun n hn => by
    have hn' : (n : Int) < ((othF c).length : Int) := by omega
    have e1 : IntKind.i64.wrap ((n : Int) + 1) = ((n + 1 : Nat) : Int) := by rw [w64] <;> omega
    obtain ⟨j, hj, hj8⟩ := oth_in (getD_in (d := (0 : Int)) hn)
    have hk := hcl ((othF c).take n)
    simp only [hn', decide_true, if_true, ib_n hn, hj, ib_n hj8, Option.bind_some, Int.toNat_natCast, e1, lt, jn, take_s (d := (0 : Int)) hn, hcs]
    by_cases h : ((((c.Peers j).Inc == c.Wanted j) && (b_api_Id (c.Peers j).Promise c.Promise)) && (b_api_Id (c.Peers j).Conf c.Conf)) = true
    · rw [if_pos h, if_pos h, fit_t (by simp at hk ⊢; omega) (by omega)]; rfl
    · rw [if_neg h, if_neg h]) (by simp)]
  have hk := hcl (othF c)
  simp only [Option.bind_some, Fl.elim]
  rw [runion_eq _ (by omega)]; rfl
theorem target_same (c : api_Core) (hc : Nat8 c.Cut) : b_a8_u32 (tgF c (listF c.Wanted 8) c.Cut) (uniF (cutsF c (othF c))) = true := by
  refine all8.2 fun j hj => ?_
  have key : ∀ r, tgF c (listF c.Wanted 8) c.Cut j ≤ r ↔ uniF (cutsF c (othF c)) j ≤ r := by
    intro r
    rw [tg_le c hj r _ _ hc]
    unfold uniF
    rw [uni_ge _ _ (fun _ _ => Int.le_refl _) j hj r]
    have h0 := hc j hj
    simp only [cutsF, List.mem_cons, List.mem_map, List.mem_filter, othF]
    constructor
    · rintro ⟨h1, h2⟩
      refine ⟨by omega, fun g hg => ?_⟩
      rcases hg with rfl | ⟨x, ⟨⟨q1, q2⟩, q3⟩, rfl⟩
      · exact h1
      · refine h2 x q1 ?_
        simp only [Bool.and_eq_true] at q3
        simp only [cndF, q2, q3.1.1, q3.1.2, q3.2, Bool.and_self]
    · rintro ⟨h1, h2⟩
      refine ⟨h2 _ (.inl rfl), fun x hx hcx => h2 _ (.inr ⟨x, ⟨⟨hx, ?_⟩, ?_⟩, rfl⟩)⟩
      · simp only [cndF, Bool.and_eq_true] at hcx; exact hcx.1.1.1
      · simp only [cndF, Bool.and_eq_true] at hcx; simp only [hcx.1.1.2, hcx.1.2, hcx.2, Bool.and_self]
  have a := (key _).1 (Int.le_refl _)
  have b := (key _).2 (Int.le_refl _)
  omega
theorem rupd_eq (p : api_Peer) (k : api_Packet) : congressref12_Update p k = some (updF p k) := by
  have hu : congressref11_Union [p.Cut, k.Count] = some (mxF (mxF (fun _ => 0) p.Cut 8) k.Count 8) := runion_eq [p.Cut, k.Count] (by simp)
  have r1 := cmp_r k.Promise p.Promise
  have r2 := cmp_r k.Conf p.Conf
  unfold congressref12_Update updF
  simp only [lt, rcmp_eq, hu, Option.bind_some, jn, decide_eq_true_eq, Bool.or_eq_true, beq_iff_eq]
  by_cases c1 : k.Inc < p.Inc
  · rw [if_pos c1, if_pos c1]
  rw [if_neg c1, if_neg c1]
  by_cases c2 : k.Inc > p.Inc ∨ cmpId k.Promise p.Promise = 1
  · have d2 : k.Inc > p.Inc ∨ cmpId k.Promise p.Promise > 0 := by omega
    rw [if_pos c2, if_pos d2]
  have d2 : ¬ (k.Inc > p.Inc ∨ cmpId k.Promise p.Promise > 0) := by omega
  rw [if_neg c2, if_neg d2]
  by_cases c3 : cmpId k.Promise p.Promise = -1
  · have d3 : cmpId k.Promise p.Promise < 0 := by omega
    rw [if_pos c3, if_pos d3]
  have d3 : ¬ cmpId k.Promise p.Promise < 0 := by omega
  rw [if_neg c3, if_neg d3]
  by_cases c4 : cmpId k.Conf p.Conf = 0
  · have d4 : ¬ cmpId k.Conf p.Conf = 1 := by omega
    simp only [if_pos c4, if_neg d4]
    cases hk : k.Ready <;> simp [hk]
  · by_cases c5 : cmpId k.Conf p.Conf = 1
    · simp only [if_neg c4, if_pos c5]
      cases hk : k.Ready <;> simp [hk]
    · simp only [if_neg c4, if_neg c5]
      cases hk : k.Ready <;> simp [hk]
theorem radopt_eq (p0 : api_Id) (p1 p2 : Int) (p3 : api_Packet) : congressref12_Adopt p0 p1 p2 p3 = some (adoptF p0 p1 p2 p3) := by
  have r1 := cmp_r p3.Promise p0
  unfold congressref12_Adopt adoptF hasF
  by_cases h : (((decide (p1 < 0)) || (decide (p1 > 7))) || (p2 == 0)) = true
  · rw [if_pos h]
    simp only [Bool.or_eq_true, decide_eq_true_eq, beq_iff_eq] at h
    congr 1
    symm
    rw [Bool.eq_false_iff]
    simp only [ne_eq, Bool.and_eq_true, decide_eq_true_eq, bne_iff_ne, beq_iff_eq]
    omega
  · rw [if_neg h]
    simp only [Bool.or_eq_true, decide_eq_true_eq, beq_iff_eq, not_or] at h
    simp only [rcmp_eq, Option.bind_some]
    rw [ibg_t (fun _ => by omega)]
    simp only [Option.bind_some, Option.some.injEq]
    have e1 : (cmpId p3.Promise p0 == 1) = decide (cmpId p3.Promise p0 > 0) := by
      rw [Bool.eq_iff_iff]; simp only [beq_iff_eq, decide_eq_true_eq]; omega
    have e2 : decide (p1 ≥ 0) = true := by simp; omega
    have e3 : decide (p1 < 8) = true := by simp; omega
    have e4 : (p2 != 0) = true := by simp; omega
    rw [e1, e2, e3, e4]; rfl
theorem brefl_peer (x : api_Peer) : b_api_Peer x x = true := by simp [b_api_Peer, breflId, brefl8]
end Go.Proofs.Ytcocahffigbmbaa.R12
end

section
set_option linter.unusedVariables false
set_option linter.unusedSimpArgs false
namespace Go.Proofs.Ytcocahffigbmbaa
open Go.Eng
abbrev Hs := _root_.List api_Happen
abbrev Ks := _root_.List api_Kept
def viewH (i : api_Id) (m : Nat → Int) : api_Happen := { View := true, Kept := z_api_Kept, Conf := i, Members := m }
def newH (k : api_Kept) : api_Happen := { View := false, Kept := k, Conf := z_api_Id, Members := (fun _ => 0) }
def allB (c : api_Core) : Bool := R12.eachF c fun z => b_api_Id z.Promise c.Promise
def doneB (c : api_Core) : Bool := R12.eachF c fun z => ((b_api_Id z.Promise c.Promise) && z.Ready) || (b_api_Id z.Conf c.Promise)
def tgt (c : api_Core) : Nat → Int := R12.tgF c (R12.listF c.Wanted 8) c.Cut
def settleF (c : api_Core) : api_Core := if (((!c.Ready) && allB c) && R11.leB (tgt c) c.Count) = true then { c with Ready := true } else c
def instF (c : api_Core) : api_Core := { c with Conf := c.Promise, Members := c.Wanted, Ready := false, Count := (fun _ => 0), Cut := (fun _ => 0), Kept := [] }
def goF (c : api_Core) (t : Hs) : api_Core × Hs :=
  if b_api_Id c.Promise c.Conf = true then (c, t)
  else if ((settleF c).Ready && doneB (settleF c)) = true then (instF (settleF c), t ++ [viewH (settleF c).Promise (settleF c).Wanted])
  else (settleF c, t)
theorem fit_s {n : Nat} (h : n ≤ 2000) : fit n 408 = some () := by
  have : (2000 : Nat) ≤ maxLen := by decide
  unfold fit; rw [if_pos ⟨by omega, by omega⟩]
theorem whn3 {β : Type} (A a w : Bool) (T d : Nat → Int) (W : (Nat → Int) → Option Bool) (hW : W T = some w) (F : Bool → Option β) :
    ((whn A (some a) false).bind fun v24 => (whn (A && v24) (some T) d).bind fun v26 => (whn (A && v24) (W v26) false).bind fun v28 => F ((A && v24) && v28)) = F ((A && a) && w) := by
  cases A <;> cases a <;> simp [whn, hW]
noncomputable def goTail {β : Type} (u : core_under) (k : Ks) (t : Hs) (K : core_under → Ks → Hs → Option β) (b : Bool) : Option β :=
  jn (fun x31 : core_under =>
            (whn x31.Core.Ready (gather_Done ({ x31.Core with Kept := k } : api_Core)) false).bind fun v32 =>
            if (x31.Core.Ready && v32) then
              (fit (t ++ ([({ View := true, Kept := z_api_Kept, Conf := x31.Core.Promise, Members := x31.Core.Wanted } : api_Happen)] : Hs)).length 408).bind fun _ =>
              K ({ x31 with Core := { x31.Core with Conf := x31.Core.Promise, Members := x31.Core.Wanted, Ready := false, Count := (fun _ => 0), Cut := (fun _ => 0) } } : core_under) [] (t ++ [viewH x31.Core.Promise x31.Core.Wanted])
            else K x31 k t) fun j30 => if b = true then j30 ({ u with Core := { u.Core with Ready := true } }) else j30 u
theorem go_core {β : Type} (u : core_under) (k : Ks) (t : Hs) (K : core_under → Ks → Hs → Option β) (hn : R11.Nat8 u.Core.Count) (ht : t.length ≤ 1000) :
    ((core_Gathers ({ u.Core with Kept := k } : api_Core)).bind fun v22 =>
        if (!v22) then K u k t
        else
          (whn (!u.Core.Ready) (gather_All ({ u.Core with Kept := k } : api_Core)) false).bind fun v24 =>
          (whn ((!u.Core.Ready) && v24) (gather_Target ({ u.Core with Kept := k } : api_Core)) (fun _ => 0)).bind fun v26 =>
          (whn ((!u.Core.Ready) && v24) (cut_Within v26 u.Core.Count) false).bind fun v28 =>
          jn (fun x31 : core_under =>
            (whn x31.Core.Ready (gather_Done ({ x31.Core with Kept := k } : api_Core)) false).bind fun v32 =>
            if (x31.Core.Ready && v32) then
              (fit (t ++ ([({ View := true, Kept := z_api_Kept, Conf := x31.Core.Promise, Members := x31.Core.Wanted } : api_Happen)] : Hs)).length 408).bind fun _ =>
              K ({ x31 with Core := { x31.Core with Conf := x31.Core.Promise, Members := x31.Core.Wanted, Ready := false, Count := (fun _ => 0), Cut := (fun _ => 0) } } : core_under) [] (t ++ [viewH x31.Core.Promise x31.Core.Wanted])
            else K x31 k t) fun j30 =>
          if (((!u.Core.Ready) && v24) && v28) then j30 ({ u with Core := { u.Core with Ready := true } })
          else j30 u) =
      K { Core := { (goF { u.Core with Kept := k } t).1 with Kept := u.Core.Kept }, told := u.told } (goF { u.Core with Kept := k } t).1.Kept (goF { u.Core with Kept := k } t).2 := by
  unfold core_Gathers
  simp only [Option.bind_some, Bool.not_not]
  by_cases h0 : b_api_Id u.Core.Promise u.Core.Conf = true
  · rw [if_pos h0]
    have e : goF { u.Core with Kept := k } t = ({ u.Core with Kept := k }, t) := by unfold goF; rw [if_pos h0]
    rw [e]
  · rw [if_neg h0]
    have e : goF { u.Core with Kept := k } t = if ((settleF { u.Core with Kept := k }).Ready && doneB (settleF { u.Core with Kept := k })) = true then (instF (settleF { u.Core with Kept := k }), t ++ [viewH (settleF { u.Core with Kept := k }).Promise (settleF { u.Core with Kept := k }).Wanted]) else (settleF { u.Core with Kept := k }, t) := by
      unfold goF; rw [if_neg h0]
    rw [e]
    have main : ∀ x : core_under, ((whn x.Core.Ready (gather_Done ({ x.Core with Kept := k } : api_Core)) false).bind fun v32 =>
            if (x.Core.Ready && v32) then
              (fit (t ++ ([({ View := true, Kept := z_api_Kept, Conf := x.Core.Promise, Members := x.Core.Wanted } : api_Happen)] : Hs)).length 408).bind fun _ =>
              K ({ x with Core := { x.Core with Conf := x.Core.Promise, Members := x.Core.Wanted, Ready := false, Count := (fun _ => 0), Cut := (fun _ => 0) } } : core_under) [] (t ++ [viewH x.Core.Promise x.Core.Wanted])
            else K x k t) =
        if (x.Core.Ready && doneB { x.Core with Kept := k }) = true then K ({ x with Core := { x.Core with Conf := x.Core.Promise, Members := x.Core.Wanted, Ready := false, Count := (fun _ => 0), Cut := (fun _ => 0) } } : core_under) [] (t ++ [viewH x.Core.Promise x.Core.Wanted]) else K x k t := by
      intro x
      by_cases hr : x.Core.Ready = true
      · simp only [hr, whn, if_true, R12.done_eq, Option.bind_some, Bool.true_and]
        show (if doneB { x.Core with Kept := k } = true then _ else _) = _
        rw [fit_s (by simp; omega)]; rfl
      · have hr' := Bool.eq_false_iff.2 hr
        simp only [hr', whn, Bool.false_eq_true, if_false, Option.bind_some, Bool.false_and]
    have hs : ∀ b : Bool, b = (((!u.Core.Ready) && allB { u.Core with Kept := k }) && R11.leB (tgt { u.Core with Kept := k }) u.Core.Count) →
        (jn (fun x31 : core_under => (whn x31.Core.Ready (gather_Done ({ x31.Core with Kept := k } : api_Core)) false).bind fun v32 =>
            if (x31.Core.Ready && v32) then
              (fit (t ++ ([({ View := true, Kept := z_api_Kept, Conf := x31.Core.Promise, Members := x31.Core.Wanted } : api_Happen)] : Hs)).length 408).bind fun _ =>
              K ({ x31 with Core := { x31.Core with Conf := x31.Core.Promise, Members := x31.Core.Wanted, Ready := false, Count := (fun _ => 0), Cut := (fun _ => 0) } } : core_under) [] (t ++ [viewH x31.Core.Promise x31.Core.Wanted])
            else K x31 k t) fun j30 => if b = true then j30 ({ u with Core := { u.Core with Ready := true } }) else j30 u) =
        if ((settleF { u.Core with Kept := k }).Ready && doneB (settleF { u.Core with Kept := k })) = true then K { Core := { (instF (settleF { u.Core with Kept := k })) with Kept := u.Core.Kept }, told := u.told } [] (t ++ [viewH (settleF { u.Core with Kept := k }).Promise (settleF { u.Core with Kept := k }).Wanted]) else K { Core := { (settleF { u.Core with Kept := k }) with Kept := u.Core.Kept }, told := u.told } k t := by
      intro b hb
      unfold jn
      cases b
      · have e2 : settleF { u.Core with Kept := k } = { u.Core with Kept := k } := by unfold settleF; exact if_neg (by rw [← hb]; decide)
        refine (main u).trans ?_
        rw [e2]; rfl
      · have e2 : settleF { u.Core with Kept := k } = { u.Core with Kept := k, Ready := true } := by unfold settleF; exact if_pos hb.symm
        refine (main ({ u with Core := { u.Core with Ready := true } } : core_under)).trans ?_
        rw [e2]; rfl
    have fin : (if ((settleF { u.Core with Kept := k }).Ready && doneB (settleF { u.Core with Kept := k })) = true then K { Core := { (instF (settleF { u.Core with Kept := k })) with Kept := u.Core.Kept }, told := u.told } [] (t ++ [viewH (settleF { u.Core with Kept := k }).Promise (settleF { u.Core with Kept := k }).Wanted]) else K { Core := { (settleF { u.Core with Kept := k }) with Kept := u.Core.Kept }, told := u.told } k t) =
        K { Core := { (if ((settleF { u.Core with Kept := k }).Ready && doneB (settleF { u.Core with Kept := k })) = true then (instF (settleF { u.Core with Kept := k }), t ++ [viewH (settleF { u.Core with Kept := k }).Promise (settleF { u.Core with Kept := k }).Wanted]) else (settleF { u.Core with Kept := k }, t)).1 with Kept := u.Core.Kept }, told := u.told } (if ((settleF { u.Core with Kept := k }).Ready && doneB (settleF { u.Core with Kept := k })) = true then (instF (settleF { u.Core with Kept := k }), t ++ [viewH (settleF { u.Core with Kept := k }).Promise (settleF { u.Core with Kept := k }).Wanted]) else (settleF { u.Core with Kept := k }, t)).1.Kept (if ((settleF { u.Core with Kept := k }).Ready && doneB (settleF { u.Core with Kept := k })) = true then (instF (settleF { u.Core with Kept := k }), t ++ [viewH (settleF { u.Core with Kept := k }).Promise (settleF { u.Core with Kept := k }).Wanted]) else (settleF { u.Core with Kept := k }, t)).2 := by
      split
      · rfl
      · have e3 : (settleF { u.Core with Kept := k }).Kept = k := by unfold settleF; split <;> rfl
        show _ = K _ (settleF { u.Core with Kept := k }).Kept t
        rw [e3]
    rw [← fin]
    rw [R12.all_eq, R12.target_eq]
    exact (whn3 (!u.Core.Ready) (allB { u.Core with Kept := k }) _ (tgt { u.Core with Kept := k }) _ (fun v => cut_Within v u.Core.Count) (R11.within_eq hn) (goTail u k t K)).trans (hs _ rfl)
def U32 (f : Nat → Int) : Prop := ∀ j, j < 8 → (Lit.int .u32 (f j)).wf = true
theorem U32.nat {f : Nat → Int} (h : U32 f) : ∀ j, j < 8 → 0 ≤ f j := fun j hj => (wf_u32.1 (h j hj)).1
theorem leB_tgt (c : api_Core) (hc : U32 c.Cut) (x : Nat → Int) : R11.leB (R12.uniF (R12.cutsF c (R12.othF c))) x = R11.leB (tgt c) x := by
  have h := R12.all8.1 (R12.target_same c (U32.nat hc))
  rw [Bool.eq_iff_iff, R11.leB_iff, R11.leB_iff]
  constructor
  · intro k j hj; have := h j hj; have := k j hj; unfold tgt; omega
  · intro k j hj; have := h j hj; have := k j hj; unfold tgt at this; omega
theorem rgo (s : congressref13_State) (hw : U32 s.C.Wanted) (hc : U32 s.C.Cut) (ht : s.Told.length ≤ 1000) : congressref13_goOn s = some { C := (goF s.C s.Told).1, Told := (goF s.C s.Told).2 } := by
  unfold congressref13_goOn
  by_cases h0 : b_api_Id s.C.Promise s.C.Conf = true
  · rw [if_pos h0]; unfold goF; rw [if_pos h0]
  · rw [if_neg h0]
    have e : goF s.C s.Told = if ((settleF s.C).Ready && doneB (settleF s.C)) = true then (instF (settleF s.C), s.Told ++ [viewH (settleF s.C).Promise (settleF s.C).Wanted]) else (settleF s.C, s.Told) := by
      unfold goF; rw [if_neg h0]
    rw [e, R12.rall_eq s.C hw, R12.rtarget_eq s.C hw]
    refine (whn3 (!s.C.Ready) (allB s.C) _ (R12.uniF (R12.cutsF s.C (R12.othF s.C))) _ (fun v => congressref11_Within v s.C.Count) (R11.rwithin_eq _ _) (fun b => jn (fun x8 : congressref13_State =>
      (whn x8.C.Ready (congressref12_Done x8.C) false).bind fun v9 =>
      if (x8.C.Ready && v9) then
        (fit (s.Told ++ ([({ View := true, Kept := z_api_Kept, Conf := x8.C.Promise, Members := x8.C.Wanted } : api_Happen)] : Hs)).length 408).bind fun _ =>
        some ({ C := instF x8.C, Told := s.Told ++ [viewH x8.C.Promise x8.C.Wanted] } : congressref13_State)
      else
        some ({ x8 with Told := s.Told } : congressref13_State)) fun j7 => if b = true then j7 ({ s with C := { s.C with Ready := true } }) else j7 s)).trans ?_
    rw [leB_tgt s.C hc]
    have main : ∀ x : congressref13_State, U32 x.C.Wanted → ((whn x.C.Ready (congressref12_Done x.C) false).bind fun v9 =>
      if (x.C.Ready && v9) then
        (fit (s.Told ++ ([({ View := true, Kept := z_api_Kept, Conf := x.C.Promise, Members := x.C.Wanted } : api_Happen)] : Hs)).length 408).bind fun _ =>
        some ({ C := instF x.C, Told := s.Told ++ [viewH x.C.Promise x.C.Wanted] } : congressref13_State)
      else
        some ({ x with Told := s.Told } : congressref13_State)) = if (x.C.Ready && doneB x.C) = true then some ({ C := instF x.C, Told := s.Told ++ [viewH x.C.Promise x.C.Wanted] } : congressref13_State) else some ({ x with Told := s.Told } : congressref13_State) := by
      intro x hx
      by_cases hr : x.C.Ready = true
      · rw [hr, R12.rdone_eq x.C hx]
        show (if doneB x.C = true then _ else _) = _
        rw [fit_s (by simp; omega)]; rfl
      · have hr' := Bool.eq_false_iff.2 hr
        rw [hr']; rfl
    have key : ∀ b : Bool, b = (((!s.C.Ready) && allB s.C) && R11.leB (tgt s.C) s.C.Count) →
      ((jn (fun x8 : congressref13_State =>
      (whn x8.C.Ready (congressref12_Done x8.C) false).bind fun v9 =>
      if (x8.C.Ready && v9) then
        (fit (s.Told ++ ([({ View := true, Kept := z_api_Kept, Conf := x8.C.Promise, Members := x8.C.Wanted } : api_Happen)] : Hs)).length 408).bind fun _ =>
        some ({ C := instF x8.C, Told := s.Told ++ [viewH x8.C.Promise x8.C.Wanted] } : congressref13_State)
      else
        some ({ x8 with Told := s.Told } : congressref13_State)) fun j7 => if b = true then j7 ({ s with C := { s.C with Ready := true } }) else j7 s) : Option congressref13_State) =
      some { C := (if ((settleF s.C).Ready && doneB (settleF s.C)) = true then (instF (settleF s.C), s.Told ++ [viewH (settleF s.C).Promise (settleF s.C).Wanted]) else (settleF s.C, s.Told)).1, Told := (if ((settleF s.C).Ready && doneB (settleF s.C)) = true then (instF (settleF s.C), s.Told ++ [viewH (settleF s.C).Promise (settleF s.C).Wanted]) else (settleF s.C, s.Told)).2 } := by
      intro b hb
      have fin : ∀ (d : Bool) (x : api_Core), (if d = true then some ({ C := instF x, Told := s.Told ++ [viewH x.Promise x.Wanted] } : congressref13_State) else some ({ C := x, Told := s.Told } : congressref13_State)) =
        some { C := (if d = true then (instF x, s.Told ++ [viewH x.Promise x.Wanted]) else (x, s.Told)).1, Told := (if d = true then (instF x, s.Told ++ [viewH x.Promise x.Wanted]) else (x, s.Told)).2 } := by
        intro d x; cases d <;> rfl
      cases b
      · have e2 : settleF s.C = s.C := by unfold settleF; exact if_neg (by rw [← hb]; exact Bool.false_ne_true)
        refine (main s hw).trans ?_
        rw [e2]; exact fin _ _
      · have e2 : settleF s.C = { s.C with Ready := true } := by unfold settleF; exact if_pos hb.symm
        refine (main ({ s with C := { s.C with Ready := true } } : congressref13_State) hw).trans ?_
        rw [e2]; exact fin _ _
    exact key _ rfl
end Go.Proofs.Ytcocahffigbmbaa
end

section
set_option linter.unusedVariables false
set_option linter.unusedSimpArgs false
namespace Go.Proofs.Ytcocahffigbmbaa
open Go.Eng
theorem contf (l : _root_.List Int) (f : Int → Option Bool) (P : Int → Bool) (hf : ∀ x ∈ l, f x = some (P x)) (hl : l.length ≤ maxLen) : slices_ContainsFunc_int_int l f = some (l.any P) := by
  have hm := maxLen_le
  have e : slices_IndexFunc_int_int l f = some (fidx l 0 P) := by
    unfold slices_IndexFunc_int_int
    rw [loop_find l.length (fun i => P (l.getD i 0)) (fun i => (i : Int))]
    · unfold fidx
      cases (List.range l.length).find? (fun i => P (l.getD i 0)) <;> rfl
    · intro n hn
      rw [if_pos (by simp; omega), ib_n hn]
      simp only [Option.bind_some, Int.toNat_natCast, hf _ (getD_in (d := (0 : Int)) hn)]
      split
      · rfl
      · rw [w64 (by omega) (by omega)]; rfl
    · rw [if_neg (by simp)]
  unfold slices_ContainsFunc_int_int
  rw [e]
  simp only [Option.bind_some, Option.some.injEq]
  rcases fidx_spec l 0 P with ⟨h1, h2, h3⟩ | ⟨k, h1, h2, h3, h4, _⟩
  · rw [h1]
    have : l.any P = false := by
      rw [List.any_eq_false]; exact List.find?_eq_none.1 h2
    rw [this]; rfl
  · rw [h2]
    have : l.any P = true := List.any_eq_true.2 ⟨_, getD_in h1, h3⟩
    rw [this]; simp
def shB (c : api_Core) (r : Nat → Int) (x : Int) : Bool := ((x != c.Self) && (((c.Peers x.toNat).Inc) == (r x.toNat))) && (decide (R12.cmpId ((c.Peers x.toNat).Promise) c.Promise > 0))
def unsB (c : api_Core) (r : Nat → Int) : Bool := ((!(b_api_Id c.Promise c.Conf)) || (!(b_a8_u32 r c.Members))) || (R12.listF r 8).any (shB c r)
theorem uns_eq (u : core_under) (r : Nat → Int) : core_under_unsettled u r = some (unsB u.Core r) := by
  have hl := R12.listF_len r 8
  unfold core_under_unsettled unsB core_Gathers
  simp only [Option.bind_some]
  by_cases h : ((!(b_api_Id u.Core.Promise u.Core.Conf)) || (!(b_a8_u32 r u.Core.Members))) = true
  · rw [if_pos h, h]; rfl
  · rw [if_neg h, Bool.eq_false_iff.2 h, R12.list_eq]
    simp only [Option.bind_some]
    rw [contf _ _ (shB u.Core r) (fun x hx => by
      obtain ⟨j, hj, hj8, _⟩ := R12.listF_in.1 hx
      subst hj
      unfold core_under_unsettled_1 shB
      rw [ib_n hj8, ibg_t (fun _ => by omega), R12.cmp_eq]
      simp only [Option.bind_some, Int.toNat_natCast, whn, lt]
      cases ((((j : Int) != u.Core.Self) && (((u.Core.Peers j).Inc) == (r j)))) <;> rfl) (Nat.le_trans hl (by decide))]
    rfl
end Go.Proofs.Ytcocahffigbmbaa
end

section
set_option linter.unusedVariables false
set_option linter.unusedSimpArgs false
namespace Go.Proofs.Ytcocahffigbmbaa
open Go.Eng
abbrev Fr := Nat → (Nat → api_Entry)
abbrev Res := api_Core × Bool × Hs
def mayB (c : api_Core) : Bool := R9.memF c.Members c.Self && (c.Count c.Self.toNat == (R9.leastF c.Count c.Members).1)
def emK (c : api_Core) (f : Fr) : api_Kept := { From := c.Self, Round := (IntKind.u32.wrap ((c.Count c.Self.toNat) + 1)), Frame := f }
def emB (c : api_Core) : Bool := (!(b_api_Id c.Promise c.Conf) || !(mayB c)) || ((c.Count c.Self.toNat) == 4294967295)
def emitF (c : api_Core) (t : Hs) (f : Fr) : Res :=
  if emB c = true then (c, false, t)
  else ({ c with Kept := (R10.takeF c.Kept c.Count c.Members (emK c f)).1, Count := (R10.takeF c.Kept c.Count c.Members (emK c f)).2.1 }, true, t ++ [newH (emK c f)])
theorem gen_em {β : Type} (A m : Bool) (v : Int) (s : Int) (hs : m = true → 0 ≤ s ∧ s < 8) (F : Bool → Option β) :
    ((whn (!A) (some m) false).bind fun v43 => (ibg (!(A || (!v43))) s 8).bind fun _ => F ((A || (!v43)) || (v == 4294967295))) = F ((A || !m) || (v == 4294967295)) := by
  cases A <;> cases m <;> simp [whn, ibg]
  rw [if_pos (hs rfl)]; rfl
theorem may_in {c : api_Core} (h : mayB c = true) : 0 ≤ c.Self ∧ c.Self < 8 := by
  simp only [mayB, R9.memF, Bool.and_eq_true, decide_eq_true_eq] at h; exact h.1.1
noncomputable def emTxt (f : Fr) (u : core_under) (k : Ks) (t : Hs) : Option Res :=
          jn (fun x62 : Bool × core_under × Ks × Hs =>
            some (({ x62.2.1.Core with Kept := x62.2.2.1 } : api_Core), x62.1, x62.2.2.2)) fun j40 =>
          (core_Gathers ({ u.Core with Kept := k } : api_Core)).bind fun v41 =>
          (whn (!v41) (round_May u.Core.Count u.Core.Members u.Core.Self) false).bind fun v43 =>
          (ibg (!(v41 || (!v43))) u.Core.Self 8).bind fun _ =>
          lt (((v41 || (!v43)) || ((u.Core.Count u.Core.Self.toNat) == 4294967295)) : Bool) fun v46 =>
          if v46 then
            j40 (false, u, k, t)
          else
            (ib u.Core.Self 8).bind fun _ =>
            lt (({ From := u.Core.Self, Round := (IntKind.u32.wrap ((u.Core.Count u.Core.Self.toNat) + 1)), Frame := f } : api_Kept) : api_Kept) fun v48 =>
            (kept_Take k u.Core.Count u.Core.Members v48).bind fun v49 =>
            lt ({ u with Core := { u.Core with Count := v49.2.1 } } : core_under) fun v51 =>
            jn (fun x61 : Bool × core_under × Ks × Hs =>
              j40 (x61.1, x61.2.1, x61.2.2.1, x61.2.2.2)) fun j52 =>
            if v49.2.2 then
              jn (fun x60 : Bool × core_under × Ks × Hs =>
                j52 (x60.1, x60.2.1, x60.2.2.1, x60.2.2.2)) fun j53 =>
              (loop (ω := Fl (api_Core × Bool × (_root_.List api_Happen)) (_root_.List api_Happen)) (fun (x54 : Int × _root_.List api_Happen) =>
                if (decide (x54.1 < (([v48] : _root_.List api_Kept).length : Int))) then
                  (ib x54.1 (([v48] : _root_.List api_Kept).length)).bind fun _ =>
                  (fit (x54.2 ++ ([({ View := false, Kept := ([v48] : _root_.List api_Kept).getD x54.1.toNat z_api_Kept, Conf := z_api_Id, Members := (fun _ => 0) } : api_Happen)] : _root_.List api_Happen)).length 408).bind fun _ =>
                  lt ((x54.2 ++ ([({ View := false, Kept := ([v48] : _root_.List api_Kept).getD x54.1.toNat z_api_Kept, Conf := z_api_Id, Members := (fun _ => 0) } : api_Happen)] : _root_.List api_Happen)) : _root_.List api_Happen) fun v58 =>
                  some (.next ((IntKind.i64.wrap (x54.1 + 1)), v58))
                else
                  some (.done (.nx (x54.2)))) (0, t)).bind fun wn55 => Fl.elim wn55 (fun y59 =>
                j53 (v49.2.2, v51, v49.1, y59)) (fun r => some r)
            else
              j52 (v49.2.2, v51, v49.1, t)
theorem next_may {c : api_Core} (f : Fr) (h : mayB c = true) (hm : (c.Count c.Self.toNat == 4294967295) = false) : R10.nextB c.Count c.Members (emK c f) = true := by
  have h1 : R10.memB c.Members c.Self = true := by
    simp only [mayB, Bool.and_eq_true] at h; exact h.1
  show ((R10.memB c.Members c.Self && !(c.Count c.Self.toNat == 4294967295)) && (_ == _)) = true
  rw [h1, hm]; simp [emK]
theorem loop1 (k : api_Kept) (t : Hs) (ht : t.length ≤ 1000) : (loop (ω := Fl (api_Core × Bool × (_root_.List api_Happen)) (_root_.List api_Happen)) (fun (x54 : Int × _root_.List api_Happen) =>
                if (decide (x54.1 < (([k] : _root_.List api_Kept).length : Int))) then
                  (ib x54.1 (([k] : _root_.List api_Kept).length)).bind fun _ =>
                  (fit (x54.2 ++ ([({ View := false, Kept := ([k] : _root_.List api_Kept).getD x54.1.toNat z_api_Kept, Conf := z_api_Id, Members := (fun _ => 0) } : api_Happen)] : _root_.List api_Happen)).length 408).bind fun _ =>
                  lt ((x54.2 ++ ([({ View := false, Kept := ([k] : _root_.List api_Kept).getD x54.1.toNat z_api_Kept, Conf := z_api_Id, Members := (fun _ => 0) } : api_Happen)] : _root_.List api_Happen)) : _root_.List api_Happen) fun v58 =>
                  some (.next ((IntKind.i64.wrap (x54.1 + 1)), v58))
                else
                  some (.done (.nx (x54.2)))) (0, t)) = some (.nx (t ++ [newH k])) := by
  refine loop_seq (fun n => ((n : Int), if n = 0 then t else t ++ [newH k])) 1 rfl (fun n hn => ?_) ?_
  · obtain rfl : n = 0 := by omega
    have e1 : ib ((0 : Nat) : Int) ([k] : _root_.List api_Kept).length = some () := ib_n (by simp)
    simp only [e1, Option.bind_some]
    rw [fit_s (by simp; omega)]
    rfl
  · rfl
theorem em_eq (f : Fr) (u : core_under) (k : Ks) (t : Hs) (hk : R10.Room 1 k) (ht : t.length ≤ 1000) : emTxt f u k t = some (emitF { u.Core with Kept := k } t f) := by
  unfold emTxt core_Gathers
  simp only [jn, lt, Option.bind_some, R9.may_eq]
  refine (gen_em (!b_api_Id u.Core.Promise u.Core.Conf) (mayB u.Core) (u.Core.Count u.Core.Self.toNat) u.Core.Self may_in (fun b => if b = true then some (({ u.Core with Kept := k } : api_Core), false, t) else _)).trans ?_
  have e : emitF { u.Core with Kept := k } t f = if emB u.Core = true then (({ u.Core with Kept := k } : api_Core), false, t) else ({ u.Core with Kept := (R10.takeF k u.Core.Count u.Core.Members (emK u.Core f)).1, Count := (R10.takeF k u.Core.Count u.Core.Members (emK u.Core f)).2.1 }, true, t ++ [newH (emK u.Core f)]) := rfl
  rw [e]
  show (if emB u.Core = true then _ else _) = _
  by_cases hb : emB u.Core = true
  · rw [if_pos hb, if_pos hb]
  · rw [if_neg hb, if_neg hb]
    have hb' := Bool.eq_false_iff.2 hb
    simp only [emB, Bool.or_eq_false_iff, Bool.not_eq_false'] at hb'
    have hin := may_in hb'.1.2
    have hnx := next_may f hb'.1.2 hb'.2
    rw [ib_t hin.1 hin.2]
    simp only [Option.bind_some]
    rw [show ({ From := u.Core.Self, Round := (IntKind.u32.wrap ((u.Core.Count u.Core.Self.toNat) + 1)), Frame := f } : api_Kept) = emK u.Core f from rfl, R10.take_eq (k := 1) _ _ _ _ hk (by omega)]
    simp only [Option.bind_some]
    have h2 : (R10.takeF k u.Core.Count u.Core.Members (emK u.Core f)).2.2 = true := by unfold R10.takeF; rw [if_pos hnx]
    rw [h2, if_pos rfl]
    exact R10.bind_of (loop1 _ _ ht) rfl
end Go.Proofs.Ytcocahffigbmbaa
end

section
set_option linter.unusedVariables false
set_option linter.unusedSimpArgs false
namespace Go.Proofs.Ytcocahffigbmbaa
open Go.Eng
def fitsB (c : api_Core) : Bool := ((decide (c.Self ≥ 0)) && (decide (c.Self < 8))) && (c.Own != 0)
def beatC (c : api_Core) : api_Core := { c with Beat := R8.tickF c.Beat }
def reachC (c : api_Core) : Nat → Int := R8.reachF (R8.tickF c.Beat) c.Self c.Own (IntKind.u32.wrap (c.Wait))
def promC (c : api_Core) (i : api_Id) (m : Nat → Int) : api_Core := { c with Promise := i, Wanted := m, Cut := c.Count, Ready := false }
def propC (c : api_Core) : api_Core :=
  if (unsB (beatC c) (reachC c) && (R12.propF (beatC c) (reachC c)).2) = true then promC { beatC c with Epoch := (R12.propF (beatC c) (reachC c)).1.Epoch } (R12.propF (beatC c) (reachC c)).1 (reachC c) else beatC c
def tickC (c : api_Core) (f : Fr) : Res :=
  if fitsB c = true then emitF (goF (propC c) []).1 (goF (propC c) []).2 f else (c, false, [])
noncomputable def goTxt {β : Type} (u : core_under) (k : Ks) (t : Hs) (K : core_under → Ks → Hs → Option β) : Option β :=
  (core_Gathers ({ u.Core with Kept := k } : api_Core)).bind fun v22 =>
        if (!v22) then K u k t
        else
          (whn (!u.Core.Ready) (gather_All ({ u.Core with Kept := k } : api_Core)) false).bind fun v24 =>
          (whn ((!u.Core.Ready) && v24) (gather_Target ({ u.Core with Kept := k } : api_Core)) (fun _ => 0)).bind fun v26 =>
          (whn ((!u.Core.Ready) && v24) (cut_Within v26 u.Core.Count) false).bind fun v28 =>
          jn (fun x31 : core_under =>
            (whn x31.Core.Ready (gather_Done ({ x31.Core with Kept := k } : api_Core)) false).bind fun v32 =>
            if (x31.Core.Ready && v32) then
              (fit (t ++ ([({ View := true, Kept := z_api_Kept, Conf := x31.Core.Promise, Members := x31.Core.Wanted } : api_Happen)] : Hs)).length 408).bind fun _ =>
              K ({ x31 with Core := { x31.Core with Conf := x31.Core.Promise, Members := x31.Core.Wanted, Ready := false, Count := (fun _ => 0), Cut := (fun _ => 0) } } : core_under) [] (t ++ [viewH x31.Core.Promise x31.Core.Wanted])
            else K x31 k t) fun j30 =>
          if (((!u.Core.Ready) && v24) && v28) then j30 ({ u with Core := { u.Core with Ready := true } })
          else j30 u
noncomputable def tickTxt (p0 : api_Core) (p1 : Fr) : Option Res :=
  (slices_Clone_api_Kept_api_Kept p0.Kept).bind fun v2 =>
  (core_fits p0).bind fun v5 =>
  if (!v5) then some (({ p0 with Kept := v2 } : api_Core), false, ([] : Hs))
  else
    (beat_Tick p0.Beat).bind fun v7 =>
    (beat_Reach v7 p0.Self p0.Own (IntKind.u32.wrap (p0.Wait))).bind fun v10 =>
    (core_under_unsettled ({ Core := { p0 with Beat := v7, Kept := v2 }, told := [] } : core_under) v10).bind fun v12 =>
    if v12 then
      (gather_Propose ({ p0 with Beat := v7, Kept := v2 } : api_Core) v10).bind fun v15 =>
      if v15.2 then goTxt { Core := promC { p0 with Beat := v7, Epoch := v15.1.Epoch } v15.1 v10, told := [] } v2 [] (emTxt p1)
      else goTxt { Core := { p0 with Beat := v7 }, told := [] } v2 [] (emTxt p1)
    else goTxt { Core := { p0 with Beat := v7 }, told := [] } v2 [] (emTxt p1)
set_option maxHeartbeats 2000000 in
theorem tick_txt (p0 : api_Core) (p1 : Fr) : core_Tick p0 p1 = tickTxt p0 p1 := by kernel_rfl
theorem go_room {n : Nat} (c : api_Core) (t : Hs) (h : R10.Room n c.Kept) : R10.Room n (goF c t).1.Kept := by
  have h2 : R10.Room n (settleF c).Kept := by unfold settleF; split <;> exact h
  unfold goF
  split
  · exact h
  · split
    · show R10.Room n []
      unfold R10.Room; exact Nat.zero_le _
    · exact h2
theorem go_len (c : api_Core) (t : Hs) : (goF c t).2.length ≤ t.length + 1 := by
  unfold goF
  split
  · exact Nat.le_succ _
  · split
    · simp
    · simp
theorem go_em (u : core_under) (k : Ks) (t : Hs) (f : Fr) (hn : R11.Nat8 u.Core.Count) (hk : R10.Room 1 k) (ht : t.length ≤ 900) :
    goTxt u k t (emTxt f) = some (emitF (goF { u.Core with Kept := k } t).1 (goF { u.Core with Kept := k } t).2 f) := by
  have hl := go_len { u.Core with Kept := k } t
  refine (go_core u k t (emTxt f) hn (by omega)).trans ?_
  exact em_eq f _ _ _ (go_room _ t hk) (by omega)
theorem w_cnt {c : api_Core} (w : w_api_Core c) : U32 c.Count := w.2.2.2.2.2.2.1
theorem w_kept {c : api_Core} (w : w_api_Core c) : R10.Room 0 c.Kept := R10.room_of w.2.2.2.2.2.2.2.1.1.2
theorem room_up {n m : Nat} {l : Ks} (h : R10.Room n l) (hm : n ≤ m) : R10.Room m l := by unfold R10.Room at h ⊢; omega
theorem tick_eq {p0 : api_Core} (hc : U32 p0.Count) (hk : R10.Room 0 p0.Kept) (p1 : Fr) : core_Tick p0 p1 = some (tickC p0 p1) := by
  rw [tick_txt]
  unfold tickTxt
  rw [R10.clone_eq p0.Kept hk (by omega)]
  simp only [Option.bind_some]
  show (if (!fitsB p0) = true then _ else _) = _
  unfold tickC
  by_cases hf : fitsB p0 = true
  · rw [if_neg (by rw [hf]; decide), if_pos hf, R8.tick_eq]
    simp only [Option.bind_some]
    rw [R8.reach_eq]
    simp only [Option.bind_some, uns_eq]
    show (if unsB (beatC p0) (reachC p0) = true then _ else _) = _
    have e1 : ∀ (c : api_Core) , goTxt { Core := c, told := [] } p0.Kept [] (emTxt p1) = goTxt { Core := c, told := [] } p0.Kept [] (emTxt p1) := fun _ => rfl
    unfold propC
    by_cases hu : unsB (beatC p0) (reachC p0) = true
    · rw [if_pos hu, hu, R12.prop_eq]
      simp only [Option.bind_some]
      show (if (R12.propF (beatC p0) (reachC p0)).2 = true then _ else _) = _
      by_cases hp : (R12.propF (beatC p0) (reachC p0)).2 = true
      · rw [if_pos hp, hp]
        exact go_em _ _ _ _ (U32.nat hc) (room_up hk (by omega)) (by simp)
      · rw [if_neg hp, Bool.eq_false_iff.2 hp]
        exact go_em _ _ _ _ (U32.nat hc) (room_up hk (by omega)) (by simp)
    · rw [if_neg hu, Bool.eq_false_iff.2 hu]
      exact go_em _ _ _ _ (U32.nat hc) (room_up hk (by omega)) (by simp)
  · rw [if_pos (by rw [Bool.eq_false_iff.2 hf]; rfl), if_neg hf]
end Go.Proofs.Ytcocahffigbmbaa
end

section
set_option linter.unusedVariables false
set_option linter.unusedSimpArgs false
namespace Go.Proofs.Ytcocahffigbmbaa
open Go.Eng
theorem wfw (n : Int) : (Lit.int .u32 (IntKind.u32.wrap n)).wf = true := wf_u32.2 (by rw [w32]; omega)
structure G (n : Nat) (c : api_Core) : Prop where
  mem : U32 c.Members
  cnt : U32 c.Count
  want : U32 c.Wanted
  cut : U32 c.Cut
  kw : R10.W c.Kept
  room : R10.Room n c.Kept
theorem U32.zero : U32 (fun _ => 0) := fun _ _ => wf_u32.2 ⟨Int.le_refl 0, by show (0 : Int) ≤ 4294967295; decide⟩
theorem G.settle {n : Nat} {c : api_Core} (h : G n c) : G n (settleF c) := by
  unfold settleF; split
  · exact ⟨h.1, h.2, h.3, h.4, h.5, h.6⟩
  · exact h
theorem G.go {n : Nat} {c : api_Core} (h : G n c) (t : Hs) : G n (goF c t).1 := by
  unfold goF
  split
  · exact h
  · split
    · exact ⟨h.settle.want, U32.zero, h.settle.want, U32.zero, (fun y hy => absurd hy (by simp [instF])), (by show R10.Room n []; unfold R10.Room; exact Nat.zero_le _)⟩
    · exact h.settle
theorem reach_u32 {b : api_Beat} (wb : w_api_Beat b) {p2 : Int} (h2 : (Lit.int .u32 p2).wf = true) (p1 p3 : Int) : U32 (R8.reachF b p1 p2 p3) := by
  intro j hj
  unfold R8.reachF
  split
  · exact h2
  · unfold R8.rF
    split
    · exact wb.2.2 j hj
    · exact wf_u32.2 ⟨by omega, by omega⟩
theorem wb_tick {b : api_Beat} (wb : w_api_Beat b) : w_api_Beat (R8.tickF b) := by
  unfold R8.tickF
  split
  · exact ⟨wfw _, wb.2.1, wb.2.2⟩
  · exact wb
theorem w_G {c : api_Core} (w : w_api_Core c) : G 0 c := ⟨w.2.2.2.2.2.1, w_cnt w, w.2.2.2.2.2.2.2.2.2.1, w.2.2.2.2.2.2.2.2.2.2.1, fun y hy => wf_u32.1 (R10.wf_at w.2.2.2.2.2.2.2.1.2 y hy).2.1, w_kept w⟩
theorem G.up {n m : Nat} {c : api_Core} (h : G n c) (hm : n ≤ m) : G m c := ⟨h.1, h.2, h.3, h.4, h.5, room_up h.6 hm⟩
theorem fits_in {c : api_Core} (h : fitsB c = true) : 0 ≤ c.Self ∧ c.Self < 8 := by
  simp only [fitsB, Bool.and_eq_true, decide_eq_true_eq] at h; exact h.1
theorem rfits_eq (c : api_Core) : congressref13_Fits c = some (fitsB c) := by
  unfold congressref13_Fits fitsB
  have e : decide (c.Self ≤ 7) = decide (c.Self < 8) := by rw [decide_eq_decide]; omega
  rw [e]
end Go.Proofs.Ytcocahffigbmbaa
end

section
set_option linter.unusedVariables false
set_option linter.unusedSimpArgs false
namespace Go.Proofs.Ytcocahffigbmbaa
open Go.Eng
def base (c : api_Core) : api_Packet := { From := (IntKind.u32.wrap (c.Self)), Inc := c.Own, Conf := c.Conf, Members := c.Members, Count := c.Count, Promise := c.Promise, Wanted := c.Wanted, Ready := c.Ready, Epoch := c.Epoch, Round := 0, Newest := (fun _ => (fun _ => z_api_Entry)), Older := (fun _ => (fun _ => z_api_Entry)), RelayOf := 0, RelayRound := 0, Relay := (fun _ => (fun _ => z_api_Entry)) }
def packC (c : api_Core) : api_Packet :=
  if fitsB c = true then
    { base c with
      Count := if b_api_Id c.Promise c.Conf = true then c.Count else c.Cut
      Round := c.Count c.Self.toNat
      Newest := (R10.getF c.Kept c.Self (c.Count c.Self.toNat)).1
      Older := if c.Count c.Self.toNat > 0 then (R10.getF c.Kept c.Self (IntKind.u32.wrap (c.Count c.Self.toNat - 1))).1 else (fun _ => (fun _ => z_api_Entry))
      RelayOf := if (R10.pickF c.Kept c.Beat.Now).2 = true then IntKind.u32.wrap (R10.pickF c.Kept c.Beat.Now).1.From else 0
      RelayRound := if (R10.pickF c.Kept c.Beat.Now).2 = true then (R10.pickF c.Kept c.Beat.Now).1.Round else 0
      Relay := if (R10.pickF c.Kept c.Beat.Now).2 = true then (R10.pickF c.Kept c.Beat.Now).1.Frame else (fun _ => (fun _ => z_api_Entry)) }
  else base c
theorem pack_eq (c : api_Core) (hl : c.Kept.length ≤ maxLen) (hn : 0 ≤ c.Beat.Now ∧ c.Beat.Now ≤ 4294967295) : core_Packet c = some (packC c) := by
  unfold core_Packet packC core_fits core_Gathers
  simp only [jn, lt, Option.bind_some, R10.get_eq _ _ _ hl, R10.pick_eq _ _ hl hn]
  show (if (!fitsB c) = true then some (base c) else _) = _
  by_cases hf : fitsB c = true
  · have h8 := fits_in hf
    rw [if_neg (by rw [hf]; decide), if_pos hf, ib_t h8.1 h8.2]
    simp only [Option.bind_some]
    by_cases h1 : c.Count c.Self.toNat > 0
    · simp only [h1, decide_true, if_true]
      cases h2 : b_api_Id c.Promise c.Conf <;> cases h3 : (R10.pickF c.Kept c.Beat.Now).2 <;> rfl
    · simp only [h1, decide_false, Bool.false_eq_true, if_false]
      cases h2 : b_api_Id c.Promise c.Conf <;> cases h3 : (R10.pickF c.Kept c.Beat.Now).2 <;> rfl
  · rw [if_pos (by rw [Bool.eq_false_iff.2 hf]; rfl), if_neg hf]
theorem brefl_happen (x : api_Happen) : b_api_Happen x x = true := by
  simp [b_api_Happen, R12.breflId, R8.brefl8, R10.breflK]
theorem brefl_peers (x : Nat → api_Peer) : b_a8_api_Peer x x = true := by
  simp [b_a8_api_Peer, R12.brefl_peer]
theorem is_self (c : api_Core) (hl : c.Kept.length ≤ maxLen) : congressref13_Is c c = some true := by
  unfold congressref13_Is
  rw [R10.same_eq _ hl]
  simp [lt, whn, R8.brefl, R12.breflId, R8.brefl8, brefl_peers]
theorem told_self (t : Hs) (ht : t.length ≤ 2000) : congressref13_Told t t = some true := by
  unfold congressref13_Told
  rw [if_neg (by simp)]
  rw [loop_seq (s0 := (0 : Int)) (fun n => (n : Int)) t.length (w := .nx ()) rfl (fun n hn => by
    rw [if_pos (by simp; omega), ib_n hn]
    simp only [Option.bind_some, lt, brefl_happen, Bool.not_true, Bool.false_eq_true, if_false]
    rw [w64 (by omega) (by omega)]; rfl) (by rw [if_neg (by simp)])]
  rfl
end Go.Proofs.Ytcocahffigbmbaa
end

section
set_option linter.unusedVariables false
set_option linter.unusedSimpArgs false
namespace Go.Proofs.Ytcocahffigbmbaa
open Go.Eng
def ownB (c : api_Core) : Nat → Int := fun j => if j < 8 then c.Count c.Self.toNat else 0
def boundsF (c : api_Core) : (Nat → Int) × Bool :=
  if b_api_Id c.Promise c.Conf = true then (ownB c, true) else if ((!c.Ready) && allB c) = true then (tgt c, true) else ((fun _ => 0), false)
def offS (c : api_Core) (p : api_Packet) (b : Nat → Int) : R10.S3 := (R10.offF p).foldl (R10.stepF c.Members b) (c.Count, c.Kept, [])
def takeC (c : api_Core) (p : api_Packet) : api_Core × Hs :=
  if ((boundsF c).2 && b_api_Id p.Conf c.Conf) = true then ({ c with Count := (offS c p (boundsF c).1).1, Kept := (offS c p (boundsF c).1).2.1 }, (offS c p (boundsF c).1).2.2.map newH) else (c, [])
theorem bounds_eq (u : core_under) (h8 : 0 ≤ u.Core.Self ∧ u.Core.Self < 8) : core_under_bounds u = some (boundsF u.Core) := by
  unfold core_under_bounds boundsF core_Gathers
  simp only [Option.bind_some, Bool.not_not]
  by_cases h : b_api_Id u.Core.Promise u.Core.Conf = true
  · rw [if_pos h, if_pos h]
    rw [loop_seq (s0 := ((0 : Int), ((fun _ => 0) : Nat → Int))) (fun n => ((n : Int), fun j => if j < n then u.Core.Count u.Core.Self.toNat else 0)) 8 (w := .nx (ownB u.Core)) (by simp) (fun n hn => by
      rw [if_pos (by simp; omega), ib_t h8.1 h8.2, ib_n hn]
      simp only [Option.bind_some, Int.toNat_natCast]
      rw [w64 (by omega) (by omega)]
      congr 3
      funext j
      show (if j = n then u.Core.Count u.Core.Self.toNat else if j < n then u.Core.Count u.Core.Self.toNat else 0) = if j < n + 1 then u.Core.Count u.Core.Self.toNat else 0
      by_cases q1 : j = n
      · rw [if_pos q1, if_pos (by omega)]
      · rw [if_neg q1]
        by_cases q2 : j < n
        · rw [if_pos q2, if_pos (by omega)]
        · rw [if_neg q2, if_neg (by omega)]) (by rw [if_neg (by simp)]; rfl)]
    rfl
  · rw [if_neg h, if_neg h, R12.all_eq, R12.target_eq]
    cases hr : u.Core.Ready
    · show ((some (allB u.Core)).bind fun v8 => _) = _
      simp only [Option.bind_some, Bool.not_false, Bool.true_and]
      by_cases ha : allB u.Core = true
      · rw [if_pos ha, if_pos ha]; rfl
      · rw [if_neg ha, if_neg ha]
    · rfl
theorem tell_loop {ρ : Type} (l : Ks) (t : Hs) (hl : l.length + t.length ≤ 1000) : (loop (ω := Fl ρ (_root_.List api_Happen)) (fun (x30 : Int × _root_.List api_Happen) =>
            if (decide (x30.1 < (l.length : Int))) then
              (ib x30.1 l.length).bind fun _ =>
              (fit (x30.2 ++ ([({ View := false, Kept := l.getD x30.1.toNat z_api_Kept, Conf := z_api_Id, Members := (fun _ => 0) } : api_Happen)] : _root_.List api_Happen)).length 408).bind fun _ =>
              lt ((x30.2 ++ ([({ View := false, Kept := l.getD x30.1.toNat z_api_Kept, Conf := z_api_Id, Members := (fun _ => 0) } : api_Happen)] : _root_.List api_Happen)) : _root_.List api_Happen) fun v34 =>
              some (.next ((IntKind.i64.wrap (x30.1 + 1)), v34))
            else
              some (.done (.nx (x30.2)))) (0, t)) = some (.nx (t ++ l.map newH)) := by
  refine loop_seq (fun n => ((n : Int), t ++ (l.take n).map newH)) l.length (by simp) (fun n hn => ?_) ?_
  · rw [if_pos (by simp; omega), ib_n hn]
    simp only [Option.bind_some, Int.toNat_natCast]
    rw [fit_s (by simp; omega)]
    simp only [Option.bind_some, lt]
    rw [w64 (by omega) (by omega), take_s (d := z_api_Kept) hn]
    simp [newH]
  · rw [if_neg (by simp)]; simp
end Go.Proofs.Ytcocahffigbmbaa
end

section
set_option linter.unusedVariables false
set_option linter.unusedSimpArgs false
namespace Go.Proofs.Ytcocahffigbmbaa
open Go.Eng
def fr (p : api_Packet) : Int := IntKind.i64.wrap p.From
def hrd (c : api_Core) (p : api_Packet) : api_Beat × Bool := R8.hearF c.Beat (fr p) p.Inc
def max3 (a b d : Int) : Int := if (if a < b then b else a) < d then d else (if a < b then b else a)
def hearC (c : api_Core) (p : api_Packet) : api_Core := { c with Beat := (hrd c p).1, Peers := aupd c.Peers p.From.toNat (R12.updF (c.Peers p.From.toNat) p), Epoch := max3 c.Epoch p.Epoch p.Promise.Epoch }
def adoptC (c : api_Core) (p : api_Packet) : api_Core := if R12.adoptF c.Promise c.Self c.Own p = true then promC (hearC c p) p.Promise p.Wanted else hearC c p
def recvC (c : api_Core) (p : api_Packet) : Res :=
  if ((!(fitsB c) || (fr p == c.Self)) || (!(hrd c p).2)) = true then (c, false, [])
  else ((goF (takeC (adoptC c p) p).1 (takeC (adoptC c p) p).2).1, true, (goF (takeC (adoptC c p) p).1 (takeC (adoptC c p) p).2).2)
def endK (u : core_under) (k : Ks) (t : Hs) : Option Res := some (({ u.Core with Kept := k } : api_Core), true, t)
noncomputable def tkTxt (p : api_Packet) (u : core_under) (k : Ks) : Option Res :=
        (core_under_bounds ({ Core := { u.Core with Kept := k }, told := [] } : core_under)).bind fun v23 =>
        if (v23.2 && (b_api_Id p.Conf u.Core.Conf)) then
          (kept_Offer k u.Core.Count u.Core.Members p v23.1).bind fun v26 =>
          (loop (ω := Fl (api_Core × Bool × (_root_.List api_Happen)) (_root_.List api_Happen)) (fun (x30 : Int × _root_.List api_Happen) =>
            if (decide (x30.1 < (v26.2.2.length : Int))) then
              (ib x30.1 v26.2.2.length).bind fun _ =>
              (fit (x30.2 ++ ([({ View := false, Kept := v26.2.2.getD x30.1.toNat z_api_Kept, Conf := z_api_Id, Members := (fun _ => 0) } : api_Happen)] : _root_.List api_Happen)).length 408).bind fun _ =>
              lt ((x30.2 ++ ([({ View := false, Kept := v26.2.2.getD x30.1.toNat z_api_Kept, Conf := z_api_Id, Members := (fun _ => 0) } : api_Happen)] : _root_.List api_Happen)) : _root_.List api_Happen) fun v34 =>
              some (.next ((IntKind.i64.wrap (x30.1 + 1)), v34))
            else
              some (.done (.nx (x30.2)))) (0, [])).bind fun wn31 => Fl.elim wn31 (fun y35 =>
            goTxt ({ u with Core := { u.Core with Count := v26.2.1 } } : core_under) v26.1 y35 endK) (fun r => some r)
        else goTxt u k [] endK
noncomputable def recvTxt (p0 : api_Core) (p1 : api_Packet) : Option Res :=
  (slices_Clone_api_Kept_api_Kept p0.Kept).bind fun v2 =>
  (beat_Hear p0.Beat (IntKind.i64.wrap (p1.From)) p1.Inc).bind fun v5 =>
    (core_fits p0).bind fun v7 =>
    if (((!v7) || ((IntKind.i64.wrap (p1.From)) == p0.Self)) || (!v5.2)) then
      some (({ p0 with Kept := v2 } : api_Core), false, ([] : Hs))
    else
      (ib p1.From 8).bind fun _ =>
      (gather_Update (p0.Peers p1.From.toNat) p1).bind fun v12 =>
      (ib p1.From 8).bind fun _ =>
      (gather_Adopt p0.Promise p0.Self p0.Own p1).bind fun v17 =>
      if v17 then tkTxt p1 { Core := promC { p0 with Beat := v5.1, Peers := aupd p0.Peers p1.From.toNat v12, Epoch := max3 p0.Epoch p1.Epoch p1.Promise.Epoch } p1.Promise p1.Wanted, told := [] } v2
      else tkTxt p1 { Core := { p0 with Beat := v5.1, Peers := aupd p0.Peers p1.From.toNat v12, Epoch := max3 p0.Epoch p1.Epoch p1.Promise.Epoch }, told := [] } v2
theorem recv_txt (p0 : api_Core) (p1 : api_Packet) : core_Receive p0 p1 = recvTxt p0 p1 := by kernel_rfl
theorem go_end (u : core_under) (k : Ks) (t : Hs) (hn : R11.Nat8 u.Core.Count) (ht : t.length ≤ 900) : goTxt u k t endK = some ((goF { u.Core with Kept := k } t).1, true, (goF { u.Core with Kept := k } t).2) :=
  (go_core u k t endK hn (by omega)).trans rfl
theorem good_fold (m b : Nat → Int) : ∀ (xs : Ks) (s : R10.S3) (k : Nat), R10.Good k s → (∀ x ∈ xs, 0 ≤ x.Round ∧ x.Round ≤ 4294967295) → R10.Good (k + xs.length) (xs.foldl (R10.stepF m b) s)
  | [], s, k, h, _ => h
  | x :: xs, s, k, h, hx => by
    rw [List.foldl_cons, List.length_cons, show k + (xs.length + 1) = k + 1 + xs.length by omega]
    exact good_fold m b xs _ (k + 1) (R10.good_step h (hx x (List.mem_cons_self ..))) (fun y hy => hx y (List.mem_cons_of_mem _ hy))
structure PW (p : api_Packet) : Prop where
  fr : 0 ≤ p.From ∧ p.From ≤ 4294967295
  ro : 0 ≤ p.RelayOf ∧ p.RelayOf ≤ 4294967295
  rd : 0 ≤ p.Round ∧ p.Round ≤ 4294967295
  rr : 0 ≤ p.RelayRound ∧ p.RelayRound ≤ 4294967295
theorem w_PW {p : api_Packet} (w : w_api_Packet p) : PW p := ⟨wf_u32.1 w.1, wf_u32.1 w.2.2.2.2.2.2.2.2.2.2.2.2.1, wf_u32.1 w.2.2.2.2.2.2.2.2.2.1, wf_u32.1 w.2.2.2.2.2.2.2.2.2.2.2.2.2.1⟩
theorem off_w {p : api_Packet} (h : PW p) : ∀ x ∈ R10.offF p, 0 ≤ x.From ∧ (0 ≤ x.Round ∧ x.Round ≤ 4294967295) := by
  intro x hx
  have e1 : IntKind.i64.wrap p.From = p.From := w64 (by have := h.fr; omega) (by have := h.fr; omega)
  have e2 : IntKind.i64.wrap p.RelayOf = p.RelayOf := w64 (by have := h.ro; omega) (by have := h.ro; omega)
  unfold R10.offF at hx
  rw [e1, e2, List.mem_append] at hx
  rcases hx with hx | hx
  · split at hx
    · rw [List.mem_singleton.1 hx]; exact ⟨h.fr.1, wf_u32.1 (wfw _)⟩
    · cases hx
  · rcases List.mem_cons.1 hx with rfl | hx
    · exact ⟨h.fr.1, h.rd⟩
    · rw [List.mem_singleton.1 hx]; exact ⟨h.ro.1, h.rr⟩
theorem off_good {n : Nat} {c : api_Core} (hG : G n c) {p : api_Packet} (h : PW p) (b : Nat → Int) : R10.Good (n + (R10.offF p).length) (offS c p b) :=
  good_fold c.Members b (R10.offF p) (c.Count, c.Kept, []) n ⟨hG.room, Nat.zero_le _, fun j hj => wf_u32.1 (hG.cnt j hj), hG.kw⟩ (fun x hx => (off_w h x hx).2)
theorem tk_eq (p : api_Packet) (u : core_under) (k : Ks) (hG : G 0 { u.Core with Kept := k }) (h : PW p) (h8 : 0 ≤ u.Core.Self ∧ u.Core.Self < 8) :
    tkTxt p u k = some ((goF (takeC { u.Core with Kept := k } p).1 (takeC { u.Core with Kept := k } p).2).1, true, (goF (takeC { u.Core with Kept := k } p).1 (takeC { u.Core with Kept := k } p).2).2) := by
  unfold tkTxt
  rw [bounds_eq ({ Core := { u.Core with Kept := k }, told := [] } : core_under) h8]
  simp only [Option.bind_some]
  unfold takeC
  by_cases hb : ((boundsF { u.Core with Kept := k }).2 && b_api_Id p.Conf u.Core.Conf) = true
  · rw [if_pos hb, if_pos hb]
    rw [R10.offer_eq k u.Core.Count u.Core.Members p _ hG.room (fun x hx => (off_w h x hx).1)]
    simp only [Option.bind_some]
    have gd := off_good hG h (boundsF { u.Core with Kept := k }).1
    have ol := R10.off_len p
    have h2 := gd.2.1
    rw [tell_loop _ [] (by show (offS { u.Core with Kept := k } p (boundsF { u.Core with Kept := k }).1).2.2.length + 0 ≤ 1000; omega)]
    exact go_end { u with Core := { u.Core with Count := (offS { u.Core with Kept := k } p (boundsF { u.Core with Kept := k }).1).1 } } _ _ (fun j hj => (gd.2.2.1 j hj).1) (by simp only [List.nil_append, List.length_map]; show (offS { u.Core with Kept := k } p (boundsF { u.Core with Kept := k }).1).2.2.length ≤ 900; omega)
  · rw [if_neg hb, if_neg hb]
    exact go_end u k [] (U32.nat hG.cnt) (by simp)
theorem hear_in {c : api_Core} {p : api_Packet} (h : (hrd c p).2 = true) (hp : PW p) : 0 ≤ p.From ∧ p.From < 8 := by
  have e1 : IntKind.i64.wrap p.From = p.From := w64 (by have := hp.fr; omega) (by have := hp.fr; omega)
  unfold hrd R8.hearF fr at h
  rw [e1] at h
  by_cases q : R8.hearOk c.Beat p.From p.Inc
  · exact ⟨q.1, q.2.1⟩
  · rw [if_neg q] at h; cases h
theorem recv_eq {c : api_Core} (hG : G 0 c) {p : api_Packet} (hp : PW p) (hw : U32 p.Wanted) : core_Receive c p = some (recvC c p) := by
  rw [recv_txt]
  unfold recvTxt
  rw [R10.clone_eq c.Kept hG.room (by omega), R8.hear_eq]
  simp only [Option.bind_some]
  show (if ((!(fitsB c) || (fr p == c.Self)) || (!(hrd c p).2)) = true then _ else _) = _
  unfold recvC
  by_cases hb : ((!(fitsB c) || (fr p == c.Self)) || (!(hrd c p).2)) = true
  · rw [if_pos hb, if_pos hb]
  · rw [if_neg hb, if_neg hb]
    have hb' := Bool.eq_false_iff.2 hb
    simp only [Bool.or_eq_false_iff, Bool.not_eq_false'] at hb'
    have hin := hear_in hb'.2 hp
    have h8 := fits_in hb'.1.1
    rw [ib_t hin.1 hin.2, R12.upd_eq, R12.adopt_eq]
    simp only [Option.bind_some]
    unfold adoptC
    by_cases ha : R12.adoptF c.Promise c.Self c.Own p = true
    · rw [if_pos ha, if_pos ha]
      exact tk_eq p _ c.Kept ⟨hG.mem, hG.cnt, hw, hG.cnt, hG.kw, hG.room⟩ hp h8
    · rw [if_neg ha, if_neg ha]
      exact tk_eq p _ c.Kept ⟨hG.mem, hG.cnt, hG.want, hG.cut, hG.kw, hG.room⟩ hp h8
end Go.Proofs.Ytcocahffigbmbaa
end

section
set_option linter.unusedVariables false
set_option linter.unusedSimpArgs false
namespace Go.Proofs.Ytcocahffigbmbaa
open Go.Eng
theorem step_congr (m b b' : Nat → Int) (h : ∀ j, j < 8 → b j = b' j) (s : R10.S3) (x : api_Kept) (hx : 0 ≤ x.From) : R10.stepF m b s x = R10.stepF m b' s x := by
  unfold R10.stepF
  by_cases h8 : x.From < 8
  · rw [h x.From.toNat (by omega)]
  · have : decide (x.From ≥ 8) = true := by simp; omega
    simp only [this, Bool.true_or, if_true]
theorem fold_congr (m b b' : Nat → Int) (h : ∀ j, j < 8 → b j = b' j) : ∀ (xs : Ks) (s : R10.S3), (∀ x ∈ xs, 0 ≤ x.From) → xs.foldl (R10.stepF m b) s = xs.foldl (R10.stepF m b') s
  | [], _, _ => rfl
  | x :: xs, s, hx => by
    rw [List.foldl_cons, List.foldl_cons, step_congr m b b' h s x (hx x (List.mem_cons_self ..))]
    exact fold_congr m b b' h xs _ (fun y hy => hx y (List.mem_cons_of_mem _ hy))
theorem rtake_is (c : api_Core) (t : Hs) (p : api_Packet) (b : Nat → Int) (hG : G 0 c) (h : PW p) (ht : t.length ≤ 800) :
    congressref13_take { C := c, Told := t } p b = some { C := { c with Count := (offS c p b).1, Kept := (offS c p b).2.1 }, Told := t ++ (offS c p b).2.2.map newH } := by
  have gd := off_good hG h b
  have ol := R10.off_len p
  have h2 := gd.2.1
  unfold congressref13_take
  rw [R10.rOffer_eq _ _ _ _ _ ⟨hG.room, Nat.zero_le _, fun j hj => wf_u32.1 (hG.cnt j hj), hG.kw⟩ h.fr h.ro h.rd h.rr]
  simp only [Option.bind_some, lt]
  refine R10.bind_of (tell_loop _ t (by show (offS c p b).2.2.length + t.length ≤ 1000; omega)) ?_
  rfl
def rmax (a p q : Int) : Int := if a < (if p < q then q else p) then (if p < q then q else p) else a
theorem rmax_eq (a p q : Int) : rmax a p q = max3 a p q := by unfold rmax max3; split <;> split <;> (try split) <;> (try split) <;> omega
noncomputable def goEnd (s : congressref13_State) : Option Res := (congressref13_goOn s).bind fun v34 => some (v34.C, true, v34.Told)
noncomputable def rtkTxt (p0 : api_Core) (p1 : api_Packet) (x : congressref13_State) : Option Res :=
        if (b_api_Id p1.Conf x.C.Conf) then
          if (b_api_Id x.C.Promise x.C.Conf) then
            (loop (ω := Fl (api_Core × Bool × (_root_.List api_Happen)) ((Nat → Int))) (fun (x20 : Int × (Nat → Int)) =>
              if (decide (x20.1 < 8)) then
                (ib p0.Self 8).bind fun _ =>
                (ib x20.1 8).bind fun _ =>
                some (.next ((IntKind.i64.wrap (x20.1 + 1)), aupd x20.2 x20.1.toNat (x.C.Count p0.Self.toNat)))
              else
                some (.done (.nx (x20.2)))) (0, (aset (fun _ => 0) []))).bind fun wn21 => Fl.elim wn21 (fun y24 =>
              (congressref13_take x p1 y24).bind fun v25 => goEnd v25) (fun r => some r)
          else
            (whn (!x.C.Ready) (congressref12_All x.C) false).bind fun v27 =>
            if ((!x.C.Ready) && v27) then
              (congressref12_Target x.C).bind fun v29 =>
              (congressref13_take x p1 v29).bind fun v31 => goEnd v31
            else goEnd x
        else goEnd x
noncomputable def rrecvTxt (p0 : api_Core) (p1 : api_Packet) : Option Res :=
  (congressref13_Fits p0).bind fun v1 =>
  if (((!v1) || (decide (p1.From > 7))) || ((IntKind.i64.wrap (p1.From)) == p0.Self)) then some (p0, false, ([] : Hs))
  else
    (congressref08_Hear p0.Beat (IntKind.i64.wrap (p1.From)) p1.Inc).bind fun v4 =>
    if (!v4.2) then some (p0, false, ([] : Hs))
    else
      (ib p1.From 8).bind fun _ =>
      (congressref12_Update (p0.Peers p1.From.toNat) p1).bind fun v8 =>
      (ib p1.From 8).bind fun _ =>
      (congressref12_Adopt p0.Promise p0.Self p0.Own p1).bind fun v13 =>
      if v13 then rtkTxt p0 p1 { C := promC { p0 with Beat := v4.1, Peers := aupd p0.Peers p1.From.toNat v8, Epoch := rmax p0.Epoch p1.Epoch p1.Promise.Epoch } p1.Promise p1.Wanted, Told := [] }
      else rtkTxt p0 p1 { C := { p0 with Beat := v4.1, Peers := aupd p0.Peers p1.From.toNat v8, Epoch := rmax p0.Epoch p1.Epoch p1.Promise.Epoch }, Told := [] }
theorem rrecv_txt (p0 : api_Core) (p1 : api_Packet) : congressref13_Receive p0 p1 = rrecvTxt p0 p1 := by kernel_rfl
theorem go_end_r {n : Nat} {c : api_Core} (h : G n c) (t : Hs) (ht : t.length ≤ 900) : goEnd { C := c, Told := t } = some ((goF c t).1, true, (goF c t).2) := by
  unfold goEnd
  rw [rgo { C := c, Told := t } h.want h.cut (by show t.length ≤ 1000; omega)]; rfl
theorem off_congr (c : api_Core) {p : api_Packet} (h : PW p) {b b' : Nat → Int} (hb : ∀ j, j < 8 → b j = b' j) : offS c p b = offS c p b' :=
  fold_congr c.Members b b' hb _ _ (fun x hx => (off_w h x hx).1)
theorem off_G {c : api_Core} (hG : G 0 c) {p : api_Packet} (h : PW p) (b : Nat → Int) : G 3 { c with Count := (offS c p b).1, Kept := (offS c p b).2.1 } := by
  have gd := off_good hG h b
  have ol := R10.off_len p
  exact ⟨hG.mem, fun j hj => wf_u32.2 (gd.2.2.1 j hj), hG.want, hG.cut, gd.2.2.2, room_up gd.1 (by omega)⟩
theorem tkend (c : api_Core) {p : api_Packet} (hG : G 0 c) (h : PW p) (b b' : Nat → Int) (hb : ∀ j, j < 8 → b j = b' j) : ((congressref13_take { C := c, Told := [] } p b).bind fun v25 => goEnd v25) =
    some ((goF { c with Count := (offS c p b').1, Kept := (offS c p b').2.1 } ((offS c p b').2.2.map newH)).1, true, (goF { c with Count := (offS c p b').1, Kept := (offS c p b').2.1 } ((offS c p b').2.2.map newH)).2) := by
  rw [rtake_is c [] p b hG h (by simp), off_congr c h hb]
  have gd := off_good hG h b'
  have ol := R10.off_len p
  have h2 := gd.2.1
  exact go_end_r (off_G hG h b') _ (by simp; omega)
theorem sw2 {β : Type} (A a : Bool) (F : Bool → Option β) : ((whn A (some a) false).bind fun v => F (A && v)) = F (A && a) := by cases A <;> rfl
theorem rtk_eq (p0 c : api_Core) {p : api_Packet} (hs : p0.Self = c.Self) (hG : G 0 c) (h : PW p) (h8 : 0 ≤ c.Self ∧ c.Self < 8) :
    rtkTxt p0 p { C := c, Told := [] } = some ((goF (takeC c p).1 (takeC c p).2).1, true, (goF (takeC c p).1 (takeC c p).2).2) := by
  unfold rtkTxt takeC boundsF
  by_cases hc : b_api_Id p.Conf c.Conf = true
  · rw [if_pos hc, hc]
    by_cases hp : b_api_Id c.Promise c.Conf = true
    · rw [if_pos hp, if_pos hp]
      rw [loop_seq (s0 := ((0 : Int), (aset (fun _ => 0) [] : Nat → Int))) (fun n => ((n : Int), fun j => if j < n then c.Count c.Self.toNat else 0)) 8 (w := .nx (ownB c)) (by simp [aset]) (fun n hn => by
        rw [if_pos (by simp; omega), hs, ib_t h8.1 h8.2, ib_n hn]
        simp only [Option.bind_some, Int.toNat_natCast]
        rw [w64 (by omega) (by omega)]
        congr 3
        funext j
        show (if j = n then c.Count c.Self.toNat else if j < n then c.Count c.Self.toNat else 0) = if j < n + 1 then c.Count c.Self.toNat else 0
        by_cases q1 : j = n
        · rw [if_pos q1, if_pos (by omega)]
        · rw [if_neg q1]
          by_cases q2 : j < n
          · rw [if_pos q2, if_pos (by omega)]
          · rw [if_neg q2, if_neg (by omega)]) (by rw [if_neg (by simp)]; rfl)]
      exact tkend c hG h (ownB c) (ownB c) (fun _ _ => rfl)
    · rw [if_neg hp, if_neg hp, R12.rall_eq c hG.want, R12.rtarget_eq c hG.want]
      refine (sw2 (!c.Ready) (allB c) (fun b => if b = true then _ else _)).trans ?_
      by_cases ha : ((!c.Ready) && allB c) = true
      · rw [if_pos ha, if_pos ha]
        have e := R12.all8.1 (R12.target_same c (U32.nat hG.cut))
        exact tkend c hG h _ (tgt c) (fun j hj => (e j hj).symm)
      · rw [if_neg ha, if_neg ha]
        exact go_end_r hG [] (by simp)
  · rw [if_neg hc, Bool.eq_false_iff.2 hc, Bool.and_false]
    exact go_end_r hG [] (by simp)
theorem rrecv_eq {c : api_Core} (hG : G 0 c) {p : api_Packet} (hp : PW p) (hw : U32 p.Wanted) : congressref13_Receive c p = some (recvC c p) := by
  have e1 : fr p = p.From := w64 (by have := hp.fr; omega) (by have := hp.fr; omega)
  rw [rrecv_txt]
  unfold rrecvTxt
  rw [rfits_eq, R8.rhear_eq]
  simp only [Option.bind_some]
  show (if ((!(fitsB c) || decide (p.From > 7)) || (fr p == c.Self)) = true then _ else if (!(hrd c p).2) = true then _ else _) = _
  unfold recvC
  by_cases hb : ((!(fitsB c) || (fr p == c.Self)) || (!(hrd c p).2)) = true
  · rw [if_pos hb]
    by_cases h1 : ((!(fitsB c) || decide (p.From > 7)) || (fr p == c.Self)) = true
    · rw [if_pos h1]
    · rw [if_neg h1]
      have h1' := Bool.eq_false_iff.2 h1
      simp only [Bool.or_eq_false_iff] at h1'
      rw [h1'.1.1, h1'.2] at hb
      rw [if_pos (by simpa using hb)]
  · rw [if_neg hb]
    have hb' := Bool.eq_false_iff.2 hb
    simp only [Bool.or_eq_false_iff, Bool.not_eq_false'] at hb'
    have hin := hear_in hb'.2 hp
    have h8 := fits_in hb'.1.1
    have h1 : ((!(fitsB c) || decide (p.From > 7)) || (fr p == c.Self)) = false := by
      rw [hb'.1.1, hb'.1.2]
      have : decide (p.From > 7) = false := by simp; omega
      rw [this]; rfl
    rw [h1, hb'.2, if_neg (by decide), if_neg (by decide), ib_t hin.1 hin.2, R12.rupd_eq, R12.radopt_eq, rmax_eq]
    simp only [Option.bind_some]
    unfold adoptC
    by_cases ha : R12.adoptF c.Promise c.Self c.Own p = true
    · rw [if_pos ha, if_pos ha]
      exact rtk_eq c (promC (hearC c p) p.Promise p.Wanted) rfl ⟨hG.mem, hG.cnt, hw, hG.cnt, hG.kw, hG.room⟩ hp h8
    · rw [if_neg ha, if_neg ha]
      exact rtk_eq c (hearC c p) rfl ⟨hG.mem, hG.cnt, hG.want, hG.cut, hG.kw, hG.room⟩ hp h8
end Go.Proofs.Ytcocahffigbmbaa
end

section
set_option linter.unusedVariables false
set_option linter.unusedSimpArgs false
namespace Go.Proofs.Ytcocahffigbmbaa
open Go.Eng
def oneAt (i : Int) (v : Int) : Nat → Int := aupd (fun _ => 0) i.toNat v
def startC (p0 p1 p2 : Int) : api_Core := { Self := p0, Wait := p2, Own := p1, Beat := z_api_Beat, Conf := ({ Epoch := 0, Coord := (IntKind.u32.wrap (p0)), Inc := p1 } : api_Id), Members := oneAt p0 p1, Count := (fun _ => 0), Kept := [], Promise := ({ Epoch := 0, Coord := (IntKind.u32.wrap (p0)), Inc := p1 } : api_Id), Wanted := oneAt p0 p1, Cut := (fun _ => 0), Ready := false, Peers := (fun _ => z_api_Peer), Epoch := 0 }
def badStart (p0 p1 p2 : Int) : Bool := (((((decide (p0 < 0)) || (decide (p0 ≥ 8))) || (p1 == 0)) || (decide (p2 < 1))) || (decide (p2 > 1000)))
def startF (p0 p1 p2 : Int) : api_Core × Bool := if badStart p0 p1 p2 = true then (z_api_Core, false) else (startC p0 p1 p2, true)
theorem start_in {p0 p1 p2 : Int} (h : badStart p0 p1 p2 = false) : 0 ≤ p0 ∧ p0 < 8 ∧ p1 ≠ 0 ∧ 1 ≤ p2 ∧ p2 ≤ 1000 := by
  simp only [badStart, Bool.or_eq_false_iff, decide_eq_false_iff_not, beq_eq_false_iff_ne] at h
  omega
theorem start_eq (p0 p1 p2 : Int) : core_Start p0 p1 p2 = some (startF p0 p1 p2) := by
  unfold core_Start startF
  simp only [lt]
  show (if badStart p0 p1 p2 = true then _ else _) = _
  by_cases h : badStart p0 p1 p2 = true
  · rw [if_pos h, if_pos h]; rfl
  · rw [if_neg h, if_neg h]
    have hs := start_in (Bool.eq_false_iff.2 h)
    rw [ib_t hs.1 hs.2.1]; rfl
theorem rstart_eq (p0 p1 p2 : Int) : congressref13_Start p0 p1 p2 = some (startF p0 p1 p2) := by
  have e : (((((decide (p0 < 0)) || (decide (p0 > 7))) || (p1 == 0)) || (decide (p2 < 1))) || (decide (p2 > 1000))) = badStart p0 p1 p2 := by
    unfold badStart
    have : decide (p0 > 7) = decide (p0 ≥ 8) := by rw [decide_eq_decide]; omega
    rw [this]
  unfold congressref13_Start startF
  simp only [lt]
  rw [e]
  by_cases h : badStart p0 p1 p2 = true
  · rw [if_pos h, if_pos h]; rfl
  · rw [if_neg h, if_neg h]
    have hs := start_in (Bool.eq_false_iff.2 h)
    rw [ib_t hs.1 hs.2.1]; rfl
theorem G.emit {n : Nat} {c : api_Core} (h : G n c) (t : Hs) (f : Fr) : G (n + 1) (emitF c t f).1 := by
  unfold emitF
  by_cases hb : emB c = true
  · rw [if_pos hb]; exact h.up (by omega)
  · rw [if_neg hb]
    have hb' := Bool.eq_false_iff.2 hb
    simp only [emB, Bool.or_eq_false_iff, Bool.not_eq_false'] at hb'
    have hnx := next_may f hb'.1.2 hb'.2
    have hx : (Lit.int .u32 (emK c f).Round).wf = true := wfw _
    refine ⟨h.mem, ?_, h.want, h.cut, ?_, R10.take_room h.room⟩
    · show U32 (R10.takeF c.Kept c.Count c.Members (emK c f)).2.1
      unfold R10.takeF; rw [if_pos hnx]
      intro j hj
      show (Lit.int .u32 (if j = (emK c f).From.toNat then (emK c f).Round else c.Count j)).wf = true
      by_cases q : j = (emK c f).From.toNat
      · rw [if_pos q]; exact hx
      · rw [if_neg q]; exact h.cnt j hj
    · show R10.W (R10.takeF c.Kept c.Count c.Members (emK c f)).1
      unfold R10.takeF; rw [if_pos hnx]
      intro y hy
      rcases List.mem_append.1 hy with hy | hy
      · exact h.kw y (List.mem_filter.1 hy).1
      · rw [List.mem_singleton.1 hy]; exact wf_u32.1 hx
theorem G.start (p0 p1 p2 : Int) (h1 : (Lit.int .u32 p1).wf = true) : G 0 (startF p0 p1 p2).1 := by
  have hz : G 0 z_api_Core := ⟨U32.zero, U32.zero, U32.zero, U32.zero, (fun y hy => absurd hy (by simp [z_api_Core])), (by show R10.Room 0 []; unfold R10.Room; exact Nat.zero_le _)⟩
  have ho : U32 (oneAt p0 p1) := fun j hj => by
    show (Lit.int .u32 (if j = p0.toNat then p1 else 0)).wf = true
    by_cases q : j = p0.toNat
    · rw [if_pos q]; exact h1
    · rw [if_neg q]; exact U32.zero j hj
  unfold startF
  split
  · exact hz
  · exact ⟨ho, U32.zero, ho, U32.zero, (fun y hy => absurd hy (by simp [startC])), (by show R10.Room 0 []; unfold R10.Room; exact Nat.zero_le _)⟩
structure BW (c : api_Core) : Prop where
  beat : w_api_Beat c.Beat
  own : (Lit.int .u32 c.Own).wf = true
theorem BW.reach {c : api_Core} (h : BW c) : U32 (reachC c) := reach_u32 (wb_tick h.beat) h.own _ _
theorem BW.go {c : api_Core} (h : BW c) (t : Hs) : BW (goF c t).1 := by
  have hs : BW (settleF c) := by unfold settleF; split; exact ⟨h.1, h.2⟩; exact h
  unfold goF
  split
  · exact h
  · split
    · exact ⟨hs.1, hs.2⟩
    · exact hs
theorem BW.emit {c : api_Core} (h : BW c) (t : Hs) (f : Fr) : BW (emitF c t f).1 := by
  unfold emitF; split; exact h; exact ⟨h.1, h.2⟩
theorem propC_G {n : Nat} {c : api_Core} (h : G n c) (hb : BW c) : G n (propC c) := by
  unfold propC
  split
  · exact ⟨h.mem, h.cnt, hb.reach, h.cnt, h.kw, h.room⟩
  · exact ⟨h.mem, h.cnt, h.want, h.cut, h.kw, h.room⟩
theorem propC_B {c : api_Core} (hb : BW c) : BW (propC c) := by
  unfold propC
  split
  · exact ⟨wb_tick hb.1, hb.2⟩
  · exact ⟨wb_tick hb.1, hb.2⟩
theorem G.tick {n : Nat} {c : api_Core} (h : G n c) (hb : BW c) (f : Fr) : G (n + 1) (tickC c f).1 := by
  unfold tickC
  split
  · exact ((propC_G h hb).go []).emit _ f
  · exact h.up (by omega)
theorem BW.tick {c : api_Core} (hb : BW c) (f : Fr) : BW (tickC c f).1 := by
  unfold tickC
  split
  · exact ((propC_B hb).go []).emit _ f
  · exact hb
theorem adoptC_G {n : Nat} {c : api_Core} (h : G n c) {p : api_Packet} (hw : U32 p.Wanted) : G n (adoptC c p) := by
  unfold adoptC
  split
  · exact ⟨h.mem, h.cnt, hw, h.cnt, h.kw, h.room⟩
  · exact ⟨h.mem, h.cnt, h.want, h.cut, h.kw, h.room⟩
theorem takeC_G {c : api_Core} (h : G 0 c) {p : api_Packet} (hp : PW p) : G 3 (takeC c p).1 := by
  unfold takeC
  split
  · exact off_G h hp _
  · exact h.up (by omega)
theorem G.recv {c : api_Core} (h : G 0 c) {p : api_Packet} (hp : PW p) (hw : U32 p.Wanted) : G 3 (recvC c p).1 := by
  unfold recvC
  split
  · exact h.up (by omega)
  · exact (takeC_G (adoptC_G h hw) hp).go _
end Go.Proofs.Ytcocahffigbmbaa
end

section
set_option linter.unusedVariables false
set_option linter.unusedSimpArgs false
namespace Go.Proofs.Ytcocahffigbmbaa
open Go.Eng
def f0 : Fr := aset (fun _ => (fun _ => z_api_Entry)) []
def k1 : api_Packet := { From := 1, Inc := 1, Conf := ({ Epoch := 0, Coord := 1, Inc := 1 } : api_Id), Members := (fun _ => 0), Count := (fun _ => 0), Promise := ({ Epoch := 0, Coord := 1, Inc := 1 } : api_Id), Wanted := (fun _ => 0), Ready := false, Epoch := 0, Round := 0, Newest := (fun _ => (fun _ => z_api_Entry)), Older := (fun _ => (fun _ => z_api_Entry)), RelayOf := 0, RelayRound := 0, Relay := (fun _ => (fun _ => z_api_Entry)) }
def s1 : api_Core := (startF 0 1 3).1
def s5 : api_Core := (tickC s1 f0).1
def s7 : api_Core := (tickC s5 f0).1
def s9 : api_Core := (recvC s7 k1).1
theorem small {n : Nat} {c : api_Core} (h : G n c) (hl : c.Kept.length ≤ 10) : G 0 c := ⟨h.mem, h.cnt, h.want, h.cut, h.kw, R10.room_small _ hl⟩
theorem fixed_eq : congresslaw13_fixed = some true := by
  have hb : BW s1 := ⟨⟨wf_u32.2 ⟨by decide, by decide⟩, U32.zero, U32.zero⟩, by kernel_rfl⟩
  have g1 : G 0 s1 := G.start 0 1 3 (by kernel_rfl)
  have l5 : s5.Kept.length = 1 := by kernel_rfl
  have l7 : s7.Kept.length = 2 := by kernel_rfl
  have l9 : s9.Kept.length = 2 := by kernel_rfl
  have g5 : G 0 s5 := small (g1.tick hb f0) (by omega)
  have g7 : G 0 s7 := small (g5.tick (hb.tick f0) f0) (by omega)
  have pk : PW k1 := ⟨⟨by decide, by decide⟩, ⟨by decide, by decide⟩, ⟨by decide, by decide⟩, ⟨by decide, by decide⟩⟩
  have g9 : G 0 s9 := small (g7.recv pk U32.zero) (by omega)
  have e1 : core_Tick (startF 0 1 3).1 f0 = some (tickC s1 f0) := tick_eq g1.cnt g1.room f0
  have e2 : core_Tick s5 f0 = some (tickC s5 f0) := tick_eq g5.cnt g5.room f0
  have e3 : core_Receive s7 k1 = some (recvC s7 k1) := recv_eq g7 pk U32.zero
  have e4 : core_Tick s9 f0 = some (tickC s9 f0) := tick_eq g9.cnt g9.room f0
  have e5 : core_Packet s7 = some (packC s7) := pack_eq s7 (by rw [l7]; decide) (by have : s7.Beat.Now = 2 := by kernel_rfl
                                                                                    rw [this]; decide)
  unfold congresslaw13_fixed core_Gathers
  rw [start_eq, start_eq]
  refine R10.bind_of rfl (R10.bind_of rfl (R10.bind_of e1 (R10.bind_of e2 (R10.bind_of e3 (R10.bind_of e4 ?_)))))
  refine R10.bind_of (a := ()) (by kernel_rfl) (R10.bind_of (a := true) (by kernel_rfl) (R10.bind_of (a := false) (by kernel_rfl) (R10.bind_of (a := packC s7) ?_ (by kernel_rfl))))
  refine Eq.trans ?_ e5
  exact if_pos (by kernel_rfl)
end Go.Proofs.Ytcocahffigbmbaa
end

section
set_option linter.unusedVariables false
set_option linter.unusedSimpArgs false
namespace Go.Proofs.Ytcocahffigbmbaa
open Go.Eng
theorem room_max {n : Nat} {l : Ks} (h : R10.Room n l) (hn : n ≤ 11) : l.length ≤ maxLen := h.len hn
theorem off_len3 {c : api_Core} (hG : G 0 c) {p : api_Packet} (hp : PW p) : (takeC c p).2.length ≤ 3 := by
  unfold takeC
  split
  · have gd := off_good hG hp (boundsF c).1
    have ol := R10.off_len p
    have h2 := gd.2.1
    simp; omega
  · exact Nat.zero_le _
theorem recv_len {c : api_Core} (hG : G 0 c) {p : api_Packet} (hp : PW p) (hw : U32 p.Wanted) : (recvC c p).2.2.length ≤ 4 := by
  unfold recvC
  split
  · exact Nat.zero_le _
  · have h1 := off_len3 (adoptC_G hG hw) hp
    have h2 := go_len (takeC (adoptC c p) p).1 (takeC (adoptC c p) p).2
    simp only; omega
theorem pure_coreHears (a0 : api_Core) (a1 : api_Packet) (w0 : w_api_Core a0) (w1 : w_api_Packet a1) : congresslaw13_CoreHears a0 a1 = some true := by
  unfold congresslaw13_CoreHears
  rw [fixed_eq, rfits_eq]
  simp only [Option.bind_some, Bool.not_true, Bool.not_false, whn, if_true, Bool.false_or]
  by_cases hf : fitsB a0 = true
  · have hG := w_G w0
    have hp := w_PW w1
    have hw : U32 a1.Wanted := w1.2.2.2.2.2.2.1
    have ht := recv_len hG hp hw
    have hs := (G.start a0.Self a1.Inc a0.Wait w1.2.1)
    rw [if_neg (by rw [hf]; decide), recv_eq hG hp hw, rrecv_eq hG hp hw, start_eq, rstart_eq]
    simp only [Option.bind_some]
    rw [is_self _ (room_max (hG.recv hp hw).room (by omega)), is_self _ (room_max hs.room (by omega))]
    simp only [Option.bind_some, beq_self_eq_true, Bool.and_self, Bool.true_and, if_true]
    rw [told_self _ (by omega)]
    simp
  · rw [if_pos (by rw [Bool.eq_false_iff.2 hf]; rfl)]
end Go.Proofs.Ytcocahffigbmbaa
end

section
set_option linter.unusedVariables false
namespace Go.Proofs.Ytcocahffigbmbaa
open Go.Eng
namespace coreHears
open Go.ChangeShapes Go.WideShapes Go.ChangeAt Go.RowKit
theorem own : ownKnob Try.prog.godebug = none := by kernel_rfl
theorem laidOut : laidOutB Try.prog = true := by kernel_rfl
set_option maxRecDepth 100000 in
theorem lifted (os : Os) (started : os.Started) (H : Type) (enc : TypeId × Value → H) :
    ReturnsInHanded {} Try.checked os 4 .any (Rows.coreHearsSpec.pre6 enc Try.prog Try.f4 Rows.coreHearsRow.domain false) (Rows.coreHearsSpec.post enc Try.prog Try.f4 false true false false) := by
  refine returnsInHanded_of_change_sized (C := Try.checked) own started (by kernel_rfl) Try.func4
    (ChangeSpec.witness6 (enc := enc) (C := Try.checked) false ⟨#[], #[.agg #[.int .i64 0, .int .i64 0, .int .u32 0, .int .u32 0, .int .u32 0, .int .u32 0, .int .u32 0, .int .u32 0, .int .u32 0, .int .u32 0, .int .u32 0, .int .u32 0, .int .u32 0, .int .u32 0, .int .u32 0, .int .u32 0, .int .u32 0, .int .u32 0, .int .u32 0, .int .u32 0, .int .u32 0, .int .u32 0, .int .u32 0, .int .u32 0, .int .u32 0, .int .u32 0, .int .u32 0, .int .u32 0, .int .u32 0, .int .u32 0, .int .u32 0, .int .u32 0, .int .u32 0, .int .u32 0, .int .u32 0, .int .u32 0, .int .u32 0, .int .u32 0, .int .u32 0, .slice none 0 0, .int .u32 0, .int .u32 0, .int .u32 0, .int .u32 0, .int .u32 0, .int .u32 0, .int .u32 0, .int .u32 0, .int .u32 0, .int .u32 0, .int .u32 0, .int .u32 0, .int .u32 0, .int .u32 0, .int .u32 0, .int .u32 0, .int .u32 0, .int .u32 0, .int .u32 0, .bool false, .int .u32 0, .int .u32 0, .int .u32 0, .int .u32 0, .int .u32 0, .int .u32 0, .int .u32 0, .int .u32 0, .int .u32 0, .int .u32 0, .int .u32 0, .int .u32 0, .int .u32 0, .int .u32 0, .int .u32 0, .bool false, .int .u32 0, .int .u32 0, .int .u32 0, .int .u32 0, .int .u32 0, .int .u32 0, .int .u32 0, .int .u32 0, .int .u32 0, .int .u32 0, .int .u32 0, .int .u32 0, .int .u32 0, .int .u32 0, .int .u32 0, .bool false, .int .u32 0, .int .u32 0, .int .u32 0, .int .u32 0, .int .u32 0, .int .u32 0, .int .u32 0, .int .u32 0, .int .u32 0, .int .u32 0, .int .u32 0, .int .u32 0, .int .u32 0, .int .u32 0, .int .u32 0, .bool false, .int .u32 0, .int .u32 0, .int .u32 0, .int .u32 0, .int .u32 0, .int .u32 0, .int .u32 0, .int .u32 0, .int .u32 0, .int .u32 0, .int .u32 0, .int .u32 0, .int .u32 0, .int .u32 0, .int .u32 0, .bool false, .int .u32 0, .int .u32 0, .int .u32 0, .int .u32 0, .int .u32 0, .int .u32 0, .int .u32 0, .int .u32 0, .int .u32 0, .int .u32 0, .int .u32 0, .int .u32 0, .int .u32 0, .int .u32 0, .int .u32 0, .bool false, .int .u32 0, .int .u32 0, .int .u32 0, .int .u32 0, .int .u32 0, .int .u32 0, .int .u32 0, .int .u32 0, .int .u32 0, .int .u32 0, .int .u32 0, .int .u32 0, .int .u32 0, .int .u32 0, .int .u32 0, .bool false, .int .u32 0, .int .u32 0, .int .u32 0, .int .u32 0, .int .u32 0, .int .u32 0, .int .u32 0, .int .u32 0, .int .u32 0, .int .u32 0, .int .u32 0, .int .u32 0, .int .u32 0, .int .u32 0, .int .u32 0, .bool false, .int .u32 0, .int .u32 0, .int .u32 0, .int .u32 0, .int .u32 0, .int .u32 0, .int .u32 0, .int .u32 0, .int .u32 0, .int .u32 0, .int .u32 0, .int .u32 0, .int .u32 0, .int .u32 0, .int .u32 0, .bool false, .int .u32 0], .agg #[.int .u32 0, .int .u32 0, .int .u32 0, .int .u32 0, .int .u32 0, .int .u32 0, .int .u32 0, .int .u32 0, .int .u32 0, .int .u32 0, .int .u32 0, .int .u32 0, .int .u32 0, .int .u32 0, .int .u32 0, .int .u32 0, .int .u32 0, .int .u32 0, .int .u32 0, .int .u32 0, .int .u32 0, .int .u32 0, .int .u32 0, .int .u32 0, .int .u32 0, .int .u32 0, .int .u32 0, .int .u32 0, .int .u32 0, .int .u32 0, .int .u32 0, .int .u32 0, .bool false, .int .u32 0, .int .u32 0, .int .i64 0, .int .i64 0, .int .i64 0, .int .u64 0, .int .u64 0, .string ByteArray.empty, .int .i64 0, .int .i64 0, .int .i64 0, .int .u64 0, .int .u64 0, .string ByteArray.empty, .int .i64 0, .int .i64 0, .int .i64 0, .int .u64 0, .int .u64 0, .string ByteArray.empty, .int .i64 0, .int .i64 0, .int .i64 0, .int .u64 0, .int .u64 0, .string ByteArray.empty, .int .i64 0, .int .i64 0, .int .i64 0, .int .u64 0, .int .u64 0, .string ByteArray.empty, .int .i64 0, .int .i64 0, .int .i64 0, .int .u64 0, .int .u64 0, .string ByteArray.empty, .int .i64 0, .int .i64 0, .int .i64 0, .int .u64 0, .int .u64 0, .string ByteArray.empty, .int .i64 0, .int .i64 0, .int .i64 0, .int .u64 0, .int .u64 0, .string ByteArray.empty, .int .i64 0, .int .i64 0, .int .i64 0, .int .u64 0, .int .u64 0, .string ByteArray.empty, .int .i64 0, .int .i64 0, .int .i64 0, .int .u64 0, .int .u64 0, .string ByteArray.empty, .int .i64 0, .int .i64 0, .int .i64 0, .int .u64 0, .int .u64 0, .string ByteArray.empty, .int .i64 0, .int .i64 0, .int .i64 0, .int .u64 0, .int .u64 0, .string ByteArray.empty, .int .u32 0, .int .u32 0, .int .i64 0, .int .i64 0, .int .i64 0, .int .u64 0, .int .u64 0, .string ByteArray.empty, .int .i64 0, .int .i64 0, .int .i64 0, .int .u64 0, .int .u64 0, .string ByteArray.empty, .int .i64 0, .int .i64 0, .int .i64 0, .int .u64 0, .int .u64 0, .string ByteArray.empty, .int .i64 0, .int .i64 0, .int .i64 0, .int .u64 0, .int .u64 0, .string ByteArray.empty, .int .i64 0, .int .i64 0, .int .i64 0, .int .u64 0, .int .u64 0, .string ByteArray.empty, .int .i64 0, .int .i64 0, .int .i64 0, .int .u64 0, .int .u64 0, .string ByteArray.empty]], []⟩ 8 (by kernel_rfl) (by kernel_rfl) (by kernel_rfl) (by kernel_rfl)) ?_
  intro W base args ds gs before hval0 hW hcnd hsz0 _
  have hval : ∀ (j : Nat) t v, Try.f4.params[j]? = some t → args[j]? = some v → Value.okWide Try.prog W .any base t v := hval0
  have hW' := hW
  obtain ⟨p, q, hA0, hV, rfl, hfz, hnd⟩ := hW
  have hA : DataW.TrodAll enc Try.prog W 0 (fun _ => true) true Try.f4.params.toList args.toList ds p := hA0
  rw [Try.params4] at hA hval
  obtain ⟨v0, vs0, d0, ds0, p0, q0, hargs, rfl, rfl, h0, r0⟩ := trodAll_cons hA
  obtain ⟨v1, vs1, d1, ds1, p1, q1, rfl, rfl, rfl, h1, r1⟩ := trodAll_cons r0
  obtain ⟨rfl, rfl, rfl⟩ := trodAll_nil r1
  obtain rfl : args = #[v0, v1] := by cases args; simp_all
  obtain ⟨rfl, rfl⟩ := trodVars_none hV
  have lt0 : ∀ x ∈ p0, x.block < W.heap.size := by obtain ⟨m, hm⟩ := h0; exact DataW.trod_lt m _ _ _ hm
  have hwt0 : ∀ n ∈ d0.weights Try.prog 35, n ≤ reachBytes := fun n hn => by have := List.all_eq_true.1 hsz0 n (DataW.weights_mem_each (j := 0) rfl rfl n hn); simpa using this
  obtain ⟨a0, w0, R0⟩ := in35.arg (ag := true) (fun _ => rfl) (VOk.st sk35 (hval 0 35 v0 rfl rfl)) h0 hwt0
  have lt1 : ∀ x ∈ p1, x.block < W.heap.size := by obtain ⟨m, hm⟩ := h1; exact DataW.trod_lt m _ _ _ hm
  have hwt1 : ∀ n ∈ d1.weights Try.prog 50, n ≤ reachBytes := fun n hn => by have := List.all_eq_true.1 hsz0 n (DataW.weights_mem_each (j := 1) rfl rfl n hn); simpa using this
  obtain ⟨a1, w1, R1⟩ := in50.arg (ag := true) (fun _ => rfl) (VOk.st sk50 (hval 1 50 v1 rfl rfl)) h1 hwt1
  clear hA0 hval0 hsz0
  refine (FSpec.law (congresslaw13_CoreHears_spec a0 a1 true (pure_coreHears a0 a1 w0 w1)) W _ (ArgsAre.of (xs := [v0, v1]) ⟨R0, R1, trivial⟩)).mono fun e W' ⟨he, bel⟩ => ?_
  subst he
  exact ⟨_, rfl, _, _, _, [], _, [], hW', trodAll_mk1 (shut_bool Try.underlying4 _), (trodAll_cons_mk (Below.trod laidOut (by kernel_rfl) (of_decide_eq_true (by kernel_rfl)) h0 bel lt0) (trodAll_cons_mk (Below.trod laidOut (by kernel_rfl) (of_decide_eq_true (by kernel_rfl)) h1 bel lt1) trodAll_mk0)), rfl, bel.frame _, fun h => by cases h⟩
theorem over : Rows.coreHearsRow.holds Try.pinned (OpenSpec.ofChange Rows.coreHearsSpec) :=
  OpenClaim.holds_of_wide 4 Try.f4 rfl rfl rfl rfl rfl rfl rfl ⟨rfl, rfl, rfl, rfl, rfl⟩ rfl rfl rfl rfl rfl (by kernel_rfl) Try.func4 (by kernel_rfl)
    (of_decide_eq_true (by kernel_rfl)) (by unfold Func.isWrapper; first | (rw [if_pos (by decide +kernel)]; kernel_rfl) | (rw [if_neg (by decide +kernel)]; exact ⟨rfl, rfl⟩))
    (fun os started H enc _ => lifted os started H enc)
theorem proved : Rows.CoreHearsSaid := over
end coreHears
theorem coreHears_holds : Rows.CoreHearsSaid := coreHears.proved
end Go.Proofs.Ytcocahffigbmbaa
end
