/- Pure laws of chapter 12: the functions answer as the document says. Conditions: none. -/
import Derived.Test.YteajgbkgijaebaaPg
import Derived.Test.YteajgbkgijaebaaPh
set_option linter.unusedVariables false
set_option linter.unusedSimpArgs false
namespace Go.Proofs.Yteajgbkgijaebaa
open Go.Eng
theorem mx1 (f : Nat → Int) (g : Nat → Int) (l : _root_.List (Nat → Int)) (i : Nat) (hi : i < l.length) (hg : l.getD i (fun _ => 0) = g) : (loop (ω := Fl ((Nat → Int)) ((Nat → Int))) (fun (x3 : Int × (Nat → Int)) =>
        if (decide (x3.1 < 8)) then
          jn (fun x13 : (Nat → Int) =>
            some (.next ((IntKind.i64.wrap (x3.1 + 1)), x13))) fun j5 =>
          (ib (i : Int) l.length).bind fun _ =>
          (ib x3.1 8).bind fun _ =>
          (ib x3.1 8).bind fun _ =>
          lt ((decide (((l.getD (i : Int).toNat (fun _ => 0)) x3.1.toNat) > (x3.2 x3.1.toNat))) : Bool) fun v9 =>
          if v9 then
            (ib (i : Int) l.length).bind fun _ =>
            (ib x3.1 8).bind fun _ =>
            (ib x3.1 8).bind fun _ =>
            j5 (aupd x3.2 x3.1.toNat ((l.getD (i : Int).toNat (fun _ => 0)) x3.1.toNat))
          else
            j5 (x3.2)
        else
          some (.done (.nx (x3.2)))) (0, f)) = some (.nx (mxF f g 8)) := by
  subst hg
  refine loop_seq (fun n => ((n : Int), mxF f (l.getD i (fun _ => 0)) n)) 8 (Prod.ext rfl (funext fun j => by simp [mxF])) (fun n hn => ?_) (by simp)
  have hn' : (n : Int) < 8 := by omega
  have e1 : IntKind.i64.wrap ((n : Int) + 1) = ((n + 1 : Nat) : Int) := by rw [w64] <;> omega
  simp only [hn', decide_true, if_true, ib_n hn, ib_n hi, Option.bind_some, Int.toNat_natCast, e1, lt, jn]
  rw [← mxF_s]
  by_cases h : mxF f (l.getD i fun _ => 0) n n < (l.getD i fun _ => 0) n
  · have hd : decide ((l.getD i fun _ => 0) n > mxF f (l.getD i fun _ => 0) n n) = true := by simpa using h
    rw [if_pos hd, if_pos h]
  · have hd : ¬ decide ((l.getD i fun _ => 0) n > mxF f (l.getD i fun _ => 0) n n) = true := by simpa using h
    rw [if_neg hd, if_neg h]
    congr 3
    funext k
    by_cases hk : k = n
    · subst hk; simp [aupd]
    · simp [aupd, hk]
def uniF (l : _root_.List (Nat → Int)) : Nat → Int := l.foldl (fun f g => mxF f g 8) (fun _ => 0)
theorem uni_s (l : _root_.List (Nat → Int)) (g : Nat → Int) : uniF (l ++ [g]) = mxF (uniF l) g 8 := by unfold uniF; rw [List.foldl_append]; rfl
theorem runion_eq (l : _root_.List (Nat → Int)) (hl : l.length ≤ 1000000) : congressref11_Union l = some (uniF l) := by
  unfold congressref11_Union
  rw [loop_seq (s0 := (0, aset (fun _ => 0) [])) (fun n => ((n : Int), uniF (l.take n))) l.length (w := .nx (uniF l)) (by simp [uniF, aset]) (fun n hn => by
    have hn' : (n : Int) < (l.length : Int) := by omega
    have e1 : IntKind.i64.wrap ((n : Int) + 1) = ((n + 1 : Nat) : Int) := by rw [w64] <;> omega
    simp only [hn', decide_true, if_true]
    rw [mx1 (uniF (l.take n)) (l.getD n fun _ => 0) l n hn rfl]
    simp only [Option.bind_some, Fl.elim, e1, take_s (d := fun _ => 0) hn, uni_s]) (by simp)]
  simp only [Option.bind_some, Fl.elim]
theorem uni_ge : ∀ (l : _root_.List (Nat → Int)) (f : Nat → Int), Nat8 f → ∀ j, j < 8 → ∀ r, ((l.foldl (fun f g => mxF f g 8) f) j ≤ r ↔ f j ≤ r ∧ ∀ g ∈ l, g j ≤ r)
  | [], f, hf, j, hj, r => by simp
  | a :: l, f, hf, j, hj, r => by
    have hm : ∀ i, i < 8 → (mxF f a 8 i ≤ r ↔ f i ≤ r ∧ a i ≤ r) := by
      intro i hi
      simp only [mxF, hi, true_and]
      by_cases h : f i < a i
      · rw [if_pos h]; omega
      · rw [if_neg h]; omega
    have hn : Nat8 (mxF f a 8) := by
      intro i hi
      have := hf i hi
      simp only [mxF, hi, true_and]; split <;> omega
    rw [List.foldl_cons, uni_ge l _ hn j hj r, hm j hj]
    constructor
    · rintro ⟨⟨h1, h2⟩, h3⟩
      refine ⟨h1, fun g hg => ?_⟩
      rcases List.mem_cons.1 hg with rfl | hg
      · exact h2
      · exact h3 g hg
    · rintro ⟨h1, h2⟩
      exact ⟨⟨h1, h2 a (by simp)⟩, fun g hg => h2 g (by simp [hg])⟩
def othF (c : api_Core) : _root_.List Int := (listF c.Wanted 8).filter fun x => x != c.Self
theorem others_eq (c : api_Core) (w : w_api_Core c) (hw : ∀ j, j < 8 → (Lit.int .u32 (c.Wanted j)).wf = true) : congressref12_others c = some (othF c) := by
  have hl := listF_len c.Wanted 8
  unfold congressref12_others
  rw [rlist_eq hw]
  simp only [Option.bind_some]
  rw [loop_seq (s0 := (0, ([] : _root_.List Int))) (fun n => ((n : Int), ((listF c.Wanted 8).take n).filter fun x => x != c.Self)) (listF c.Wanted 8).length (w := .nx (othF c)) (by simp) (fun n hn => by
    have hn' : (n : Int) < ((listF c.Wanted 8).length : Int) := by omega
    have e1 : IntKind.i64.wrap ((n : Int) + 1) = ((n + 1 : Nat) : Int) := by rw [w64] <;> omega
    have hfl := List.length_filter_le (fun x => x != c.Self) ((listF c.Wanted 8).take n)
    simp only [hn', decide_true, if_true, ib_n hn, Option.bind_some, Int.toNat_natCast, e1, jn, take_s (d := (0 : Int)) hn, List.filter_append]
    rw [fit_t (by simp at hfl ⊢; omega) (by omega)]
    simp only [Option.bind_some]
    by_cases h : ((listF c.Wanted 8).getD n 0 != c.Self) = true
    · rw [if_pos h, List.filter_cons_of_pos (by exact h)]; rfl
    · rw [if_neg h, List.filter_cons_of_neg (by exact h)]; simp) (by simp [othF])]
  simp only [Option.bind_some, Fl.elim]
theorem oth_in {c : api_Core} {x : Int} (h : x ∈ othF c) : ∃ j : Nat, x = (j : Int) ∧ j < 8 := by
  unfold othF at h
  obtain ⟨j, h1, h2, _⟩ := listF_in.1 (List.mem_filter.1 h).1
  exact ⟨j, h1, h2⟩
theorem oth_len (c : api_Core) : (othF c).length ≤ 8 := Nat.le_trans (List.length_filter_le _ _) (listF_len c.Wanted 8)
theorem all_filter (l : _root_.List Int) (p q : Int → Bool) : (l.filter p).all q = l.all fun x => !p x || q x := by
  induction l with
  | nil => rfl
  | cons a l ih =>
    by_cases h : p a = true
    · rw [List.filter_cons_of_pos h]; simp only [List.all_cons, ih, h, Bool.not_true, Bool.false_or]
    · rw [List.filter_cons_of_neg h]; simp only [Bool.not_eq_true] at h; simp only [List.all_cons, ih, h, Bool.not_false, Bool.true_or, Bool.true_and]
theorem rall_eq (c : api_Core) (w : w_api_Core c) (hw : ∀ j, j < 8 → (Lit.int .u32 (c.Wanted j)).wf = true) : congressref12_All c = some (eachF c fun z => b_api_Id z.Promise c.Promise) := by
  have hl := oth_len c
  unfold congressref12_All
  rw [others_eq c w hw]
  simp only [Option.bind_some]
  rw [seek (ρ := Bool) (othF c) (fun x => (((c.Peers x.toNat).Inc != c.Wanted x.toNat) || (!(b_api_Id (c.Peers x.toNat).Promise c.Promise)))) (fun _ => false) (fun n hn => by
    have hn' : (n : Int) < ((othF c).length : Int) := by omega
    have e1 : IntKind.i64.wrap ((n : Int) + 1) = ((n + 1 : Nat) : Int) := by rw [w64] <;> omega
    obtain ⟨j, hj, hj8⟩ := oth_in (getD_in (d := (0 : Int)) hn)
    simp only [hn', decide_true, if_true, ib_n hn, hj, ib_n hj8, Option.bind_some, Int.toNat_natCast, e1, lt]) (by simp)]
  simp only [Option.bind_some]
  rw [elim_all]
  unfold eachF othF
  rw [all_filter]
  congr 2
  funext x
  cases (x != c.Self) <;> simp
theorem rdone_eq (c : api_Core) (w : w_api_Core c) (hw : ∀ j, j < 8 → (Lit.int .u32 (c.Wanted j)).wf = true) : congressref12_Done c = some (eachF c fun z => ((b_api_Id z.Promise c.Promise) && z.Ready) || (b_api_Id z.Conf c.Promise)) := by
  have hl := oth_len c
  unfold congressref12_Done
  rw [others_eq c w hw]
  simp only [Option.bind_some]
  rw [seek (ρ := Bool) (othF c) (fun x => (((c.Peers x.toNat).Inc != c.Wanted x.toNat) || ((!(b_api_Id (c.Peers x.toNat).Conf c.Promise)) && ((!(b_api_Id (c.Peers x.toNat).Promise c.Promise)) || (!(c.Peers x.toNat).Ready))))) (fun _ => false) (fun n hn => by
    have hn' : (n : Int) < ((othF c).length : Int) := by omega
    have e1 : IntKind.i64.wrap ((n : Int) + 1) = ((n + 1 : Nat) : Int) := by rw [w64] <;> omega
    obtain ⟨j, hj, hj8⟩ := oth_in (getD_in (d := (0 : Int)) hn)
    simp only [hn', decide_true, if_true, ib_n hn, hj, ib_n hj8, Option.bind_some, Int.toNat_natCast, e1, lt]
    by_cases h : ((c.Peers j).Inc != c.Wanted j) = true
    · simp only [h, Bool.true_or, if_true]
    · have h' := Bool.eq_false_iff.2 h
      simp only [h', Bool.false_or, Bool.false_eq_true, if_false]) (by simp)]
  simp only [Option.bind_some]
  rw [elim_all]
  unfold eachF othF
  rw [all_filter]
  congr 2
  funext x
  show (!(x != c.Self) || !(((c.Peers x.toNat).Inc != c.Wanted x.toNat) || ((!(b_api_Id (c.Peers x.toNat).Conf c.Promise)) && ((!(b_api_Id (c.Peers x.toNat).Promise c.Promise)) || (!(c.Peers x.toNat).Ready))))) = !((x != c.Self) && (((c.Peers x.toNat).Inc != c.Wanted x.toNat) || (!(((b_api_Id (c.Peers x.toNat).Promise c.Promise) && (c.Peers x.toNat).Ready) || (b_api_Id (c.Peers x.toNat).Conf c.Promise)))))
  cases (x != c.Self) <;> cases ((c.Peers x.toNat).Inc != c.Wanted x.toNat) <;> cases (b_api_Id (c.Peers x.toNat).Conf c.Promise) <;> cases (b_api_Id (c.Peers x.toNat).Promise c.Promise) <;> cases (c.Peers x.toNat).Ready <;> rfl
def cutsF (c : api_Core) (l : _root_.List Int) : _root_.List (Nat → Int) := c.Cut :: ((l.filter fun x => ((((c.Peers x.toNat).Inc == c.Wanted x.toNat) && (b_api_Id (c.Peers x.toNat).Promise c.Promise)) && (b_api_Id (c.Peers x.toNat).Conf c.Conf))).map fun x => (c.Peers x.toNat).Cut)
theorem rtarget_eq (c : api_Core) (w : w_api_Core c) (hw : ∀ j, j < 8 → (Lit.int .u32 (c.Wanted j)).wf = true) : congressref12_Target c = some (uniF (cutsF c (othF c))) := by
  have hl := oth_len c
  have hcl : ∀ l : _root_.List Int, (cutsF c l).length ≤ l.length + 1 := fun l => by
    simp only [cutsF, List.length_cons, List.length_map]
    have := List.length_filter_le (fun x => ((((c.Peers x.toNat).Inc == c.Wanted x.toNat) && (b_api_Id (c.Peers x.toNat).Promise c.Promise)) && (b_api_Id (c.Peers x.toNat).Conf c.Conf))) l
    omega
  have hcs : ∀ (l : _root_.List Int) (x : Int), cutsF c (l ++ [x]) = if ((((c.Peers x.toNat).Inc == c.Wanted x.toNat) && (b_api_Id (c.Peers x.toNat).Promise c.Promise)) && (b_api_Id (c.Peers x.toNat).Conf c.Conf)) = true then cutsF c l ++ [(c.Peers x.toNat).Cut] else cutsF c l := by
    intro l x
    simp only [cutsF, List.filter_append, List.map_append]
    split
    · rename_i h; rw [List.filter_cons_of_pos (by exact h)]; simp
    · rename_i h; rw [List.filter_cons_of_neg (by exact h)]; simp
  unfold congressref12_Target
  rw [others_eq c w hw]
  simp only [Option.bind_some]
  rw [loop_seq (s0 := (0, ([c.Cut] : _root_.List (Nat → Int)))) (fun n => ((n : Int), cutsF c ((othF c).take n))) (othF c).length (w := .nx (cutsF c (othF c))) rfl (fun n hn => by
    have hn' : (n : Int) < ((othF c).length : Int) := by omega
    have e1 : IntKind.i64.wrap ((n : Int) + 1) = ((n + 1 : Nat) : Int) := by rw [w64] <;> omega
    obtain ⟨j, hj, hj8⟩ := oth_in (getD_in (d := (0 : Int)) hn)
    have hk := hcl ((othF c).take n)
    simp only [hn', decide_true, if_true, ib_n hn, hj, ib_n hj8, Option.bind_some, Int.toNat_natCast, e1, lt, jn, take_s (d := (0 : Int)) hn, hcs]
    by_cases h : ((((c.Peers j).Inc == c.Wanted j) && (b_api_Id (c.Peers j).Promise c.Promise)) && (b_api_Id (c.Peers j).Conf c.Conf)) = true
    · rw [if_pos h, if_pos h, fit_t (by simp at hk ⊢; omega) (by omega)]; rfl
    · rw [if_neg h, if_neg h]) (by simp)]
  have hk := hcl (othF c)
  simp only [Option.bind_some, Fl.elim]
  rw [runion_eq _ (by omega)]; rfl
theorem target_same (c : api_Core) (hc : Nat8 c.Cut) : b_a8_u32 (tgF c (listF c.Wanted 8) c.Cut) (uniF (cutsF c (othF c))) = true := by
  refine all8.2 fun j hj => ?_
  have key : ∀ r, tgF c (listF c.Wanted 8) c.Cut j ≤ r ↔ uniF (cutsF c (othF c)) j ≤ r := by
    intro r
    rw [tg_le c hj r _ _ hc]
    unfold uniF
    rw [uni_ge _ _ (fun _ _ => Int.le_refl _) j hj r]
    have h0 := hc j hj
    simp only [cutsF, List.mem_cons, List.mem_map, List.mem_filter, othF]
    constructor
    · rintro ⟨h1, h2⟩
      refine ⟨by omega, fun g hg => ?_⟩
      rcases hg with rfl | ⟨x, ⟨⟨q1, q2⟩, q3⟩, rfl⟩
      · exact h1
      · refine h2 x q1 ?_
        simp only [Bool.and_eq_true] at q3
        simp only [cndF, q2, q3.1.1, q3.1.2, q3.2, Bool.and_self]
    · rintro ⟨h1, h2⟩
      refine ⟨h2 _ (.inl rfl), fun x hx hcx => h2 _ (.inr ⟨x, ⟨⟨hx, ?_⟩, ?_⟩, rfl⟩)⟩
      · simp only [cndF, Bool.and_eq_true] at hcx; exact hcx.1.1.1
      · simp only [cndF, Bool.and_eq_true] at hcx; simp only [hcx.1.1.2, hcx.1.2, hcx.2, Bool.and_self]
  have a := (key _).1 (Int.le_refl _)
  have b := (key _).2 (Int.le_refl _)
  omega
theorem rupd_eq (p : api_Peer) (k : api_Packet) : congressref12_Update p k = some (updF p k) := by
  have hu : congressref11_Union [p.Cut, k.Count] = some (mxF (mxF (fun _ => 0) p.Cut 8) k.Count 8) := runion_eq [p.Cut, k.Count] (by simp)
  have r1 := cmp_r k.Promise p.Promise
  have r2 := cmp_r k.Conf p.Conf
  unfold congressref12_Update updF
  simp only [lt, rcmp_eq, hu, Option.bind_some, jn, decide_eq_true_eq, Bool.or_eq_true, beq_iff_eq]
  by_cases c1 : k.Inc < p.Inc
  · rw [if_pos c1, if_pos c1]
  rw [if_neg c1, if_neg c1]
  by_cases c2 : k.Inc > p.Inc ∨ cmpId k.Promise p.Promise = 1
  · have d2 : k.Inc > p.Inc ∨ cmpId k.Promise p.Promise > 0 := by omega
    rw [if_pos c2, if_pos d2]
  have d2 : ¬ (k.Inc > p.Inc ∨ cmpId k.Promise p.Promise > 0) := by omega
  rw [if_neg c2, if_neg d2]
  by_cases c3 : cmpId k.Promise p.Promise = -1
  · have d3 : cmpId k.Promise p.Promise < 0 := by omega
    rw [if_pos c3, if_pos d3]
  have d3 : ¬ cmpId k.Promise p.Promise < 0 := by omega
  rw [if_neg c3, if_neg d3]
  by_cases c4 : cmpId k.Conf p.Conf = 0
  · have d4 : ¬ cmpId k.Conf p.Conf = 1 := by omega
    simp only [if_pos c4, if_neg d4]
    cases hk : k.Ready <;> simp [hk]
  · by_cases c5 : cmpId k.Conf p.Conf = 1
    · simp only [if_neg c4, if_pos c5]
      cases hk : k.Ready <;> simp [hk]
    · simp only [if_neg c4, if_neg c5]
      cases hk : k.Ready <;> simp [hk]
theorem radopt_eq (p0 : api_Id) (p1 p2 : Int) (p3 : api_Packet) : congressref12_Adopt p0 p1 p2 p3 = some (adoptF p0 p1 p2 p3) := by
  have r1 := cmp_r p3.Promise p0
  unfold congressref12_Adopt adoptF hasF
  by_cases h : (((decide (p1 < 0)) || (decide (p1 > 7))) || (p2 == 0)) = true
  · rw [if_pos h]
    simp only [Bool.or_eq_true, decide_eq_true_eq, beq_iff_eq] at h
    congr 1
    symm
    rw [Bool.eq_false_iff]
    simp only [ne_eq, Bool.and_eq_true, decide_eq_true_eq, bne_iff_ne, beq_iff_eq]
    omega
  · rw [if_neg h]
    simp only [Bool.or_eq_true, decide_eq_true_eq, beq_iff_eq, not_or] at h
    simp only [rcmp_eq, Option.bind_some]
    rw [ibg_t (fun _ => by omega)]
    simp only [Option.bind_some, Option.some.injEq]
    have e1 : (cmpId p3.Promise p0 == 1) = decide (cmpId p3.Promise p0 > 0) := by
      rw [Bool.eq_iff_iff]; simp only [beq_iff_eq, decide_eq_true_eq]; omega
    have e2 : decide (p1 ≥ 0) = true := by simp; omega
    have e3 : decide (p1 < 8) = true := by simp; omega
    have e4 : (p2 != 0) = true := by simp; omega
    rw [e1, e2, e3, e4]; rfl
theorem listF_lt (f : Nat → Int) (n : Nat) : (listF f n).Pairwise (· < ·) := by
  unfold listF
  rw [List.pairwise_map]
  refine List.Pairwise.imp ?_ (List.Pairwise.filter _ List.pairwise_lt_range)
  intro a b h; omega
def badF (c : api_Core) (m : Nat → Int) (x : Int) : Bool := ((c.Peers x.toNat).Inc == m x.toNat) && decide (cmpId (c.Peers x.toNat).Promise c.Promise > 0)
theorem rprop_eq (c : api_Core) (m : Nat → Int) (w : w_api_Core c) (hm : ∀ j, j < 8 → (Lit.int .u32 (m j)).wf = true) (hE : 0 ≤ c.Epoch ∧ c.Epoch ≤ 4294967295) (hC : 0 ≤ c.Promise.Coord ∧ c.Promise.Coord ≤ 4294967295) (hS : 0 ≤ c.Self ∧ c.Self ≤ 7) : congressref12_Propose c m = some (propF c m) := by
  have hl := listF_len m 8
  have e1 : ((IntKind.u32.wrap (c.Epoch + 1)) == 0) = (c.Epoch == 4294967295) := by
    rw [w32, Bool.eq_iff_iff]; simp only [beq_iff_eq]; omega
  have e2 : IntKind.u32.wrap c.Self = c.Self := by rw [w32]; omega
  have e3 : IntKind.i64.wrap c.Promise.Coord = c.Promise.Coord := w64 (by omega) (by omega)
  have hmem := fun x (h : x ∈ listF m 8) => listF_in.1 h
  have hlt := listF_lt m 8
  unfold congressref12_Propose propF leastF standsF
  rw [rlist_eq hm]
  simp only [Option.bind_some, e1, e2, e3]
  generalize listF m 8 = l at hl hmem hlt
  cases l with
  | nil => simp [ibg, lt]
  | cons a rest =>
    rw [ibg_t (fun _ => ⟨by omega, by simp⟩)]
    simp only [Option.bind_some, lt, List.getD_cons_zero]
    have z1 : (((a :: rest).length : Int) == 0) = false := by simp; omega
    have z2 : ¬ (a :: rest).length = 0 := by simp
    simp only [z1, Bool.false_or, if_neg z2, Bool.not_true]
    by_cases h4 : ((a != c.Self) || (c.Epoch == 4294967295)) = true
    · rw [if_pos h4]
      simp only [h4, Bool.true_or, if_true]
    · have h4' := Bool.eq_false_iff.2 h4
      rw [if_neg h4]
      simp only [h4', Bool.false_or]
      simp only [Bool.or_eq_false_iff, bne_eq_false_iff_eq] at h4'
      have ha := h4'.1
      subst ha
      rw [loop_seq (F := fun n => ((((c.Promise.Coord == c.Self) && (c.Promise.Inc == c.Own)) && b_a8_u32 c.Wanted m) && (rest.take n).all (fun x => !badF c m x), ((n + 1 : Nat) : Int))) rest.length (s0 := (_, 1))
        (w := .nx ((((c.Promise.Coord == c.Self) && (c.Promise.Inc == c.Own)) && b_a8_u32 c.Wanted m) && rest.all (fun x => !badF c m x))) (by simp)]
      · simp only [Option.bind_some, Fl.elim]
        have e5 : (if (((c.Promise.Coord != c.Self) || (c.Promise.Inc != c.Own)) || (!(b_a8_u32 c.Wanted m))) = true then false
            else (c.Self :: rest).all fun x => !((((x != c.Self) && (((c.Peers x.toNat).Inc) == (m x.toNat))) && (decide (cmpId (c.Peers x.toNat).Promise c.Promise > 0))))) =
            ((((c.Promise.Coord == c.Self) && (c.Promise.Inc == c.Own)) && b_a8_u32 c.Wanted m) && rest.all (fun x => !badF c m x)) := by
          have e6 : ((c.Self :: rest).all fun x => !((((x != c.Self) && (((c.Peers x.toNat).Inc) == (m x.toNat))) && (decide (cmpId (c.Peers x.toNat).Promise c.Promise > 0))))) = rest.all (fun x => !badF c m x) := by
            rw [List.all_cons]
            simp only [bne_self_eq_false, Bool.false_and, Bool.not_false, Bool.true_and]
            rw [Bool.eq_iff_iff, List.all_eq_true, List.all_eq_true]
            have hne : ∀ x ∈ rest, (x != c.Self) = true := fun x hx => by
              have := (List.pairwise_cons.1 hlt).1 x hx
              simp; omega
            constructor
            · intro h x hx; have := h x hx; simpa [hne x hx, badF] using this
            · intro h x hx; have := h x hx; simpa [hne x hx, badF] using this
          rw [e6]
          have gen : ∀ (A B C R : Bool), (if (((!A) || (!B)) || (!C)) = true then false else R) = (((A && B) && C) && R) := by
            intro A B C R; cases A <;> cases B <;> cases C <;> rfl
          exact gen (c.Promise.Coord == c.Self) (c.Promise.Inc == c.Own) (b_a8_u32 c.Wanted m) _
        rw [e5]
        split <;> rfl
      · intro n hn
        have hl2 : rest.length ≤ 7 := by simpa using hl
        have e7 : IntKind.i64.wrap (((n + 1 : Nat) : Int) + 1) = ((n + 1 + 1 : Nat) : Int) := by rw [w64] <;> omega
        have hlt2 : n + 1 < (c.Self :: rest).length := by simp; omega
        have hg : (c.Self :: rest).getD (n + 1) 0 = rest.getD n 0 := by simp
        obtain ⟨j, hj, hj8, _⟩ := hmem ((c.Self :: rest).getD (n + 1) 0) (getD_in hlt2)
        rw [hg] at hj
        have r1 := cmp_r (c.Peers j).Promise c.Promise
        have e8 : (cmpId (c.Peers j).Promise c.Promise == 1) = decide (cmpId (c.Peers j).Promise c.Promise > 0) := by rw [Bool.eq_iff_iff]; simp only [beq_iff_eq, decide_eq_true_eq]; omega
        simp only
        rw [if_pos (by simp; omega), jn, ib_n hlt2]
        simp only [Option.bind_some, Int.toNat_natCast, hg, hj, ib_n hj8, rcmp_eq, e7, take_s (d := (0 : Int)) hn, List.all_append, List.all_cons, List.all_nil, Bool.and_true]
        have hb : badF c m (rest.getD n 0) = (((c.Peers j).Inc == m j) && (cmpId (c.Peers j).Promise c.Promise == 1)) := by rw [hj, e8]; rfl
        by_cases h5 : ((c.Peers j).Inc == m j) = true
        · simp only [h5, whn, if_true, Option.bind_some, Bool.true_and]
          by_cases h6 : (cmpId (c.Peers j).Promise c.Promise == 1) = true
          · have hb' : badF c m (j : Int) = true := by rw [← hj, hb, h5, h6]; rfl
            rw [if_pos h6]; simp only [hb', Bool.not_true, Bool.and_false]
          · have hb' : badF c m (j : Int) = false := by rw [← hj, hb, h5, Bool.eq_false_iff.2 h6]; rfl
            rw [if_neg h6]; simp only [hb', Bool.not_false, Bool.and_true]
        · have h5' := Bool.eq_false_iff.2 h5
          have hb' : badF c m (j : Int) = false := by rw [← hj, hb, h5']; rfl
          simp only [h5', whn, Bool.false_eq_true, if_false, Option.bind_some, Bool.false_and, hb', Bool.not_false, Bool.and_true]
      · simp only
        rw [if_neg (by simp), List.take_length]
theorem brefl_peer (x : api_Peer) : b_api_Peer x x = true := by simp [b_api_Peer, breflId, brefl8]
theorem pure_gatherTells (a0 : api_Core) (a1 : api_Packet) (a2 : (Nat → Int)) (w0 : w_api_Core a0) (w1 : w_api_Packet a1) (w2 : ∀ j, j < 8 → (Lit.int .u32 (a2 j)).wf = true) : congresslaw12_GatherTells a0 a1 a2 = some true := by
  unfold congresslaw12_GatherTells
  by_cases hs : ((decide (a0.Self < 0)) || (decide (a0.Self > 7))) = true
  · rw [if_pos hs]; simp only [fixed_eq, Option.bind_some]
  rw [if_neg hs]
  simp only [Bool.or_eq_true, decide_eq_true_eq, not_or] at hs
  have hW := w0.2.2.2.2.2.2.2.2.2.1
  have hE := wf_u32.1 w0.2.2.2.2.2.2.2.2.2.2.2.2.2
  have hC := wf_u32.1 w0.2.2.2.2.2.2.2.2.1.2.1
  have hCut : Nat8 a0.Cut := fun j hj => (wf_u32.1 (w0.2.2.2.2.2.2.2.2.2.2.1 j hj)).1
  rw [ib_t (by omega) (by omega)]
  simp only [Option.bind_some, prop_eq, rprop_eq a0 a2 w0 w2 hE hC (by omega), adopt_eq, radopt_eq, fixed_eq, upd_eq, rupd_eq, all_eq, rall_eq a0 w0 hW, target_eq, rtarget_eq a0 w0 hW, done_eq, rdone_eq a0 w0 hW, whn, if_true, brefl_peer, breflId, beq_self_eq_true, Bool.and_self, Bool.and_true, target_same a0 hCut, lt]
end Go.Proofs.Yteajgbkgijaebaa
