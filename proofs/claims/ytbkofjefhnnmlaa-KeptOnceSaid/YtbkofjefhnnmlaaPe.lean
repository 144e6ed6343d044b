/- Pure laws of chapter 10: each frame is taken once, and the last three stay. Conditions: none. -/
import Derived.Test.YtbkofjefhnnmlaaPc
set_option linter.unusedVariables false
set_option linter.unusedSimpArgs false
namespace Go.Proofs.Ytbkofjefhnnmlaa
open Go.Eng
/-- The rounds that are kept where so many were taken. -/
def rl (n : Nat) : _root_.List Int := if n = 0 then [] else if n = 1 then [1] else if n = 2 then [1, 2] else [(n : Int) - 2, (n : Int) - 1, (n : Int)]
theorem rl_len (n : Nat) : (rl n).length = min n 3 := by
  unfold rl
  split
  · simp; omega
  · split
    · simp; omega
    · split
      · simp; omega
      · simp; omega
theorem rl_in (n r : Nat) (h : 1 ≤ r ∧ r ≤ n) : (r : Int) ∈ rl n ↔ n < r + 3 := by
  unfold rl
  split
  · omega
  · split
    · simp; omega
    · split
      · simp; omega
      · simp; omega
def dB (d : Nat) (y : api_Kept) : Bool := y.From == (d : Int)
def rds (k : Tab) (d : Nat) : _root_.List Int := (k.filter (dB d)).map (·.Round)
/-- What is kept, of each member. -/
def Inv (k : Tab) (cn : Nat → Nat) (s : Nat) : Prop := (∀ d, d < 8 → rds k d = rl (cn d)) ∧ (∀ y ∈ k, ∃ d : Nat, d < 8 ∧ y.From = (d : Int)) ∧ (∀ d, cn d ≤ s) ∧ k.length ≤ s
def bump (cn : Nat → Nat) (d : Nat) : Nat → Nat := fun j => if j = d then cn d + 1 else cn j
theorem and7 {d : Nat} (h : d < 8) : iand .i64 (d : Int) 7 = (d : Int) := by
  match d, h with
  | 0, _ => decide
  | 1, _ => decide
  | 2, _ => decide
  | 3, _ => decide
  | 4, _ => decide
  | 5, _ => decide
  | 6, _ => decide
  | 7, _ => decide
theorem map_filter_r (l : Tab) (p : api_Kept → Bool) (q : Int → Bool) (h : ∀ y ∈ l, p y = q y.Round) : (l.filter p).map (·.Round) = (l.map (·.Round)).filter q := by
  induction l with
  | nil => rfl
  | cons a l ih =>
    have ih' := ih (fun y hy => h y (by simp [hy]))
    have ha := h a (by simp)
    simp only [List.map_cons]
    by_cases hp : p a = true
    · rw [List.filter_cons_of_pos hp, List.filter_cons_of_pos (by rw [← ha]; exact hp), List.map_cons, ih']
    · rw [List.filter_cons_of_neg hp, List.filter_cons_of_neg (by rw [← ha]; exact hp), ih']
/-- One that is taken. -/
theorem take_inv {k : Tab} {cn : Nat → Nat} {s : Nat} {x : api_Kept} {d : Nat} (h : Inv k cn s) (hs : s ≤ 1000) (hd : d < 8) (hx : x.From = (d : Int)) (hr : x.Round = ((cn d + 1 : Nat) : Int)) :
    Inv (k.filter (fun y => !oldB x y) ++ [x]) (bump cn d) (s + 1) := by
  obtain ⟨h1, h2, h3, h4⟩ := h
  have hcd := h3 d
  refine ⟨fun e he => ?_, fun y hy => ?_, fun j => ?_, ?_⟩
  · unfold rds
    rw [List.filter_append, List.map_append, List.filter_filter]
    by_cases hed : e = d
    · subst hed
      have e1 : ((k.filter fun a => dB e a && !oldB x a).map (·.Round)) = ((k.filter (dB e)).map (·.Round)).filter (fun r => !(decide (x.Round ≥ 3) && decide (r ≤ IntKind.u32.wrap (x.Round - 3)))) := by
        rw [← map_filter_r (k.filter (dB e)) (fun a => !oldB x a) (fun r => !(decide (x.Round ≥ 3) && decide (r ≤ IntKind.u32.wrap (x.Round - 3)))) ?_, List.filter_filter]
        · congr 1
          apply List.filter_congr
          intro y _
          rw [Bool.and_comm]
        · intro y hy
          have hy' := (List.mem_filter.1 hy).2
          simp only [dB, beq_iff_eq] at hy'
          have : (y.From == x.From) = true := by rw [hy', hx]; simp
          simp only [oldB, this, Bool.true_and]
      rw [e1, show (k.filter (dB e)).map (·.Round) = rl (cn e) from h1 e he]
      have e2 : ([x].filter (dB e)).map (·.Round) = [x.Round] := by
        rw [List.filter_cons_of_pos (by simp [dB, hx])]; rfl
      rw [e2, hr]
      have e3 : bump cn e e = cn e + 1 := by simp [bump]
      rw [e3]
      generalize cn e = n at hcd
      by_cases h0 : n = 0
      · subst h0; decide
      by_cases h1 : n = 1
      · subst h1; decide
      have e4 : IntKind.u32.wrap (((n + 1 : Nat) : Int) - 3) = (n : Int) - 2 := by rw [w32]; omega
      have e5 : decide (((n + 1 : Nat) : Int) ≥ 3) = true := by simp; omega
      rw [e4, e5]
      by_cases h2 : n = 2
      · subst h2; decide
      have f1 : rl n = [(n : Int) - 2, (n : Int) - 1, (n : Int)] := by simp [rl, h0, h1, h2]
      have f2 : rl (n + 1) = [((n + 1 : Nat) : Int) - 2, ((n + 1 : Nat) : Int) - 1, ((n + 1 : Nat) : Int)] := by
        unfold rl; rw [if_neg (by omega), if_neg (by omega), if_neg (by omega)]
      rw [f1, f2, List.filter_cons_of_neg (by simp), List.filter_cons_of_pos (by simp), List.filter_cons_of_pos (by simp; omega)]
      simp only [List.filter_nil, List.cons_append, List.nil_append, List.cons.injEq, and_true]
      omega
    · have e1 : (k.filter fun a => dB e a && !oldB x a) = k.filter (dB e) := by
        apply List.filter_congr
        intro y _
        by_cases hy : dB e y = true
        · have hy' := hy
          simp only [dB, beq_iff_eq] at hy'
          have : (y.From == x.From) = false := by rw [hy', hx]; simp; omega
          simp only [oldB, this, Bool.false_and, Bool.not_false, Bool.and_true]
        · simp [hy]
      have e2 : [x].filter (dB e) = [] := by rw [List.filter_cons_of_neg (by simp [dB, hx]; omega)]; rfl
      rw [e1, e2]
      simp only [List.map_nil, List.append_nil, bump, if_neg hed]
      exact h1 e he
  · rcases List.mem_append.1 hy with hy | hy
    · exact h2 y (List.mem_filter.1 hy).1
    · simp at hy; subst hy; exact ⟨d, hd, hx⟩
  · unfold bump
    split
    · omega
    · have := h3 j; omega
  · have := List.length_filter_le (fun y => !oldB x y) k
    have e : (k.filter (fun y => !oldB x y) ++ [x]).length = (k.filter (fun y => !oldB x y)).length + 1 := by simp
    omega
theorem room_small' {t : Tab} {s : Nat} (h : t.length ≤ s) (hs : s ≤ 1000) : Room 0 t := by unfold Room; omega
theorem inv0 : Inv [] (fun _ => 0) 0 := ⟨fun d _ => rfl, fun y hy => by simp at hy, fun _ => Nat.le_refl _, Nat.le_refl _⟩
theorem Inv.up {k : Tab} {cn : Nat → Nat} {s : Nat} (h : Inv k cn s) : Inv k cn (s + 1) := ⟨h.1, h.2.1, fun d => Nat.le_succ_of_le (h.2.2.1 d), Nat.le_succ_of_le h.2.2.2⟩
theorem get_has (k : Tab) (d : Nat) (r : Int) : (getF k (d : Int) r).2 = true ↔ r ∈ rds k d := by
  unfold getF rds
  constructor
  · intro h
    cases hq : k.find? (isB (d : Int) r) with
    | none => rw [hq] at h; cases h
    | some y =>
      have h1 := List.mem_of_find?_eq_some hq
      have h2 := List.find?_some hq
      simp only [isB, Bool.and_eq_true, beq_iff_eq] at h2
      exact List.mem_map.2 ⟨y, List.mem_filter.2 ⟨h1, by simp [dB, h2.1]⟩, h2.2⟩
  · intro h
    obtain ⟨y, hy, rfl⟩ := List.mem_map.1 h
    obtain ⟨h1, h2⟩ := List.mem_filter.1 hy
    simp only [dB, beq_iff_eq] at h2
    cases hq : k.find? (isB (d : Int) y.Round) with
    | none =>
      rw [List.find?_eq_none] at hq
      have := hq y h1
      simp [isB, h2] at this
    | some z => rfl
def sum8 (f : Nat → Nat) : Nat := f 0 + f 1 + f 2 + f 3 + f 4 + f 5 + f 6 + f 7
theorem len8 : ∀ (k : Tab), (∀ y ∈ k, ∃ d : Nat, d < 8 ∧ y.From = (d : Int)) → k.length = sum8 (fun d => (rds k d).length)
  | [], _ => rfl
  | y :: k, h => by
    have ih := len8 k (fun z hz => h z (by simp [hz]))
    obtain ⟨d, hd, hy⟩ := h y (by simp)
    have step : ∀ e, (rds (y :: k) e).length = (rds k e).length + (if e = d then 1 else 0) := by
      intro e
      unfold rds
      by_cases he : e = d
      · subst he
        rw [List.filter_cons_of_pos (by simp [dB, hy])]; simp
      · rw [List.filter_cons_of_neg (by simp [dB, hy]; omega)]; simp [he]
    rw [List.length_cons, ih]
    simp only [sum8, step]
    match d, hd with
    | 0, _ => simp; omega
    | 1, _ => simp; omega
    | 2, _ => simp; omega
    | 3, _ => simp; omega
    | 4, _ => simp; omega
    | 5, _ => simp; omega
    | 6, _ => simp; omega
    | 7, _ => simp; omega
def upto (f : Nat → Nat) : Nat → Nat
  | 0 => 0
  | d + 1 => upto f d + f d
theorem upto8 (f : Nat → Nat) : upto f 8 = sum8 f := by simp [upto, sum8]
theorem upto_le (f : Nat → Nat) (h : ∀ d, f d ≤ 3) : ∀ n, upto f n ≤ 3 * n
  | 0 => by simp [upto]
  | n + 1 => by have := upto_le f h n; have := h n; simp only [upto]; omega
theorem pure_keptOnce (a0 : (Nat → Int)) (a1 : (_root_.List api_Kept)) (w0 : ∀ j, j < 8 → (Lit.int .u32 (a0 j)).wf = true) (w1 : (a1.length ≤ maxLen ∧ a1.length * 352 ≤ 140737488351232) ∧ ∀ j, j < a1.length → w_api_Kept (a1.getD j z_api_Kept)) : congresslaw10_KeptOnce a0 a1 = some true := by
  have hb := big8
  have hm := maxLen_le
  unfold congresslaw10_KeptOnce
  obtain ⟨w, hw, k, cn, hwe, hinv⟩ := loop_count (σ := Int × _root_.List api_Kept × (Nat → Int) × (Nat → Int)) (ω := Fl (Bool) (_root_.List api_Kept × (Nat → Int) × (Nat → Int))) (body := fun (x1 : Int × _root_.List api_Kept × (Nat → Int) × (Nat → Int)) =>
    if ((decide (x1.1 < (a1.length : Int))) && (decide (x1.1 < 200))) then
      (ib x1.1 a1.length).bind fun _ =>
      (kept_Take x1.2.1 x1.2.2.1 a0 (a1.getD x1.1.toNat z_api_Kept)).bind fun v4 =>
      jn (fun x18 : (Nat → Int) =>
        (ib x1.1 a1.length).bind fun _ =>
        (congressref10_Is a0 ((a1.getD x1.1.toNat z_api_Kept).From)).bind fun v20 =>
        (whn ((!(v4.2.2 != (v20 && (!(b_a8_u32 v4.2.1 x1.2.2.1))))) && (!v4.2.2)) (congressref10_Same v4.1 x1.2.1) false).bind fun v22 =>
        lt (((v4.2.2 != (v20 && (!(b_a8_u32 v4.2.1 x1.2.2.1)))) || ((!v4.2.2) && (!v22))) : Bool) fun v24 =>
        if v24 then
          some (.done (.rt false))
        else
          some (.next ((IntKind.i64.wrap (x1.1 + 1)), v4.1, v4.2.1, x18))) fun j6 =>
      if v4.2.2 then
        (ib x1.1 a1.length).bind fun _ =>
        (ib (iand .i64 ((a1.getD x1.1.toNat z_api_Kept).From) 7) 8).bind fun _ =>
        (ib (iand .i64 ((a1.getD x1.1.toNat z_api_Kept).From) 7) 8).bind fun _ =>
        lt (aupd x1.2.2.2 ((iand .i64 ((a1.getD x1.1.toNat z_api_Kept).From) 7).toNat) (IntKind.u32.wrap ((x1.2.2.2 ((iand .i64 ((a1.getD x1.1.toNat z_api_Kept).From) 7).toNat)) + 1)) : (Nat → Int)) fun v10 =>
        (ib x1.1 a1.length).bind fun _ =>
        (congressref10_Is a0 ((a1.getD x1.1.toNat z_api_Kept).From)).bind fun v12 =>
        (ibg (!(!v12)) x1.1 a1.length).bind fun _ =>
        (ibg (!(!v12)) x1.1 a1.length).bind fun _ =>
        (ibg (!(!v12)) (iand .i64 ((a1.getD x1.1.toNat z_api_Kept).From) 7) 8).bind fun _ =>
        lt (((!v12) || (((a1.getD x1.1.toNat z_api_Kept).Round) != (v10 ((iand .i64 ((a1.getD x1.1.toNat z_api_Kept).From) 7).toNat)))) : Bool) fun v17 =>
        if v17 then
          some (.done (.rt false))
        else
          j6 (v10)
      else
        j6 (x1.2.2.2)
    else
      some (.done (.nx (x1.2.1, x1.2.2.1, x1.2.2.2)))) (fun n st => ∃ cn : Nat → Nat, st.1 = (n : Int) ∧ Inv st.2.1 cn n ∧ st.2.2.1 = (fun j => ((cn j : Nat) : Int)) ∧ st.2.2.2 = (fun j => ((cn j : Nat) : Int)))
      (fun w => ∃ (k : Tab) (cn : Nat → Nat), w = .nx (k, (fun j => ((cn j : Nat) : Int)), (fun j => ((cn j : Nat) : Int))) ∧ Inv k cn 200) (min a1.length 200) (s0 := (0, ([] : _root_.List api_Kept), (aset (fun _ => 0) []), (aset (fun _ => 0) [])))
    ⟨fun _ => 0, rfl, inv0, rfl, rfl⟩
    (fun n st hn hs => by
      obtain ⟨i, k, c, nx⟩ := st
      obtain ⟨cn, rfl, hinv, rfl, rfl⟩ := hs
      simp only at hinv
      left
      have hn' : n < a1.length := by omega
      have hroom : Room 0 k := room_small' hinv.2.2.2 (by omega)
      have e1 : IntKind.i64.wrap ((n : Int) + 1) = ((n + 1 : Nat) : Int) := by rw [w64 (by omega) (by omega)]; rfl
      simp only
      rw [if_pos (by simp; omega), ib_n hn']
      simp only [Option.bind_some, Int.toNat_natCast, take_eq _ _ _ _ hroom (by omega), is_eq, lt, jn, e1]
      by_cases hnx : nextB (fun j => ((cn j : Nat) : Int)) a0 (a1.getD n z_api_Kept) = true
      · have hk := hnx
        simp only [nextB, Bool.and_eq_true, beq_iff_eq] at hk
        obtain ⟨⟨hmem, hne⟩, hrd⟩ := hk
        have hin := memB_in hmem
        obtain ⟨d, hd⟩ : ∃ d : Nat, (a1.getD n z_api_Kept).From = (d : Int) := ⟨(a1.getD n z_api_Kept).From.toNat, by omega⟩
        have hd8 : d < 8 := by omega
        have hcd := hinv.2.2.1 d
        have hw : IntKind.u32.wrap (((cn d : Nat) : Int) + 1) = ((cn d + 1 : Nat) : Int) := by rw [w32]; omega
        rw [hd, Int.toNat_natCast, hw] at hrd
        have ht : takeF k (fun j => ((cn j : Nat) : Int)) a0 (a1.getD n z_api_Kept) = (k.filter (fun y => !oldB (a1.getD n z_api_Kept) y) ++ [a1.getD n z_api_Kept], (fun j => ((bump cn d j : Nat) : Int)), true) := by
          unfold takeF
          rw [if_pos hnx, hd, hrd, Int.toNat_natCast]
          congr 2
          funext j
          simp only [aupd, bump]
          split <;> rfl
        have hu : aupd (fun j => ((cn j : Nat) : Int)) d ((cn d + 1 : Nat) : Int) = fun j => ((bump cn d j : Nat) : Int) := by
          funext j
          simp only [aupd, bump]
          split <;> rfl
        have hbm : ((bump cn d d : Nat) : Int) = ((cn d + 1 : Nat) : Int) := by simp [bump]
        have hdiff : b_a8_u32 (fun j => ((bump cn d j : Nat) : Int)) (fun j => ((cn j : Nat) : Int)) = false := by
          rw [Bool.eq_false_iff]
          intro q
          have := all8.1 q d hd8
          simp only [bump, if_true] at this
          omega
        have hib : ∀ g, ibg g (n : Int) a1.length = some () := fun g => ibg_t fun _ => by omega
        have hib2 : ∀ g, ibg g (d : Int) 8 = some () := fun g => ibg_t fun _ => by omega
        simp only [ht, if_true, hd, and7 hd8, ib_n hd8, Option.bind_some, Int.toNat_natCast, hw, hu]
        have hmem' : memB a0 (d : Int) = true := hd ▸ hmem
        simp only [hmem', Bool.not_true, Bool.not_false, hib, hib2, Option.bind_some, Bool.false_or, hrd, hbm, bne_self_eq_false, Bool.false_eq_true, if_false, hdiff, Bool.and_true, Bool.and_self, Bool.and_false, whn, Bool.or_self, Bool.false_and]
        refine ⟨_, rfl, bump cn d, rfl, ?_, rfl, rfl⟩
        exact take_inv hinv (by omega) hd8 hd hrd
      · have hnx' := Bool.eq_false_iff.2 hnx
        have ht : takeF k (fun j => ((cn j : Nat) : Int)) a0 (a1.getD n z_api_Kept) = (k, (fun j => ((cn j : Nat) : Int)), false) := by
          unfold takeF
          rw [if_neg hnx]
        simp only [ht, Bool.false_eq_true, if_false, brefl8, Bool.not_true, Bool.and_false, bne_self_eq_false, Bool.not_false, Bool.and_self, whn, if_true, same_eq k (hroom.len (by omega)), Option.bind_some, Bool.or_self, Bool.false_or]
        exact ⟨_, rfl, cn, rfl, hinv.up, rfl, rfl⟩)
    (fun st hs => by
      obtain ⟨i, k, c, nx⟩ := st
      obtain ⟨cn, rfl, hinv, rfl, rfl⟩ := hs
      refine ⟨_, by simp only; rw [if_neg (by simp; omega)], k, cn, rfl, hinv.1, hinv.2.1, fun d => Nat.le_trans (hinv.2.2.1 d) (by omega), Nat.le_trans hinv.2.2.2 (by omega)⟩)
  rw [hw]
  subst hwe
  obtain ⟨i1, i2, i3, i4⟩ := hinv
  have hroom : Room 0 k := room_small' i4 (by omega)
  simp only [Option.bind_some, Fl.elim, fixed_eq, brefl8, Bool.not_true, Bool.or_self, Bool.false_eq_true, if_false]
  have inner : ∀ (d : Nat), d < 8 → ∀ (h0 : Nat), h0 ≤ 24 → loop (ω := Fl (Bool) (Int)) (fun (x30 : Int × Int) =>
            (ib (d : Int) 8).bind fun _ =>
            if (decide (x30.2 ≤ ((cn (d : Int).toNat : Nat) : Int))) then
              jn (fun x38 : Int =>
                some (.next (x38, (IntKind.u32.wrap (x30.2 + 1))))) fun j33 =>
              (kept_Get k (d : Int) x30.2).bind fun v34 =>
              (ib (d : Int) 8).bind fun _ =>
              lt ((v34.2 != (decide ((IntKind.u32.wrap (x30.2 + 3)) > ((cn (d : Int).toNat : Nat) : Int)))) : Bool) fun v37 =>
              if v37 then
                some (.done (.rt false))
              else
                if v34.2 then
                  j33 ((IntKind.i64.wrap (x30.1 + 1)))
                else
                  j33 (x30.1)
            else
              some (.done (.nx (x30.1)))) ((h0 : Int), 1) = some (.nx ((h0 + min (cn d) 3 : Nat) : Int)) := by
    intro d hd h0 hh0
    have hcd := i3 d
    rw [loop_seq (F := fun t => (((h0 + (t - (cn d - 3)) : Nat) : Int), ((t + 1 : Nat) : Int))) (cn d) (s0 := ((h0 : Int), 1)) (w := .nx ((h0 + min (cn d) 3 : Nat) : Int)) (by simp)]
    · intro t ht
      have e1 : IntKind.u32.wrap (((t + 1 : Nat) : Int) + 1) = ((t + 1 + 1 : Nat) : Int) := by rw [w32]; omega
      have e2 : IntKind.u32.wrap (((t + 1 : Nat) : Int) + 3) = ((t + 1 + 3 : Nat) : Int) := by rw [w32]; omega
      have e3 : decide ((((t + 1 + 3 : Nat) : Int)) > ((cn d : Nat) : Int)) = decide (cn d < t + 1 + 3) := by rw [decide_eq_decide]; omega
      have hg : (getF k (d : Int) ((t + 1 : Nat) : Int)).2 = decide (cn d < t + 1 + 3) := by
        rw [Bool.eq_iff_iff, get_has, i1 d hd, decide_eq_true_eq]
        exact rl_in (cn d) (t + 1) (by omega)
      simp only
      rw [ib_n hd]
      simp only [Option.bind_some, Int.toNat_natCast]
      rw [if_pos (by simp; omega), jn, get_eq _ _ _ (hroom.len (by omega))]
      simp only [Option.bind_some, lt, e1, e2, e3, hg, bne_self_eq_false, Bool.false_eq_true, if_false]
      by_cases hq : cn d < t + 1 + 3
      · rw [if_pos (by simpa using hq), w64 (by omega) (by omega)]
        have : ((h0 + (t - (cn d - 3)) : Nat) : Int) + 1 = ((h0 + (t + 1 - (cn d - 3)) : Nat) : Int) := by omega
        rw [this]
      · rw [if_neg (by simpa using hq)]
        have : ((h0 + (t - (cn d - 3)) : Nat) : Int) = ((h0 + (t + 1 - (cn d - 3)) : Nat) : Int) := by omega
        rw [this]
    · simp only
      rw [ib_n hd]
      simp only [Option.bind_some, Int.toNat_natCast]
      rw [if_neg (by simp; omega)]
      have : h0 + (cn d - (cn d - 3)) = h0 + min (cn d) 3 := by omega
      rw [this]
  have hu3 : ∀ d, min (cn d) 3 ≤ 3 := fun d => Nat.min_le_right _ _
  rw [loop_seq (F := fun n => (((upto (fun d => min (cn d) 3) n : Nat) : Int), (n : Int))) 8 (s0 := (0, 0)) (w := .nx ((upto (fun d => min (cn d) 3) 8 : Nat) : Int)) rfl]
  · simp only [Option.bind_some, Fl.elim]
    rw [upto8, len8 k i2]
    have : sum8 (fun d => (rds k d).length) = sum8 (fun d => min (cn d) 3) := by
      simp only [sum8, i1 0 (by omega), i1 1 (by omega), i1 2 (by omega), i1 3 (by omega), i1 4 (by omega), i1 5 (by omega), i1 6 (by omega), i1 7 (by omega), rl_len]
    rw [this]; simp
  · intro n hn
    have e1 : IntKind.i64.wrap ((n : Int) + 1) = ((n + 1 : Nat) : Int) := by rw [w64 (by omega) (by omega)]; rfl
    have hle := upto_le (fun d => min (cn d) 3) hu3 n
    simp only
    rw [if_pos (by simp; omega), inner n hn _ (by omega)]
    simp only [Option.bind_some, Fl.elim, e1, upto]
  · rfl
end Go.Proofs.Ytbkofjefhnnmlaa
