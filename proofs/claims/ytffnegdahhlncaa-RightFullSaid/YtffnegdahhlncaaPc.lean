/- What the functions of chapter 16 answer, in closed form. Conditions: none. -/
import Derived.Test.YtffnegdahhlncaaIn
import Derived.Test.YtffnegdahhlncaaEngW
set_option linter.unusedVariables false
set_option linter.unusedSimpArgs false
namespace Go.Proofs.Ytffnegdahhlncaa
open Go.Eng
abbrev Tab := _root_.List api_Right
def Room (t : Tab) : Prop := t.length ≤ maxLen ∧ t.length * 32 ≤ 140737488351232
def gv (n : Int) : Bool := decide (n ≥ 1) && decide (n ≤ 7)
def findF (t : Tab) (h : Int) : Int := fidx t z_api_Right (fun r => r.Handle == h)
theorem gives_eq (n : Int) : right_gives n = some (gv n) := rfl
theorem find_eq (t : Tab) (h : Int) (hl : t.length ≤ maxLen) : right_find t h = some (findF t h) := by
  have : slices_IndexFunc_api_Right_api_Right t (fun z0 => right_find_1 z0 h) = idxG z_api_Right t (fun z0 => right_find_1 z0 h) := rfl
  rw [right_find, this, idxG_eq z_api_Right t (fun z0 => right_find_1 z0 h) (fun r => r.Handle == h) (fun x => rfl) hl]; rfl
theorem rfind_eq (t : Tab) (h : Int) (hl : t.length ≤ maxLen) : congressref16_Find t h = some (findF t h) := by
  have hm := maxLen_le
  unfold congressref16_Find
  rw [loop_find t.length (fun i => (t.getD i z_api_Right).Handle == h) (fun i => (i : Int))]
  · unfold findF fidx
    cases (List.range t.length).find? (fun i => (t.getD i z_api_Right).Handle == h) <;> rfl
  · intro n hn
    rw [if_pos (by simp; omega), ib_n hn]
    simp only [Option.bind_some, Int.toNat_natCast]
    split
    · rfl
    · rw [w64 (by omega) (by omega)]; rfl
  · rw [if_neg (by simp)]
theorem clone_eq (t : Tab) (h : Room t) : slices_Clone_api_Right_api_Right t = some t := by
  have : slices_Clone_api_Right_api_Right t = cloneG 32 t := rfl
  rw [this, cloneG_eq h.1 (by have := h.2; omega)]
def getF (t : Tab) (h : Int) : Option api_Right := t.find? (fun r => r.Handle == h)
theorem findF_spec (t : Tab) (h : Int) : (findF t h = -1 ∧ getF t h = none) ∨ ∃ i : Nat, i < t.length ∧ findF t h = i ∧ getF t h = some (t.getD i z_api_Right) ∧ (t.getD i z_api_Right).Handle = h ∧ ∀ j, j < i → (t.getD j z_api_Right).Handle ≠ h := by
  rcases fidx_spec t z_api_Right (fun r => r.Handle == h) with ⟨h1, h2, h3⟩ | ⟨i, h1, h2, h3, h4, h5⟩
  · exact .inl ⟨h1, h2⟩
  · exact .inr ⟨i, h1, h2, h4, by simpa using h3, fun j hj => by simpa using h5 j hj⟩
theorem big16 : (16 : Nat) ≤ maxLen := by decide
/-- What is minted. -/
def mintF (t : Tab) (h s g : Int) : Tab × Int :=
  if (h == 0 || !gv g || (getF t h).isSome) = true then ([], 1) else if 16 ≤ t.length then ([], 161) else (t ++ [{ Handle := h, Session := s, Give := g, Revoked := false }], 0)
theorem find_ge (t : Tab) (h : Int) : decide (findF t h ≥ 0) = (getF t h).isSome := by
  rcases findF_spec t h with ⟨h1, h2⟩ | ⟨i, h1, h2, h3, _⟩
  · rw [h1, h2]; rfl
  · rw [h2, h3]; simp
theorem find_lt (t : Tab) (h : Int) : decide (findF t h < 0) = (getF t h).isNone := by
  rcases findF_spec t h with ⟨h1, h2⟩ | ⟨i, h1, h2, h3, _⟩
  · rw [h1, h2]; rfl
  · rw [h2, h3]; simp
theorem mint_eq (t : Tab) (h s g : Int) (hr : Room t) : right_Mint t h s g = some (mintF t h s g) := by
  unfold right_Mint mintF
  by_cases h0 : (h == 0) = true
  · simp [h0, whn]
  · have h0' : (h == 0) = false := by simpa using h0
    simp only [h0', Bool.not_false, Bool.false_or]
    rw [show whn true (right_gives g) false = some (gv g) from rfl]
    simp only [Option.bind_some]
    by_cases hg : gv g = true
    · simp only [hg, Bool.not_true, Bool.not_false, Bool.false_or]
      rw [show whn true (right_find t h) 0 = right_find t h from rfl, find_eq t h hr.1]
      simp only [Option.bind_some, find_ge]
      split
      · rfl
      · by_cases hl : 16 ≤ t.length
        · rw [if_pos (by simp; omega), if_pos hl]
        · rw [if_neg (by simp; omega), if_neg hl, clone_eq t hr]
          simp only [Option.bind_some]
          rw [fit_t (by have := big16; simp; omega) (by simp; omega)]
          rfl
    · have hg' : gv g = false := by simpa using hg
      simp [hg', whn]
theorem rmint_eq (t : Tab) (h s g : Int) (hr : Room t) : congressref16_Mint t h s g = some (mintF t h s g) := by
  unfold congressref16_Mint mintF
  by_cases h0 : (h == 0) = true
  · simp [h0, whn, lt]
  · have h0' : (h == 0) = false := by simpa using h0
    simp only [h0', Bool.not_false, Bool.false_or]
    rw [show whn true (congressref16_Find t h) 0 = congressref16_Find t h from rfl, rfind_eq t h hr.1]
    simp only [Option.bind_some, find_ge, lt]
    have e1 : ((((getF t h).isSome || decide (g < 1)) || decide (g > 7))) = (!gv g || (getF t h).isSome) := by
      unfold gv
      by_cases a : g < 1 <;> by_cases b : g > 7 <;> cases (getF t h).isSome <;> simp [a, b] <;> omega
    rw [e1]
    split
    · rfl
    · by_cases hl : 16 ≤ t.length
      · rw [if_pos (by simp; omega), if_pos hl]
      · rw [if_neg (by simp; omega), if_neg hl]
        simp only [List.nil_append]
        rw [fit_t hr.1 (by have := hr.2; omega)]
        simp only [Option.bind_some]
        rw [fit_t (by have := big16; simp; omega) (by simp; omega)]
        rfl

/-- What is shown. -/
def hasB (give want : Int) : Bool := gv want && (iand .i64 give want == want)
def checkF (t : Tab) (h want : Int) : Int × Int :=
  match getF t h with
  | none => (0, 160)
  | some r => if (!r.Revoked && hasB r.Give want) = true then (r.Session, 0) else (0, 160)

theorem bv_sub (x y : BitVec 64) : (x &&& ~~~y = 0#64) ↔ (y &&& x = x) := by
  constructor
  · intro h
    apply BitVec.eq_of_getLsbD_eq
    intro i hi
    have := congrArg (fun z => z.getLsbD i) h
    simp [hi] at this
    rw [BitVec.getLsbD_eq_getElem hi, BitVec.getLsbD_eq_getElem hi, BitVec.getElem_and]
    cases hx : x[i] with
    | false => simp
    | true => simp [this hx]
  · intro h
    apply BitVec.eq_of_getLsbD_eq
    intro i hi
    have := congrArg (fun z => z.getLsbD i) h
    simp only [BitVec.getLsbD_eq_getElem hi, BitVec.getElem_and] at this
    simp [hi]
    intro hx
    rw [hx] at this
    simpa using this
theorem want_cases {w : Int} (h : gv w = true) : w = 1 ∨ w = 2 ∨ w = 3 ∨ w = 4 ∨ w = 5 ∨ w = 6 ∨ w = 7 := by
  simp [gv] at h; omega
theorem wrap_nat {n : Nat} (h : n ≤ 7) : IntKind.i64.wrap (n : Int) = n := w64 (by omega) (by omega)
theorem asks {w g : Int} (h : gv w = true) : (iandNot .i64 w g != 0) = (iand .i64 g w != w) := by
  have hx : ∃ k : Nat, w = k ∧ k ≤ 7 ∧ (BitVec.ofInt 64 w).toNat = k := by
    rcases want_cases h with h | h | h | h | h | h | h <;> subst h <;> exact ⟨_, rfl, by decide, by decide⟩
  obtain ⟨k, hk, hk7, hkn⟩ := hx
  have b := bv_sub (BitVec.ofInt 64 w) (BitVec.ofInt 64 g)
  have l1 : (BitVec.ofInt 64 w &&& ~~~BitVec.ofInt 64 g).toNat ≤ 7 := by
    rw [BitVec.toNat_and]; exact Nat.le_trans Nat.and_le_left (by omega)
  have l2 : (BitVec.ofInt 64 g &&& BitVec.ofInt 64 w).toNat ≤ 7 := by
    rw [BitVec.toNat_and]; exact Nat.le_trans Nat.and_le_right (by omega)
  have e3 : iandNot .i64 w g = IntKind.i64.wrap ((BitVec.ofInt 64 w &&& ~~~BitVec.ofInt 64 g).toNat : Int) := rfl
  have e4 : iand .i64 g w = IntKind.i64.wrap ((BitVec.ofInt 64 g &&& BitVec.ofInt 64 w).toNat : Int) := rfl
  rw [e3, e4, wrap_nat l1, wrap_nat l2]
  have e1 : ((BitVec.ofInt 64 w &&& ~~~BitVec.ofInt 64 g).toNat : Int) = 0 ↔ BitVec.ofInt 64 w &&& ~~~BitVec.ofInt 64 g = 0#64 := by
    constructor
    · intro q; apply BitVec.eq_of_toNat_eq; simp only [BitVec.toNat_ofNat]; omega
    · intro q; rw [q]; rfl
  have e2 : ((BitVec.ofInt 64 g &&& BitVec.ofInt 64 w).toNat : Int) = w ↔ BitVec.ofInt 64 g &&& BitVec.ofInt 64 w = BitVec.ofInt 64 w := by
    constructor
    · intro q; apply BitVec.eq_of_toNat_eq; omega
    · intro q; rw [q]; omega
  rw [Bool.eq_iff_iff]
  simp only [bne_iff_ne, ne_eq, e1, e2, b]
theorem check_eq (t : Tab) (h w : Int) (hr : Room t) : right_Check t h w = some (checkF t h w) := by
  unfold right_Check checkF
  rw [find_eq t h hr.1]
  simp only [Option.bind_some]
  rcases findF_spec t h with ⟨h1, h2⟩ | ⟨i, h1, h2, h3, _⟩
  · rw [h1, h2]; rfl
  · rw [h2, h3]
    have hd : decide ((i : Int) < 0) = false := by simp
    simp only [hd, Bool.not_false, Bool.false_or, Int.toNat_natCast]
    rw [ibg_t (fun _ => ⟨by omega, by omega⟩)]
    simp only [Option.bind_some]
    cases hv : (t.getD i z_api_Right).Revoked with
    | true => simp [whn, ibg, lt]
    | false =>
      simp only [Bool.not_false, Bool.false_or]
      rw [show whn true (right_gives w) false = some (gv w) from rfl]
      simp only [Option.bind_some]
      rw [ibg_t (fun _ => ⟨by omega, by omega⟩)]
      simp only [Option.bind_some, lt]
      by_cases hg : gv w = true
      · rw [asks hg, ib_n h1]
        simp only [hg, Bool.not_true, Bool.false_or, hasB, Bool.true_and, Option.bind_some, bne]
        by_cases hq : (iand .i64 (t.getD i z_api_Right).Give w == w) = true
        · simp only [hq, Bool.not_true, Bool.false_eq_true, if_false, if_true]
        · have hq' := Bool.eq_false_iff.2 hq
          simp only [hq', Bool.not_false, if_true, Bool.false_eq_true, if_false]
      · have hg' : gv w = false := by simpa using hg
        simp [hg', hasB]
theorem rcheck_eq (t : Tab) (h w : Int) (hr : Room t) : congressref16_Check t h w = some (checkF t h w) := by
  unfold congressref16_Check checkF
  rw [rfind_eq t h hr.1]
  simp only [Option.bind_some]
  rcases findF_spec t h with ⟨h1, h2⟩ | ⟨i, h1, h2, h3, _⟩
  · rw [h1, h2]; rfl
  · rw [h2, h3]
    have hd : decide ((i : Int) < 0) = false := by simp
    simp only [hd, Bool.not_false, Bool.false_or, Int.toNat_natCast]
    rw [ibg_t (fun _ => ⟨by omega, by omega⟩)]
    simp only [Option.bind_some, lt]
    cases hv : (t.getD i z_api_Right).Revoked with
    | true => simp
    | false =>
      rw [ib_n h1]
      simp only [Bool.false_or, Option.bind_some, Bool.not_false, Bool.true_and]
      have e1 : (decide (w < 1) || decide (w > 7)) = !gv w := by
        unfold gv
        by_cases a : w < 1 <;> by_cases b : w > 7 <;> simp [a, b] <;> omega
      rw [e1]
      by_cases hg : gv w = true
      · simp only [hg, Bool.not_true, Bool.false_eq_true, if_false, hasB, Bool.true_and, bne]
        by_cases hq : (iand .i64 (t.getD i z_api_Right).Give w == w) = true
        · simp only [hq, Bool.not_true, Bool.false_eq_true, if_false, if_true]
        · have hq' := Bool.eq_false_iff.2 hq
          simp only [hq', Bool.not_false, if_true, Bool.false_eq_true, if_false]
      · have hg' : gv w = false := by simpa using hg
        simp [hg', hasB]

/-- What is revoked. -/
def revF (t : Tab) (h : Int) : Tab × Int :=
  match getF t h with
  | none => ([], 160)
  | some r => if r.Revoked = true then ([], 160) else (t.set (findF t h).toNat { t.getD (findF t h).toNat z_api_Right with Revoked := true }, 0)
theorem rev_eq (t : Tab) (h : Int) (hr : Room t) : right_Revoke t h = some (revF t h) := by
  unfold right_Revoke revF
  rw [find_eq t h hr.1]
  simp only [Option.bind_some]
  rcases findF_spec t h with ⟨h1, h2⟩ | ⟨i, h1, h2, h3, _⟩
  · rw [h1, h2]; rfl
  · rw [h2, h3]
    have hd : decide ((i : Int) < 0) = false := by simp
    simp only [hd, Bool.not_false, Bool.false_or, Int.toNat_natCast]
    rw [ibg_t (fun _ => ⟨by omega, by omega⟩)]
    simp only [Option.bind_some]
    split
    · rfl
    · rw [clone_eq t hr]
      simp only [Option.bind_some]
      rw [ib_n h1]; rfl
theorem rrev_eq (t : Tab) (h : Int) (hr : Room t) : congressref16_Revoke t h = some (revF t h) := by
  unfold congressref16_Revoke revF
  rw [rfind_eq t h hr.1]
  simp only [Option.bind_some]
  rcases findF_spec t h with ⟨h1, h2⟩ | ⟨i, h1, h2, h3, _⟩
  · rw [h1, h2]; rfl
  · rw [h2, h3]
    have hd : decide ((i : Int) < 0) = false := by simp
    simp only [hd, Bool.not_false, Bool.false_or, Int.toNat_natCast]
    rw [ibg_t (fun _ => ⟨by omega, by omega⟩)]
    simp only [Option.bind_some]
    split
    · rfl
    · simp only [List.nil_append]
      rw [fit_t hr.1 (by have := hr.2; omega)]
      simp only [Option.bind_some]
      rw [ib_n h1]; rfl
/-- What is dropped. -/
def dropF (t : Tab) (s : Int) : Tab := t.filter fun r => !(r.Session == s)
theorem drop_eq (t : Tab) (s : Int) (hr : Room t) : right_Drop t s = some (dropF t s) := by
  have : ∀ u, slices_DeleteFunc_api_Right_api_Right u (fun z0 => right_Drop_1 z0 s) = delG z_api_Right u (fun z0 => right_Drop_1 z0 s) := fun _ => rfl
  rw [right_Drop, clone_eq t hr]
  simp only [Option.bind_some]
  rw [this, delG_eq z_api_Right t (fun z0 => right_Drop_1 z0 s) (fun r => r.Session == s) (fun _ => rfl) hr.1]; rfl
theorem rdrop_eq (t : Tab) (s : Int) (hr : Room t) : congressref16_Drop t s = some (dropF t s) := by
  have hm := maxLen_le
  have hr1 := hr.1
  unfold congressref16_Drop
  rw [loop_seq (F := fun n => ((n : Int), (t.take n).filter fun r => !(r.Session == s))) t.length (s0 := (0, [])) (w := .nx (dropF t s)) (by simp)]
  · rfl
  · intro n hn
    simp only
    rw [if_pos (by simp; omega), jn, ib_n hn]
    simp only [Option.bind_some, Int.toNat_natCast]
    have e1 : IntKind.i64.wrap ((n : Int) + 1) = ((n + 1 : Nat) : Int) := by rw [w64 (by omega) (by omega)]; rfl
    rw [take_s (d := z_api_Right) hn, List.filter_append]
    by_cases hq : ((t.getD n z_api_Right).Session == s) = true
    · rw [if_neg (by simp only [bne, hq]; simp), e1, List.filter_cons_of_neg (by simp only [hq]; simp)]; simp
    · have hq' : ((t.getD n z_api_Right).Session == s) = false := by simpa using hq
      rw [if_pos (by simp only [bne, hq']; rfl)]
      have hlen : (List.filter (fun r => !(r.Session == s)) (t.take n) ++ [t.getD n z_api_Right]).length ≤ t.length := by
        have := List.length_filter_le (fun r => !(r.Session == s)) (t.take n)
        simp only [List.length_append, List.length_cons, List.length_nil, List.length_take] at this ⊢
        omega
      rw [fit_t (by have := hr.1; omega) (by have := hr.2; omega)]
      simp only [Option.bind_some]
      rw [e1, List.filter_cons_of_pos (by simp only [hq']; simp)]; rfl
  · simp only
    rw [if_neg (by simp)]
    simp only [List.take_length]; rfl
/-- May a table be? -/
def okB (t : Tab) (i : Nat) : Bool := (((t.getD i z_api_Right).Handle == 0) || !gv (t.getD i z_api_Right).Give) || (findF t (t.getD i z_api_Right).Handle != (i : Int))
def mayF (t : Tab) : Bool := ((List.range t.length).all fun i => !okB t i) && decide (t.length ≤ 16)
theorem may_fin (t : Tab) : (if ((List.range t.length).all fun j => !okB t j) = true then (.nx () : Fl Bool Unit) else .rt false).elim (fun _ => some (decide ((t.length : Int) ≤ 16))) (fun r => some r) = some (mayF t) := by
  unfold mayF
  cases (List.range t.length).all fun j => !okB t j with
  | true => simp only [if_true, Fl.elim, Bool.true_and, Option.some.injEq]; simp; omega
  | false => rfl
theorem lit_not (g : Int) : (!gv g) = (decide (g < 1) || decide (g > 7)) := by
  unfold gv
  by_cases a : g < 1 <;> by_cases b : g > 7 <;> simp [a, b] <;> omega
theorem may_eq (t : Tab) (hr : Room t) : right_May t = some (mayF t) := by
  have hm := maxLen_le
  have hr1 := hr.1
  unfold right_May
  rw [scan (okB t) t.length]
  · simp only [Option.bind_some]; exact may_fin t
  · intro n hn
    rw [if_pos (by simp; omega), ib_n hn]
    simp only [Option.bind_some, Int.toNat_natCast, gives_eq, find_eq t _ hr.1, lt, okB]
    rw [w64 (by omega) (by omega)]
    by_cases h0 : ((t.getD n z_api_Right).Handle == 0) = true
    · simp only [h0, Bool.not_true, whn, Bool.false_eq_true, if_false, Bool.true_or, Option.bind_some, if_true]
    · have h0' := Bool.eq_false_iff.2 h0
      simp only [h0', Bool.not_false, whn, if_true, Bool.false_or, Option.bind_some]
      by_cases h1 : gv (t.getD n z_api_Right).Give = true
      · simp only [h1, Bool.not_true, Bool.not_false, if_true, Option.bind_some, Bool.false_or]; rfl
      · have h1' := Bool.eq_false_iff.2 h1
        simp only [h1', Bool.not_true, Bool.not_false, if_true, Option.bind_some, Bool.true_or, Bool.false_eq_true, if_false]
  · rw [if_neg (by simp)]
theorem rmay_eq (t : Tab) (hr : Room t) : congressref16_May t = some (mayF t) := by
  have hm := maxLen_le
  have hr1 := hr.1
  unfold congressref16_May
  rw [scan (okB t) t.length]
  · simp only [Option.bind_some]; exact may_fin t
  · intro n hn
    rw [if_pos (by simp; omega), ib_n hn]
    simp only [Option.bind_some, Int.toNat_natCast, rfind_eq t _ hr.1]
    have hib : ∀ g, ibg g (n : Int) t.length = some () := fun g => ibg_t fun _ => ⟨by omega, by omega⟩
    simp only [hib, Option.bind_some, lt, okB, lit_not]
    rw [w64 (by omega) (by omega)]
    by_cases h0 : ((t.getD n z_api_Right).Handle == 0) = true
    · simp only [h0, Bool.not_true, whn, Bool.false_eq_true, if_false, Bool.true_or, Option.bind_some, if_true]
    · have h0' := Bool.eq_false_iff.2 h0
      by_cases h1 : decide ((t.getD n z_api_Right).Give < 1) = true
      · simp only [h0', h1, Bool.not_true, whn, Bool.false_eq_true, if_false, Bool.true_or, Bool.false_or, Option.bind_some, if_true]
      · have h1' := Bool.eq_false_iff.2 h1
        by_cases h2 : decide ((t.getD n z_api_Right).Give > 7) = true
        · simp only [h0', h1', h2, Bool.not_true, whn, Bool.false_eq_true, if_false, Bool.true_or, Bool.false_or, Option.bind_some, if_true]
        · have h2' := Bool.eq_false_iff.2 h2
          simp only [h0', h1', h2', Bool.not_false, whn, if_true, Bool.false_or, Option.bind_some]; rfl
  · rw [if_neg (by simp)]
theorem same_eq (t : Tab) (hl : t.length ≤ maxLen) : congressref16_Same t t = some true := by
  have hm := maxLen_le
  unfold congressref16_Same
  rw [if_neg (by simp), loop_seq (F := fun n => ((n : Nat) : Int)) t.length (s0 := 0) (w := .nx ()) rfl]
  · rfl
  · intro n hn
    rw [if_pos (by simp; omega), ib_n hn]
    simp only [Option.bind_some, Int.toNat_natCast, lt]
    have : b_api_Right (t.getD n z_api_Right) (t.getD n z_api_Right) = true := by simp [b_api_Right]
    simp only [this, Bool.not_true, Bool.false_eq_true, if_false]
    rw [w64 (by omega) (by omega)]; rfl
  · rw [if_neg (by simp)]
theorem room0 : Room ([] : Tab) := ⟨by simp, by simp⟩
theorem fixed_eq : congresslaw16_fixed = some true := by
  have hr : Room [({ Handle := 9, Session := 1, Give := 6, Revoked := false } : api_Right)] := ⟨by have := big16; simp; omega, by simp⟩
  have hr2 : Room [({ Handle := 9, Session := 1, Give := 6, Revoked := true } : api_Right)] := ⟨by have := big16; simp; omega, by simp⟩
  unfold congresslaw16_fixed
  rw [mint_eq _ _ _ _ room0]
  have e1 : mintF [] 9 1 6 = ([{ Handle := 9, Session := 1, Give := 6, Revoked := false }], 0) := rfl
  rw [e1]
  simp only [Option.bind_some, check_eq _ _ _ hr, rev_eq _ _ hr]
  have e2 : revF [({ Handle := 9, Session := 1, Give := 6, Revoked := false } : api_Right)] 9 = ([{ Handle := 9, Session := 1, Give := 6, Revoked := true }], 0) := rfl
  rw [e2]
  simp only [check_eq _ _ _ hr2, Option.bind_some, may_eq _ hr]
  have e3 : checkF [({ Handle := 9, Session := 1, Give := 6, Revoked := false } : api_Right)] 9 2 = (1, 0) := by decide
  have e4 : checkF [({ Handle := 9, Session := 1, Give := 6, Revoked := false } : api_Right)] 9 1 = (0, 160) := by decide
  have e5 : checkF [({ Handle := 9, Session := 1, Give := 6, Revoked := false } : api_Right)] 8 2 = (0, 160) := by decide
  have e6 : checkF [({ Handle := 9, Session := 1, Give := 6, Revoked := true } : api_Right)] 9 2 = (0, 160) := by decide
  have e7 : mayF [({ Handle := 9, Session := 1, Give := 6, Revoked := false } : api_Right)] = true := by decide
  rw [e3, e4, e5, e6, e7]
  rfl
theorem mint_room {t : Tab} {h s g : Int} (hr : Room t) : Room (mintF t h s g).1 := by
  unfold mintF
  split
  · exact room0
  · split
    · exact room0
    · exact ⟨by have := big16; simp; omega, by simp; omega⟩
theorem rev_room {t : Tab} {h : Int} (hr : Room t) : Room (revF t h).1 := by
  unfold revF
  split
  · exact room0
  · split
    · exact room0
    · exact ⟨by simpa using hr.1, by simpa using hr.2⟩
theorem drop_room {t : Tab} {s : Int} (hr : Room t) : Room (dropF t s) := by
  have : (dropF t s).length ≤ t.length := List.length_filter_le _ _
  exact ⟨by have := hr.1; omega, by have := hr.2; omega⟩
theorem pure_rightTells (a0 : (_root_.List api_Right)) (a1 : congresslaw16_Do) (w0 : (a0.length ≤ maxLen ∧ a0.length * 32 ≤ 140737488351232) ∧ ∀ j, j < a0.length → w_api_Right (a0.getD j z_api_Right)) (w1 : w_congresslaw16_Do a1) : congresslaw16_RightTells a0 a1 = some true := by
  have hr : Room a0 := w0.1
  unfold congresslaw16_RightTells
  simp only [mint_eq _ _ _ _ hr, rmint_eq _ _ _ _ hr, check_eq _ _ _ hr, rcheck_eq _ _ _ hr, rev_eq _ _ hr, rrev_eq _ _ hr, drop_eq _ _ hr, rdrop_eq _ _ hr, fixed_eq, may_eq _ hr, rmay_eq _ hr, Option.bind_some, whn, if_true, same_eq _ (mint_room hr).1, same_eq _ (rev_room hr).1,
    beq_self_eq_true, Bool.and_true, same_eq _ (drop_room hr).1, lt]
end Go.Proofs.Ytffnegdahhlncaa
