/- What the functions of chapter 14 answer, in closed form: what is put, what is turned, what is the same. Conditions: none. -/
import Derived.Test.YtdaeajonhfkpaaaPc
set_option linter.unusedVariables false
set_option linter.unusedSimpArgs false
namespace Go.Proofs.Ytdaeajonhfkpaaa
open Go.Eng
theorem b_iff (x y : api_Letter) : b_api_Letter x y = true ↔ x = y := by
  obtain ⟨a, b, c, d⟩ := x
  obtain ⟨a', b', c', d'⟩ := y
  simp only [b_api_Letter, Bool.and_eq_true, beq_iff_eq, bq_iff, api_Letter.mk.injEq]
theorem b_refl (x : api_Letter) : b_api_Letter x x = true := (b_iff x x).2 rfl
theorem same_refl (a : Lets) (ha : a.length < 4398046511104) : congressref14_Same a a = some true := by
  unfold congressref14_Same
  rw [if_neg (by simp), loop_find (ρ := Bool) a.length (fun i => !b_api_Letter (a.getD i z_api_Letter) (a.getD i z_api_Letter)) (fun _ => false)]
  · simp only [Option.bind_some]
    have : (List.range a.length).find? (fun i => !b_api_Letter (a.getD i z_api_Letter) (a.getD i z_api_Letter)) = none := by
      rw [List.find?_eq_none]; intro x hx; simp [b_refl]
    rw [this]; simp [Fl.elim]
  · intro n hn
    have hn' : (n : Int) < (a.length : Int) := by omega
    have e1 : IntKind.i64.wrap ((n : Int) + 1) = ((n + 1 : Nat) : Int) := by rw [w64] <;> omega
    simp only [hn', decide_true, if_true, ib_n hn, Option.bind_some, Int.toNat_natCast, e1, lt]
  · simp
def putF (l x : Lets) : Lets := l ++ x.take (4096 - l.length)
theorem put_len (l x : Lets) : (putF l x).length = l.length + min x.length (4096 - l.length) := by simp [putF]; omega
theorem put_room {l x : Lets} (h : Room l) : Room (putF l x) := by
  have := bigMax
  unfold Room at h ⊢
  rw [put_len]; constructor <;> omega
theorem grow_eq (n : Nat) (h : n * 40 ≤ 140737488351232) : slices_Grow_api_Letter_api_Letter (n : Int) = some [] := by
  have hb := bigMax
  unfold slices_Grow_api_Letter_api_Letter
  have e0 : IntKind.i64.wrap ((n : Int) - IntKind.i64.wrap (0 - 0)) = (n : Int) := by
    rw [show IntKind.i64.wrap (0 - 0) = 0 from by rw [w64] <;> omega, w64 (by omega) (by omega)]; omega
  rw [if_neg (by simp), e0]
  by_cases h0 : n = 0
  · subst h0; rw [if_neg (by simp)]
  · rw [if_pos (by simp; omega), sb_t ⟨by omega, by omega, by omega⟩]
    simp only [Option.bind_some]
    rw [mkp_t ⟨by omega, by omega, by simp; omega⟩]
    simp only [Option.bind_some, lt]
    rw [sb_t ⟨by omega, by omega, by omega⟩]
    simp only [Option.bind_some]
    rw [inb_t (by simp)]
    simp
theorem concat_eq (a b : Lets) (h : (a.length + b.length) * 40 ≤ 140737488351232) : slices_Concat_api_Letter_api_Letter [a, b] = some (a ++ b) := by
  have hb := bigMax
  have w1 : IntKind.i64.wrap (0 + (a.length : Int)) = (a.length : Int) := by rw [w64] <;> omega
  have w2 : IntKind.i64.wrap ((a.length : Int) + (b.length : Int)) = ((a.length + b.length : Nat) : Int) := by rw [w64] <;> omega
  have w3 : IntKind.i64.wrap (0 + 1) = 1 := by rw [w64] <;> omega
  have w4 : IntKind.i64.wrap (1 + 1) = 2 := by rw [w64] <;> omega
  have g0 : ([a, b] : _root_.List Lets).getD (0 : Int).toNat [] = a := rfl
  have g1 : ([a, b] : _root_.List Lets).getD (1 : Int).toNat [] = b := rfl
  unfold slices_Concat_api_Letter_api_Letter
  rw [loop_seq (s0 := ((0 : Int), (0 : Int))) (fun n => match n with | 0 => (0, 0) | 1 => ((a.length : Int), 1) | _ => (((a.length + b.length : Nat) : Int), 2)) 2 (w := .nx (((a.length + b.length : Nat) : Int))) rfl (fun n hn => by
    match n, hn with
    | 0, _ =>
      simp only [List.length_cons, List.length_nil, ib, lt, g0, w1, w3]
      simp
    | 1, _ =>
      simp only [List.length_cons, List.length_nil, ib, lt, g1, w2, w4]
      have : ¬ (((a.length + b.length : Nat) : Int) < 0) := by omega
      simp only [this]
      simp) (by simp)]
  simp only [Option.bind_some, Fl.elim]
  rw [grow_eq _ h]
  simp only [Option.bind_some]
  rw [loop_seq (s0 := ((0 : Int), ([] : Lets))) (fun n => match n with | 0 => (0, []) | 1 => (1, a) | _ => (2, a ++ b)) 2 (w := .nx (a ++ b)) rfl (fun n hn => by
    match n, hn with
    | 0, _ =>
      simp only [List.length_cons, List.length_nil, ib, g0, w3]
      rw [fit_t (by simp; omega) (by simp; omega)]
      simp
    | 1, _ =>
      simp only [List.length_cons, List.length_nil, ib, g1, w4]
      rw [fit_t (by simp; omega) (by simp; omega)]
      simp) (by simp)]
  simp
theorem put_eq (l x : Lets) (h : Room l) (hx : Room x) : lossy_Put l x = some (putF l x) := by
  have hs := h.small
  have hs2 := hx.small
  have hr := (put_room (x := x) h).2
  rw [put_len] at hr
  unfold lossy_Put
  have e0 : (if 0 < IntKind.i64.wrap (4096 - (l.length : Int)) then IntKind.i64.wrap (4096 - (l.length : Int)) else 0) = ((4096 - l.length : Nat) : Int) := by
    rw [w64 (by omega) (by omega)]; split <;> omega
  rw [e0]
  simp only [lt]
  have e1 : (if ((4096 - l.length : Nat) : Int) < (x.length : Int) then ((4096 - l.length : Nat) : Int) else (x.length : Int)) = ((min x.length (4096 - l.length) : Nat) : Int) := by split <;> omega
  rw [e1, sb_t ⟨by omega, by omega, by omega⟩]
  simp only [Option.bind_some, Int.toNat_natCast, List.drop_zero]
  have e2 : x.take (min x.length (4096 - l.length)) = x.take (4096 - l.length) := by
    rw [List.take_eq_take_iff]; omega
  rw [e2, concat_eq l _ (by simp; omega)]
  rfl
set_option maxRecDepth 100000 in
theorem rput_eq (l x : Lets) (h : Room l) (hx : Room x) : congressref14_Put l x = some (putF l x) := by
  have hs := h.small
  have hs2 := hx.small
  have hb := bigMax
  unfold congressref14_Put
  simp only [List.nil_append]
  rw [fit_t h.1 (by have := h.2; omega)]
  simp only [Option.bind_some]
  rw [loop_seq (s0 := ((0 : Int), l)) (fun n => ((n : Int), putF l (x.take n))) x.length (w := .nx (putF l x)) (by simp [putF]) (fun n hn => by
    have hn' : (n : Int) < (x.length : Int) := by omega
    have e1 : IntKind.i64.wrap ((n : Int) + 1) = ((n + 1 : Nat) : Int) := by rw [w64] <;> omega
    have hlen := put_len l (x.take n)
    rw [List.length_take] at hlen
    rw [if_pos (decide_eq_true hn')]
    simp only [ib_n hn, Option.bind_some, Int.toNat_natCast, e1, jn]
    by_cases hr : (putF l (x.take n)).length < 4096
    · rw [if_pos (decide_eq_true (by omega)), fit_t (by simp; omega) (by simp; omega)]
      simp only [Option.bind_some]
      congr 3
      have a1 : n < 4096 - l.length := by omega
      have t1 : (x.take n).take (4096 - l.length) = x.take n := List.take_of_length_le (by rw [List.length_take]; omega)
      have t2 : (x.take (n + 1)).take (4096 - l.length) = x.take (n + 1) := List.take_of_length_le (by rw [List.length_take]; omega)
      unfold putF
      rw [t1, t2, List.append_assoc, take_s (d := z_api_Letter) hn]
    · rw [if_neg (by rw [decide_eq_true_eq]; omega)]
      congr 3
      simp only [putF]
      congr 1
      rw [List.take_take, List.take_take]
      congr 1; omega) (by simp)]
  rfl
/-- Bytes and texts. -/
theorem str_bytes (s : ByteArray) : strOf (bytesOf s) = s := by
  have key : ∀ (l : _root_.List UInt8) (r : ByteArray), (l.map fun b => (b.toNat : Int)).foldl (fun r n => r.push (UInt8.ofNat n.toNat)) r = ⟨r.data ++ l.toArray⟩ := by
    intro l
    induction l with
    | nil => intro r; simp
    | cons b l ih =>
      intro r
      simp only [List.map_cons, List.foldl_cons, Int.toNat_natCast, UInt8.ofNat_toNat, ih]
      congr 1
      simp [ByteArray.push]
  obtain ⟨d⟩ := s
  have := key d.toList ByteArray.empty
  have h0 : ByteArray.empty.data = #[] := rfl
  simp only [strOf, bytesOf, this, h0]
  simp
theorem bytes_str (l : _root_.List Int) (h : ∀ x ∈ l, 0 ≤ x ∧ x ≤ 255) : bytesOf (strOf l) = l := by
  have key : ∀ (l : _root_.List Int) (r : ByteArray), (l.foldl (fun r n => r.push (UInt8.ofNat n.toNat)) r).data = r.data ++ (l.map fun n => UInt8.ofNat n.toNat).toArray := by
    intro l
    induction l with
    | nil => intro r; simp
    | cons b l ih =>
      intro r
      simp only [List.foldl_cons, List.map_cons, ih]
      simp [ByteArray.push]
  have hk := key l ByteArray.empty
  unfold strOf bytesOf
  rw [hk]
  have h0 : ByteArray.empty.data.toList = [] := rfl
  simp only [Array.toList_append, h0, List.nil_append, List.map_map]
  conv => rhs; rw [← List.map_id l]
  apply List.map_congr_left
  intro x hx
  obtain ⟨h0, h1⟩ := h x hx
  simp only [Function.comp, id]
  rw [UInt8.toNat_ofNat']
  omega
theorem bytes_in (s : ByteArray) : ∀ x ∈ bytesOf s, 0 ≤ x ∧ x ≤ 255 := by
  intro x hx
  simp only [bytesOf, List.mem_map] at hx
  obtain ⟨b, _, rfl⟩ := hx
  have := b.toNat_lt
  omega
theorem xor_in (p q : Int) : 0 ≤ ixor .u8 p q ∧ ixor .u8 p q ≤ 255 := by
  unfold ixor; rw [wu8]; omega
/-- A mask's byte. -/
def mb (mask : Int) (i : Nat) : Int := (mask / (2 ^ (8 * i) : Int)) % 256
/-- Some bytes, turned. -/
def xorF (b : _root_.List Int) (at_ : Nat) (mask : Int) : Nat → _root_.List Int
  | 0 => b
  | n + 1 => (xorF b at_ mask n).set (at_ + n) (ixor .u8 ((xorF b at_ mask n).getD (at_ + n) 0) (mb mask n))
theorem xor_len (b : _root_.List Int) (at_ : Nat) (mask : Int) : ∀ n, (xorF b at_ mask n).length = b.length
  | 0 => rfl
  | n + 1 => by simp [xorF, xor_len b at_ mask n]
theorem xor_get (b : _root_.List Int) (at_ : Nat) (mask : Int) : ∀ n j, j < b.length → (xorF b at_ mask n).getD j 0 = if at_ ≤ j ∧ j < at_ + n then ixor .u8 (b.getD j 0) (mb mask (j - at_)) else b.getD j 0
  | 0, j, hj => by rw [if_neg (by omega)]; rfl
  | n + 1, j, hj => by
    simp only [xorF]
    rw [getD_set, xor_len]
    by_cases h : at_ + n = j
    · subst h
      rw [if_pos ⟨rfl, hj⟩, if_pos (by omega), xor_get b at_ mask n _ hj, if_neg (by omega)]
      congr 2; omega
    · rw [if_neg (fun q => h q.1), xor_get b at_ mask n j hj]
      by_cases q : at_ ≤ j ∧ j < at_ + n
      · rw [if_pos q, if_pos (by omega)]
      · rw [if_neg q, if_neg (by omega)]
theorem xor_in' (b : _root_.List Int) (at_ : Nat) (mask : Int) (hb : ∀ x ∈ b, 0 ≤ x ∧ x ≤ 255) : ∀ n, ∀ x ∈ xorF b at_ mask n, 0 ≤ x ∧ x ≤ 255
  | 0 => hb
  | n + 1 => fun x hx => by
    rcases List.mem_or_eq_of_mem_set hx with q | q
    · exact xor_in' b at_ mask hb n x q
    · subst q; exact xor_in _ _
def turnT (s : ByteArray) (at_ mask : Int) : ByteArray := if 0 ≤ at_ ∧ at_ < s.size then strOf (xorF (bytesOf s) at_.toNat mask (min 4 (s.size - at_.toNat))) else s
theorem four_eq (mask : Int) (h0 : 0 ≤ mask) (h1 : mask ≤ 4294967295) : congressref01_Four mask = some (strOf [mb mask 0, mb mask 1, mb mask 2, mb mask 3]) := by
  have hb := bigMax
  unfold congressref01_Four
  rw [mk_t ⟨by omega, by omega, by decide⟩]
  simp only [Option.bind_some]
  have d0 : IntKind.u32.wrap (mask.tdiv 256) = mask / 256 := by
    rw [w32, Int.tdiv_eq_ediv_of_nonneg h0]; omega
  have d1 : IntKind.u32.wrap ((mask / 256).tdiv 256) = mask / 65536 := by
    rw [w32, Int.tdiv_eq_ediv_of_nonneg (by omega)]; omega
  have d2 : IntKind.u32.wrap ((mask / 65536).tdiv 256) = mask / 16777216 := by
    rw [w32, Int.tdiv_eq_ediv_of_nonneg (by omega)]; omega
  have m : ∀ x : Int, 0 ≤ x → IntKind.u8.wrap (x.tmod 256) = x % 256 := by
    intro x hx; rw [wu8, Int.tmod_eq_emod_of_nonneg hx]; omega
  have b0 : mb mask 0 = mask % 256 := by simp [mb]
  have b1 : mb mask 1 = mask / 256 % 256 := by simp [mb]
  have b2 : mb mask 2 = mask / 65536 % 256 := by simp [mb]
  have b3 : mb mask 3 = mask / 16777216 % 256 := by simp [mb]
  have w1 : IntKind.i64.wrap 1 = 1 := by rw [w64] <;> omega
  have w2 : IntKind.i64.wrap 2 = 2 := by rw [w64] <;> omega
  have w3 : IntKind.i64.wrap 3 = 3 := by rw [w64] <;> omega
  have w4 : IntKind.i64.wrap 4 = 4 := by rw [w64] <;> omega
  rw [loop_seq (s0 := (mask, (0 : Int), _root_.List.replicate (4 : Int).toNat (0 : Int))) (fun n => match n with
    | 0 => (mask, 0, [0, 0, 0, 0])
    | 1 => (mask / 256, 1, [mb mask 0, 0, 0, 0])
    | 2 => (mask / 65536, 2, [mb mask 0, mb mask 1, 0, 0])
    | 3 => (mask / 16777216, 3, [mb mask 0, mb mask 1, mb mask 2, 0])
    | _ => (IntKind.u32.wrap ((mask / 16777216).tdiv 256), 4, [mb mask 0, mb mask 1, mb mask 2, mb mask 3])) 4 (w := .nx [mb mask 0, mb mask 1, mb mask 2, mb mask 3]) rfl (fun n hn => by
    match n, hn with
    | 0, _ => simp [ib, d0, m mask h0, b0, w1]
    | 1, _ => simp [ib, d1, m (mask / 256) (by omega), b1, w2]
    | 2, _ => simp [ib, d2, m (mask / 65536) (by omega), b2, w3]
    | 3, _ => simp [ib, m (mask / 16777216) (by omega), b3, w4]) (by simp)]
  rfl
theorem mb_in (mask : Int) (i : Nat) : 0 ≤ mb mask i ∧ mb mask i ≤ 255 := by unfold mb; omega
theorem rturnT_eq (s : ByteArray) (at_ mask : Int) (hs : s.size ≤ maxLen) (ha : (Lit.int .i64 at_).wf = true) (h0 : 0 ≤ mask) (h1 : mask ≤ 4294967295) : congressref01_Turn s at_ mask = some (turnT s at_ mask) := by
  have hm := maxLen_le
  rw [wf_i64] at ha
  unfold congressref01_Turn turnT
  rw [inb_t hs, four_eq mask h0 h1]
  simp only [Option.bind_some]
  generalize hv : strOf [mb mask 0, mb mask 1, mb mask 2, mb mask 3] = v2
  have hv2 : bytesOf v2 = [mb mask 0, mb mask 1, mb mask 2, mb mask 3] := by
    rw [← hv, bytes_str]
    intro x hx
    simp only [List.mem_cons, List.not_mem_nil, or_false] at hx
    rcases hx with rfl | rfl | rfl | rfl <;> exact mb_in _ _
  have hsz : v2.size = 4 := by rw [← bytes_len, hv2]; rfl
  have hbl := bytes_len s
  rw [loop_seq (s0 := ((0 : Int), bytesOf s)) (fun n => ((n : Int), if 0 ≤ at_ ∧ at_ < s.size then xorF (bytesOf s) at_.toNat mask (min n (s.size - at_.toNat)) else bytesOf s)) 4 (w := .nx (if 0 ≤ at_ ∧ at_ < s.size then xorF (bytesOf s) at_.toNat mask (min 4 (s.size - at_.toNat)) else bytesOf s)) (by simp [xorF]) (fun n hn => by
    have hn' : (n : Int) < 4 := by omega
    have e1 : IntKind.i64.wrap ((n : Int) + 1) = ((n + 1 : Nat) : Int) := by rw [w64] <;> omega
    have hlen : (if 0 ≤ at_ ∧ at_ < s.size then xorF (bytesOf s) at_.toNat mask (min n (s.size - at_.toNat)) else bytesOf s).length = s.size := by
      split
      · rw [xor_len, hbl]
      · exact hbl
    rw [if_pos (decide_eq_true hn')]
    simp only [e1, jn, lt, hlen]
    by_cases hin : 0 ≤ at_ ∧ at_ < s.size
    · simp only [if_pos hin]
      by_cases hr : at_ < (s.size : Int) - n
      · have c1 : (decide (at_ ≥ 0) && decide (at_ < IntKind.i64.wrap ((s.size : Int) - n))) = true := by rw [w64 (by omega) (by omega)]; simp; omega
        have c2 : IntKind.i64.wrap (at_ + n) = ((at_.toNat + n : Nat) : Int) := by rw [w64] <;> omega
        rw [if_pos c1, c2, ib_n (by omega), hsz, ib_n (show n < 4 by omega)]
        simp only [Option.bind_some, Int.toNat_natCast]
        have c3 : min n (s.size - at_.toNat) = n := by omega
        have c4 : min (n + 1) (s.size - at_.toNat) = n + 1 := by omega
        rw [c3, c4, hv2]
        simp only [xorF]
        congr 6
        match n, hn with
        | 0, _ => rfl
        | 1, _ => rfl
        | 2, _ => rfl
        | 3, _ => rfl
      · have c1 : ¬ (decide (at_ ≥ 0) && decide (at_ < IntKind.i64.wrap ((s.size : Int) - n))) = true := by rw [w64 (by omega) (by omega)]; simp; omega
        rw [if_neg c1]
        have c3 : min n (s.size - at_.toNat) = min (n + 1) (s.size - at_.toNat) := by omega
        rw [c3]
    · simp only [if_neg hin]
      have c1 : ¬ (decide (at_ ≥ 0) && decide (at_ < IntKind.i64.wrap ((s.size : Int) - n))) = true := by rw [w64 (by omega) (by omega)]; simp; omega
      rw [if_neg c1]) (by simp)]
  simp only [Option.bind_some, Fl.elim]
  split
  · rfl
  · rw [str_bytes]
theorem mb_shift (mask : Int) (n : Nat) (hn : n < 4) (h0 : 0 ≤ mask) : IntKind.u8.wrap (ishr .u32 mask ((8 * n : Nat) : Int)) = mb mask n := by
  unfold ishr mb
  rw [wu8, Int.toNat_natCast]
  have : min (8 * n) IntKind.u32.bits = 8 * n := by simp [IntKind.bits]; omega
  rw [this, Int.fdiv_eq_ediv_of_nonneg _ (by exact Int.le_of_lt (Int.pow_pos (by decide)))]
def okT (l : Lets) (r : Int × Bool) : Prop := r.2 = true
def turnF (l : Lets) (f t k at_ mask : Int) : Lets :=
  if (findF l f t k).2 = true ∧ (l.getD (findF l f t k).1.toNat z_api_Letter).Turned = false then
    l.set (findF l f t k).1.toNat { l.getD (findF l f t k).1.toNat z_api_Letter with Text := turnT (l.getD (findF l f t k).1.toNat z_api_Letter).Text at_ mask, Turned := !(turnT (l.getD (findF l f t k).1.toNat z_api_Letter).Text at_ mask == (l.getD (findF l f t k).1.toNat z_api_Letter).Text) }
  else l
theorem set_self (l : Lets) (i : Nat) (x : api_Letter) (h : l.getD i z_api_Letter = x) : l.set i x = l := by
  apply List.ext_getElem (by simp)
  intro j h1 h2
  rw [List.getElem_set]
  split
  · rename_i q; subst q
    rw [← h]; simp [List.getD_eq_getElem?_getD, h2]
  · rfl
theorem getD_set_self (l : Lets) (i : Nat) (x : api_Letter) (h : i < l.length) : (l.set i x).getD i z_api_Letter = x := by rw [getD_set, if_pos ⟨rfl, h⟩]
structure Wf (l : Lets) : Prop where
  room : Room l
  el : ∀ j, j < l.length → (l.getD j z_api_Letter).Text.size ≤ 140737488351232
theorem rturn_eq (l : Lets) (f t k at_ mask : Int) (h : Wf l) (ha : (Lit.int .i64 at_).wf = true) (hk : (Lit.int .u32 mask).wf = true) : congressref14_Turn l f t k at_ mask = some (turnF l f t k at_ mask) := by
  have hs := h.room.small
  rw [wf_u32] at hk
  unfold congressref14_Turn turnF
  simp only [List.nil_append]
  rw [fit_t h.room.1 (by have := h.room.2; omega), rfind_eq l f t k h.room]
  simp only [Option.bind_some]
  by_cases hf : (findF l f t k).2 = true
  · obtain ⟨i, h1, h2, _⟩ := find_in hf
    rw [ibg_t (fun _ => by omega)]
    simp only [Option.bind_some, lt, jn, hf, h1, Int.toNat_natCast, Bool.true_and]
    cases hT : (l.getD i z_api_Letter).Turned with
    | true => simp
    | false =>
      rw [if_pos (show (!false) = true from rfl), if_pos ⟨trivial, rfl⟩]
      rw [ib_n h2, rturnT_eq _ _ _ (Nat.le_trans (Nat.le_trans (h.el i h2) (by decide)) bigMax) ha hk.1 hk.2]
      simp only [Option.bind_some, List.length_set, ib_n h2]
      rw [getD_set_self l i _ h2, List.set_set]
      rfl
  · rw [ibg_t (fun q => absurd q hf)]
    have hf' : (findF l f t k).2 = false := by simpa using hf
    simp only [Option.bind_some, lt, jn, hf', Bool.false_and]
    rw [if_neg (by simp), if_neg (by simp)]
theorem turn_eq (l : Lets) (f t k at_ mask : Int) (h : Wf l) (ha : (Lit.int .i64 at_).wf = true) (hk : (Lit.int .u32 mask).wf = true) : lossy_Turn l f t k at_ mask = some (turnF l f t k at_ mask) := by
  have hs := h.room.small
  rw [wf_u32] at hk
  rw [wf_i64] at ha
  have hm := maxLen_le
  unfold lossy_Turn turnF
  rw [clone_eq l h.room, find_eq l f t k h.room]
  simp only [Option.bind_some]
  by_cases hf : (findF l f t k).2 = true
  · obtain ⟨i, h1, h2, _⟩ := find_in hf
    have hz : (l.getD i z_api_Letter).Text.size ≤ maxLen := Nat.le_trans (Nat.le_trans (h.el i h2) (by decide)) bigMax
    rw [ibg_t (fun _ => by omega)]
    simp only [Option.bind_some]
    rw [ibg_t (fun _ => by omega)]
    simp only [Option.bind_some, lt, hf, h1, Int.toNat_natCast, Bool.not_true, Bool.false_or]
    generalize hX : l.getD i z_api_Letter = X at hz ⊢
    cases hT : X.Turned with
    | true => simp
    | false =>
      simp only [Bool.or_false, and_self, if_true]
      by_cases hin : 0 ≤ at_ ∧ at_ < X.Text.size
      · have c1 : ¬ (decide (at_ < 0) || decide (at_ ≥ (X.Text.size : Int))) = true := by simp; omega
        rw [if_neg c1, ib_n h2, inb_t hz]
        simp only [Option.bind_some]
        have hbl := bytes_len X.Text
        have hw : IntKind.i64.wrap (((bytesOf X.Text).length : Int) - at_) = ((X.Text.size - at_.toNat : Nat) : Int) := by rw [hbl, w64] <;> omega
        have hmin : (if IntKind.i64.wrap (((bytesOf X.Text).length : Int) - at_) < 4 then IntKind.i64.wrap (((bytesOf X.Text).length : Int) - at_) else 4) = ((min 4 (X.Text.size - at_.toNat) : Nat) : Int) := by
          rw [hw]; split <;> omega
        rw [hmin]
        rw [loop_seq (s0 := ((0 : Int), bytesOf X.Text)) (fun n => ((n : Int), xorF (bytesOf X.Text) at_.toNat mask n)) (min 4 (X.Text.size - at_.toNat)) (w := .nx (xorF (bytesOf X.Text) at_.toNat mask (min 4 (X.Text.size - at_.toNat)))) rfl (fun n hn => by
          have hn' : (n : Int) < ((min 4 (X.Text.size - at_.toNat) : Nat) : Int) := by omega
          have e1 : IntKind.i64.wrap ((n : Int) + 1) = ((n + 1 : Nat) : Int) := by rw [w64] <;> omega
          have c2 : IntKind.i64.wrap (at_ + n) = ((at_.toNat + n : Nat) : Int) := by rw [w64] <;> omega
          have c3 : IntKind.i64.wrap (8 * (n : Int)) = ((8 * n : Nat) : Int) := by rw [w64] <;> omega
          rw [if_pos (decide_eq_true hn')]
          simp only [e1, c2, c3, xor_len, hbl]
          rw [ib_n (by omega), nn_t (by omega)]
          simp only [Option.bind_some, Int.toNat_natCast, mb_shift mask n (by omega) hk.1]
          rfl) (by simp)]
        simp only [Option.bind_some, Fl.elim, List.length_set, ib_n h2, hX]
        rw [getD_set_self l i _ h2, List.set_set]
        have hturn : turnT X.Text at_ mask = strOf (xorF (bytesOf X.Text) at_.toNat mask (min 4 (X.Text.size - at_.toNat))) := by unfold turnT; rw [if_pos hin]
        rw [hturn]
        rfl
      · have c1 : (decide (at_ < 0) || decide (at_ ≥ (X.Text.size : Int))) = true := by simp; omega
        rw [if_pos c1]
        have hturn : turnT X.Text at_ mask = X.Text := by unfold turnT; rw [if_neg hin]
        rw [hturn, bq_refl]
        congr 1
        symm
        refine set_self l i _ ?_
        rw [hX]
        obtain ⟨a, b, c, d⟩ := X
        simp only at hT
        subst hT; rfl
  · have hf' : (findF l f t k).2 = false := by simpa using hf
    rw [ibg_t (fun q => by simp [hf'] at q)]
    simp only [Option.bind_some]
    rw [ibg_t (fun q => by simp [hf'] at q)]
    simp only [Option.bind_some, lt, hf']
    rw [if_pos (by simp), if_neg (by simp)]
theorem three_eq : congresslaw14_three = some [{ From := 0, To := 1, Text := (⟨#[97]⟩ : ByteArray), Turned := false }, { From := 0, To := 1, Text := (⟨#[98]⟩ : ByteArray), Turned := false }, { From := 0, To := 1, Text := (⟨#[99]⟩ : ByteArray), Turned := false }] := rfl
def th : Lets := [{ From := 0, To := 1, Text := (⟨#[97]⟩ : ByteArray), Turned := false }, { From := 0, To := 1, Text := (⟨#[98]⟩ : ByteArray), Turned := false }, { From := 0, To := 1, Text := (⟨#[99]⟩ : ByteArray), Turned := false }]
theorem th_wf : Wf th := ⟨⟨by decide, by decide⟩, fun j hj => by
  match j, hj with
  | 0, _ => decide
  | 1, _ => decide
  | 2, _ => decide
  | n + 3, h => exact absurd h (by simp [th])⟩
theorem fixed_eq : congresslaw14_fixed = some true := by
  have h0 : congresslaw14_three = some th := rfl
  have w := th_wf
  have p1 : plF th 0 1 th.length = [0, 1, 2] := rfl
  have p2 : plF th 1 0 th.length = [] := rfl
  have f1 : findF th 0 1 4 = (1, true) := rfl
  have f2 : findF th 0 1 (-1) = (2, true) := rfl
  have f3 : findF th 1 0 0 = (0, false) := rfl
  have f4 : findF th 0 1 0 = (0, true) := rfl
  have t1 : takeF th 0 1 4 = ([{ From := 0, To := 1, Text := (⟨#[97]⟩ : ByteArray), Turned := false }, { From := 0, To := 1, Text := (⟨#[99]⟩ : ByteArray), Turned := false }], { From := 0, To := 1, Text := (⟨#[98]⟩ : ByteArray), Turned := false }, true) := rfl
  have t2 : (takeF th 0 1 (-1)).2 = ({ From := 0, To := 1, Text := (⟨#[99]⟩ : ByteArray), Turned := false }, true) := rfl
  have t3 : (takeF th 1 0 0).2.2 = false := rfl
  have tt : turnT (⟨#[97]⟩ : ByteArray) 0 1 = (⟨#[96]⟩ : ByteArray) := rfl
  have t4 : turnF th 0 1 0 0 1 = [{ From := 0, To := 1, Text := (⟨#[96]⟩ : ByteArray), Turned := true }, { From := 0, To := 1, Text := (⟨#[98]⟩ : ByteArray), Turned := false }, { From := 0, To := 1, Text := (⟨#[99]⟩ : ByteArray), Turned := false }] := rfl
  have m1 : (plF th 0 1 th.length).length = 3 := rfl
  have u1 : (putF th th).length = 6 := rfl
  unfold congresslaw14_fixed
  rw [h0]
  simp only [Option.bind_some]
  rw [take_eq th 0 1 4 w.room, take_eq th 0 1 (-1) w.room, take_eq th 1 0 0 w.room, turn_eq th 0 1 0 0 1 w (by decide) (by decide)]
  simp only [Option.bind_some]
  rw [t1, t2, t3, t4]
  simp only [List.length_cons, List.length_nil, ibg, ib]
  simp only [bq_refl, List.getD_cons_zero, whn]
  simp [many_eq th 0 1 w.room, put_eq th th w.room w.room, m1, u1, lt, bq_refl]
end Go.Proofs.Ytdaeajonhfkpaaa
