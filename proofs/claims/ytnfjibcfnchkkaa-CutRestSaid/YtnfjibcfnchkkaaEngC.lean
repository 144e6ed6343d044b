/- Own arrays of structs, put in order by slices.SortFunc, on the library's own contract. Conditions: none. -/
import Derived.Test.YtnfjibcfnchkkaaEngZ
import Derived.Test.YtnfjibcfnchkkaaEngW
import Derived.Shelf.SlSortCmp.NoneTotal
namespace Go.Eng
open Go.Sort

/-- What slices.SortFunc makes of a list. -/
def Srt {α : Type} [Inhabited α] (F : α → α → Option Int) (l l' : List α) : Prop :=
  ∃ cf : α → α → Int, (∀ x y, F x y = some (cf x y)) ∧ SWO (Go.Proofs.ltOf cf) ∧ (∀ x y, Go.Proofs.ltOf cf x y = false → Go.Proofs.ltOf cf y x = false → x = y) ∧ l.length < 4611686018427387904 ∧ l' = l.mergeSort fun x y => !(Go.Proofs.ltOf cf) y x
open Classical in
noncomputable def srt {α : Type} [Inhabited α] (F : α → α → Option Int) (l : List α) : Option (List α) := if h : ∃ l', Srt F l l' then some (Classical.choose h) else none
theorem srt_of {α : Type} [Inhabited α] {F : α → α → Option Int} {l l' : List α} (h : srt F l = some l') : Srt F l l' := by
  unfold srt at h
  by_cases q : ∃ l', Srt F l l'
  · rw [dif_pos q] at h
    have := Classical.choose_spec q
    rw [Option.some.inj h] at this; exact this
  · rw [dif_neg q] at h; cases h
theorem Srt.uniq {α : Type} [Inhabited α] {F : α → α → Option Int} {l a b : List α} (h : Srt F l a) (k : Srt F l b) : a = b := by
  obtain ⟨c, h1, _, _, _, h4⟩ := h
  obtain ⟨d, k1, _, _, _, k4⟩ := k
  have : c = d := by
    funext x y
    have := (h1 x y).symm.trans (k1 x y)
    exact Option.some.inj this
  subst this
  rw [h4, k4]
theorem srt_t {α : Type} [Inhabited α] {F : α → α → Option Int} {l l' : List α} (h : Srt F l l') : srt F l = some l' := by
  unfold srt
  rw [dif_pos ⟨l', h⟩]
  have := Classical.choose_spec (⟨l', h⟩ : ∃ l', Srt F l l')
  exact congrArg some (this.uniq h)

/-- slices.SortFunc is laid in the program, at structs of so many cells. -/
def SortOk (P : Program) (K : FuncId) (k : Nat) : Prop := ∃ ρ, Go.Proofs.SlLaysF0.n6 P ρ ∧ ρ.f 6 = K ∧ (∀ w, (isAgg (ρ.t 24)).run P w = .ok true w) ∧ (∀ w, (Go.sizeOf (ρ.t 24)).run P w = .ok k w)
/-- The cells of a struct. -/
structure EncOk {α : Type} (ev : α → V) (enc : α → List Value) (k : Nat) : Prop where
  len : ∀ x, (enc x).length = k
  one : ∀ x, ∀ v ∈ enc x, v.oneCell' = true
  to : ∀ e x, R e (ev x) (.agg (enc x).toArray)
  of : ∀ e x cs, R e (ev x) (.agg cs) → cs = (enc x).toArray
  agg : ∀ x, (ev x).isAgg = true
  size : ∀ x, (ev x).size = k

theorem frame_is {w w' : World} (h : Frame0 (fun _ => False) w w') : ∃ q os, w' = grow (w.drewN q) os := by
  refine ⟨w'.drawn - w.drawn, w'.heap.extract w.heap.size w'.heap.size, ?_⟩
  have h1 : w'.heap = w.heap ++ w'.heap.extract w.heap.size w'.heap.size := by
    apply Array.ext_getElem?
    intro i
    by_cases hi : i < w.heap.size
    · rw [Array.getElem?_append_left hi]
      exact h.block i hi (fun q => q)
    · rw [Array.getElem?_append_right (by omega), Array.getElem?_extract]
      by_cases hj : i < w'.heap.size
      · rw [if_pos (by omega)]; congr 1; omega
      · rw [if_neg (by omega)]; exact Array.getElem?_eq_none (by omega)
  have h2 : w.drawn + (w'.drawn - w.drawn) = w'.drawn := by have := h.drawn; omega
  obtain ⟨h3, h4, h5⟩ := And.intro h.os (And.intro h.tape h.output)
  cases w; cases w'
  simp only [grow, World.drewN] at *
  subst h3; subst h4; subst h5
  simp only [World.mk.injEq, and_true, true_and]
  exact ⟨h1, h2.symm⟩

section
variable {G : Glob} {dst : Option Tmp} {ty : TypeId} {pos : String} {af : Array Edge} {gd : Option (Nat × Bool)}
/-- An own array that is written in place, in a world that grew. -/
theorem grow_inplace {e : Env} (ok : Ok G e) {id : Nat} {es n m : Nat} {f h : Nat → V} (h0 : e.ob id = some (.arr es n f)) (hm : m = n) {w' : World}
    (hfr : Frame0 (fun b => e.th id = some b) e.w w')
    (hheld : ∀ e' : Env, Follows e e' → IdKeeps e e' → e'.w = w' → e'.th = e.th → e'.kap = e.kap → Held e' id (.arr es m h)) :
    Grow G e { e with w := w', ob := fun k => if k = id then some (.arr es m h) else e.ob k } := by
  subst hm
  generalize he' : ({ e with w := w', ob := fun k => if k = id then some (.arr es m h) else e.ob k } : Env) = e'
  have hth : e'.th = e.th := by subst he'; rfl
  have hkp : e'.kap = e.kap := by subst he'; rfl
  have hw : e'.w = w' := by subst he'; rfl
  have get : ∀ k o', e'.ob k = some o' → ∃ o'', e.ob k = some o'' ∧ o''.like o' := by
    intro k o' h
    subst he'
    simp only at h
    by_cases hi : k = id
    · subst hi; rw [if_pos rfl] at h; cases h; exact ⟨_, h0, ⟨rfl, rfl⟩⟩
    · rw [if_neg hi] at h; exact ⟨o', h, o'.like_refl⟩
  have F : Follows e e' := by
    refine ⟨by rw [hw]; exact hfr.size, fun b hb hO => by rw [hw]; exact hfr.block b hb (fun hh => hO ⟨id, _, h0, hh⟩), ?_, fun _ _ h => by subst he'; exact h, fun _ _ h => by subst he'; exact h⟩
    rintro b _ ⟨k, o', h1, h2⟩
    obtain ⟨o'', h3, _⟩ := get k o' h1
    exact ⟨k, o'', h3, hth ▸ h2⟩
  have I : IdKeeps e e' := fun k hu => ⟨by subst he'; exact hu, fun o' ho' => ⟨by rw [hth], by rw [hkp], get k o' ho'⟩⟩
  refine ⟨⟨?_, by subst he'; exact ok.S, by subst he'; exact ok.Sp, ?_, ?_, ?_, ?_, ok.low⟩, F, I⟩
  · rw [hw]
    refine ⟨hfr.os.trans ok.fr.os, hfr.tape.trans ok.fr.tape, hfr.output.trans ok.fr.output, Nat.le_trans ok.fr.size hfr.size, Nat.le_trans ok.fr.drawn hfr.drawn, fun k hk hW => ?_⟩
    refine (hfr.block k (Nat.lt_of_lt_of_le hk ok.fr.size) (fun hh => ?_)).trans (ok.fr.block k hk hW)
    rcases ok.fresh id _ k h0 hh with q | q
    · omega
    · exact hW q
  · intro k o' h
    by_cases hi : k = id
    · have : o' = .arr es m (by assumption) := by subst he'; simp [hi] at h; exact h.symm
      subst this; subst hi
      exact hheld e' F I hw hth hkp
    · have ho : e.ob k = some o' := by subst he'; simpa [hi] using h
      refine (ok.held k o' ho).keep F I (by rw [hth]) (by rw [hkp]) (fun b hb => ?_)
      rw [hw]
      exact hfr.block b ((ok.held k o' ho).lt hb) (fun hh => hi (ok.inj k id o' _ b ho h0 hb hh))
  · intro i j oi oj b h1 h2 h3 h4
    obtain ⟨oi', g1, _⟩ := get i oi h1
    obtain ⟨oj', g2, _⟩ := get j oj h2
    exact ok.inj i j oi' oj' b g1 g2 (hth ▸ h3) (hth ▸ h4)
  · intro i o' b h1 h2
    obtain ⟨o'', g1, _⟩ := get i o' h1
    exact ok.fresh i o'' b g1 (hth ▸ h2)
  · intro i o' h1
    obtain ⟨o'', g1, _⟩ := get i o' h1
    have := ok.used i o'' g1
    subst he'; exact this

theorem sort_calls {P : Program} {K g : FuncId} {k : Nat} {α : Type} [Inhabited α] {ev : α → V} {enc : α → List Value} {F : α → α → Option Int} {l l' : List α} (hS : SortOk P K k) (hE : EncOk ev enc k) (hg : FnOk P g)
    (hsp : ∀ x y r, F x y = some r → FSpec P g [ev x, ev y] (.int .i64 r)) (h : Srt F l l') (w : World) (b cap : Nat) (hH : Go.Sort.HoldsK enc k w b 0 l.toArray) (hb : b < w.heap.size) :
    Calls P K #[.slice (some ⟨b, 0, none⟩) l.length cap, .func (.func g) #[] #[]] w fun e w' => e = .returned (.tuple #[]) ∧ ∃ n os, w' = Go.Proofs.sortWorldK enc k w b 0 n l'.toArray os := by
  obtain ⟨ρ, hL, rfl, h1, h2⟩ := hS
  obtain ⟨cf, c1, c2, c3, c4, rfl⟩ := h
  refine Go.Proofs.AnyQ.slices_SortFunc_total hL k h1 h2 enc hE.len hE.one cf c2 g #[] b 0 cap l.toArray w (fun args w => hg.run args w) ?_ hH hb (by simpa using c4) c3
  intro m os dk hs x y
  refine (hsp x y _ (c1 x y) (Go.Proofs.sortWorldK enc k w b 0 m dk os) (fun _ => False) (fun _ => False) _ (fun b hb => by rcases hb with h | h <;> exact h.elim) ?_).mono ?_
  · refine ⟨by simp, fun i v hv => ?_⟩
    match i, hv with
    | 0, hv => simp at hv; subst hv; exact hE.to _ x
    | 1, hv => simp at hv; subst hv; exact hE.to _ y
    | i + 2, hv => simp at hv
  · rintro e w' ⟨v, rfl, hv, hf⟩
    have hv : v = .int .i64 (cf x y) := hv
    subst hv
    exact ⟨rfl, frame_is hf⟩
theorem flat_get {α : Type} [Inhabited α] {ev : α → V} {enc : α → List Value} {k : Nat} (hE : EncOk ev enc k) (hk : 0 < k) (l : List α) {j r : Nat} (hj : j < l.length) (hr : r < k) : (Go.Sort.flatK enc k l.toArray)[j * k + r]! = (enc (l[j]))[r]'(by rw [hE.len]; exact hr) := by
  have hlt : j * k + r < l.toArray.size * k := by
    have := Nat.mul_le_mul_right k (show j + 1 ≤ l.length from hj)
    rw [Nat.succ_mul] at this
    simp; omega
  rw [Go.Sort.get_flatK enc k l.toArray _ hlt]
  have e1 : (j * k + r) / k = j := by
    rw [Nat.mul_comm, Nat.mul_add_div hk, Nat.div_eq_of_lt hr]; rfl
  have e2 : (j * k + r) % k = r := by
    rw [Nat.mul_comm, Nat.mul_add_mod, Nat.mod_eq_of_lt hr]
  rw [e1, e2]
  have e3 : l.toArray[j]! = l[j] := by simp [hj]
  rw [e3]
  simp [hE.len, hr]
theorem does_sortFunc {α : Type} [Inhabited α] (ev : α → V) (d : α) (enc : α → List Value) (F : α → α → Option Int) (l l' : List α) (K g k t id : Nat) (ats : Array TypeId) (hS : SortOk G.P K k) (hE : EncOk ev enc k) (hk : 0 < k) (hK : FnOk G.P K) (hg : FnOk G.P g)
    (hsp : ∀ x y r, F x y = some r → FSpec G.P g [ev x, ev y] (.int .i64 r)) (h : srt F l = some l') :
    Does G ⟨dst, .call { callee := .value (.func K), args := #[.tmp t, .func g], argTypes := ats }, ty, pos, af, gd⟩ { need := [(t, .own id)], nob := [(id, .arr k l.length fun j => ev (l.getD j d))], eff := { v := .any, upd := [(id, some (.arr k l'.length fun j => ev (l'.getD j d)))] } } := by
  intro e a ok hnd K' Q hKK
  have hs := srt_of h
  have hlen : l'.length = l.length := by
    obtain ⟨cf, _, _, _, _, rfl⟩ := hs
    exact List.length_mergeSort _
  obtain ⟨hu, hx⟩ := hnd.1 (t, .own id) (by simp)
  have hob := hnd.2.1 (id, .arr k l.length fun j => ev (l.getD j d)) (by simp)
  have hx := hx _ _ _ hob
  have hheld := ok.held id _ hob
  have hexec : (execOp a.eval ⟨dst, .call { callee := .value (.func K), args := #[.tmp t, .func g], argTypes := ats }, ty, pos, af, gd⟩).run G.P e.w = .ok (.enter K #[a.eval (.tmp t), .func (.func g) #[] #[]]) e.w := by
    have hm : (#[Operand.tmp t, Operand.func g] : Array Operand).map a.eval = #[a.eval (.tmp t), .func (.func g) #[] #[]] := by simp [Act.eval]
    simp only [execOp, resolve, Deferred.ofValue, Act.eval, Sem.run_bind, Sem.run_pure, Result.andThen_ok, invoke, Array.empty_append]
    rw [show (#[Operand.tmp t, Operand.func g] : Array Operand).map a.eval ++ #[] = #[a.eval (.tmp t), .func (.func g) #[] #[]] by rw [hm]; rfl, hK.run]
    rfl
  unfold Oper.wp
  rw [hexec, Oper.upon_enter]
  have hev : a.eval (.tmp t) = a.tmps.getD t undef := rfl
  cases hth : e.th id with
  | none =>
    rw [hth] at hx
    obtain ⟨hn, ab, hx⟩ := hx
    rw [hev, hx]
    obtain ⟨ρ, hL, rfl, _, _⟩ := hS
    refine (Go.Proofs.AnyF.slices_SortFunc_none hL ab 0 _ e.w).mono ?_
    rintro en w' ⟨rfl, rfl⟩
    refine hKK _ { e with ob := fun q => if q = id then some (.arr k l'.length fun j => ev (l'.getD j d)) else e.ob q } (grow_reob ok hob (o := .arr k l'.length fun j => ev (l'.getD j d)) ⟨rfl, by rw [hlen]⟩ ?_) (by rw [appOb_one]) (by simp) trivial
    intro e' F' I hw ht hk'
    simp only [Held, ht, hth]
    rw [hlen]; exact hn
  | some b =>
    rw [hth] at hx
    simp only at hx
    rw [hev, hx]
    simp only [Held, hth] at hheld
    obtain ⟨cs, T, q1, q2, q3, q4, q5⟩ := hheld
    have hge : ∀ j, j < l.length → cs.extract (j * k) (j * k + k) = (enc (l.getD j d)).toArray := fun j hj => by
      have := (q5 j hj).2
      rw [piece, if_pos (hE.agg _)] at this
      exact hE.of _ _ _ this
    have hjk : ∀ j, j < l.length → j * k + k ≤ cs.size := fun j hj => by
      have := Nat.mul_le_mul_right k (show j + 1 ≤ e.kap id by omega)
      rw [Nat.succ_mul] at this; omega
    have hH : Go.Sort.HoldsK enc k e.w b 0 l.toArray := by
      intro i hi
      rw [Go.Sort.size_flatK] at hi
      have hi' : i < l.length * k := by simpa using hi
      have hq : i / k < l.length := Nat.div_lt_of_lt_mul (by rw [Nat.mul_comm]; exact hi')
      have hr : i % k < k := Nat.mod_lt _ hk
      have hd : i / k * k + i % k = i := by rw [Nat.mul_comm]; exact Nat.div_add_mod i k
      have hle := hjk _ hq
      have hic : i < cs.size := by omega
      refine ⟨?_, ?_⟩
      · have h1 := flat_get hE hk l hq hr
        rw [hd] at h1
        have h2 : cs[i]? = some ((enc (l[i / k]))[i % k]'(by rw [hE.len]; exact hr)) := by
          have h3 := congrArg (fun z : Array Value => z[i % k]?) (hge _ hq)
          simp only [Array.getElem?_extract] at h3
          rw [if_pos (by omega), hd] at h3
          rw [h3]
          simp [List.getD_eq_getElem?_getD, List.getElem?_eq_getElem hq, hE.len, hr]
        show e.w.cell? ⟨b, 0 + i, none⟩ = some (_root_.id _)
        rw [Nat.zero_add]
        unfold World.cell?
        rw [q1.1]
        simp only [Option.isSome_none, Bool.false_eq_true, if_false]
        rw [h2, ← h1]; rfl
      · rw [Nat.zero_add]; exact q1.thaw hic
    refine (sort_calls hS hE hg hsp hs e.w b (e.kap id) hH q1.lt).mono ?_
    rintro en w' ⟨rfl, n, os, hw'⟩
    have hDs : (flatK enc k l'.toArray).size = l.length * k := by rw [Go.Sort.size_flatK]; simp [hlen]
    have hmul : l.length * k ≤ cs.size := by rw [q2]; exact Nat.mul_le_mul_right _ q3
    obtain ⟨cs', hcs'⟩ : ∃ cs', cs' = putCells _root_.id 0 (flatK enc k l'.toArray) cs := ⟨_, rfl⟩
    have hsz : cs'.size = cs.size := by rw [hcs']; simp [putCells]
    have hget : ∀ i, i < cs.size → cs'[i]? = if i < l.length * k then some ((flatK enc k l'.toArray)[i]!) else cs[i]? := by
      intro i hi
      rw [hcs']
      simp only [putCells, Array.getElem?_mapIdx, Nat.zero_le, true_and, Nat.zero_add, Nat.sub_zero, hDs, Array.getElem?_eq_getElem hi, Option.map_some, _root_.id]
      split <;> rfl
    have hwh : w'.heap = (e.w.heap.modify b (onCells (putCells _root_.id 0 (flatK enc k l'.toArray)))) ++ os := by rw [hw']; rfl
    have hb := q1.lt
    have hrow : w'.heap[b]? = some (.cells cs' T.1 T.2) := by
      rw [hwh, Array.getElem?_append_left (by simpa using hb), Array.getElem?_modify, if_pos rfl, q1.1, hcs']; rfl
    have hoth : ∀ x, x < e.w.heap.size → x ≠ b → w'.heap[x]? = e.w.heap[x]? := by
      intro x hx hxb
      rw [hwh, Array.getElem?_append_left (by simpa using hx), Array.getElem?_modify, if_neg (fun q => hxb q.symm)]
    have hfr : Frame0 (fun b' => e.th id = some b') e.w w' := by
      refine ⟨by rw [hw']; rfl, by rw [hw']; rfl, by rw [hw']; rfl, by rw [hwh]; simp, by rw [hw']; exact Nat.le_add_right _ _, fun x hx hn => hoth x hx (fun q => hn (by rw [q]; exact hth))⟩
    refine hKK _ { e with w := w', ob := fun q => if q = id then some (.arr k l'.length fun j => ev (l'.getD j d)) else e.ob q } (grow_inplace ok hob hlen hfr ?_) (by rw [appOb_one]) (by simp) trivial
    intro e' F' I hw ht hkp
    have hsame : ∀ (h : Nat → V), (match e'.th id with
      | none => l'.length = 0
      | some b => ∃ cs T, Row e'.w b cs (k, T) ∧ cs.size = e'.kap id * k ∧ l'.length ≤ e'.kap id ∧ AllOne cs ∧ ∀ j, j < l'.length → (h j).size = k ∧ R e' (h j) (piece (h j) cs (j * k) k)) = Held e' id (.arr k l'.length h) := fun _ => rfl
    rw [← hsame, ht, hth]
    simp only
    refine ⟨cs', T, ⟨by rw [hw]; exact hrow, ?_⟩, by rw [hsz, hkp]; exact q2, by rw [hlen, hkp]; exact q3, ?_, fun j hj => ?_⟩
    · rcases q1.2 with q | q
      · exact .inl q
      · exact .inr ⟨q.1, by rw [hsz]; exact q.2⟩
    · intro c hc
      obtain ⟨i, hi, rfl⟩ := Array.getElem_of_mem hc
      have hi2 : i < cs.size := by omega
      have := hget i hi2
      rw [Array.getElem?_eq_getElem hi] at this
      by_cases hlt : i < l.length * k
      · rw [if_pos hlt] at this
        have hq : i / k < l'.length := by rw [hlen]; exact Nat.div_lt_of_lt_mul (by rw [Nat.mul_comm]; exact hlt)
        have hr : i % k < k := Nat.mod_lt _ hk
        have h1 := flat_get hE hk l' hq hr
        have hd : i / k * k + i % k = i := by rw [Nat.mul_comm]; exact Nat.div_add_mod i k
        rw [hd] at h1
        rw [Option.some.inj this, h1]
        exact hE.one _ _ (List.getElem_mem _)
      · rw [if_neg hlt, Array.getElem?_eq_getElem hi2] at this
        rw [Option.some.inj this]
        exact q4 _ (Array.getElem_mem _)
    · refine ⟨hE.size _, ?_⟩
      rw [piece, if_pos (hE.agg _)]
      have hj' : j < l.length := by omega
      have hle := hjk j hj'
      have hjl : j * k + k ≤ l.length * k := by
        have := Nat.mul_le_mul_right k (show j + 1 ≤ l.length from hj')
        rw [Nat.succ_mul] at this; omega
      have : cs'.extract (j * k) (j * k + k) = (enc (l'.getD j d)).toArray := by
        apply Array.ext_getElem?
        intro r
        rw [Array.getElem?_extract]
        by_cases hr : r < k
        · rw [if_pos (by omega), hget _ (by omega), if_pos (by omega), flat_get hE hk l' hj hr]
          simp [List.getD_eq_getElem?_getD, List.getElem?_eq_getElem hj, hE.len, hr]
        · rw [if_neg (by omega)]
          symm
          apply Array.getElem?_eq_none
          simp [hE.len]; omega
      rw [this]
      exact hE.to _ _
end
/-- Cells that are alike. -/
theorem enc_ext {cs : Array Value} {l : List Value} {n : Nat} (h : cs.size = n) (hl : l.length = n) (hj : ∀ j, j < n → cs.getD j undef = l.getD j undef) : cs = l.toArray := by
  apply Array.ext_getElem?
  intro i
  by_cases hi : i < n
  · have := hj i hi
    rw [Array.getD_eq_getD_getElem?, List.getD_eq_getElem?_getD, Array.getElem?_eq_getElem (by omega), List.getElem?_eq_getElem (by omega)] at this
    rw [Array.getElem?_eq_getElem (by omega), List.getElem?_toArray, List.getElem?_eq_getElem (by omega)]
    simpa using this
  · rw [Array.getElem?_eq_none (by omega), List.getElem?_toArray, List.getElem?_eq_none (by omega)]
end Go.Eng
