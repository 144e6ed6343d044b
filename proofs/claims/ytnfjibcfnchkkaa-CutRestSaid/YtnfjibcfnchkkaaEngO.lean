/- The engine's words for printed functions, and how their equations are taken apart. Conditions: none. -/
import Derived.Test.YtnfjibcfnchkkaaEngN
namespace Go.Eng

/-- An index within bounds. -/
def ib (i : Int) (n : Nat) : Option Unit := if 0 ≤ i ∧ i < n then some () else none
/-- The same, where a condition holds. -/
def ibg (g : Bool) (i : Int) (n : Nat) : Option Unit := if g = true → (0 ≤ i ∧ i < n) then some () else none
/-- A number that is not 0 (a divisor). -/
def nz (i : Int) : Option Unit := if i ≠ 0 then some () else none
def nzg (g : Bool) (i : Int) : Option Unit := if g = true → i ≠ 0 then some () else none
/-- A bound on what grows. -/
def fit (n by_ : Nat) : Option Unit := if n ≤ maxLen ∧ n * by_ ≤ 140737488355328 then some () else none
/-- An answer, where a condition holds; else any one. -/
def whn {α : Type} (g : Bool) (x : Option α) (d : α) : Option α := if g then x else some d
/-- Ways that meet again. -/
def jn {τ β : Type} (j : τ → β) (c : (τ → β) → β) : β := c j
def Fl.elim {ρ σ β : Type} (w : Fl ρ σ) (f : σ → β) (g : ρ → β) : β :=
  match w with
  | .nx s => f s
  | .rt r => g r
/-- An array with one element changed. -/
def aupd {α : Type} (f : Nat → α) (i : Nat) (v : α) : Nat → α := fun k => if k = i then v else f k

theorem bnd {α β : Type} {x : Option α} {f : α → Option β} {r : β} (h : x.bind f = some r) : ∃ a, x = some a ∧ f a = some r := by
  cases x with
  | none => cases h
  | some a => exact ⟨a, rfl, h⟩
theorem ib_of {i : Int} {n : Nat} {β : Type} {f : Unit → Option β} {r : β} (h : (ib i n).bind f = some r) : (0 ≤ i ∧ i < n) ∧ f () = some r := by
  unfold ib at h
  split at h
  · rename_i hh; exact ⟨hh, h⟩
  · cases h
theorem ibg_of {g : Bool} {i : Int} {n : Nat} {β : Type} {f : Unit → Option β} {r : β} (h : (ibg g i n).bind f = some r) : (g = true → 0 ≤ i ∧ i < n) ∧ f () = some r := by
  unfold ibg at h
  split at h
  · rename_i hh; exact ⟨hh, h⟩
  · cases h
theorem nz_of {i : Int} {β : Type} {f : Unit → Option β} {r : β} (h : (nz i).bind f = some r) : i ≠ 0 ∧ f () = some r := by
  unfold nz at h
  split at h
  · rename_i hh; exact ⟨hh, h⟩
  · cases h
theorem nzg_of {g : Bool} {i : Int} {β : Type} {f : Unit → Option β} {r : β} (h : (nzg g i).bind f = some r) : (g = true → i ≠ 0) ∧ f () = some r := by
  unfold nzg at h
  split at h
  · rename_i hh; exact ⟨hh, h⟩
  · cases h
theorem fit_of {n by_ : Nat} {β : Type} {f : Unit → Option β} {r : β} (h : (fit n by_).bind f = some r) : (n ≤ maxLen ∧ n * by_ ≤ 140737488355328) ∧ f () = some r := by
  unfold fit at h
  split at h
  · rename_i hh; exact ⟨hh, h⟩
  · cases h
theorem whn_of {α β : Type} {g : Bool} {x : Option α} {d : α} {f : α → Option β} {r : β} (h : (whn g x d).bind f = some r) : ∃ a, (g = true → x = some a) ∧ f a = some r := by
  cases g with
  | true => obtain ⟨a, h1, h2⟩ := bnd h; exact ⟨a, fun _ => h1, h2⟩
  | false => exact ⟨d, fun q => absurd q (by simp), h⟩
theorem jn_of {τ β : Type} {j : τ → β} {c : (τ → β) → β} {r : β} (h : jn j c = r) : ∃ j', j' = j ∧ c j' = r := ⟨j, rfl, h⟩
theorem ite_t {α : Type} {c : Bool} {a b z : α} (hc : c = true) (h : (if c then a else b) = z) : a = z := by subst hc; exact h
theorem ite_f {α : Type} {c : Bool} {a b z : α} (hc : c = false) (h : (if c then a else b) = z) : b = z := by subst hc; exact h

theorem vupd_map {α : Type} (e : α → V) (f : Nat → α) (i : Nat) (v : α) : vupd (fun j => e (f j)) i (e v) = fun j => e (aupd f i v j) := by
  funext j; simp only [vupd, aupd]; split <;> rfl
theorem set_cons {L : Lay} {f g : Nat → V} {k : Nat} {p : List Nat} {u w : V} (h1 : setp (f k) p u = w) (h2 : vupd f k w = g) : setp (.agg L f) (k :: p) u = .agg L g := by
  simp only [setp, h1, h2]
theorem set_arr {α : Type} (e : α → V) (d : α) (l : List α) {es i : Nat} {p : List Nat} {u : V} {v : α} (hi : i < l.length) (h1 : setp (e (l.getD i d)) p u = e v) :
    Box.set (.arr es l.length (fun j => e (l.getD j d))) (i :: p) u = .arr es (l.set i v).length (fun j => e ((l.set i v).getD j d)) := by
  simp only [Box.set, List.length_set, Box.arr.injEq, true_and]
  funext j
  simp only [vupd]
  by_cases hj : j = i
  · subst hj; rw [if_pos rfl, h1]; congr 1; simp [List.getD_eq_getElem?_getD, hi]
  · simp [hj, List.getD_eq_getElem?_getD, Ne.symm hj]

/-- Elements laid in, as a plain function. -/
def aset {α : Type} (f : Nat → α) : List (Nat × α) → (Nat → α)
  | [] => f
  | (i, v) :: l => aset (aupd f i v) l
theorem setAll_map {α : Type} (e : α → V) : ∀ (l : List (Nat × α)) (f : Nat → α), setAll (fun j => e (f j)) (l.map fun p => (p.1, e p.2)) = fun j => e (aset f l j)
  | [], _ => rfl
  | (i, v) :: l, f => by
    simp only [List.map_cons, setAll, vupd_map, aset]
    exact setAll_map e l (aupd f i v)

theorem V.Data.plain {v : V} (h : v.Data) : v.Plain := by
  induction v with
  | agg L f ih => exact fun j => ih j (h j)
  | sl es n f ih => exact fun j => ih j (h j)
  | tup n f ih => exact fun j => ih j (h j)
  | int _ _ => trivial
  | bool _ => trivial
  | str _ => trivial
  | nil => trivial
  | _ => exact h.elim

/-- A leaf behind which more code stands. -/
theorem toAW {G : Glob} {nt : Nat} {s : St} {c : Code} {Q : Exit → Act → World → Prop} (h : AW G nt s c Q) : ∀ a w, Reach G nt s a w → c.wp G.P Q a w := h

section
variable {G : Glob} {nt : Nat} {s : St} {Q : Exit → Act → World → Prop}
/-- The first part comes to one of some states, from each of which the second part is told. -/
theorem aw_join {τ : Type} {c d : Code} (hd : τ → St) (ok : τ → Prop) (h2 : ∀ x, ok x → AW G nt (hd x) d Q) (h : AW G nt s c (Exit.then (fun a w => ∃ x, ok x ∧ Reach G nt (hd x) a w) Q)) : AW G nt s (.seq c d) Q :=
  fun a w hr => wp_seq (wp_mono (h a w hr) (fun e a' w' hq => by
    cases e with
    | normal => obtain ⟨x, hx, hr'⟩ := hq; exact h2 x hx a' w' hr'
    | _ => exact hq))
end

/-- append's elements, as lists. -/
theorem app_l {α : Type} (e : α → V) (d : α) (l m : List α) : ∀ j, j < l.length → e ((l ++ m).getD j d) = e (l.getD j d) := by
  intro j hj; congr 1; simp [List.getD_eq_getElem?_getD, List.getElem?_append_left hj]
theorem app_r {α : Type} (e : α → V) (d : α) (l m : List α) : ∀ j, j < m.length → e ((l ++ m).getD (l.length + j) d) = e (m.getD j d) := by
  intro j hj; congr 1; simp [List.getD_eq_getElem?_getD, List.getElem?_append_right]

section
variable {G : Glob} {dst : Option Tmp} {ty : TypeId} {pos : String} {af : Array Edge} {g : Option (Nat × Bool)}
theorem does_buildT (T : TypeId) (parts : Array (Nat × Operand)) (xs : List (Nat × Operand)) (ps : List (Nat × V)) (L : Lay) (f0 f1 : Nat → V) (hx : parts.toList = xs) (hB : BldOk G.P T L f0) (hc : cOkp xs ps) (hp : PartsOk L ps) (hf : setAll f0 ps = f1) :
    Does G ⟨dst, .build T parts, ty, pos, af, g⟩ { need := ndp xs ps, eff := { v := .agg L f1 } } := by
  subst hf; exact does_build T parts xs ps L f0 hx hB hc hp
theorem does_eqT (neq : Bool) (T yT : TypeId) (x y : Operand) (v u z : V) (b : Bool) (ha : v.isAgg = true) (hu : u.isAgg = true) (hx : cOk x v) (hy : cOk y u) (hg : G.P.eqGuardType G.P.depth T = false) (hs : shB G.P 9 z T = true) (hz : Akin z v) (hz2 : Akin z u) (hb : eqV v u = b) :
    Does G ⟨dst, .binOp (if neq then .neq else .eql) T x y yT, ty, pos, af, g⟩ { need := nd x v ++ nd y u, eff := { v := .bool (if neq then !b else b) } } := by
  subst hb
  cases v with
  | agg L f =>
    cases u with
    | agg L' f' =>
      have hl : L' = L := by
        cases hz with
        | agg _ _ _ _ => cases hz2; rfl
      subst hl
      exact does_eqAgg neq T yT x y L' f f' hx hy hg (Shp.deep hs hz hz2)
    | _ => simp [V.isAgg] at hu
  | _ => simp [V.isAgg] at ha
theorem does_appendL {α : Type} (e : α → V) (d : α) (l m : List α) (T es by_ id id' t u : Nat) (hA : ApOk G.P T es by_) (hf : (l ++ m).length ≤ maxLen ∧ (l ++ m).length * by_ ≤ 140737488355328) :
    Does G ⟨dst, .call { callee := .builtin .append, args := #[.tmp t, .tmp u], argTypes := #[T, T] }, ty, pos, af, g⟩
      { need := [(t, .own id), (u, .sl es m.length fun j => e (m.getD j d))], nob := [(id, .arr es l.length fun j => e (l.getD j d))],
        eff := { v := .own id', upd := [(id', some (.arr es (l ++ m).length fun j => e ((l ++ m).getD j d))), (id, none)], new := [id'] } } := by
  rw [List.length_append] at hf ⊢
  exact does_append T es by_ l.length m.length id id' t u _ _ _ hA (app_l e d l m) (app_r e d l m) hf.1 hf.2
end

end Go.Eng
