/- The engine's laws on functions as values. Conditions: none. -/
import Derived.Test.YtnfjibcfnchkkaaEngQ
namespace Go.Eng

/-- What a function value may hold so that a call may hand it on: data, or places that stay, or places of functions that hold such. -/
def V.Cap0 (v : V) : Prop := v.Data ∨ ∃ u, u.Data ∧ v = .cptr u
theorem V.Cap0.pass {nob : List (Nat × Box)} {flat : Bool} {v : V} (h : v.Cap0) : Pass nob flat v v := by
  rcases h with h | ⟨u, h, rfl⟩
  · exact .data v h
  · exact .cptr u h
theorem V.Cap0.plain {v : V} (h : v.Cap0) : v.Plain := by
  rcases h with h | ⟨u, h, rfl⟩
  · exact h.plain
  · exact h.plain
def V.Cap (v : V) : Prop := v.Cap0 ∨ ∃ k n c, (∀ j, V.Cap0 (c j)) ∧ v = .cptr (.fn k n c)
theorem V.Cap.pass {nob : List (Nat × Box)} {flat : Bool} {v : V} (h : v.Cap) : Pass nob flat v v := by
  rcases h with h | ⟨k, n, c, h, rfl⟩
  · exact h.pass
  · exact .cptrF _ (.fn _ _ _ _ fun j _ => (h j).pass)
theorem V.Cap.plain {v : V} (h : v.Cap) : v.Plain := by
  rcases h with h | ⟨k, n, c, h, rfl⟩
  · exact h.plain
  · exact fun j => (h j).plain
theorem passes_caps {nob : List (Nat × Box)} {flat : Bool} (n : Nat) (c : Nat → V) (hc : ∀ j, j < n → (c j).Cap) : ∀ (vs us : List V), Passes nob flat vs us → Passes nob flat (vs ++ (List.range n).map c) (us ++ (List.range n).map c)
  | [], [], _ => by
    have key : ∀ l : List Nat, (∀ j ∈ l, j < n) → Passes nob flat (l.map c) (l.map c) := by
      intro l
      induction l with
      | nil => intro _; trivial
      | cons a l ih => intro h; exact ⟨(hc a (h a (by simp))).pass, ih fun j hj => h j (by simp [hj])⟩
    exact key _ fun j hj => List.mem_range.1 hj
  | [], _ :: _, h => h.elim
  | _ :: _, [], h => h.elim
  | v :: vs, u :: us, ⟨h1, h2⟩ => ⟨h1, passes_caps n c hc vs us h2⟩

section
variable {G : Glob} {dst : Option Tmp} {ty : TypeId} {pos : String} {af : Array Edge} {g : Option (Nat × Bool)}
/-- A call of a function value that was handed in. -/
theorem does_callf (k n : Nat) (c : Nat → V) (t : Nat) (xs : List Operand) (vs us : List V) (nob : List (Nat × Box)) (flat : Bool) (res : V) (args : Array Operand) (ats : Array TypeId)
    (ha : args.toList = xs) (hK : FnOk G.P k) (hc : cOkl xs vs) (hp : Passes nob flat vs us) (hcap : ∀ j, (c j).Cap) (hs : FSpec G.P k (us ++ (List.range n).map c) res) (hr : if flat then res.Flat else res.Data) :
    Does G ⟨dst, .call { callee := .value (.tmp t), args := args, argTypes := ats }, ty, pos, af, g⟩ { need := (t, .fn k n c) :: ndl xs vs, nob := nob, eff := { v := res } } :=
  does_call k n c (.tmp t) xs vs nob flat (us ++ (List.range n).map c) res args ats ha hK trivial hc (passes_caps n c (fun j _ => hcap j) vs us hp) hs hr
theorem does_makeFunc (K : FuncId) (xs : List Operand) (vs : List V) (cs : Array Operand) (ha : cs.toList = xs) (hc : cOkl xs vs) :
    Does G ⟨dst, .makeFunc (.func K) #[] cs, ty, pos, af, g⟩ { need := ndl xs vs, eff := { v := .fn K vs.length (fun j => vs.getD j (.bool false)) } } :=
  does_value rfl rfl fun e a _ hn _ => by
    obtain ⟨a1, a2⟩ := args_of hn xs vs hc (fun _ h => h)
    have e1 : cs.map a.eval = (xs.map a.eval).toArray := by rw [← ha]; apply Array.ext'; simp
    refine ⟨.func (.func K) #[] (xs.map a.eval).toArray, by simp [execOp, Instr.makeFunc, e1], _, rfl, by simpa using a1, fun j hj => ?_⟩
    have := a2 j (vs.getD j (.bool false)) (by rw [List.getD_eq_getElem?_getD, List.getElem?_eq_getElem hj]; rfl)
    simpa [Array.getD_eq_getD_getElem?, List.getD_eq_getElem?_getD] using this
end
end Go.Eng
