/- The engine's leafs and joins for printed proofs. Conditions: none. -/
import Derived.Test.YtnfjibcfnchkkaaEngO
namespace Go.Eng

/-- A name for a value. -/
def lt {α β : Type} (e : α) (f : α → β) : β := f e
theorem lt_of {α β : Type} {e : α} {f : α → β} {r : β} (h : lt e f = r) : ∃ v, v = e ∧ f v = r := ⟨e, rfl, h⟩
theorem ixl {i : Int} {n : Nat} (h : 0 ≤ i ∧ i < n) : i.toNat < n := by omega
theorem rt_of {ρ σ τ β : Type} {v : ρ} {st : Stp σ (Fl ρ τ)} {w : Fl ρ τ} {f : τ → β} {g : ρ → β} {z : β} (H : some (Stp.done (Fl.rt v)) = some st) (hs : ∀ w', st = .done w' → w' = w) (Hr : Fl.elim w f g = z) : g v = z := by
  have := hs _ (Option.some.inj H).symm
  subst this; exact Hr
theorem nx_of {ρ τ β : Type} {y : τ} {w : Fl ρ τ} {f : τ → β} {g : ρ → β} {z : β} (h : Fl.nx y = w) (Hr : Fl.elim w f g = z) : f y = z := by
  subst h; exact Hr

section
variable {G : Glob} {nt : Nat} {s s1 : St} {Q : Exit → Act → World → Prop}
theorem nx_seq {d : Code} (h : AW G nt s d Q) : ∀ a w, Reach G nt s a w → Exit.then (fun a w => d.wp G.P Q a w) Q .normal a w := h
theorem nx_blk {i : Nat} (h : ∀ a w, Reach G nt s a w → Q .normal a w) : ∀ a w, Reach G nt s a w → Exit.inBlock i Q .normal a w := h
theorem ex_then {i : Nat} {N : Act → World → Prop} (h : ∀ a w, Reach G nt s a w → Q (.exit i) a w) : ∀ a w, Reach G nt s a w → Exit.then N Q (.exit i) a w := h
theorem ex_here {i : Nat} (h : ∀ a w, Reach G nt s a w → Q .normal a w) : ∀ a w, Reach G nt s a w → Exit.inBlock i Q (.exit i) a w := by
  intro a w hr; simp only [Exit.inBlock, if_true]; exact h a w hr
theorem ex_blk {i j : Nat} (hij : Nat.beq j i = false) (h : ∀ a w, Reach G nt s a w → Q (.exit j) a w) : ∀ a w, Reach G nt s a w → Exit.inBlock i Q (.exit j) a w := by
  intro a w hr
  have : j ≠ i := fun q => by subst q; simp at hij
  simp only [Exit.inBlock, if_neg this]; exact h a w hr
theorem rt_then {N : Act → World → Prop} (h : ∀ a w, Reach G nt s a w → Q .ret a w) : ∀ a w, Reach G nt s a w → Exit.then N Q .ret a w := h
theorem rt_blk {i : Nat} (h : ∀ a w, Reach G nt s a w → Q .ret a w) : ∀ a w, Reach G nt s a w → Exit.inBlock i Q .ret a w := h
theorem nx_join {τ β : Type} {hd : τ → St} {J : τ → β} {r : β} (x : τ) (H : J x = r) (c : Cov G nt s (hd x)) : ∀ a w, Reach G nt s a w → Exit.then (fun a w => ∃ x, J x = r ∧ Reach G nt (hd x) a w) Q .normal a w :=
  fun a w hr => ⟨x, H, c a w hr⟩
theorem nx_ljoin {ρ σ τ : Type} {hd : τ → St} {st : Stp σ (Fl ρ τ)} {w1 : Fl ρ τ} (x : τ) (H : some (Stp.done (Fl.nx x)) = some st) (hs : ∀ w', st = .done w' → w' = w1) (c : Cov G nt s (hd x)) : ∀ a w, Reach G nt s a w → Exit.then (fun a w => ∃ x, Fl.nx x = w1 ∧ Reach G nt (hd x) a w) Q .normal a w :=
  fun a w hr => ⟨x, hs _ (Option.some.inj H).symm, c a w hr⟩
theorem nx_loop {σ ω : Type} {hd : σ → St} {st : Stp σ ω} (x : σ) (H : some (Stp.next x) = some st) (c : Cov G nt s (hd x)) : ∀ a w, Reach G nt s a w → Exit.then (fun a w => ∃ y, st = .next y ∧ Reach G nt (hd y) a w) Q .normal a w :=
  fun a w hr => ⟨x, (Option.some.inj H).symm, c a w hr⟩
/-- Several ways meet at a piece of code's normal end. -/
theorem aw_meet {τ : Type} {c : Code} (hd : τ → St) (ok : τ → Prop) (h2 : ∀ x, ok x → ∀ a w, Reach G nt (hd x) a w → Q .normal a w) (h : AW G nt s c (Exit.then (fun a w => ∃ x, ok x ∧ Reach G nt (hd x) a w) Q)) : AW G nt s c Q :=
  fun a w hr => wp_mono (h a w hr) (fun e a' w' hq => by
    cases e with
    | normal => obtain ⟨x, hx, hr'⟩ := hq; exact h2 x hx a' w' hr'
    | _ => exact hq)
theorem aw_jn {τ β : Type} {c : Code} {J : τ → β} {C : (τ → β) → β} {r : β} (hd : τ → St) (H : jn J C = r) (h2 : ∀ x, J x = r → ∀ a w, Reach G nt (hd x) a w → Q .normal a w)
    (h : ∀ j, C j = r → AW G nt s c (Exit.then (fun a w => ∃ x, j x = r ∧ Reach G nt (hd x) a w) Q)) : AW G nt s c Q :=
  aw_meet hd (fun x => J x = r) h2 (h J H)
end
section
variable {G : Glob} {dst : Option Tmp} {ty : TypeId} {pos : String} {af : Array Edge} {g : Option (Nat × Bool)}
/-- a[i], a an array's value. -/
theorem does_index (T n E es t : Nat) (ag : Bool) (f : Nat → V) (x : Operand) (k : IntKind) (i : Int) (hT : G.P.underlying T = some (.array n E)) (hE : TyOk G.P E ag es) (ha : (f i.toNat).isAgg = ag) (hx : cOk x (.int k i)) (h0 : 0 ≤ i) (h1 : i < n) :
    Does G ⟨dst, .index T (.tmp t) x, ty, pos, af, g⟩ { need := (t, .agg (.ar n es) f) :: nd x (.int k i), eff := { v := f i.toNat } } :=
  does_value rfl rfl fun e a ok hn ho => by
    obtain ⟨cs, hv, hs, h1', hr⟩ := hn (t, .agg (.ar n es) f) (by simp)
    have h2 : a.eval x = .int k i := R.operand hn hx (fun _ h => List.mem_cons_of_mem _ h)
    have h3 : a.eval (.tmp t) = .agg cs := hv
    have hlt : i.toNat < n := by omega
    obtain ⟨hz, hR⟩ := hr i.toNat hlt
    have hsz : (i.toNat + 1) * es ≤ n * es := Nat.mul_le_mul_right _ hlt
    rw [Nat.succ_mul] at hsz
    simp only [Lay.tot] at hs
    have hrun : ∀ w, (Instr.index T (.agg cs) (.int k i)).run G.P w = .ok (piece (f i.toNat) cs (i.toNat * es) es) w := by
      intro w
      cases ag with
      | true => simp [Instr.index, asIntOf, run_underlying hT, h0, h1, Go.part, hE.run_sizeOf w, hE.run_isAgg w, piece, ha]
      | false =>
        have hes : es = 1 := by
          have := size_pos ha
          simp only [Lay.sz] at hz; omega
        have hlt2 : i.toNat * es < cs.size := by omega
        have hp : piece (f i.toNat) cs (i.toNat * es) es = cs[i.toNat * es] := by simp [piece, ha, Array.getD, hlt2]
        rw [hp]
        simp [Instr.index, asIntOf, run_underlying hT, h0, h1, Go.part, hE.run_sizeOf w, hE.run_isAgg w, hlt2]
    exact ⟨piece (f i.toNat) cs (i.toNat * es) es, by simp [execOp, h2, h3, hrun], hR⟩
theorem does_neg (ty' : TypeId) (x : Operand) (k : IntKind) (p : Int) (h : cOk x (.int k p)) : Does G ⟨dst, .unOp .neg ty' x, ty, pos, af, g⟩ { need := nd x (.int k p), eff := { v := .int k (k.wrap (0 - p)) } } :=
  does_value rfl rfl fun e a _ hn _ => by
    have h1 : a.eval x = .int k p := R.operand hn h (fun _ h => h)
    exact ⟨_, by simp [execOp, h1, Op.unary, Op.intArith], rfl⟩
end
theorem res_flat0 : (resV []).Flat := fun _ => trivial
theorem res_data0 : (resV []).Data := fun _ => trivial
theorem res_flat2 {a b : V} (ha : a.Flat) (hb : b.Flat) : (resV [a, b]).Flat := fun j => match j with
  | 0 => ha
  | 1 => hb
  | _ + 2 => trivial
theorem res_data2 {a b : V} (ha : a.Data) (hb : b.Data) : (resV [a, b]).Data := fun j => match j with
  | 0 => ha
  | 1 => hb
  | _ + 2 => trivial
theorem res_flat3 {a b c : V} (ha : a.Flat) (hb : b.Flat) (hc : c.Flat) : (resV [a, b, c]).Flat := fun j => match j with
  | 0 => ha
  | 1 => hb
  | 2 => hc
  | _ + 3 => trivial
theorem res_data3 {a b c : V} (ha : a.Data) (hb : b.Data) (hc : c.Data) : (resV [a, b, c]).Data := fun j => match j with
  | 0 => ha
  | 1 => hb
  | 2 => hc
  | _ + 3 => trivial
end Go.Eng
