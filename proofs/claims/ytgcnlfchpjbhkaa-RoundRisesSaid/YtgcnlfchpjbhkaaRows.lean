/-
  No cell of these rows narrows 'for every input' (looked for: loops, veiled, ifaces, maps, wideKeys, modest, calm, conditions, laid).
  DERIVED. THE GIVEN ROWS OF THIS SEAT. 5 by the template 'for every input the law returns true; each argument reads behind the call as it read before'; 0 by the template 'total and deterministic' (their statements: YtgcnlfchpjbhkaaTotals.lean).
  GIVEN WITH THE SEED: the statements are not yours to turn. If you find one false, say at which input.
  Laid BY PROGRAM, IN A SANDBOX (cutbox-rows.mjs): the forced cells as the released guide's own fill.sh prints them over the translation 34d3a5c16002bd8e… (all of the seat's roots in one cut). By AI agents, Wed Nov 11 2026. No macro, syntax, notation, axiom, sorry.
-/
import Derived.Test.YtgcnlfchpjbhkaaChecked
import GoSem.Claim
import GoSem.ClaimJoined
import GoSem.ClaimMapViews
import Derived.JoinedTies
import Derived.KernelRfl
namespace Go.Proofs.Ytgcnlfchpjbhkaa
/- THE CELL 'sum', in the pinned program and in every row, IS THE sha256 OF THE DUMP (.gsa) THAT YtgcnlfchpjbhkaaProg.lean LOADS. Nothing in Lean hashes anything: it is a label: what it is worth is what the hold of that sum in a sandbox is worth. -/
noncomputable def Try.pinned : Pinned := { name := "ytgcnlfchpjbhkaa", sum := "34d3a5c16002bd8eb269107a5d2dd11ac73cddfd69611127346fcb6b4e85a50e", checked := Try.checked }
namespace Rows
def none {H : Type} : Left H := { results := [], args := [] }

/-- 'congresslaw09.RoundServes': WHATEVER THE INPUT: true; the input reads as it did. -/
def roundServesSpec : ChangeSpec := { name := "roundServes", fn := fun _ => fun
  | [d1, d2, d3] => { results := [.lit (.bool true)], args := [d1, d2, d3] }
  | _ => none }
def roundServesRow : OpenClaim := { program := "ytgcnlfchpjbhkaa", sum := "34d3a5c16002bd8eb269107a5d2dd11ac73cddfd69611127346fcb6b4e85a50e", func := "congress/congresslaw09.RoundServes", spec := "roundServes", apart := false }
def RoundServesSaid : Prop := roundServesRow.holds Try.pinned (OpenSpec.ofChange roundServesSpec)

/-- ITS FALSE NEIGHBOUR: 'it returns false'. Refute it at one input. -/
def roundServesWrong : ChangeSpec := { name := "roundServes", fn := fun _ => fun
  | [d1, d2, d3] => { results := [.lit (.bool false)], args := [d1, d2, d3] }
  | _ => none }
def RoundServesWrongFalsely : Prop := roundServesRow.holds Try.pinned (OpenSpec.ofChange roundServesWrong)

/-- 'congresslaw09.RoundMay': WHATEVER THE INPUT: true; the input reads as it did. -/
def roundMaySpec : ChangeSpec := { name := "roundMay", fn := fun _ => fun
  | [d1, d2] => { results := [.lit (.bool true)], args := [d1, d2] }
  | _ => none }
def roundMayRow : OpenClaim := { program := "ytgcnlfchpjbhkaa", sum := "34d3a5c16002bd8eb269107a5d2dd11ac73cddfd69611127346fcb6b4e85a50e", func := "congress/congresslaw09.RoundMay", spec := "roundMay", apart := false }
def RoundMaySaid : Prop := roundMayRow.holds Try.pinned (OpenSpec.ofChange roundMaySpec)

/-- ITS FALSE NEIGHBOUR: 'it returns false'. Refute it at one input. -/
def roundMayWrong : ChangeSpec := { name := "roundMay", fn := fun _ => fun
  | [d1, d2] => { results := [.lit (.bool false)], args := [d1, d2] }
  | _ => none }
def RoundMayWrongFalsely : Prop := roundMayRow.holds Try.pinned (OpenSpec.ofChange roundMayWrong)

/-- 'congresslaw09.RoundTells': WHATEVER THE INPUT: true; the input reads as it did. -/
def roundTellsSpec : ChangeSpec := { name := "roundTells", fn := fun _ => fun
  | [d1, d2, d3] => { results := [.lit (.bool true)], args := [d1, d2, d3] }
  | _ => none }
def roundTellsRow : OpenClaim := { program := "ytgcnlfchpjbhkaa", sum := "34d3a5c16002bd8eb269107a5d2dd11ac73cddfd69611127346fcb6b4e85a50e", func := "congress/congresslaw09.RoundTells", spec := "roundTells", apart := false }
def RoundTellsSaid : Prop := roundTellsRow.holds Try.pinned (OpenSpec.ofChange roundTellsSpec)

/-- ITS FALSE NEIGHBOUR: 'it returns false'. Refute it at one input. -/
def roundTellsWrong : ChangeSpec := { name := "roundTells", fn := fun _ => fun
  | [d1, d2, d3] => { results := [.lit (.bool false)], args := [d1, d2, d3] }
  | _ => none }
def RoundTellsWrongFalsely : Prop := roundTellsRow.holds Try.pinned (OpenSpec.ofChange roundTellsWrong)

/-- 'congresslaw09.RoundRises': WHATEVER THE INPUT: true; the input reads as it did. -/
def roundRisesSpec : ChangeSpec := { name := "roundRises", fn := fun _ => fun
  | [d1, d2, d3] => { results := [.lit (.bool true)], args := [d1, d2, d3] }
  | _ => none }
def roundRisesRow : OpenClaim := { program := "ytgcnlfchpjbhkaa", sum := "34d3a5c16002bd8eb269107a5d2dd11ac73cddfd69611127346fcb6b4e85a50e", func := "congress/congresslaw09.RoundRises", spec := "roundRises", apart := false }
def RoundRisesSaid : Prop := roundRisesRow.holds Try.pinned (OpenSpec.ofChange roundRisesSpec)

/-- ITS FALSE NEIGHBOUR: 'it returns false'. Refute it at one input. -/
def roundRisesWrong : ChangeSpec := { name := "roundRises", fn := fun _ => fun
  | [d1, d2, d3] => { results := [.lit (.bool false)], args := [d1, d2, d3] }
  | _ => none }
def RoundRisesWrongFalsely : Prop := roundRisesRow.holds Try.pinned (OpenSpec.ofChange roundRisesWrong)

/-- 'congresslaw09.RoundOrder': WHATEVER THE INPUT: true; the input reads as it did. -/
def roundOrderSpec : ChangeSpec := { name := "roundOrder", fn := fun _ => fun
  | [d1, d2, d3] => { results := [.lit (.bool true)], args := [d1, d2, d3] }
  | _ => none }
def roundOrderRow : OpenClaim := { program := "ytgcnlfchpjbhkaa", sum := "34d3a5c16002bd8eb269107a5d2dd11ac73cddfd69611127346fcb6b4e85a50e", func := "congress/congresslaw09.RoundOrder", spec := "roundOrder", apart := false }
def RoundOrderSaid : Prop := roundOrderRow.holds Try.pinned (OpenSpec.ofChange roundOrderSpec)

/-- ITS FALSE NEIGHBOUR: 'it returns false'. Refute it at one input. -/
def roundOrderWrong : ChangeSpec := { name := "roundOrder", fn := fun _ => fun
  | [d1, d2, d3] => { results := [.lit (.bool false)], args := [d1, d2, d3] }
  | _ => none }
def RoundOrderWrongFalsely : Prop := roundOrderRow.holds Try.pinned (OpenSpec.ofChange roundOrderWrong)

/- THE SECOND FORM. 'bulk': how many values and letters a reading holds, each counted each time it is reached (what is shared counts as often as it is met; a slice's spare places count too). A statement '..UptoSaid' is the law's where the arguments, and the package variables that the reading takes, are together of bulk at most 1048576: NARROWER than '..Said'. Prove '..Said' where nothing that the law and all that it calls make is longer than what came in: it says more and counts as full. Else prove '..UptoSaid'. A law counts once. -/
mutual
def uptoBulk {H : Type} : DataW H → Nat
  | .lit (.string bytes) => bytes.length + 1
  | .lit _ => 1
  | .nil => 1
  | .ptr d => uptoBulk d + 1
  | .slice elems spare => uptoBulkAll elems + uptoBulkAll spare + 1
  | .agg parts => uptoBulkAll parts + 1
  | .iface _ d => uptoBulk d + 1
  | .map entries => uptoBulkEntries entries + 1
  | .held _ => 1
def uptoBulkAll {H : Type} : List (DataW H) → Nat
  | [] => 0
  | d :: r => uptoBulk d + uptoBulkAll r
def uptoBulkEntries {H : Type} : List (Lit × DataW H) → Nat
  | [] => 0
  | x :: r => uptoBulkEntry x + uptoBulkEntries r
def uptoBulkEntry {H : Type} : Lit × DataW H → Nat
  | (.string bytes, d) => bytes.length + uptoBulk d + 1
  | (_, d) => uptoBulk d + 1
 end
def uptoSmall : (H : Type) → List (DataW H) → Bool := fun _ ds => decide (uptoBulkAll ds ≤ 1048576)
def OpenSpec.upto (s : _root_.Go.ChangeSpec) : _root_.Go.OpenSpec := { _root_.Go.OpenSpec.ofChange s with cond := some uptoSmall }

/-- 'congresslaw09.RoundServes', WHERE WHAT IT READS IS OF BULK AT MOST 1048576: true; the input reads as it did. -/
def roundServesUptoRow : OpenClaim := { program := "ytgcnlfchpjbhkaa", sum := "34d3a5c16002bd8eb269107a5d2dd11ac73cddfd69611127346fcb6b4e85a50e", func := "congress/congresslaw09.RoundServes", spec := "roundServes", apart := false, narrowed := true }
def RoundServesUptoSaid : Prop := roundServesUptoRow.holds Try.pinned (OpenSpec.upto roundServesSpec)

/-- 'congresslaw09.RoundMay', WHERE WHAT IT READS IS OF BULK AT MOST 1048576: true; the input reads as it did. -/
def roundMayUptoRow : OpenClaim := { program := "ytgcnlfchpjbhkaa", sum := "34d3a5c16002bd8eb269107a5d2dd11ac73cddfd69611127346fcb6b4e85a50e", func := "congress/congresslaw09.RoundMay", spec := "roundMay", apart := false, narrowed := true }
def RoundMayUptoSaid : Prop := roundMayUptoRow.holds Try.pinned (OpenSpec.upto roundMaySpec)

/-- 'congresslaw09.RoundTells', WHERE WHAT IT READS IS OF BULK AT MOST 1048576: true; the input reads as it did. -/
def roundTellsUptoRow : OpenClaim := { program := "ytgcnlfchpjbhkaa", sum := "34d3a5c16002bd8eb269107a5d2dd11ac73cddfd69611127346fcb6b4e85a50e", func := "congress/congresslaw09.RoundTells", spec := "roundTells", apart := false, narrowed := true }
def RoundTellsUptoSaid : Prop := roundTellsUptoRow.holds Try.pinned (OpenSpec.upto roundTellsSpec)

/-- 'congresslaw09.RoundRises', WHERE WHAT IT READS IS OF BULK AT MOST 1048576: true; the input reads as it did. -/
def roundRisesUptoRow : OpenClaim := { program := "ytgcnlfchpjbhkaa", sum := "34d3a5c16002bd8eb269107a5d2dd11ac73cddfd69611127346fcb6b4e85a50e", func := "congress/congresslaw09.RoundRises", spec := "roundRises", apart := false, narrowed := true }
def RoundRisesUptoSaid : Prop := roundRisesUptoRow.holds Try.pinned (OpenSpec.upto roundRisesSpec)

/-- 'congresslaw09.RoundOrder', WHERE WHAT IT READS IS OF BULK AT MOST 1048576: true; the input reads as it did. -/
def roundOrderUptoRow : OpenClaim := { program := "ytgcnlfchpjbhkaa", sum := "34d3a5c16002bd8eb269107a5d2dd11ac73cddfd69611127346fcb6b4e85a50e", func := "congress/congresslaw09.RoundOrder", spec := "roundOrder", apart := false, narrowed := true }
def RoundOrderUptoSaid : Prop := roundOrderUptoRow.holds Try.pinned (OpenSpec.upto roundOrderSpec)

end Rows
end Go.Proofs.Ytgcnlfchpjbhkaa
