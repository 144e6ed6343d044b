/-
  No cell of these rows narrows 'for every input' (looked for: loops, veiled, ifaces, maps, wideKeys, modest, calm, conditions, laid).
  DERIVED. THE GIVEN ROWS OF THIS SEAT. 5 by the template 'for every input the law returns true; each argument reads behind the call as it read before'; 0 by the template 'total and deterministic' (their statements: YthkgpbjgkchilaaTotals.lean).
  GIVEN WITH THE SEED: the statements are not yours to turn. If you find one false, say at which input.
  Laid BY PROGRAM, IN A SANDBOX (cutbox-rows.mjs): the forced cells as the released guide's own fill.sh prints them over the translation 6b157847858ebf07… (all of the seat's roots in one cut). By AI agents, Wed Nov 11 2026. No macro, syntax, notation, axiom, sorry.
-/
import Derived.Test.YthkgpbjgkchilaaChecked
import GoSem.Claim
import GoSem.ClaimJoined
import GoSem.ClaimMapViews
import Derived.JoinedTies
import Derived.KernelRfl
namespace Go.Proofs.Ythkgpbjgkchilaa
/- THE CELL 'sum', in the pinned program and in every row, IS THE sha256 OF THE DUMP (.gsa) THAT YthkgpbjgkchilaaProg.lean LOADS. Nothing in Lean hashes anything: it is a label: what it is worth is what the hold of that sum in a sandbox is worth. -/
noncomputable def Try.pinned : Pinned := { name := "ythkgpbjgkchilaa", sum := "6b157847858ebf07df31bebdef31da3ec9cc389a9b14c4b705cac6c0f786ff0d", checked := Try.checked }
namespace Rows
def none {H : Type} : Left H := { results := [], args := [] }

/-- 'congresslaw07.IdentOrder': WHATEVER THE INPUT: true; the input reads as it did. -/
def identOrderSpec : ChangeSpec := { name := "identOrder", fn := fun _ => fun
  | [d1, d2, d3] => { results := [.lit (.bool true)], args := [d1, d2, d3] }
  | _ => none }
def identOrderRow : OpenClaim := { program := "ythkgpbjgkchilaa", sum := "6b157847858ebf07df31bebdef31da3ec9cc389a9b14c4b705cac6c0f786ff0d", func := "congress/congresslaw07.IdentOrder", spec := "identOrder", apart := false }
def IdentOrderSaid : Prop := identOrderRow.holds Try.pinned (OpenSpec.ofChange identOrderSpec)

/-- ITS FALSE NEIGHBOUR: 'it returns false'. Refute it at one input. -/
def identOrderWrong : ChangeSpec := { name := "identOrder", fn := fun _ => fun
  | [d1, d2, d3] => { results := [.lit (.bool false)], args := [d1, d2, d3] }
  | _ => none }
def IdentOrderWrongFalsely : Prop := identOrderRow.holds Try.pinned (OpenSpec.ofChange identOrderWrong)

/-- 'congresslaw07.IdentHighest': WHATEVER THE INPUT: true; the input reads as it did. -/
def identHighestSpec : ChangeSpec := { name := "identHighest", fn := fun _ => fun
  | [d] => { results := [.lit (.bool true)], args := [d] }
  | _ => none }
def identHighestRow : OpenClaim := { program := "ythkgpbjgkchilaa", sum := "6b157847858ebf07df31bebdef31da3ec9cc389a9b14c4b705cac6c0f786ff0d", func := "congress/congresslaw07.IdentHighest", spec := "identHighest", apart := false }
def IdentHighestSaid : Prop := identHighestRow.holds Try.pinned (OpenSpec.ofChange identHighestSpec)

/-- ITS FALSE NEIGHBOUR: 'it returns false'. Refute it at one input. -/
def identHighestWrong : ChangeSpec := { name := "identHighest", fn := fun _ => fun
  | [d] => { results := [.lit (.bool false)], args := [d] }
  | _ => none }
def IdentHighestWrongFalsely : Prop := identHighestRow.holds Try.pinned (OpenSpec.ofChange identHighestWrong)

/-- 'congresslaw07.IdentMembers': WHATEVER THE INPUT: true; the input reads as it did. -/
def identMembersSpec : ChangeSpec := { name := "identMembers", fn := fun _ => fun
  | [d] => { results := [.lit (.bool true)], args := [d] }
  | _ => none }
def identMembersRow : OpenClaim := { program := "ythkgpbjgkchilaa", sum := "6b157847858ebf07df31bebdef31da3ec9cc389a9b14c4b705cac6c0f786ff0d", func := "congress/congresslaw07.IdentMembers", spec := "identMembers", apart := false }
def IdentMembersSaid : Prop := identMembersRow.holds Try.pinned (OpenSpec.ofChange identMembersSpec)

/-- ITS FALSE NEIGHBOUR: 'it returns false'. Refute it at one input. -/
def identMembersWrong : ChangeSpec := { name := "identMembers", fn := fun _ => fun
  | [d] => { results := [.lit (.bool false)], args := [d] }
  | _ => none }
def IdentMembersWrongFalsely : Prop := identMembersRow.holds Try.pinned (OpenSpec.ofChange identMembersWrong)

/-- 'congresslaw07.IdentTells': WHATEVER THE INPUT: true; the input reads as it did. -/
def identTellsSpec : ChangeSpec := { name := "identTells", fn := fun _ => fun
  | [d1, d2, d3] => { results := [.lit (.bool true)], args := [d1, d2, d3] }
  | _ => none }
def identTellsRow : OpenClaim := { program := "ythkgpbjgkchilaa", sum := "6b157847858ebf07df31bebdef31da3ec9cc389a9b14c4b705cac6c0f786ff0d", func := "congress/congresslaw07.IdentTells", spec := "identTells", apart := false }
def IdentTellsSaid : Prop := identTellsRow.holds Try.pinned (OpenSpec.ofChange identTellsSpec)

/-- ITS FALSE NEIGHBOUR: 'it returns false'. Refute it at one input. -/
def identTellsWrong : ChangeSpec := { name := "identTells", fn := fun _ => fun
  | [d1, d2, d3] => { results := [.lit (.bool false)], args := [d1, d2, d3] }
  | _ => none }
def IdentTellsWrongFalsely : Prop := identTellsRow.holds Try.pinned (OpenSpec.ofChange identTellsWrong)

/-- 'congresslaw07.IdentSame': WHATEVER THE INPUT: true; the input reads as it did. -/
def identSameSpec : ChangeSpec := { name := "identSame", fn := fun _ => fun
  | [d1, d2, d3] => { results := [.lit (.bool true)], args := [d1, d2, d3] }
  | _ => none }
def identSameRow : OpenClaim := { program := "ythkgpbjgkchilaa", sum := "6b157847858ebf07df31bebdef31da3ec9cc389a9b14c4b705cac6c0f786ff0d", func := "congress/congresslaw07.IdentSame", spec := "identSame", apart := false }
def IdentSameSaid : Prop := identSameRow.holds Try.pinned (OpenSpec.ofChange identSameSpec)

/-- ITS FALSE NEIGHBOUR: 'it returns false'. Refute it at one input. -/
def identSameWrong : ChangeSpec := { name := "identSame", fn := fun _ => fun
  | [d1, d2, d3] => { results := [.lit (.bool false)], args := [d1, d2, d3] }
  | _ => none }
def IdentSameWrongFalsely : Prop := identSameRow.holds Try.pinned (OpenSpec.ofChange identSameWrong)

/- THE SECOND FORM. 'bulk': how many values and letters a reading holds, each counted each time it is reached (what is shared counts as often as it is met; a slice's spare places count too). A statement '..UptoSaid' is the law's where the arguments, and the package variables that the reading takes, are together of bulk at most 1048576: NARROWER than '..Said'. Prove '..Said' where nothing that the law and all that it calls make is longer than what came in: it says more and counts as full. Else prove '..UptoSaid'. A law counts once. -/
mutual
def uptoBulk {H : Type} : DataW H → Nat
  | .lit (.string bytes) => bytes.length + 1
  | .lit _ => 1
  | .nil => 1
  | .ptr d => uptoBulk d + 1
  | .slice elems spare => uptoBulkAll elems + uptoBulkAll spare + 1
  | .agg parts => uptoBulkAll parts + 1
  | .iface _ d => uptoBulk d + 1
  | .map entries => uptoBulkEntries entries + 1
  | .held _ => 1
def uptoBulkAll {H : Type} : List (DataW H) → Nat
  | [] => 0
  | d :: r => uptoBulk d + uptoBulkAll r
def uptoBulkEntries {H : Type} : List (Lit × DataW H) → Nat
  | [] => 0
  | x :: r => uptoBulkEntry x + uptoBulkEntries r
def uptoBulkEntry {H : Type} : Lit × DataW H → Nat
  | (.string bytes, d) => bytes.length + uptoBulk d + 1
  | (_, d) => uptoBulk d + 1
 end
def uptoSmall : (H : Type) → List (DataW H) → Bool := fun _ ds => decide (uptoBulkAll ds ≤ 1048576)
def OpenSpec.upto (s : _root_.Go.ChangeSpec) : _root_.Go.OpenSpec := { _root_.Go.OpenSpec.ofChange s with cond := some uptoSmall }

/-- 'congresslaw07.IdentOrder', WHERE WHAT IT READS IS OF BULK AT MOST 1048576: true; the input reads as it did. -/
def identOrderUptoRow : OpenClaim := { program := "ythkgpbjgkchilaa", sum := "6b157847858ebf07df31bebdef31da3ec9cc389a9b14c4b705cac6c0f786ff0d", func := "congress/congresslaw07.IdentOrder", spec := "identOrder", apart := false, narrowed := true }
def IdentOrderUptoSaid : Prop := identOrderUptoRow.holds Try.pinned (OpenSpec.upto identOrderSpec)

/-- 'congresslaw07.IdentHighest', WHERE WHAT IT READS IS OF BULK AT MOST 1048576: true; the input reads as it did. -/
def identHighestUptoRow : OpenClaim := { program := "ythkgpbjgkchilaa", sum := "6b157847858ebf07df31bebdef31da3ec9cc389a9b14c4b705cac6c0f786ff0d", func := "congress/congresslaw07.IdentHighest", spec := "identHighest", apart := false, narrowed := true }
def IdentHighestUptoSaid : Prop := identHighestUptoRow.holds Try.pinned (OpenSpec.upto identHighestSpec)

/-- 'congresslaw07.IdentMembers', WHERE WHAT IT READS IS OF BULK AT MOST 1048576: true; the input reads as it did. -/
def identMembersUptoRow : OpenClaim := { program := "ythkgpbjgkchilaa", sum := "6b157847858ebf07df31bebdef31da3ec9cc389a9b14c4b705cac6c0f786ff0d", func := "congress/congresslaw07.IdentMembers", spec := "identMembers", apart := false, narrowed := true }
def IdentMembersUptoSaid : Prop := identMembersUptoRow.holds Try.pinned (OpenSpec.upto identMembersSpec)

/-- 'congresslaw07.IdentTells', WHERE WHAT IT READS IS OF BULK AT MOST 1048576: true; the input reads as it did. -/
def identTellsUptoRow : OpenClaim := { program := "ythkgpbjgkchilaa", sum := "6b157847858ebf07df31bebdef31da3ec9cc389a9b14c4b705cac6c0f786ff0d", func := "congress/congresslaw07.IdentTells", spec := "identTells", apart := false, narrowed := true }
def IdentTellsUptoSaid : Prop := identTellsUptoRow.holds Try.pinned (OpenSpec.upto identTellsSpec)

/-- 'congresslaw07.IdentSame', WHERE WHAT IT READS IS OF BULK AT MOST 1048576: true; the input reads as it did. -/
def identSameUptoRow : OpenClaim := { program := "ythkgpbjgkchilaa", sum := "6b157847858ebf07df31bebdef31da3ec9cc389a9b14c4b705cac6c0f786ff0d", func := "congress/congresslaw07.IdentSame", spec := "identSame", apart := false, narrowed := true }
def IdentSameUptoSaid : Prop := identSameUptoRow.holds Try.pinned (OpenSpec.upto identSameSpec)

end Rows
end Go.Proofs.Ythkgpbjgkchilaa
