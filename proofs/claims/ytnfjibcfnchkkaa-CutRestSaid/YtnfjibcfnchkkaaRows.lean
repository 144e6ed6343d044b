/-
  No cell of these rows narrows 'for every input' (looked for: loops, veiled, ifaces, maps, wideKeys, modest, calm, conditions, laid).
  DERIVED. THE GIVEN ROWS OF THIS SEAT. 5 by the template 'for every input the law returns true; each argument reads behind the call as it read before'; 0 by the template 'total and deterministic' (their statements: YtnfjibcfnchkkaaTotals.lean).
  GIVEN WITH THE SEED: the statements are not yours to turn. If you find one false, say at which input.
  Laid BY PROGRAM, IN A SANDBOX (cutbox-rows.mjs): the forced cells as the released guide's own fill.sh prints them over the translation 0b3e457144683ce3… (all of the seat's roots in one cut). By AI agents, Wed Nov 11 2026. No macro, syntax, notation, axiom, sorry.
-/
import Derived.Test.YtnfjibcfnchkkaaChecked
import GoSem.Claim
import GoSem.ClaimJoined
import GoSem.ClaimMapViews
import Derived.JoinedTies
import Derived.KernelRfl
namespace Go.Proofs.Ytnfjibcfnchkkaa
/- THE CELL 'sum', in the pinned program and in every row, IS THE sha256 OF THE DUMP (.gsa) THAT YtnfjibcfnchkkaaProg.lean LOADS. Nothing in Lean hashes anything: it is a label: what it is worth is what the hold of that sum in a sandbox is worth. -/
noncomputable def Try.pinned : Pinned := { name := "ytnfjibcfnchkkaa", sum := "0b3e457144683ce399067ada11a7367f91eb3ecd6005e587f1746f98967f6b03", checked := Try.checked }
namespace Rows
def none {H : Type} : Left H := { results := [], args := [] }

/-- 'congresslaw11.CutTells': WHATEVER THE INPUT: true; the input reads as it did. -/
def cutTellsSpec : ChangeSpec := { name := "cutTells", fn := fun _ => fun
  | [d1, d2] => { results := [.lit (.bool true)], args := [d1, d2] }
  | _ => none }
def cutTellsRow : OpenClaim := { program := "ytnfjibcfnchkkaa", sum := "0b3e457144683ce399067ada11a7367f91eb3ecd6005e587f1746f98967f6b03", func := "congress/congresslaw11.CutTells", spec := "cutTells", unfollowed := true, recurses := true, apart := false }
def CutTellsSaid : Prop := cutTellsRow.holds Try.pinned (OpenSpec.ofChange cutTellsSpec)

/-- ITS FALSE NEIGHBOUR: 'it returns false'. Refute it at one input. -/
def cutTellsWrong : ChangeSpec := { name := "cutTells", fn := fun _ => fun
  | [d1, d2] => { results := [.lit (.bool false)], args := [d1, d2] }
  | _ => none }
def CutTellsWrongFalsely : Prop := cutTellsRow.holds Try.pinned (OpenSpec.ofChange cutTellsWrong)

/-- 'congresslaw11.CutUnion': WHATEVER THE INPUT: true; the input reads as it did. -/
def cutUnionSpec : ChangeSpec := { name := "cutUnion", fn := fun _ => fun
  | [d1, d2, d3] => { results := [.lit (.bool true)], args := [d1, d2, d3] }
  | _ => none }
def cutUnionRow : OpenClaim := { program := "ytnfjibcfnchkkaa", sum := "0b3e457144683ce399067ada11a7367f91eb3ecd6005e587f1746f98967f6b03", func := "congress/congresslaw11.CutUnion", spec := "cutUnion", unfollowed := true, recurses := true, apart := false }
def CutUnionSaid : Prop := cutUnionRow.holds Try.pinned (OpenSpec.ofChange cutUnionSpec)

/-- ITS FALSE NEIGHBOUR: 'it returns false'. Refute it at one input. -/
def cutUnionWrong : ChangeSpec := { name := "cutUnion", fn := fun _ => fun
  | [d1, d2, d3] => { results := [.lit (.bool false)], args := [d1, d2, d3] }
  | _ => none }
def CutUnionWrongFalsely : Prop := cutUnionRow.holds Try.pinned (OpenSpec.ofChange cutUnionWrong)

/-- 'congresslaw11.CutMissing': WHATEVER THE INPUT: true; the input reads as it did. -/
def cutMissingSpec : ChangeSpec := { name := "cutMissing", fn := fun _ => fun
  | [d] => { results := [.lit (.bool true)], args := [d] }
  | _ => none }
def cutMissingRow : OpenClaim := { program := "ytnfjibcfnchkkaa", sum := "0b3e457144683ce399067ada11a7367f91eb3ecd6005e587f1746f98967f6b03", func := "congress/congresslaw11.CutMissing", spec := "cutMissing", unfollowed := true, recurses := true, apart := false }
def CutMissingSaid : Prop := cutMissingRow.holds Try.pinned (OpenSpec.ofChange cutMissingSpec)

/-- ITS FALSE NEIGHBOUR: 'it returns false'. Refute it at one input. -/
def cutMissingWrong : ChangeSpec := { name := "cutMissing", fn := fun _ => fun
  | [d] => { results := [.lit (.bool false)], args := [d] }
  | _ => none }
def CutMissingWrongFalsely : Prop := cutMissingRow.holds Try.pinned (OpenSpec.ofChange cutMissingWrong)

/-- 'congresslaw11.CutRest': WHATEVER THE INPUT: true; the input reads as it did. -/
def cutRestSpec : ChangeSpec := { name := "cutRest", fn := fun _ => fun
  | [d1, d2] => { results := [.lit (.bool true)], args := [d1, d2] }
  | _ => none }
def cutRestRow : OpenClaim := { program := "ytnfjibcfnchkkaa", sum := "0b3e457144683ce399067ada11a7367f91eb3ecd6005e587f1746f98967f6b03", func := "congress/congresslaw11.CutRest", spec := "cutRest", unfollowed := true, recurses := true, apart := false }
def CutRestSaid : Prop := cutRestRow.holds Try.pinned (OpenSpec.ofChange cutRestSpec)

/-- ITS FALSE NEIGHBOUR: 'it returns false'. Refute it at one input. -/
def cutRestWrong : ChangeSpec := { name := "cutRest", fn := fun _ => fun
  | [d1, d2] => { results := [.lit (.bool false)], args := [d1, d2] }
  | _ => none }
def CutRestWrongFalsely : Prop := cutRestRow.holds Try.pinned (OpenSpec.ofChange cutRestWrong)

/-- 'congresslaw11.CutWithin': WHATEVER THE INPUT: true; the input reads as it did. -/
def cutWithinSpec : ChangeSpec := { name := "cutWithin", fn := fun _ => fun
  | [d1, d2, d3] => { results := [.lit (.bool true)], args := [d1, d2, d3] }
  | _ => none }
def cutWithinRow : OpenClaim := { program := "ytnfjibcfnchkkaa", sum := "0b3e457144683ce399067ada11a7367f91eb3ecd6005e587f1746f98967f6b03", func := "congress/congresslaw11.CutWithin", spec := "cutWithin", unfollowed := true, recurses := true, apart := false }
def CutWithinSaid : Prop := cutWithinRow.holds Try.pinned (OpenSpec.ofChange cutWithinSpec)

/-- ITS FALSE NEIGHBOUR: 'it returns false'. Refute it at one input. -/
def cutWithinWrong : ChangeSpec := { name := "cutWithin", fn := fun _ => fun
  | [d1, d2, d3] => { results := [.lit (.bool false)], args := [d1, d2, d3] }
  | _ => none }
def CutWithinWrongFalsely : Prop := cutWithinRow.holds Try.pinned (OpenSpec.ofChange cutWithinWrong)

/- THE SECOND FORM. 'bulk': how many values and letters a reading holds, each counted each time it is reached (what is shared counts as often as it is met; a slice's spare places count too). A statement '..UptoSaid' is the law's where the arguments, and the package variables that the reading takes, are together of bulk at most 1048576: NARROWER than '..Said'. Prove '..Said' where nothing that the law and all that it calls make is longer than what came in: it says more and counts as full. Else prove '..UptoSaid'. A law counts once. -/
mutual
def uptoBulk {H : Type} : DataW H → Nat
  | .lit (.string bytes) => bytes.length + 1
  | .lit _ => 1
  | .nil => 1
  | .ptr d => uptoBulk d + 1
  | .slice elems spare => uptoBulkAll elems + uptoBulkAll spare + 1
  | .agg parts => uptoBulkAll parts + 1
  | .iface _ d => uptoBulk d + 1
  | .map entries => uptoBulkEntries entries + 1
  | .held _ => 1
def uptoBulkAll {H : Type} : List (DataW H) → Nat
  | [] => 0
  | d :: r => uptoBulk d + uptoBulkAll r
def uptoBulkEntries {H : Type} : List (Lit × DataW H) → Nat
  | [] => 0
  | x :: r => uptoBulkEntry x + uptoBulkEntries r
def uptoBulkEntry {H : Type} : Lit × DataW H → Nat
  | (.string bytes, d) => bytes.length + uptoBulk d + 1
  | (_, d) => uptoBulk d + 1
 end
def uptoSmall : (H : Type) → List (DataW H) → Bool := fun _ ds => decide (uptoBulkAll ds ≤ 1048576)
def OpenSpec.upto (s : _root_.Go.ChangeSpec) : _root_.Go.OpenSpec := { _root_.Go.OpenSpec.ofChange s with cond := some uptoSmall }

/-- 'congresslaw11.CutTells', WHERE WHAT IT READS IS OF BULK AT MOST 1048576: true; the input reads as it did. -/
def cutTellsUptoRow : OpenClaim := { program := "ytnfjibcfnchkkaa", sum := "0b3e457144683ce399067ada11a7367f91eb3ecd6005e587f1746f98967f6b03", func := "congress/congresslaw11.CutTells", spec := "cutTells", unfollowed := true, recurses := true, apart := false, narrowed := true }
def CutTellsUptoSaid : Prop := cutTellsUptoRow.holds Try.pinned (OpenSpec.upto cutTellsSpec)

/-- 'congresslaw11.CutUnion', WHERE WHAT IT READS IS OF BULK AT MOST 1048576: true; the input reads as it did. -/
def cutUnionUptoRow : OpenClaim := { program := "ytnfjibcfnchkkaa", sum := "0b3e457144683ce399067ada11a7367f91eb3ecd6005e587f1746f98967f6b03", func := "congress/congresslaw11.CutUnion", spec := "cutUnion", unfollowed := true, recurses := true, apart := false, narrowed := true }
def CutUnionUptoSaid : Prop := cutUnionUptoRow.holds Try.pinned (OpenSpec.upto cutUnionSpec)

/-- 'congresslaw11.CutMissing', WHERE WHAT IT READS IS OF BULK AT MOST 1048576: true; the input reads as it did. -/
def cutMissingUptoRow : OpenClaim := { program := "ytnfjibcfnchkkaa", sum := "0b3e457144683ce399067ada11a7367f91eb3ecd6005e587f1746f98967f6b03", func := "congress/congresslaw11.CutMissing", spec := "cutMissing", unfollowed := true, recurses := true, apart := false, narrowed := true }
def CutMissingUptoSaid : Prop := cutMissingUptoRow.holds Try.pinned (OpenSpec.upto cutMissingSpec)

/-- 'congresslaw11.CutRest', WHERE WHAT IT READS IS OF BULK AT MOST 1048576: true; the input reads as it did. -/
def cutRestUptoRow : OpenClaim := { program := "ytnfjibcfnchkkaa", sum := "0b3e457144683ce399067ada11a7367f91eb3ecd6005e587f1746f98967f6b03", func := "congress/congresslaw11.CutRest", spec := "cutRest", unfollowed := true, recurses := true, apart := false, narrowed := true }
def CutRestUptoSaid : Prop := cutRestUptoRow.holds Try.pinned (OpenSpec.upto cutRestSpec)

/-- 'congresslaw11.CutWithin', WHERE WHAT IT READS IS OF BULK AT MOST 1048576: true; the input reads as it did. -/
def cutWithinUptoRow : OpenClaim := { program := "ytnfjibcfnchkkaa", sum := "0b3e457144683ce399067ada11a7367f91eb3ecd6005e587f1746f98967f6b03", func := "congress/congresslaw11.CutWithin", spec := "cutWithin", unfollowed := true, recurses := true, apart := false, narrowed := true }
def CutWithinUptoSaid : Prop := cutWithinUptoRow.holds Try.pinned (OpenSpec.upto cutWithinSpec)

end Rows
end Go.Proofs.Ytnfjibcfnchkkaa
