/-
  No cell of these rows narrows 'for every input' (looked for: loops, veiled, ifaces, maps, wideKeys, modest, calm, conditions, laid).
  DERIVED. THE GIVEN ROWS OF THIS SEAT. 4 by the template 'for every input the law returns true; each argument reads behind the call as it read before'; 0 by the template 'total and deterministic' (their statements: YtpcpfcijdliicaaTotals.lean).
  GIVEN WITH THE SEED: the statements are not yours to turn. If you find one false, say at which input.
  Laid BY PROGRAM, IN A SANDBOX (cutbox-rows.mjs): the forced cells as the released guide's own fill.sh prints them over the translation cbf528f2930cd4e3… (all of the seat's roots in one cut). By AI agents, Wed Nov 11 2026. No macro, syntax, notation, axiom, sorry.
-/
import Derived.Test.YtpcpfcijdliicaaChecked
import GoSem.Claim
import GoSem.ClaimJoined
import GoSem.ClaimMapViews
import Derived.JoinedTies
import Derived.KernelRfl
namespace Go.Proofs.Ytpcpfcijdliicaa
/- THE CELL 'sum', in the pinned program and in every row, IS THE sha256 OF THE DUMP (.gsa) THAT YtpcpfcijdliicaaProg.lean LOADS. Nothing in Lean hashes anything: it is a label: what it is worth is what the hold of that sum in a sandbox is worth. -/
noncomputable def Try.pinned : Pinned := { name := "ytpcpfcijdliicaa", sum := "cbf528f2930cd4e3a2d8be5b21adf73e925c6c3a9ab1ec6c6b591c5addeb6980", checked := Try.checked }
namespace Rows
def none {H : Type} : Left H := { results := [], args := [] }

/-- 'congresslaw18.GroupTells': WHATEVER THE INPUT: true; the input reads as it did. -/
def groupTellsSpec : ChangeSpec := { name := "groupTells", fn := fun _ => fun
  | [d1, d2, d3] => { results := [.lit (.bool true)], args := [d1, d2, d3] }
  | _ => none }
def groupTellsRow : OpenClaim := { program := "ytpcpfcijdliicaa", sum := "cbf528f2930cd4e3a2d8be5b21adf73e925c6c3a9ab1ec6c6b591c5addeb6980", func := "congress/congresslaw18.GroupTells", spec := "groupTells", inPlace := ["slices.overlaps[congress/api.Member]"], unfollowed := true, recurses := true, apart := false }
def GroupTellsSaid : Prop := groupTellsRow.holds Try.pinned (OpenSpec.ofChange groupTellsSpec)

/-- ITS FALSE NEIGHBOUR: 'it returns false'. Refute it at one input. -/
def groupTellsWrong : ChangeSpec := { name := "groupTells", fn := fun _ => fun
  | [d1, d2, d3] => { results := [.lit (.bool false)], args := [d1, d2, d3] }
  | _ => none }
def GroupTellsWrongFalsely : Prop := groupTellsRow.holds Try.pinned (OpenSpec.ofChange groupTellsWrong)

/-- 'congresslaw18.GroupStays': WHATEVER THE INPUT: true; the input reads as it did. -/
def groupStaysSpec : ChangeSpec := { name := "groupStays", fn := fun _ => fun
  | [d1, d2, d3] => { results := [.lit (.bool true)], args := [d1, d2, d3] }
  | _ => none }
def groupStaysRow : OpenClaim := { program := "ytpcpfcijdliicaa", sum := "cbf528f2930cd4e3a2d8be5b21adf73e925c6c3a9ab1ec6c6b591c5addeb6980", func := "congress/congresslaw18.GroupStays", spec := "groupStays", inPlace := ["slices.overlaps[congress/api.Member]"], unfollowed := true, recurses := true, apart := false }
def GroupStaysSaid : Prop := groupStaysRow.holds Try.pinned (OpenSpec.ofChange groupStaysSpec)

/-- ITS FALSE NEIGHBOUR: 'it returns false'. Refute it at one input. -/
def groupStaysWrong : ChangeSpec := { name := "groupStays", fn := fun _ => fun
  | [d1, d2, d3] => { results := [.lit (.bool false)], args := [d1, d2, d3] }
  | _ => none }
def GroupStaysWrongFalsely : Prop := groupStaysRow.holds Try.pinned (OpenSpec.ofChange groupStaysWrong)

/-- 'congresslaw18.GroupTurned': WHATEVER THE INPUT: true; the input reads as it did. -/
def groupTurnedSpec : ChangeSpec := { name := "groupTurned", fn := fun _ => fun
  | [d1, d2, d3] => { results := [.lit (.bool true)], args := [d1, d2, d3] }
  | _ => none }
def groupTurnedRow : OpenClaim := { program := "ytpcpfcijdliicaa", sum := "cbf528f2930cd4e3a2d8be5b21adf73e925c6c3a9ab1ec6c6b591c5addeb6980", func := "congress/congresslaw18.GroupTurned", spec := "groupTurned", inPlace := ["slices.overlaps[congress/api.Member]"], unfollowed := true, recurses := true, apart := false }
def GroupTurnedSaid : Prop := groupTurnedRow.holds Try.pinned (OpenSpec.ofChange groupTurnedSpec)

/-- ITS FALSE NEIGHBOUR: 'it returns false'. Refute it at one input. -/
def groupTurnedWrong : ChangeSpec := { name := "groupTurned", fn := fun _ => fun
  | [d1, d2, d3] => { results := [.lit (.bool false)], args := [d1, d2, d3] }
  | _ => none }
def GroupTurnedWrongFalsely : Prop := groupTurnedRow.holds Try.pinned (OpenSpec.ofChange groupTurnedWrong)

/-- 'congresslaw18.GroupKeeps': WHATEVER THE INPUT: true; the input reads as it did. -/
def groupKeepsSpec : ChangeSpec := { name := "groupKeeps", fn := fun _ => fun
  | [d1, d2, d3] => { results := [.lit (.bool true)], args := [d1, d2, d3] }
  | _ => none }
def groupKeepsRow : OpenClaim := { program := "ytpcpfcijdliicaa", sum := "cbf528f2930cd4e3a2d8be5b21adf73e925c6c3a9ab1ec6c6b591c5addeb6980", func := "congress/congresslaw18.GroupKeeps", spec := "groupKeeps", inPlace := ["slices.overlaps[congress/api.Member]"], unfollowed := true, recurses := true, apart := false }
def GroupKeepsSaid : Prop := groupKeepsRow.holds Try.pinned (OpenSpec.ofChange groupKeepsSpec)

/-- ITS FALSE NEIGHBOUR: 'it returns false'. Refute it at one input. -/
def groupKeepsWrong : ChangeSpec := { name := "groupKeeps", fn := fun _ => fun
  | [d1, d2, d3] => { results := [.lit (.bool false)], args := [d1, d2, d3] }
  | _ => none }
def GroupKeepsWrongFalsely : Prop := groupKeepsRow.holds Try.pinned (OpenSpec.ofChange groupKeepsWrong)

/- THE SECOND FORM. 'bulk': how many values and letters a reading holds, each counted each time it is reached (what is shared counts as often as it is met; a slice's spare places count too). A statement '..UptoSaid' is the law's where the arguments, and the package variables that the reading takes, are together of bulk at most 1048576: NARROWER than '..Said'. Prove '..Said' where nothing that the law and all that it calls make is longer than what came in: it says more and counts as full. Else prove '..UptoSaid'. A law counts once. -/
mutual
def uptoBulk {H : Type} : DataW H → Nat
  | .lit (.string bytes) => bytes.length + 1
  | .lit _ => 1
  | .nil => 1
  | .ptr d => uptoBulk d + 1
  | .slice elems spare => uptoBulkAll elems + uptoBulkAll spare + 1
  | .agg parts => uptoBulkAll parts + 1
  | .iface _ d => uptoBulk d + 1
  | .map entries => uptoBulkEntries entries + 1
  | .held _ => 1
def uptoBulkAll {H : Type} : List (DataW H) → Nat
  | [] => 0
  | d :: r => uptoBulk d + uptoBulkAll r
def uptoBulkEntries {H : Type} : List (Lit × DataW H) → Nat
  | [] => 0
  | x :: r => uptoBulkEntry x + uptoBulkEntries r
def uptoBulkEntry {H : Type} : Lit × DataW H → Nat
  | (.string bytes, d) => bytes.length + uptoBulk d + 1
  | (_, d) => uptoBulk d + 1
 end
def uptoSmall : (H : Type) → List (DataW H) → Bool := fun _ ds => decide (uptoBulkAll ds ≤ 1048576)
def OpenSpec.upto (s : _root_.Go.ChangeSpec) : _root_.Go.OpenSpec := { _root_.Go.OpenSpec.ofChange s with cond := some uptoSmall }

/-- 'congresslaw18.GroupTells', WHERE WHAT IT READS IS OF BULK AT MOST 1048576: true; the input reads as it did. -/
def groupTellsUptoRow : OpenClaim := { program := "ytpcpfcijdliicaa", sum := "cbf528f2930cd4e3a2d8be5b21adf73e925c6c3a9ab1ec6c6b591c5addeb6980", func := "congress/congresslaw18.GroupTells", spec := "groupTells", inPlace := ["slices.overlaps[congress/api.Member]"], unfollowed := true, recurses := true, apart := false, narrowed := true }
def GroupTellsUptoSaid : Prop := groupTellsUptoRow.holds Try.pinned (OpenSpec.upto groupTellsSpec)

/-- 'congresslaw18.GroupStays', WHERE WHAT IT READS IS OF BULK AT MOST 1048576: true; the input reads as it did. -/
def groupStaysUptoRow : OpenClaim := { program := "ytpcpfcijdliicaa", sum := "cbf528f2930cd4e3a2d8be5b21adf73e925c6c3a9ab1ec6c6b591c5addeb6980", func := "congress/congresslaw18.GroupStays", spec := "groupStays", inPlace := ["slices.overlaps[congress/api.Member]"], unfollowed := true, recurses := true, apart := false, narrowed := true }
def GroupStaysUptoSaid : Prop := groupStaysUptoRow.holds Try.pinned (OpenSpec.upto groupStaysSpec)

/-- 'congresslaw18.GroupTurned', WHERE WHAT IT READS IS OF BULK AT MOST 1048576: true; the input reads as it did. -/
def groupTurnedUptoRow : OpenClaim := { program := "ytpcpfcijdliicaa", sum := "cbf528f2930cd4e3a2d8be5b21adf73e925c6c3a9ab1ec6c6b591c5addeb6980", func := "congress/congresslaw18.GroupTurned", spec := "groupTurned", inPlace := ["slices.overlaps[congress/api.Member]"], unfollowed := true, recurses := true, apart := false, narrowed := true }
def GroupTurnedUptoSaid : Prop := groupTurnedUptoRow.holds Try.pinned (OpenSpec.upto groupTurnedSpec)

/-- 'congresslaw18.GroupKeeps', WHERE WHAT IT READS IS OF BULK AT MOST 1048576: true; the input reads as it did. -/
def groupKeepsUptoRow : OpenClaim := { program := "ytpcpfcijdliicaa", sum := "cbf528f2930cd4e3a2d8be5b21adf73e925c6c3a9ab1ec6c6b591c5addeb6980", func := "congress/congresslaw18.GroupKeeps", spec := "groupKeeps", inPlace := ["slices.overlaps[congress/api.Member]"], unfollowed := true, recurses := true, apart := false, narrowed := true }
def GroupKeepsUptoSaid : Prop := groupKeepsUptoRow.holds Try.pinned (OpenSpec.upto groupKeepsSpec)

end Rows
end Go.Proofs.Ytpcpfcijdliicaa
