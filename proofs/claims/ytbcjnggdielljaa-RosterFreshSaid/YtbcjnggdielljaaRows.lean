/-
  No cell of these rows narrows 'for every input' (looked for: loops, veiled, ifaces, maps, wideKeys, modest, calm, conditions, laid).
  DERIVED. THE GIVEN ROWS OF THIS SEAT. 4 by the template 'for every input the law returns true; each argument reads behind the call as it read before'; 0 by the template 'total and deterministic' (their statements: YtbcjnggdielljaaTotals.lean).
  GIVEN WITH THE SEED: the statements are not yours to turn. If you find one false, say at which input.
  Laid BY PROGRAM, IN A SANDBOX (cutbox-rows.mjs): the forced cells as the released guide's own fill.sh prints them over the translation 7f60dd83b0327c2d… (all of the seat's roots in one cut). By AI agents, Wed Nov 11 2026. No macro, syntax, notation, axiom, sorry.
-/
import Derived.Test.YtbcjnggdielljaaChecked
import GoSem.Claim
import GoSem.ClaimJoined
import GoSem.ClaimMapViews
import Derived.JoinedTies
import Derived.KernelRfl
namespace Go.Proofs.Ytbcjnggdielljaa
/- THE CELL 'sum', in the pinned program and in every row, IS THE sha256 OF THE DUMP (.gsa) THAT YtbcjnggdielljaaProg.lean LOADS. Nothing in Lean hashes anything: it is a label: what it is worth is what the hold of that sum in a sandbox is worth. -/
noncomputable def Try.pinned : Pinned := { name := "ytbcjnggdielljaa", sum := "7f60dd83b0327c2d9c19f82d03254287072db038a755b93ea6efa55e2b9dfbbe", checked := Try.checked }
namespace Rows
def none {H : Type} : Left H := { results := [], args := [] }

/-- 'congresslaw17.RosterTells': WHATEVER THE INPUT: true; the input reads as it did. -/
def rosterTellsSpec : ChangeSpec := { name := "rosterTells", fn := fun _ => fun
  | [d1, d2] => { results := [.lit (.bool true)], args := [d1, d2] }
  | _ => none }
def rosterTellsRow : OpenClaim := { program := "ytbcjnggdielljaa", sum := "7f60dd83b0327c2d9c19f82d03254287072db038a755b93ea6efa55e2b9dfbbe", func := "congress/congresslaw17.RosterTells", spec := "rosterTells", unfollowed := true, recurses := true, apart := false }
def RosterTellsSaid : Prop := rosterTellsRow.holds Try.pinned (OpenSpec.ofChange rosterTellsSpec)

/-- ITS FALSE NEIGHBOUR: 'it returns false'. Refute it at one input. -/
def rosterTellsWrong : ChangeSpec := { name := "rosterTells", fn := fun _ => fun
  | [d1, d2] => { results := [.lit (.bool false)], args := [d1, d2] }
  | _ => none }
def RosterTellsWrongFalsely : Prop := rosterTellsRow.holds Try.pinned (OpenSpec.ofChange rosterTellsWrong)

/-- 'congresslaw17.RosterFresh': WHATEVER THE INPUT: true; the input reads as it did. -/
def rosterFreshSpec : ChangeSpec := { name := "rosterFresh", fn := fun _ => fun
  | [d] => { results := [.lit (.bool true)], args := [d] }
  | _ => none }
def rosterFreshRow : OpenClaim := { program := "ytbcjnggdielljaa", sum := "7f60dd83b0327c2d9c19f82d03254287072db038a755b93ea6efa55e2b9dfbbe", func := "congress/congresslaw17.RosterFresh", spec := "rosterFresh", unfollowed := true, recurses := true, apart := false }
def RosterFreshSaid : Prop := rosterFreshRow.holds Try.pinned (OpenSpec.ofChange rosterFreshSpec)

/-- ITS FALSE NEIGHBOUR: 'it returns false'. Refute it at one input. -/
def rosterFreshWrong : ChangeSpec := { name := "rosterFresh", fn := fun _ => fun
  | [d] => { results := [.lit (.bool false)], args := [d] }
  | _ => none }
def RosterFreshWrongFalsely : Prop := rosterFreshRow.holds Try.pinned (OpenSpec.ofChange rosterFreshWrong)

/-- 'congresslaw17.RosterStays': WHATEVER THE INPUT: true; the input reads as it did. -/
def rosterStaysSpec : ChangeSpec := { name := "rosterStays", fn := fun _ => fun
  | [d1, d2] => { results := [.lit (.bool true)], args := [d1, d2] }
  | _ => none }
def rosterStaysRow : OpenClaim := { program := "ytbcjnggdielljaa", sum := "7f60dd83b0327c2d9c19f82d03254287072db038a755b93ea6efa55e2b9dfbbe", func := "congress/congresslaw17.RosterStays", spec := "rosterStays", unfollowed := true, recurses := true, apart := false }
def RosterStaysSaid : Prop := rosterStaysRow.holds Try.pinned (OpenSpec.ofChange rosterStaysSpec)

/-- ITS FALSE NEIGHBOUR: 'it returns false'. Refute it at one input. -/
def rosterStaysWrong : ChangeSpec := { name := "rosterStays", fn := fun _ => fun
  | [d1, d2] => { results := [.lit (.bool false)], args := [d1, d2] }
  | _ => none }
def RosterStaysWrongFalsely : Prop := rosterStaysRow.holds Try.pinned (OpenSpec.ofChange rosterStaysWrong)

/-- 'congresslaw17.RosterFull': WHATEVER THE INPUT: true; the input reads as it did. -/
def rosterFullSpec : ChangeSpec := { name := "rosterFull", fn := fun _ => fun
  | [d] => { results := [.lit (.bool true)], args := [d] }
  | _ => none }
def rosterFullRow : OpenClaim := { program := "ytbcjnggdielljaa", sum := "7f60dd83b0327c2d9c19f82d03254287072db038a755b93ea6efa55e2b9dfbbe", func := "congress/congresslaw17.RosterFull", spec := "rosterFull", unfollowed := true, recurses := true, apart := false }
def RosterFullSaid : Prop := rosterFullRow.holds Try.pinned (OpenSpec.ofChange rosterFullSpec)

/-- ITS FALSE NEIGHBOUR: 'it returns false'. Refute it at one input. -/
def rosterFullWrong : ChangeSpec := { name := "rosterFull", fn := fun _ => fun
  | [d] => { results := [.lit (.bool false)], args := [d] }
  | _ => none }
def RosterFullWrongFalsely : Prop := rosterFullRow.holds Try.pinned (OpenSpec.ofChange rosterFullWrong)

/- THE SECOND FORM. 'bulk': how many values and letters a reading holds, each counted each time it is reached (what is shared counts as often as it is met; a slice's spare places count too). A statement '..UptoSaid' is the law's where the arguments, and the package variables that the reading takes, are together of bulk at most 1048576: NARROWER than '..Said'. Prove '..Said' where nothing that the law and all that it calls make is longer than what came in: it says more and counts as full. Else prove '..UptoSaid'. A law counts once. -/
mutual
def uptoBulk {H : Type} : DataW H → Nat
  | .lit (.string bytes) => bytes.length + 1
  | .lit _ => 1
  | .nil => 1
  | .ptr d => uptoBulk d + 1
  | .slice elems spare => uptoBulkAll elems + uptoBulkAll spare + 1
  | .agg parts => uptoBulkAll parts + 1
  | .iface _ d => uptoBulk d + 1
  | .map entries => uptoBulkEntries entries + 1
  | .held _ => 1
def uptoBulkAll {H : Type} : List (DataW H) → Nat
  | [] => 0
  | d :: r => uptoBulk d + uptoBulkAll r
def uptoBulkEntries {H : Type} : List (Lit × DataW H) → Nat
  | [] => 0
  | x :: r => uptoBulkEntry x + uptoBulkEntries r
def uptoBulkEntry {H : Type} : Lit × DataW H → Nat
  | (.string bytes, d) => bytes.length + uptoBulk d + 1
  | (_, d) => uptoBulk d + 1
 end
def uptoSmall : (H : Type) → List (DataW H) → Bool := fun _ ds => decide (uptoBulkAll ds ≤ 1048576)
def OpenSpec.upto (s : _root_.Go.ChangeSpec) : _root_.Go.OpenSpec := { _root_.Go.OpenSpec.ofChange s with cond := some uptoSmall }

/-- 'congresslaw17.RosterTells', WHERE WHAT IT READS IS OF BULK AT MOST 1048576: true; the input reads as it did. -/
def rosterTellsUptoRow : OpenClaim := { program := "ytbcjnggdielljaa", sum := "7f60dd83b0327c2d9c19f82d03254287072db038a755b93ea6efa55e2b9dfbbe", func := "congress/congresslaw17.RosterTells", spec := "rosterTells", unfollowed := true, recurses := true, apart := false, narrowed := true }
def RosterTellsUptoSaid : Prop := rosterTellsUptoRow.holds Try.pinned (OpenSpec.upto rosterTellsSpec)

/-- 'congresslaw17.RosterFresh', WHERE WHAT IT READS IS OF BULK AT MOST 1048576: true; the input reads as it did. -/
def rosterFreshUptoRow : OpenClaim := { program := "ytbcjnggdielljaa", sum := "7f60dd83b0327c2d9c19f82d03254287072db038a755b93ea6efa55e2b9dfbbe", func := "congress/congresslaw17.RosterFresh", spec := "rosterFresh", unfollowed := true, recurses := true, apart := false, narrowed := true }
def RosterFreshUptoSaid : Prop := rosterFreshUptoRow.holds Try.pinned (OpenSpec.upto rosterFreshSpec)

/-- 'congresslaw17.RosterStays', WHERE WHAT IT READS IS OF BULK AT MOST 1048576: true; the input reads as it did. -/
def rosterStaysUptoRow : OpenClaim := { program := "ytbcjnggdielljaa", sum := "7f60dd83b0327c2d9c19f82d03254287072db038a755b93ea6efa55e2b9dfbbe", func := "congress/congresslaw17.RosterStays", spec := "rosterStays", unfollowed := true, recurses := true, apart := false, narrowed := true }
def RosterStaysUptoSaid : Prop := rosterStaysUptoRow.holds Try.pinned (OpenSpec.upto rosterStaysSpec)

/-- 'congresslaw17.RosterFull', WHERE WHAT IT READS IS OF BULK AT MOST 1048576: true; the input reads as it did. -/
def rosterFullUptoRow : OpenClaim := { program := "ytbcjnggdielljaa", sum := "7f60dd83b0327c2d9c19f82d03254287072db038a755b93ea6efa55e2b9dfbbe", func := "congress/congresslaw17.RosterFull", spec := "rosterFull", unfollowed := true, recurses := true, apart := false, narrowed := true }
def RosterFullUptoSaid : Prop := rosterFullUptoRow.holds Try.pinned (OpenSpec.upto rosterFullSpec)

end Rows
end Go.Proofs.Ytbcjnggdielljaa
