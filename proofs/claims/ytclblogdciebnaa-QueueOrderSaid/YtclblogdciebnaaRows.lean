/-
  No cell of these rows narrows 'for every input' (looked for: loops, veiled, ifaces, maps, wideKeys, modest, calm, conditions, laid).
  DERIVED. THE GIVEN ROWS OF THIS SEAT. 5 by the template 'for every input the law returns true; each argument reads behind the call as it read before'; 0 by the template 'total and deterministic' (their statements: YtclblogdciebnaaTotals.lean).
  GIVEN WITH THE SEED: the statements are not yours to turn. If you find one false, say at which input.
  Laid BY PROGRAM, IN A SANDBOX (cutbox-rows.mjs): the forced cells as the released guide's own fill.sh prints them over the translation df6b97db56219197… (all of the seat's roots in one cut). By AI agents, Wed Nov 11 2026. No macro, syntax, notation, axiom, sorry.
-/
import Derived.Test.YtclblogdciebnaaChecked
import GoSem.Claim
import GoSem.ClaimJoined
import GoSem.ClaimMapViews
import Derived.JoinedTies
import Derived.KernelRfl
namespace Go.Proofs.Ytclblogdciebnaa
/- THE CELL 'sum', in the pinned program and in every row, IS THE sha256 OF THE DUMP (.gsa) THAT YtclblogdciebnaaProg.lean LOADS. Nothing in Lean hashes anything: it is a label: what it is worth is what the hold of that sum in a sandbox is worth. -/
noncomputable def Try.pinned : Pinned := { name := "ytclblogdciebnaa", sum := "df6b97db56219197fe08621bfbb7db1c7a338e77fb892f8922f6887da2dd5ae0", checked := Try.checked }
namespace Rows
def none {H : Type} : Left H := { results := [], args := [] }

/-- 'congresslaw22.QueueTells': WHATEVER THE INPUT: true; the input reads as it did. -/
def queueTellsSpec : ChangeSpec := { name := "queueTells", fn := fun _ => fun
  | [d1, d2, d3] => { results := [.lit (.bool true)], args := [d1, d2, d3] }
  | _ => none }
def queueTellsRow : OpenClaim := { program := "ytclblogdciebnaa", sum := "df6b97db56219197fe08621bfbb7db1c7a338e77fb892f8922f6887da2dd5ae0", func := "congress/congresslaw22.QueueTells", spec := "queueTells", inPlace := ["slices.overlaps[congress/api.Wait]"], unfollowed := true, recurses := true, apart := false }
def QueueTellsSaid : Prop := queueTellsRow.holds Try.pinned (OpenSpec.ofChange queueTellsSpec)

/-- ITS FALSE NEIGHBOUR: 'it returns false'. Refute it at one input. -/
def queueTellsWrong : ChangeSpec := { name := "queueTells", fn := fun _ => fun
  | [d1, d2, d3] => { results := [.lit (.bool false)], args := [d1, d2, d3] }
  | _ => none }
def QueueTellsWrongFalsely : Prop := queueTellsRow.holds Try.pinned (OpenSpec.ofChange queueTellsWrong)

/-- 'congresslaw22.QueueStays': WHATEVER THE INPUT: true; the input reads as it did. -/
def queueStaysSpec : ChangeSpec := { name := "queueStays", fn := fun _ => fun
  | [d1, d2, d3] => { results := [.lit (.bool true)], args := [d1, d2, d3] }
  | _ => none }
def queueStaysRow : OpenClaim := { program := "ytclblogdciebnaa", sum := "df6b97db56219197fe08621bfbb7db1c7a338e77fb892f8922f6887da2dd5ae0", func := "congress/congresslaw22.QueueStays", spec := "queueStays", inPlace := ["slices.overlaps[congress/api.Wait]"], unfollowed := true, recurses := true, apart := false }
def QueueStaysSaid : Prop := queueStaysRow.holds Try.pinned (OpenSpec.ofChange queueStaysSpec)

/-- ITS FALSE NEIGHBOUR: 'it returns false'. Refute it at one input. -/
def queueStaysWrong : ChangeSpec := { name := "queueStays", fn := fun _ => fun
  | [d1, d2, d3] => { results := [.lit (.bool false)], args := [d1, d2, d3] }
  | _ => none }
def QueueStaysWrongFalsely : Prop := queueStaysRow.holds Try.pinned (OpenSpec.ofChange queueStaysWrong)

/-- 'congresslaw22.QueueOrder': WHATEVER THE INPUT: true; the input reads as it did. -/
def queueOrderSpec : ChangeSpec := { name := "queueOrder", fn := fun _ => fun
  | [d] => { results := [.lit (.bool true)], args := [d] }
  | _ => none }
def queueOrderRow : OpenClaim := { program := "ytclblogdciebnaa", sum := "df6b97db56219197fe08621bfbb7db1c7a338e77fb892f8922f6887da2dd5ae0", func := "congress/congresslaw22.QueueOrder", spec := "queueOrder", inPlace := ["slices.overlaps[congress/api.Wait]"], unfollowed := true, recurses := true, apart := false }
def QueueOrderSaid : Prop := queueOrderRow.holds Try.pinned (OpenSpec.ofChange queueOrderSpec)

/-- ITS FALSE NEIGHBOUR: 'it returns false'. Refute it at one input. -/
def queueOrderWrong : ChangeSpec := { name := "queueOrder", fn := fun _ => fun
  | [d] => { results := [.lit (.bool false)], args := [d] }
  | _ => none }
def QueueOrderWrongFalsely : Prop := queueOrderRow.holds Try.pinned (OpenSpec.ofChange queueOrderWrong)

/-- 'congresslaw22.QueueFifo': WHATEVER THE INPUT: true; the input reads as it did. -/
def queueFifoSpec : ChangeSpec := { name := "queueFifo", fn := fun _ => fun
  | [d] => { results := [.lit (.bool true)], args := [d] }
  | _ => none }
def queueFifoRow : OpenClaim := { program := "ytclblogdciebnaa", sum := "df6b97db56219197fe08621bfbb7db1c7a338e77fb892f8922f6887da2dd5ae0", func := "congress/congresslaw22.QueueFifo", spec := "queueFifo", inPlace := ["slices.overlaps[congress/api.Wait]"], unfollowed := true, recurses := true, apart := false }
def QueueFifoSaid : Prop := queueFifoRow.holds Try.pinned (OpenSpec.ofChange queueFifoSpec)

/-- ITS FALSE NEIGHBOUR: 'it returns false'. Refute it at one input. -/
def queueFifoWrong : ChangeSpec := { name := "queueFifo", fn := fun _ => fun
  | [d] => { results := [.lit (.bool false)], args := [d] }
  | _ => none }
def QueueFifoWrongFalsely : Prop := queueFifoRow.holds Try.pinned (OpenSpec.ofChange queueFifoWrong)

/-- 'congresslaw22.QueueEnds': WHATEVER THE INPUT: true; the input reads as it did. -/
def queueEndsSpec : ChangeSpec := { name := "queueEnds", fn := fun _ => fun
  | [d1, d2] => { results := [.lit (.bool true)], args := [d1, d2] }
  | _ => none }
def queueEndsRow : OpenClaim := { program := "ytclblogdciebnaa", sum := "df6b97db56219197fe08621bfbb7db1c7a338e77fb892f8922f6887da2dd5ae0", func := "congress/congresslaw22.QueueEnds", spec := "queueEnds", inPlace := ["slices.overlaps[congress/api.Wait]"], unfollowed := true, recurses := true, apart := false }
def QueueEndsSaid : Prop := queueEndsRow.holds Try.pinned (OpenSpec.ofChange queueEndsSpec)

/-- ITS FALSE NEIGHBOUR: 'it returns false'. Refute it at one input. -/
def queueEndsWrong : ChangeSpec := { name := "queueEnds", fn := fun _ => fun
  | [d1, d2] => { results := [.lit (.bool false)], args := [d1, d2] }
  | _ => none }
def QueueEndsWrongFalsely : Prop := queueEndsRow.holds Try.pinned (OpenSpec.ofChange queueEndsWrong)

/- THE SECOND FORM. 'bulk': how many values and letters a reading holds, each counted each time it is reached (what is shared counts as often as it is met; a slice's spare places count too). A statement '..UptoSaid' is the law's where the arguments, and the package variables that the reading takes, are together of bulk at most 1048576: NARROWER than '..Said'. Prove '..Said' where nothing that the law and all that it calls make is longer than what came in: it says more and counts as full. Else prove '..UptoSaid'. A law counts once. -/
mutual
def uptoBulk {H : Type} : DataW H → Nat
  | .lit (.string bytes) => bytes.length + 1
  | .lit _ => 1
  | .nil => 1
  | .ptr d => uptoBulk d + 1
  | .slice elems spare => uptoBulkAll elems + uptoBulkAll spare + 1
  | .agg parts => uptoBulkAll parts + 1
  | .iface _ d => uptoBulk d + 1
  | .map entries => uptoBulkEntries entries + 1
  | .held _ => 1
def uptoBulkAll {H : Type} : List (DataW H) → Nat
  | [] => 0
  | d :: r => uptoBulk d + uptoBulkAll r
def uptoBulkEntries {H : Type} : List (Lit × DataW H) → Nat
  | [] => 0
  | x :: r => uptoBulkEntry x + uptoBulkEntries r
def uptoBulkEntry {H : Type} : Lit × DataW H → Nat
  | (.string bytes, d) => bytes.length + uptoBulk d + 1
  | (_, d) => uptoBulk d + 1
 end
def uptoSmall : (H : Type) → List (DataW H) → Bool := fun _ ds => decide (uptoBulkAll ds ≤ 1048576)
def OpenSpec.upto (s : _root_.Go.ChangeSpec) : _root_.Go.OpenSpec := { _root_.Go.OpenSpec.ofChange s with cond := some uptoSmall }

/-- 'congresslaw22.QueueTells', WHERE WHAT IT READS IS OF BULK AT MOST 1048576: true; the input reads as it did. -/
def queueTellsUptoRow : OpenClaim := { program := "ytclblogdciebnaa", sum := "df6b97db56219197fe08621bfbb7db1c7a338e77fb892f8922f6887da2dd5ae0", func := "congress/congresslaw22.QueueTells", spec := "queueTells", inPlace := ["slices.overlaps[congress/api.Wait]"], unfollowed := true, recurses := true, apart := false, narrowed := true }
def QueueTellsUptoSaid : Prop := queueTellsUptoRow.holds Try.pinned (OpenSpec.upto queueTellsSpec)

/-- 'congresslaw22.QueueStays', WHERE WHAT IT READS IS OF BULK AT MOST 1048576: true; the input reads as it did. -/
def queueStaysUptoRow : OpenClaim := { program := "ytclblogdciebnaa", sum := "df6b97db56219197fe08621bfbb7db1c7a338e77fb892f8922f6887da2dd5ae0", func := "congress/congresslaw22.QueueStays", spec := "queueStays", inPlace := ["slices.overlaps[congress/api.Wait]"], unfollowed := true, recurses := true, apart := false, narrowed := true }
def QueueStaysUptoSaid : Prop := queueStaysUptoRow.holds Try.pinned (OpenSpec.upto queueStaysSpec)

/-- 'congresslaw22.QueueOrder', WHERE WHAT IT READS IS OF BULK AT MOST 1048576: true; the input reads as it did. -/
def queueOrderUptoRow : OpenClaim := { program := "ytclblogdciebnaa", sum := "df6b97db56219197fe08621bfbb7db1c7a338e77fb892f8922f6887da2dd5ae0", func := "congress/congresslaw22.QueueOrder", spec := "queueOrder", inPlace := ["slices.overlaps[congress/api.Wait]"], unfollowed := true, recurses := true, apart := false, narrowed := true }
def QueueOrderUptoSaid : Prop := queueOrderUptoRow.holds Try.pinned (OpenSpec.upto queueOrderSpec)

/-- 'congresslaw22.QueueFifo', WHERE WHAT IT READS IS OF BULK AT MOST 1048576: true; the input reads as it did. -/
def queueFifoUptoRow : OpenClaim := { program := "ytclblogdciebnaa", sum := "df6b97db56219197fe08621bfbb7db1c7a338e77fb892f8922f6887da2dd5ae0", func := "congress/congresslaw22.QueueFifo", spec := "queueFifo", inPlace := ["slices.overlaps[congress/api.Wait]"], unfollowed := true, recurses := true, apart := false, narrowed := true }
def QueueFifoUptoSaid : Prop := queueFifoUptoRow.holds Try.pinned (OpenSpec.upto queueFifoSpec)

/-- 'congresslaw22.QueueEnds', WHERE WHAT IT READS IS OF BULK AT MOST 1048576: true; the input reads as it did. -/
def queueEndsUptoRow : OpenClaim := { program := "ytclblogdciebnaa", sum := "df6b97db56219197fe08621bfbb7db1c7a338e77fb892f8922f6887da2dd5ae0", func := "congress/congresslaw22.QueueEnds", spec := "queueEnds", inPlace := ["slices.overlaps[congress/api.Wait]"], unfollowed := true, recurses := true, apart := false, narrowed := true }
def QueueEndsUptoSaid : Prop := queueEndsUptoRow.holds Try.pinned (OpenSpec.upto queueEndsSpec)

end Rows
end Go.Proofs.Ytclblogdciebnaa
