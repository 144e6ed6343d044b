/-
  No cell of these rows narrows 'for every input' (looked for: loops, veiled, ifaces, maps, wideKeys, modest, calm, conditions, laid).
  DERIVED. THE GIVEN ROWS OF THIS SEAT. 4 by the template 'for every input the law returns true; each argument reads behind the call as it read before'; 0 by the template 'total and deterministic' (their statements: YtckoficjcnaedaaTotals.lean).
  GIVEN WITH THE SEED: the statements are not yours to turn. If you find one false, say at which input.
  Laid BY PROGRAM, IN A SANDBOX (cutbox-rows.mjs): the forced cells as the released guide's own fill.sh prints them over the translation 66c39d4df09f7f01… (all of the seat's roots in one cut). By AI agents, Wed Nov 11 2026. No macro, syntax, notation, axiom, sorry.
-/
import Derived.Test.YtckoficjcnaedaaChecked
import GoSem.Claim
import GoSem.ClaimJoined
import GoSem.ClaimMapViews
import Derived.JoinedTies
import Derived.KernelRfl
namespace Go.Proofs.Ytckoficjcnaedaa
/- THE CELL 'sum', in the pinned program and in every row, IS THE sha256 OF THE DUMP (.gsa) THAT YtckoficjcnaedaaProg.lean LOADS. Nothing in Lean hashes anything: it is a label: what it is worth is what the hold of that sum in a sandbox is worth. -/
noncomputable def Try.pinned : Pinned := { name := "ytckoficjcnaedaa", sum := "66c39d4df09f7f01ec04529794d9424cb7fa6aad2c1a5b1fe159d3bde553be1e", checked := Try.checked }
namespace Rows
def none {H : Type} : Left H := { results := [], args := [] }

/-- 'congresslaw08.BeatTells': WHATEVER THE INPUT: true; the input reads as it did. -/
def beatTellsSpec : ChangeSpec := { name := "beatTells", fn := fun _ => fun
  | [d1, d2, d3] => { results := [.lit (.bool true)], args := [d1, d2, d3] }
  | _ => none }
def beatTellsRow : OpenClaim := { program := "ytckoficjcnaedaa", sum := "66c39d4df09f7f01ec04529794d9424cb7fa6aad2c1a5b1fe159d3bde553be1e", func := "congress/congresslaw08.BeatTells", spec := "beatTells", apart := false }
def BeatTellsSaid : Prop := beatTellsRow.holds Try.pinned (OpenSpec.ofChange beatTellsSpec)

/-- ITS FALSE NEIGHBOUR: 'it returns false'. Refute it at one input. -/
def beatTellsWrong : ChangeSpec := { name := "beatTells", fn := fun _ => fun
  | [d1, d2, d3] => { results := [.lit (.bool false)], args := [d1, d2, d3] }
  | _ => none }
def BeatTellsWrongFalsely : Prop := beatTellsRow.holds Try.pinned (OpenSpec.ofChange beatTellsWrong)

/-- 'congresslaw08.BeatWaits': WHATEVER THE INPUT: true; the input reads as it did. -/
def beatWaitsSpec : ChangeSpec := { name := "beatWaits", fn := fun _ => fun
  | [d1, d2, d3] => { results := [.lit (.bool true)], args := [d1, d2, d3] }
  | _ => none }
def beatWaitsRow : OpenClaim := { program := "ytckoficjcnaedaa", sum := "66c39d4df09f7f01ec04529794d9424cb7fa6aad2c1a5b1fe159d3bde553be1e", func := "congress/congresslaw08.BeatWaits", spec := "beatWaits", apart := false }
def BeatWaitsSaid : Prop := beatWaitsRow.holds Try.pinned (OpenSpec.ofChange beatWaitsSpec)

/-- ITS FALSE NEIGHBOUR: 'it returns false'. Refute it at one input. -/
def beatWaitsWrong : ChangeSpec := { name := "beatWaits", fn := fun _ => fun
  | [d1, d2, d3] => { results := [.lit (.bool false)], args := [d1, d2, d3] }
  | _ => none }
def BeatWaitsWrongFalsely : Prop := beatWaitsRow.holds Try.pinned (OpenSpec.ofChange beatWaitsWrong)

/-- 'congresslaw08.BeatRises': WHATEVER THE INPUT: true; the input reads as it did. -/
def beatRisesSpec : ChangeSpec := { name := "beatRises", fn := fun _ => fun
  | [d] => { results := [.lit (.bool true)], args := [d] }
  | _ => none }
def beatRisesRow : OpenClaim := { program := "ytckoficjcnaedaa", sum := "66c39d4df09f7f01ec04529794d9424cb7fa6aad2c1a5b1fe159d3bde553be1e", func := "congress/congresslaw08.BeatRises", spec := "beatRises", apart := false }
def BeatRisesSaid : Prop := beatRisesRow.holds Try.pinned (OpenSpec.ofChange beatRisesSpec)

/-- ITS FALSE NEIGHBOUR: 'it returns false'. Refute it at one input. -/
def beatRisesWrong : ChangeSpec := { name := "beatRises", fn := fun _ => fun
  | [d] => { results := [.lit (.bool false)], args := [d] }
  | _ => none }
def BeatRisesWrongFalsely : Prop := beatRisesRow.holds Try.pinned (OpenSpec.ofChange beatRisesWrong)

/-- 'congresslaw08.BeatApart': WHATEVER THE INPUT: true; the input reads as it did. -/
def beatApartSpec : ChangeSpec := { name := "beatApart", fn := fun _ => fun
  | [d1, d2, d3] => { results := [.lit (.bool true)], args := [d1, d2, d3] }
  | _ => none }
def beatApartRow : OpenClaim := { program := "ytckoficjcnaedaa", sum := "66c39d4df09f7f01ec04529794d9424cb7fa6aad2c1a5b1fe159d3bde553be1e", func := "congress/congresslaw08.BeatApart", spec := "beatApart", apart := false }
def BeatApartSaid : Prop := beatApartRow.holds Try.pinned (OpenSpec.ofChange beatApartSpec)

/-- ITS FALSE NEIGHBOUR: 'it returns false'. Refute it at one input. -/
def beatApartWrong : ChangeSpec := { name := "beatApart", fn := fun _ => fun
  | [d1, d2, d3] => { results := [.lit (.bool false)], args := [d1, d2, d3] }
  | _ => none }
def BeatApartWrongFalsely : Prop := beatApartRow.holds Try.pinned (OpenSpec.ofChange beatApartWrong)

/- THE SECOND FORM. 'bulk': how many values and letters a reading holds, each counted each time it is reached (what is shared counts as often as it is met; a slice's spare places count too). A statement '..UptoSaid' is the law's where the arguments, and the package variables that the reading takes, are together of bulk at most 1048576: NARROWER than '..Said'. Prove '..Said' where nothing that the law and all that it calls make is longer than what came in: it says more and counts as full. Else prove '..UptoSaid'. A law counts once. -/
mutual
def uptoBulk {H : Type} : DataW H → Nat
  | .lit (.string bytes) => bytes.length + 1
  | .lit _ => 1
  | .nil => 1
  | .ptr d => uptoBulk d + 1
  | .slice elems spare => uptoBulkAll elems + uptoBulkAll spare + 1
  | .agg parts => uptoBulkAll parts + 1
  | .iface _ d => uptoBulk d + 1
  | .map entries => uptoBulkEntries entries + 1
  | .held _ => 1
def uptoBulkAll {H : Type} : List (DataW H) → Nat
  | [] => 0
  | d :: r => uptoBulk d + uptoBulkAll r
def uptoBulkEntries {H : Type} : List (Lit × DataW H) → Nat
  | [] => 0
  | x :: r => uptoBulkEntry x + uptoBulkEntries r
def uptoBulkEntry {H : Type} : Lit × DataW H → Nat
  | (.string bytes, d) => bytes.length + uptoBulk d + 1
  | (_, d) => uptoBulk d + 1
 end
def uptoSmall : (H : Type) → List (DataW H) → Bool := fun _ ds => decide (uptoBulkAll ds ≤ 1048576)
def OpenSpec.upto (s : _root_.Go.ChangeSpec) : _root_.Go.OpenSpec := { _root_.Go.OpenSpec.ofChange s with cond := some uptoSmall }

/-- 'congresslaw08.BeatTells', WHERE WHAT IT READS IS OF BULK AT MOST 1048576: true; the input reads as it did. -/
def beatTellsUptoRow : OpenClaim := { program := "ytckoficjcnaedaa", sum := "66c39d4df09f7f01ec04529794d9424cb7fa6aad2c1a5b1fe159d3bde553be1e", func := "congress/congresslaw08.BeatTells", spec := "beatTells", apart := false, narrowed := true }
def BeatTellsUptoSaid : Prop := beatTellsUptoRow.holds Try.pinned (OpenSpec.upto beatTellsSpec)

/-- 'congresslaw08.BeatWaits', WHERE WHAT IT READS IS OF BULK AT MOST 1048576: true; the input reads as it did. -/
def beatWaitsUptoRow : OpenClaim := { program := "ytckoficjcnaedaa", sum := "66c39d4df09f7f01ec04529794d9424cb7fa6aad2c1a5b1fe159d3bde553be1e", func := "congress/congresslaw08.BeatWaits", spec := "beatWaits", apart := false, narrowed := true }
def BeatWaitsUptoSaid : Prop := beatWaitsUptoRow.holds Try.pinned (OpenSpec.upto beatWaitsSpec)

/-- 'congresslaw08.BeatRises', WHERE WHAT IT READS IS OF BULK AT MOST 1048576: true; the input reads as it did. -/
def beatRisesUptoRow : OpenClaim := { program := "ytckoficjcnaedaa", sum := "66c39d4df09f7f01ec04529794d9424cb7fa6aad2c1a5b1fe159d3bde553be1e", func := "congress/congresslaw08.BeatRises", spec := "beatRises", apart := false, narrowed := true }
def BeatRisesUptoSaid : Prop := beatRisesUptoRow.holds Try.pinned (OpenSpec.upto beatRisesSpec)

/-- 'congresslaw08.BeatApart', WHERE WHAT IT READS IS OF BULK AT MOST 1048576: true; the input reads as it did. -/
def beatApartUptoRow : OpenClaim := { program := "ytckoficjcnaedaa", sum := "66c39d4df09f7f01ec04529794d9424cb7fa6aad2c1a5b1fe159d3bde553be1e", func := "congress/congresslaw08.BeatApart", spec := "beatApart", apart := false, narrowed := true }
def BeatApartUptoSaid : Prop := beatApartUptoRow.holds Try.pinned (OpenSpec.upto beatApartSpec)

end Rows
end Go.Proofs.Ytckoficjcnaedaa
