/-
  No cell of these rows narrows 'for every input' (looked for: loops, veiled, ifaces, maps, wideKeys, modest, calm, conditions, laid).
  DERIVED. THE GIVEN ROWS OF THIS SEAT. 6 by the template 'for every input the law returns true; each argument reads behind the call as it read before'; 0 by the template 'total and deterministic' (their statements: YtcocahffigbmbaaTotals.lean).
  GIVEN WITH THE SEED: the statements are not yours to turn. If you find one false, say at which input.
  Laid BY PROGRAM, IN A SANDBOX (cutbox-rows.mjs): the forced cells as the released guide's own fill.sh prints them over the translation 71d688207844d87b… (all of the seat's roots in one cut). By AI agents, Wed Nov 11 2026. No macro, syntax, notation, axiom, sorry.
-/
import Derived.Test.YtcocahffigbmbaaChecked
import GoSem.Claim
import GoSem.ClaimJoined
import GoSem.ClaimMapViews
import Derived.JoinedTies
import Derived.KernelRfl
namespace Go.Proofs.Ytcocahffigbmbaa
/- THE CELL 'sum', in the pinned program and in every row, IS THE sha256 OF THE DUMP (.gsa) THAT YtcocahffigbmbaaProg.lean LOADS. Nothing in Lean hashes anything: it is a label: what it is worth is what the hold of that sum in a sandbox is worth. -/
noncomputable def Try.pinned : Pinned := { name := "ytcocahffigbmbaa", sum := "71d688207844d87bf3bb478e1d2e00df4654d840b0362fe3703924050006d174", checked := Try.checked }
namespace Rows
def none {H : Type} : Left H := { results := [], args := [] }

/-- 'congresslaw13.CoreTicks': WHATEVER THE INPUT: true; the input reads as it did. -/
def coreTicksSpec : ChangeSpec := { name := "coreTicks", fn := fun _ => fun
  | [d1, d2] => { results := [.lit (.bool true)], args := [d1, d2] }
  | _ => none }
def coreTicksRow : OpenClaim := { program := "ytcocahffigbmbaa", sum := "71d688207844d87bf3bb478e1d2e00df4654d840b0362fe3703924050006d174", func := "congress/congresslaw13.CoreTicks", spec := "coreTicks", unfollowed := true, recurses := true, apart := false }
def CoreTicksSaid : Prop := coreTicksRow.holds Try.pinned (OpenSpec.ofChange coreTicksSpec)

/-- ITS FALSE NEIGHBOUR: 'it returns false'. Refute it at one input. -/
def coreTicksWrong : ChangeSpec := { name := "coreTicks", fn := fun _ => fun
  | [d1, d2] => { results := [.lit (.bool false)], args := [d1, d2] }
  | _ => none }
def CoreTicksWrongFalsely : Prop := coreTicksRow.holds Try.pinned (OpenSpec.ofChange coreTicksWrong)

/-- 'congresslaw13.CoreHears': WHATEVER THE INPUT: true; the input reads as it did. -/
def coreHearsSpec : ChangeSpec := { name := "coreHears", fn := fun _ => fun
  | [d1, d2] => { results := [.lit (.bool true)], args := [d1, d2] }
  | _ => none }
def coreHearsRow : OpenClaim := { program := "ytcocahffigbmbaa", sum := "71d688207844d87bf3bb478e1d2e00df4654d840b0362fe3703924050006d174", func := "congress/congresslaw13.CoreHears", spec := "coreHears", unfollowed := true, recurses := true, apart := false }
def CoreHearsSaid : Prop := coreHearsRow.holds Try.pinned (OpenSpec.ofChange coreHearsSpec)

/-- ITS FALSE NEIGHBOUR: 'it returns false'. Refute it at one input. -/
def coreHearsWrong : ChangeSpec := { name := "coreHears", fn := fun _ => fun
  | [d1, d2] => { results := [.lit (.bool false)], args := [d1, d2] }
  | _ => none }
def CoreHearsWrongFalsely : Prop := coreHearsRow.holds Try.pinned (OpenSpec.ofChange coreHearsWrong)

/-- 'congresslaw13.CoreViews': WHATEVER THE INPUT: true; the input reads as it did. -/
def coreViewsSpec : ChangeSpec := { name := "coreViews", fn := fun _ => fun
  | [d1, d2, d3] => { results := [.lit (.bool true)], args := [d1, d2, d3] }
  | _ => none }
def coreViewsRow : OpenClaim := { program := "ytcocahffigbmbaa", sum := "71d688207844d87bf3bb478e1d2e00df4654d840b0362fe3703924050006d174", func := "congress/congresslaw13.CoreViews", spec := "coreViews", unfollowed := true, recurses := true, apart := false }
def CoreViewsSaid : Prop := coreViewsRow.holds Try.pinned (OpenSpec.ofChange coreViewsSpec)

/-- ITS FALSE NEIGHBOUR: 'it returns false'. Refute it at one input. -/
def coreViewsWrong : ChangeSpec := { name := "coreViews", fn := fun _ => fun
  | [d1, d2, d3] => { results := [.lit (.bool false)], args := [d1, d2, d3] }
  | _ => none }
def CoreViewsWrongFalsely : Prop := coreViewsRow.holds Try.pinned (OpenSpec.ofChange coreViewsWrong)

/-- 'congresslaw13.CoreBlind': WHATEVER THE INPUT: true; the input reads as it did. -/
def coreBlindSpec : ChangeSpec := { name := "coreBlind", fn := fun _ => fun
  | [d1, d2, d3] => { results := [.lit (.bool true)], args := [d1, d2, d3] }
  | _ => none }
def coreBlindRow : OpenClaim := { program := "ytcocahffigbmbaa", sum := "71d688207844d87bf3bb478e1d2e00df4654d840b0362fe3703924050006d174", func := "congress/congresslaw13.CoreBlind", spec := "coreBlind", unfollowed := true, recurses := true, apart := false }
def CoreBlindSaid : Prop := coreBlindRow.holds Try.pinned (OpenSpec.ofChange coreBlindSpec)

/-- ITS FALSE NEIGHBOUR: 'it returns false'. Refute it at one input. -/
def coreBlindWrong : ChangeSpec := { name := "coreBlind", fn := fun _ => fun
  | [d1, d2, d3] => { results := [.lit (.bool false)], args := [d1, d2, d3] }
  | _ => none }
def CoreBlindWrongFalsely : Prop := coreBlindRow.holds Try.pinned (OpenSpec.ofChange coreBlindWrong)

/-- 'congresslaw13.CoreAlone': WHATEVER THE INPUT: true; the input reads as it did. -/
def coreAloneSpec : ChangeSpec := { name := "coreAlone", fn := fun _ => fun
  | [d1, d2, d3] => { results := [.lit (.bool true)], args := [d1, d2, d3] }
  | _ => none }
def coreAloneRow : OpenClaim := { program := "ytcocahffigbmbaa", sum := "71d688207844d87bf3bb478e1d2e00df4654d840b0362fe3703924050006d174", func := "congress/congresslaw13.CoreAlone", spec := "coreAlone", unfollowed := true, recurses := true, apart := false }
def CoreAloneSaid : Prop := coreAloneRow.holds Try.pinned (OpenSpec.ofChange coreAloneSpec)

/-- ITS FALSE NEIGHBOUR: 'it returns false'. Refute it at one input. -/
def coreAloneWrong : ChangeSpec := { name := "coreAlone", fn := fun _ => fun
  | [d1, d2, d3] => { results := [.lit (.bool false)], args := [d1, d2, d3] }
  | _ => none }
def CoreAloneWrongFalsely : Prop := coreAloneRow.holds Try.pinned (OpenSpec.ofChange coreAloneWrong)

/-- 'congresslaw13.CorePackets': WHATEVER THE INPUT: true; the input reads as it did. -/
def corePacketsSpec : ChangeSpec := { name := "corePackets", fn := fun _ => fun
  | [d1, d2] => { results := [.lit (.bool true)], args := [d1, d2] }
  | _ => none }
def corePacketsRow : OpenClaim := { program := "ytcocahffigbmbaa", sum := "71d688207844d87bf3bb478e1d2e00df4654d840b0362fe3703924050006d174", func := "congress/congresslaw13.CorePackets", spec := "corePackets", unfollowed := true, recurses := true, apart := false }
def CorePacketsSaid : Prop := corePacketsRow.holds Try.pinned (OpenSpec.ofChange corePacketsSpec)

/-- ITS FALSE NEIGHBOUR: 'it returns false'. Refute it at one input. -/
def corePacketsWrong : ChangeSpec := { name := "corePackets", fn := fun _ => fun
  | [d1, d2] => { results := [.lit (.bool false)], args := [d1, d2] }
  | _ => none }
def CorePacketsWrongFalsely : Prop := corePacketsRow.holds Try.pinned (OpenSpec.ofChange corePacketsWrong)

/- THE SECOND FORM. 'bulk': how many values and letters a reading holds, each counted each time it is reached (what is shared counts as often as it is met; a slice's spare places count too). A statement '..UptoSaid' is the law's where the arguments, and the package variables that the reading takes, are together of bulk at most 1048576: NARROWER than '..Said'. Prove '..Said' where nothing that the law and all that it calls make is longer than what came in: it says more and counts as full. Else prove '..UptoSaid'. A law counts once. -/
mutual
def uptoBulk {H : Type} : DataW H → Nat
  | .lit (.string bytes) => bytes.length + 1
  | .lit _ => 1
  | .nil => 1
  | .ptr d => uptoBulk d + 1
  | .slice elems spare => uptoBulkAll elems + uptoBulkAll spare + 1
  | .agg parts => uptoBulkAll parts + 1
  | .iface _ d => uptoBulk d + 1
  | .map entries => uptoBulkEntries entries + 1
  | .held _ => 1
def uptoBulkAll {H : Type} : List (DataW H) → Nat
  | [] => 0
  | d :: r => uptoBulk d + uptoBulkAll r
def uptoBulkEntries {H : Type} : List (Lit × DataW H) → Nat
  | [] => 0
  | x :: r => uptoBulkEntry x + uptoBulkEntries r
def uptoBulkEntry {H : Type} : Lit × DataW H → Nat
  | (.string bytes, d) => bytes.length + uptoBulk d + 1
  | (_, d) => uptoBulk d + 1
 end
def uptoSmall : (H : Type) → List (DataW H) → Bool := fun _ ds => decide (uptoBulkAll ds ≤ 1048576)
def OpenSpec.upto (s : _root_.Go.ChangeSpec) : _root_.Go.OpenSpec := { _root_.Go.OpenSpec.ofChange s with cond := some uptoSmall }

/-- 'congresslaw13.CoreTicks', WHERE WHAT IT READS IS OF BULK AT MOST 1048576: true; the input reads as it did. -/
def coreTicksUptoRow : OpenClaim := { program := "ytcocahffigbmbaa", sum := "71d688207844d87bf3bb478e1d2e00df4654d840b0362fe3703924050006d174", func := "congress/congresslaw13.CoreTicks", spec := "coreTicks", unfollowed := true, recurses := true, apart := false, narrowed := true }
def CoreTicksUptoSaid : Prop := coreTicksUptoRow.holds Try.pinned (OpenSpec.upto coreTicksSpec)

/-- 'congresslaw13.CoreHears', WHERE WHAT IT READS IS OF BULK AT MOST 1048576: true; the input reads as it did. -/
def coreHearsUptoRow : OpenClaim := { program := "ytcocahffigbmbaa", sum := "71d688207844d87bf3bb478e1d2e00df4654d840b0362fe3703924050006d174", func := "congress/congresslaw13.CoreHears", spec := "coreHears", unfollowed := true, recurses := true, apart := false, narrowed := true }
def CoreHearsUptoSaid : Prop := coreHearsUptoRow.holds Try.pinned (OpenSpec.upto coreHearsSpec)

/-- 'congresslaw13.CoreViews', WHERE WHAT IT READS IS OF BULK AT MOST 1048576: true; the input reads as it did. -/
def coreViewsUptoRow : OpenClaim := { program := "ytcocahffigbmbaa", sum := "71d688207844d87bf3bb478e1d2e00df4654d840b0362fe3703924050006d174", func := "congress/congresslaw13.CoreViews", spec := "coreViews", unfollowed := true, recurses := true, apart := false, narrowed := true }
def CoreViewsUptoSaid : Prop := coreViewsUptoRow.holds Try.pinned (OpenSpec.upto coreViewsSpec)

/-- 'congresslaw13.CoreBlind', WHERE WHAT IT READS IS OF BULK AT MOST 1048576: true; the input reads as it did. -/
def coreBlindUptoRow : OpenClaim := { program := "ytcocahffigbmbaa", sum := "71d688207844d87bf3bb478e1d2e00df4654d840b0362fe3703924050006d174", func := "congress/congresslaw13.CoreBlind", spec := "coreBlind", unfollowed := true, recurses := true, apart := false, narrowed := true }
def CoreBlindUptoSaid : Prop := coreBlindUptoRow.holds Try.pinned (OpenSpec.upto coreBlindSpec)

/-- 'congresslaw13.CoreAlone', WHERE WHAT IT READS IS OF BULK AT MOST 1048576: true; the input reads as it did. -/
def coreAloneUptoRow : OpenClaim := { program := "ytcocahffigbmbaa", sum := "71d688207844d87bf3bb478e1d2e00df4654d840b0362fe3703924050006d174", func := "congress/congresslaw13.CoreAlone", spec := "coreAlone", unfollowed := true, recurses := true, apart := false, narrowed := true }
def CoreAloneUptoSaid : Prop := coreAloneUptoRow.holds Try.pinned (OpenSpec.upto coreAloneSpec)

/-- 'congresslaw13.CorePackets', WHERE WHAT IT READS IS OF BULK AT MOST 1048576: true; the input reads as it did. -/
def corePacketsUptoRow : OpenClaim := { program := "ytcocahffigbmbaa", sum := "71d688207844d87bf3bb478e1d2e00df4654d840b0362fe3703924050006d174", func := "congress/congresslaw13.CorePackets", spec := "corePackets", unfollowed := true, recurses := true, apart := false, narrowed := true }
def CorePacketsUptoSaid : Prop := corePacketsUptoRow.holds Try.pinned (OpenSpec.upto corePacketsSpec)

end Rows
end Go.Proofs.Ytcocahffigbmbaa
