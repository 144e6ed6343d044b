/-
  No cell of these rows narrows 'for every input' (looked for: loops, veiled, ifaces, maps, wideKeys, modest, calm, conditions, laid).
  DERIVED. THE GIVEN ROWS OF THIS SEAT. 4 by the template 'for every input the law returns true; each argument reads behind the call as it read before'; 0 by the template 'total and deterministic' (their statements: YtbkofjefhnnmlaaTotals.lean).
  GIVEN WITH THE SEED: the statements are not yours to turn. If you find one false, say at which input.
  Laid BY PROGRAM, IN A SANDBOX (cutbox-rows.mjs): the forced cells as the released guide's own fill.sh prints them over the translation 668cfc5b9633b571… (all of the seat's roots in one cut). By AI agents, Wed Nov 11 2026. No macro, syntax, notation, axiom, sorry.
-/
import Derived.Test.YtbkofjefhnnmlaaChecked
import GoSem.Claim
import GoSem.ClaimJoined
import GoSem.ClaimMapViews
import Derived.JoinedTies
import Derived.KernelRfl
namespace Go.Proofs.Ytbkofjefhnnmlaa
/- THE CELL 'sum', in the pinned program and in every row, IS THE sha256 OF THE DUMP (.gsa) THAT YtbkofjefhnnmlaaProg.lean LOADS. Nothing in Lean hashes anything: it is a label: what it is worth is what the hold of that sum in a sandbox is worth. -/
noncomputable def Try.pinned : Pinned := { name := "ytbkofjefhnnmlaa", sum := "668cfc5b9633b571b90b4d11dea3073d52fbb10d556b4ba76c5ccdf0944ef9ed", checked := Try.checked }
namespace Rows
def none {H : Type} : Left H := { results := [], args := [] }

/-- 'congresslaw10.KeptTakes': WHATEVER THE INPUT: true; the input reads as it did. -/
def keptTakesSpec : ChangeSpec := { name := "keptTakes", fn := fun _ => fun
  | [d1, d2, d3] => { results := [.lit (.bool true)], args := [d1, d2, d3] }
  | _ => none }
def keptTakesRow : OpenClaim := { program := "ytbkofjefhnnmlaa", sum := "668cfc5b9633b571b90b4d11dea3073d52fbb10d556b4ba76c5ccdf0944ef9ed", func := "congress/congresslaw10.KeptTakes", spec := "keptTakes", unfollowed := true, recurses := true, apart := false }
def KeptTakesSaid : Prop := keptTakesRow.holds Try.pinned (OpenSpec.ofChange keptTakesSpec)

/-- ITS FALSE NEIGHBOUR: 'it returns false'. Refute it at one input. -/
def keptTakesWrong : ChangeSpec := { name := "keptTakes", fn := fun _ => fun
  | [d1, d2, d3] => { results := [.lit (.bool false)], args := [d1, d2, d3] }
  | _ => none }
def KeptTakesWrongFalsely : Prop := keptTakesRow.holds Try.pinned (OpenSpec.ofChange keptTakesWrong)

/-- 'congresslaw10.KeptOnce': WHATEVER THE INPUT: true; the input reads as it did. -/
def keptOnceSpec : ChangeSpec := { name := "keptOnce", fn := fun _ => fun
  | [d1, d2] => { results := [.lit (.bool true)], args := [d1, d2] }
  | _ => none }
def keptOnceRow : OpenClaim := { program := "ytbkofjefhnnmlaa", sum := "668cfc5b9633b571b90b4d11dea3073d52fbb10d556b4ba76c5ccdf0944ef9ed", func := "congress/congresslaw10.KeptOnce", spec := "keptOnce", unfollowed := true, recurses := true, apart := false }
def KeptOnceSaid : Prop := keptOnceRow.holds Try.pinned (OpenSpec.ofChange keptOnceSpec)

/-- ITS FALSE NEIGHBOUR: 'it returns false'. Refute it at one input. -/
def keptOnceWrong : ChangeSpec := { name := "keptOnce", fn := fun _ => fun
  | [d1, d2] => { results := [.lit (.bool false)], args := [d1, d2] }
  | _ => none }
def KeptOnceWrongFalsely : Prop := keptOnceRow.holds Try.pinned (OpenSpec.ofChange keptOnceWrong)

/-- 'congresslaw10.KeptOffers': WHATEVER THE INPUT: true; the input reads as it did. -/
def keptOffersSpec : ChangeSpec := { name := "keptOffers", fn := fun _ => fun
  | [d1, d2, d3] => { results := [.lit (.bool true)], args := [d1, d2, d3] }
  | _ => none }
def keptOffersRow : OpenClaim := { program := "ytbkofjefhnnmlaa", sum := "668cfc5b9633b571b90b4d11dea3073d52fbb10d556b4ba76c5ccdf0944ef9ed", func := "congress/congresslaw10.KeptOffers", spec := "keptOffers", unfollowed := true, recurses := true, apart := false }
def KeptOffersSaid : Prop := keptOffersRow.holds Try.pinned (OpenSpec.ofChange keptOffersSpec)

/-- ITS FALSE NEIGHBOUR: 'it returns false'. Refute it at one input. -/
def keptOffersWrong : ChangeSpec := { name := "keptOffers", fn := fun _ => fun
  | [d1, d2, d3] => { results := [.lit (.bool false)], args := [d1, d2, d3] }
  | _ => none }
def KeptOffersWrongFalsely : Prop := keptOffersRow.holds Try.pinned (OpenSpec.ofChange keptOffersWrong)

/-- 'congresslaw10.KeptBlind': WHATEVER THE INPUT: true; the input reads as it did. -/
def keptBlindSpec : ChangeSpec := { name := "keptBlind", fn := fun _ => fun
  | [d1, d2, d3] => { results := [.lit (.bool true)], args := [d1, d2, d3] }
  | _ => none }
def keptBlindRow : OpenClaim := { program := "ytbkofjefhnnmlaa", sum := "668cfc5b9633b571b90b4d11dea3073d52fbb10d556b4ba76c5ccdf0944ef9ed", func := "congress/congresslaw10.KeptBlind", spec := "keptBlind", unfollowed := true, recurses := true, apart := false }
def KeptBlindSaid : Prop := keptBlindRow.holds Try.pinned (OpenSpec.ofChange keptBlindSpec)

/-- ITS FALSE NEIGHBOUR: 'it returns false'. Refute it at one input. -/
def keptBlindWrong : ChangeSpec := { name := "keptBlind", fn := fun _ => fun
  | [d1, d2, d3] => { results := [.lit (.bool false)], args := [d1, d2, d3] }
  | _ => none }
def KeptBlindWrongFalsely : Prop := keptBlindRow.holds Try.pinned (OpenSpec.ofChange keptBlindWrong)

/- THE SECOND FORM. 'bulk': how many values and letters a reading holds, each counted each time it is reached (what is shared counts as often as it is met; a slice's spare places count too). A statement '..UptoSaid' is the law's where the arguments, and the package variables that the reading takes, are together of bulk at most 1048576: NARROWER than '..Said'. Prove '..Said' where nothing that the law and all that it calls make is longer than what came in: it says more and counts as full. Else prove '..UptoSaid'. A law counts once. -/
mutual
def uptoBulk {H : Type} : DataW H → Nat
  | .lit (.string bytes) => bytes.length + 1
  | .lit _ => 1
  | .nil => 1
  | .ptr d => uptoBulk d + 1
  | .slice elems spare => uptoBulkAll elems + uptoBulkAll spare + 1
  | .agg parts => uptoBulkAll parts + 1
  | .iface _ d => uptoBulk d + 1
  | .map entries => uptoBulkEntries entries + 1
  | .held _ => 1
def uptoBulkAll {H : Type} : List (DataW H) → Nat
  | [] => 0
  | d :: r => uptoBulk d + uptoBulkAll r
def uptoBulkEntries {H : Type} : List (Lit × DataW H) → Nat
  | [] => 0
  | x :: r => uptoBulkEntry x + uptoBulkEntries r
def uptoBulkEntry {H : Type} : Lit × DataW H → Nat
  | (.string bytes, d) => bytes.length + uptoBulk d + 1
  | (_, d) => uptoBulk d + 1
 end
def uptoSmall : (H : Type) → List (DataW H) → Bool := fun _ ds => decide (uptoBulkAll ds ≤ 1048576)
def OpenSpec.upto (s : _root_.Go.ChangeSpec) : _root_.Go.OpenSpec := { _root_.Go.OpenSpec.ofChange s with cond := some uptoSmall }

/-- 'congresslaw10.KeptTakes', WHERE WHAT IT READS IS OF BULK AT MOST 1048576: true; the input reads as it did. -/
def keptTakesUptoRow : OpenClaim := { program := "ytbkofjefhnnmlaa", sum := "668cfc5b9633b571b90b4d11dea3073d52fbb10d556b4ba76c5ccdf0944ef9ed", func := "congress/congresslaw10.KeptTakes", spec := "keptTakes", unfollowed := true, recurses := true, apart := false, narrowed := true }
def KeptTakesUptoSaid : Prop := keptTakesUptoRow.holds Try.pinned (OpenSpec.upto keptTakesSpec)

/-- 'congresslaw10.KeptOnce', WHERE WHAT IT READS IS OF BULK AT MOST 1048576: true; the input reads as it did. -/
def keptOnceUptoRow : OpenClaim := { program := "ytbkofjefhnnmlaa", sum := "668cfc5b9633b571b90b4d11dea3073d52fbb10d556b4ba76c5ccdf0944ef9ed", func := "congress/congresslaw10.KeptOnce", spec := "keptOnce", unfollowed := true, recurses := true, apart := false, narrowed := true }
def KeptOnceUptoSaid : Prop := keptOnceUptoRow.holds Try.pinned (OpenSpec.upto keptOnceSpec)

/-- 'congresslaw10.KeptOffers', WHERE WHAT IT READS IS OF BULK AT MOST 1048576: true; the input reads as it did. -/
def keptOffersUptoRow : OpenClaim := { program := "ytbkofjefhnnmlaa", sum := "668cfc5b9633b571b90b4d11dea3073d52fbb10d556b4ba76c5ccdf0944ef9ed", func := "congress/congresslaw10.KeptOffers", spec := "keptOffers", unfollowed := true, recurses := true, apart := false, narrowed := true }
def KeptOffersUptoSaid : Prop := keptOffersUptoRow.holds Try.pinned (OpenSpec.upto keptOffersSpec)

/-- 'congresslaw10.KeptBlind', WHERE WHAT IT READS IS OF BULK AT MOST 1048576: true; the input reads as it did. -/
def keptBlindUptoRow : OpenClaim := { program := "ytbkofjefhnnmlaa", sum := "668cfc5b9633b571b90b4d11dea3073d52fbb10d556b4ba76c5ccdf0944ef9ed", func := "congress/congresslaw10.KeptBlind", spec := "keptBlind", unfollowed := true, recurses := true, apart := false, narrowed := true }
def KeptBlindUptoSaid : Prop := keptBlindUptoRow.holds Try.pinned (OpenSpec.upto keptBlindSpec)

end Rows
end Go.Proofs.Ytbkofjefhnnmlaa
