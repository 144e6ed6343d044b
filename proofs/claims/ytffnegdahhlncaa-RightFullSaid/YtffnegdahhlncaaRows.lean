/-
  No cell of these rows narrows 'for every input' (looked for: loops, veiled, ifaces, maps, wideKeys, modest, calm, conditions, laid).
  DERIVED. THE GIVEN ROWS OF THIS SEAT. 4 by the template 'for every input the law returns true; each argument reads behind the call as it read before'; 0 by the template 'total and deterministic' (their statements: YtffnegdahhlncaaTotals.lean).
  GIVEN WITH THE SEED: the statements are not yours to turn. If you find one false, say at which input.
  Laid BY PROGRAM, IN A SANDBOX (cutbox-rows.mjs): the forced cells as the released guide's own fill.sh prints them over the translation c7dfd420fc53c75f… (all of the seat's roots in one cut). By AI agents, Wed Nov 11 2026. No macro, syntax, notation, axiom, sorry.
-/
import Derived.Test.YtffnegdahhlncaaChecked
import GoSem.Claim
import GoSem.ClaimJoined
import GoSem.ClaimMapViews
import Derived.JoinedTies
import Derived.KernelRfl
namespace Go.Proofs.Ytffnegdahhlncaa
/- THE CELL 'sum', in the pinned program and in every row, IS THE sha256 OF THE DUMP (.gsa) THAT YtffnegdahhlncaaProg.lean LOADS. Nothing in Lean hashes anything: it is a label: what it is worth is what the hold of that sum in a sandbox is worth. -/
noncomputable def Try.pinned : Pinned := { name := "ytffnegdahhlncaa", sum := "c7dfd420fc53c75f0ed0a18563fd31a3efbe3e862e944e42a806caf183cc4950", checked := Try.checked }
namespace Rows
def none {H : Type} : Left H := { results := [], args := [] }

/-- 'congresslaw16.RightTells': WHATEVER THE INPUT: true; the input reads as it did. -/
def rightTellsSpec : ChangeSpec := { name := "rightTells", fn := fun _ => fun
  | [d1, d2] => { results := [.lit (.bool true)], args := [d1, d2] }
  | _ => none }
def rightTellsRow : OpenClaim := { program := "ytffnegdahhlncaa", sum := "c7dfd420fc53c75f0ed0a18563fd31a3efbe3e862e944e42a806caf183cc4950", func := "congress/congresslaw16.RightTells", spec := "rightTells", unfollowed := true, recurses := true, apart := false }
def RightTellsSaid : Prop := rightTellsRow.holds Try.pinned (OpenSpec.ofChange rightTellsSpec)

/-- ITS FALSE NEIGHBOUR: 'it returns false'. Refute it at one input. -/
def rightTellsWrong : ChangeSpec := { name := "rightTells", fn := fun _ => fun
  | [d1, d2] => { results := [.lit (.bool false)], args := [d1, d2] }
  | _ => none }
def RightTellsWrongFalsely : Prop := rightTellsRow.holds Try.pinned (OpenSpec.ofChange rightTellsWrong)

/-- 'congresslaw16.RightMinted': WHATEVER THE INPUT: true; the input reads as it did. -/
def rightMintedSpec : ChangeSpec := { name := "rightMinted", fn := fun _ => fun
  | [d1, d2, d3] => { results := [.lit (.bool true)], args := [d1, d2, d3] }
  | _ => none }
def rightMintedRow : OpenClaim := { program := "ytffnegdahhlncaa", sum := "c7dfd420fc53c75f0ed0a18563fd31a3efbe3e862e944e42a806caf183cc4950", func := "congress/congresslaw16.RightMinted", spec := "rightMinted", unfollowed := true, recurses := true, apart := false }
def RightMintedSaid : Prop := rightMintedRow.holds Try.pinned (OpenSpec.ofChange rightMintedSpec)

/-- ITS FALSE NEIGHBOUR: 'it returns false'. Refute it at one input. -/
def rightMintedWrong : ChangeSpec := { name := "rightMinted", fn := fun _ => fun
  | [d1, d2, d3] => { results := [.lit (.bool false)], args := [d1, d2, d3] }
  | _ => none }
def RightMintedWrongFalsely : Prop := rightMintedRow.holds Try.pinned (OpenSpec.ofChange rightMintedWrong)

/-- 'congresslaw16.RightApart': WHATEVER THE INPUT: true; the input reads as it did. -/
def rightApartSpec : ChangeSpec := { name := "rightApart", fn := fun _ => fun
  | [d1, d2, d3] => { results := [.lit (.bool true)], args := [d1, d2, d3] }
  | _ => none }
def rightApartRow : OpenClaim := { program := "ytffnegdahhlncaa", sum := "c7dfd420fc53c75f0ed0a18563fd31a3efbe3e862e944e42a806caf183cc4950", func := "congress/congresslaw16.RightApart", spec := "rightApart", unfollowed := true, recurses := true, apart := false }
def RightApartSaid : Prop := rightApartRow.holds Try.pinned (OpenSpec.ofChange rightApartSpec)

/-- ITS FALSE NEIGHBOUR: 'it returns false'. Refute it at one input. -/
def rightApartWrong : ChangeSpec := { name := "rightApart", fn := fun _ => fun
  | [d1, d2, d3] => { results := [.lit (.bool false)], args := [d1, d2, d3] }
  | _ => none }
def RightApartWrongFalsely : Prop := rightApartRow.holds Try.pinned (OpenSpec.ofChange rightApartWrong)

/-- 'congresslaw16.RightFull': WHATEVER THE INPUT: true; the input reads as it did. -/
def rightFullSpec : ChangeSpec := { name := "rightFull", fn := fun _ => fun
  | [d1, d2] => { results := [.lit (.bool true)], args := [d1, d2] }
  | _ => none }
def rightFullRow : OpenClaim := { program := "ytffnegdahhlncaa", sum := "c7dfd420fc53c75f0ed0a18563fd31a3efbe3e862e944e42a806caf183cc4950", func := "congress/congresslaw16.RightFull", spec := "rightFull", unfollowed := true, recurses := true, apart := false }
def RightFullSaid : Prop := rightFullRow.holds Try.pinned (OpenSpec.ofChange rightFullSpec)

/-- ITS FALSE NEIGHBOUR: 'it returns false'. Refute it at one input. -/
def rightFullWrong : ChangeSpec := { name := "rightFull", fn := fun _ => fun
  | [d1, d2] => { results := [.lit (.bool false)], args := [d1, d2] }
  | _ => none }
def RightFullWrongFalsely : Prop := rightFullRow.holds Try.pinned (OpenSpec.ofChange rightFullWrong)

/- THE SECOND FORM. 'bulk': how many values and letters a reading holds, each counted each time it is reached (what is shared counts as often as it is met; a slice's spare places count too). A statement '..UptoSaid' is the law's where the arguments, and the package variables that the reading takes, are together of bulk at most 1048576: NARROWER than '..Said'. Prove '..Said' where nothing that the law and all that it calls make is longer than what came in: it says more and counts as full. Else prove '..UptoSaid'. A law counts once. -/
mutual
def uptoBulk {H : Type} : DataW H → Nat
  | .lit (.string bytes) => bytes.length + 1
  | .lit _ => 1
  | .nil => 1
  | .ptr d => uptoBulk d + 1
  | .slice elems spare => uptoBulkAll elems + uptoBulkAll spare + 1
  | .agg parts => uptoBulkAll parts + 1
  | .iface _ d => uptoBulk d + 1
  | .map entries => uptoBulkEntries entries + 1
  | .held _ => 1
def uptoBulkAll {H : Type} : List (DataW H) → Nat
  | [] => 0
  | d :: r => uptoBulk d + uptoBulkAll r
def uptoBulkEntries {H : Type} : List (Lit × DataW H) → Nat
  | [] => 0
  | x :: r => uptoBulkEntry x + uptoBulkEntries r
def uptoBulkEntry {H : Type} : Lit × DataW H → Nat
  | (.string bytes, d) => bytes.length + uptoBulk d + 1
  | (_, d) => uptoBulk d + 1
 end
def uptoSmall : (H : Type) → List (DataW H) → Bool := fun _ ds => decide (uptoBulkAll ds ≤ 1048576)
def OpenSpec.upto (s : _root_.Go.ChangeSpec) : _root_.Go.OpenSpec := { _root_.Go.OpenSpec.ofChange s with cond := some uptoSmall }

/-- 'congresslaw16.RightTells', WHERE WHAT IT READS IS OF BULK AT MOST 1048576: true; the input reads as it did. -/
def rightTellsUptoRow : OpenClaim := { program := "ytffnegdahhlncaa", sum := "c7dfd420fc53c75f0ed0a18563fd31a3efbe3e862e944e42a806caf183cc4950", func := "congress/congresslaw16.RightTells", spec := "rightTells", unfollowed := true, recurses := true, apart := false, narrowed := true }
def RightTellsUptoSaid : Prop := rightTellsUptoRow.holds Try.pinned (OpenSpec.upto rightTellsSpec)

/-- 'congresslaw16.RightMinted', WHERE WHAT IT READS IS OF BULK AT MOST 1048576: true; the input reads as it did. -/
def rightMintedUptoRow : OpenClaim := { program := "ytffnegdahhlncaa", sum := "c7dfd420fc53c75f0ed0a18563fd31a3efbe3e862e944e42a806caf183cc4950", func := "congress/congresslaw16.RightMinted", spec := "rightMinted", unfollowed := true, recurses := true, apart := false, narrowed := true }
def RightMintedUptoSaid : Prop := rightMintedUptoRow.holds Try.pinned (OpenSpec.upto rightMintedSpec)

/-- 'congresslaw16.RightApart', WHERE WHAT IT READS IS OF BULK AT MOST 1048576: true; the input reads as it did. -/
def rightApartUptoRow : OpenClaim := { program := "ytffnegdahhlncaa", sum := "c7dfd420fc53c75f0ed0a18563fd31a3efbe3e862e944e42a806caf183cc4950", func := "congress/congresslaw16.RightApart", spec := "rightApart", unfollowed := true, recurses := true, apart := false, narrowed := true }
def RightApartUptoSaid : Prop := rightApartUptoRow.holds Try.pinned (OpenSpec.upto rightApartSpec)

/-- 'congresslaw16.RightFull', WHERE WHAT IT READS IS OF BULK AT MOST 1048576: true; the input reads as it did. -/
def rightFullUptoRow : OpenClaim := { program := "ytffnegdahhlncaa", sum := "c7dfd420fc53c75f0ed0a18563fd31a3efbe3e862e944e42a806caf183cc4950", func := "congress/congresslaw16.RightFull", spec := "rightFull", unfollowed := true, recurses := true, apart := false, narrowed := true }
def RightFullUptoSaid : Prop := rightFullUptoRow.holds Try.pinned (OpenSpec.upto rightFullSpec)

end Rows
end Go.Proofs.Ytffnegdahhlncaa
