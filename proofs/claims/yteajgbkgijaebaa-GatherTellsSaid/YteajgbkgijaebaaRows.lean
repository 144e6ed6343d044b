/-
  No cell of these rows narrows 'for every input' (looked for: loops, veiled, ifaces, maps, wideKeys, modest, calm, conditions, laid).
  DERIVED. THE GIVEN ROWS OF THIS SEAT. 5 by the template 'for every input the law returns true; each argument reads behind the call as it read before'; 0 by the template 'total and deterministic' (their statements: YteajgbkgijaebaaTotals.lean).
  GIVEN WITH THE SEED: the statements are not yours to turn. If you find one false, say at which input.
  Laid BY PROGRAM, IN A SANDBOX (cutbox-rows.mjs): the forced cells as the released guide's own fill.sh prints them over the translation d0c34d0a4bd04abe… (all of the seat's roots in one cut). By AI agents, Wed Nov 11 2026. No macro, syntax, notation, axiom, sorry.
-/
import Derived.Test.YteajgbkgijaebaaChecked
import GoSem.Claim
import GoSem.ClaimJoined
import GoSem.ClaimMapViews
import Derived.JoinedTies
import Derived.KernelRfl
namespace Go.Proofs.Yteajgbkgijaebaa
/- THE CELL 'sum', in the pinned program and in every row, IS THE sha256 OF THE DUMP (.gsa) THAT YteajgbkgijaebaaProg.lean LOADS. Nothing in Lean hashes anything: it is a label: what it is worth is what the hold of that sum in a sandbox is worth. -/
noncomputable def Try.pinned : Pinned := { name := "yteajgbkgijaebaa", sum := "d0c34d0a4bd04abeb2b64644a60e838f762a5a76cc84d1dd580db8608e2499c6", checked := Try.checked }
namespace Rows
def none {H : Type} : Left H := { results := [], args := [] }

/-- 'congresslaw12.GatherOnce': WHATEVER THE INPUT: true; the input reads as it did. -/
def gatherOnceSpec : ChangeSpec := { name := "gatherOnce", fn := fun _ => fun
  | [d1, d2, d3] => { results := [.lit (.bool true)], args := [d1, d2, d3] }
  | _ => none }
def gatherOnceRow : OpenClaim := { program := "yteajgbkgijaebaa", sum := "d0c34d0a4bd04abeb2b64644a60e838f762a5a76cc84d1dd580db8608e2499c6", func := "congress/congresslaw12.GatherOnce", spec := "gatherOnce", unfollowed := true, recurses := true, apart := false }
def GatherOnceSaid : Prop := gatherOnceRow.holds Try.pinned (OpenSpec.ofChange gatherOnceSpec)

/-- ITS FALSE NEIGHBOUR: 'it returns false'. Refute it at one input. -/
def gatherOnceWrong : ChangeSpec := { name := "gatherOnce", fn := fun _ => fun
  | [d1, d2, d3] => { results := [.lit (.bool false)], args := [d1, d2, d3] }
  | _ => none }
def GatherOnceWrongFalsely : Prop := gatherOnceRow.holds Try.pinned (OpenSpec.ofChange gatherOnceWrong)

/-- 'congresslaw12.GatherSame': WHATEVER THE INPUT: true; the input reads as it did. -/
def gatherSameSpec : ChangeSpec := { name := "gatherSame", fn := fun _ => fun
  | [d1, d2, d3] => { results := [.lit (.bool true)], args := [d1, d2, d3] }
  | _ => none }
def gatherSameRow : OpenClaim := { program := "yteajgbkgijaebaa", sum := "d0c34d0a4bd04abeb2b64644a60e838f762a5a76cc84d1dd580db8608e2499c6", func := "congress/congresslaw12.GatherSame", spec := "gatherSame", unfollowed := true, recurses := true, apart := false }
def GatherSameSaid : Prop := gatherSameRow.holds Try.pinned (OpenSpec.ofChange gatherSameSpec)

/-- ITS FALSE NEIGHBOUR: 'it returns false'. Refute it at one input. -/
def gatherSameWrong : ChangeSpec := { name := "gatherSame", fn := fun _ => fun
  | [d1, d2, d3] => { results := [.lit (.bool false)], args := [d1, d2, d3] }
  | _ => none }
def GatherSameWrongFalsely : Prop := gatherSameRow.holds Try.pinned (OpenSpec.ofChange gatherSameWrong)

/-- 'congresslaw12.GatherOrder': WHATEVER THE INPUT: true; the input reads as it did. -/
def gatherOrderSpec : ChangeSpec := { name := "gatherOrder", fn := fun _ => fun
  | [d1, d2, d3] => { results := [.lit (.bool true)], args := [d1, d2, d3] }
  | _ => none }
def gatherOrderRow : OpenClaim := { program := "yteajgbkgijaebaa", sum := "d0c34d0a4bd04abeb2b64644a60e838f762a5a76cc84d1dd580db8608e2499c6", func := "congress/congresslaw12.GatherOrder", spec := "gatherOrder", unfollowed := true, recurses := true, apart := false }
def GatherOrderSaid : Prop := gatherOrderRow.holds Try.pinned (OpenSpec.ofChange gatherOrderSpec)

/-- ITS FALSE NEIGHBOUR: 'it returns false'. Refute it at one input. -/
def gatherOrderWrong : ChangeSpec := { name := "gatherOrder", fn := fun _ => fun
  | [d1, d2, d3] => { results := [.lit (.bool false)], args := [d1, d2, d3] }
  | _ => none }
def GatherOrderWrongFalsely : Prop := gatherOrderRow.holds Try.pinned (OpenSpec.ofChange gatherOrderWrong)

/-- 'congresslaw12.GatherRises': WHATEVER THE INPUT: true; the input reads as it did. -/
def gatherRisesSpec : ChangeSpec := { name := "gatherRises", fn := fun _ => fun
  | [d1, d2] => { results := [.lit (.bool true)], args := [d1, d2] }
  | _ => none }
def gatherRisesRow : OpenClaim := { program := "yteajgbkgijaebaa", sum := "d0c34d0a4bd04abeb2b64644a60e838f762a5a76cc84d1dd580db8608e2499c6", func := "congress/congresslaw12.GatherRises", spec := "gatherRises", unfollowed := true, recurses := true, apart := false }
def GatherRisesSaid : Prop := gatherRisesRow.holds Try.pinned (OpenSpec.ofChange gatherRisesSpec)

/-- ITS FALSE NEIGHBOUR: 'it returns false'. Refute it at one input. -/
def gatherRisesWrong : ChangeSpec := { name := "gatherRises", fn := fun _ => fun
  | [d1, d2] => { results := [.lit (.bool false)], args := [d1, d2] }
  | _ => none }
def GatherRisesWrongFalsely : Prop := gatherRisesRow.holds Try.pinned (OpenSpec.ofChange gatherRisesWrong)

/-- 'congresslaw12.GatherTells': WHATEVER THE INPUT: true; the input reads as it did. -/
def gatherTellsSpec : ChangeSpec := { name := "gatherTells", fn := fun _ => fun
  | [d1, d2, d3] => { results := [.lit (.bool true)], args := [d1, d2, d3] }
  | _ => none }
def gatherTellsRow : OpenClaim := { program := "yteajgbkgijaebaa", sum := "d0c34d0a4bd04abeb2b64644a60e838f762a5a76cc84d1dd580db8608e2499c6", func := "congress/congresslaw12.GatherTells", spec := "gatherTells", unfollowed := true, recurses := true, apart := false }
def GatherTellsSaid : Prop := gatherTellsRow.holds Try.pinned (OpenSpec.ofChange gatherTellsSpec)

/-- ITS FALSE NEIGHBOUR: 'it returns false'. Refute it at one input. -/
def gatherTellsWrong : ChangeSpec := { name := "gatherTells", fn := fun _ => fun
  | [d1, d2, d3] => { results := [.lit (.bool false)], args := [d1, d2, d3] }
  | _ => none }
def GatherTellsWrongFalsely : Prop := gatherTellsRow.holds Try.pinned (OpenSpec.ofChange gatherTellsWrong)

/- THE SECOND FORM. 'bulk': how many values and letters a reading holds, each counted each time it is reached (what is shared counts as often as it is met; a slice's spare places count too). A statement '..UptoSaid' is the law's where the arguments, and the package variables that the reading takes, are together of bulk at most 1048576: NARROWER than '..Said'. Prove '..Said' where nothing that the law and all that it calls make is longer than what came in: it says more and counts as full. Else prove '..UptoSaid'. A law counts once. -/
mutual
def uptoBulk {H : Type} : DataW H → Nat
  | .lit (.string bytes) => bytes.length + 1
  | .lit _ => 1
  | .nil => 1
  | .ptr d => uptoBulk d + 1
  | .slice elems spare => uptoBulkAll elems + uptoBulkAll spare + 1
  | .agg parts => uptoBulkAll parts + 1
  | .iface _ d => uptoBulk d + 1
  | .map entries => uptoBulkEntries entries + 1
  | .held _ => 1
def uptoBulkAll {H : Type} : List (DataW H) → Nat
  | [] => 0
  | d :: r => uptoBulk d + uptoBulkAll r
def uptoBulkEntries {H : Type} : List (Lit × DataW H) → Nat
  | [] => 0
  | x :: r => uptoBulkEntry x + uptoBulkEntries r
def uptoBulkEntry {H : Type} : Lit × DataW H → Nat
  | (.string bytes, d) => bytes.length + uptoBulk d + 1
  | (_, d) => uptoBulk d + 1
 end
def uptoSmall : (H : Type) → List (DataW H) → Bool := fun _ ds => decide (uptoBulkAll ds ≤ 1048576)
def OpenSpec.upto (s : _root_.Go.ChangeSpec) : _root_.Go.OpenSpec := { _root_.Go.OpenSpec.ofChange s with cond := some uptoSmall }

/-- 'congresslaw12.GatherOnce', WHERE WHAT IT READS IS OF BULK AT MOST 1048576: true; the input reads as it did. -/
def gatherOnceUptoRow : OpenClaim := { program := "yteajgbkgijaebaa", sum := "d0c34d0a4bd04abeb2b64644a60e838f762a5a76cc84d1dd580db8608e2499c6", func := "congress/congresslaw12.GatherOnce", spec := "gatherOnce", unfollowed := true, recurses := true, apart := false, narrowed := true }
def GatherOnceUptoSaid : Prop := gatherOnceUptoRow.holds Try.pinned (OpenSpec.upto gatherOnceSpec)

/-- 'congresslaw12.GatherSame', WHERE WHAT IT READS IS OF BULK AT MOST 1048576: true; the input reads as it did. -/
def gatherSameUptoRow : OpenClaim := { program := "yteajgbkgijaebaa", sum := "d0c34d0a4bd04abeb2b64644a60e838f762a5a76cc84d1dd580db8608e2499c6", func := "congress/congresslaw12.GatherSame", spec := "gatherSame", unfollowed := true, recurses := true, apart := false, narrowed := true }
def GatherSameUptoSaid : Prop := gatherSameUptoRow.holds Try.pinned (OpenSpec.upto gatherSameSpec)

/-- 'congresslaw12.GatherOrder', WHERE WHAT IT READS IS OF BULK AT MOST 1048576: true; the input reads as it did. -/
def gatherOrderUptoRow : OpenClaim := { program := "yteajgbkgijaebaa", sum := "d0c34d0a4bd04abeb2b64644a60e838f762a5a76cc84d1dd580db8608e2499c6", func := "congress/congresslaw12.GatherOrder", spec := "gatherOrder", unfollowed := true, recurses := true, apart := false, narrowed := true }
def GatherOrderUptoSaid : Prop := gatherOrderUptoRow.holds Try.pinned (OpenSpec.upto gatherOrderSpec)

/-- 'congresslaw12.GatherRises', WHERE WHAT IT READS IS OF BULK AT MOST 1048576: true; the input reads as it did. -/
def gatherRisesUptoRow : OpenClaim := { program := "yteajgbkgijaebaa", sum := "d0c34d0a4bd04abeb2b64644a60e838f762a5a76cc84d1dd580db8608e2499c6", func := "congress/congresslaw12.GatherRises", spec := "gatherRises", unfollowed := true, recurses := true, apart := false, narrowed := true }
def GatherRisesUptoSaid : Prop := gatherRisesUptoRow.holds Try.pinned (OpenSpec.upto gatherRisesSpec)

/-- 'congresslaw12.GatherTells', WHERE WHAT IT READS IS OF BULK AT MOST 1048576: true; the input reads as it did. -/
def gatherTellsUptoRow : OpenClaim := { program := "yteajgbkgijaebaa", sum := "d0c34d0a4bd04abeb2b64644a60e838f762a5a76cc84d1dd580db8608e2499c6", func := "congress/congresslaw12.GatherTells", spec := "gatherTells", unfollowed := true, recurses := true, apart := false, narrowed := true }
def GatherTellsUptoSaid : Prop := gatherTellsUptoRow.holds Try.pinned (OpenSpec.upto gatherTellsSpec)

end Rows
end Go.Proofs.Yteajgbkgijaebaa
