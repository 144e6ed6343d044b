/-
  No cell of these rows narrows 'for every input' (looked for: loops, veiled, ifaces, maps, wideKeys, modest, calm, conditions, laid).
  DERIVED. THE GIVEN ROWS OF THIS SEAT. 5 by the template 'for every input the law returns true; each argument reads behind the call as it read before'; 0 by the template 'total and deterministic' (their statements: YtdaeajonhfkpaaaTotals.lean).
  GIVEN WITH THE SEED: the statements are not yours to turn. If you find one false, say at which input.
  Laid BY PROGRAM, IN A SANDBOX (cutbox-rows.mjs): the forced cells as the released guide's own fill.sh prints them over the translation e62638def67d8483… (all of the seat's roots in one cut). By AI agents, Wed Nov 11 2026. No macro, syntax, notation, axiom, sorry.
-/
import Derived.Test.YtdaeajonhfkpaaaChecked
import GoSem.Claim
import GoSem.ClaimJoined
import GoSem.ClaimMapViews
import Derived.JoinedTies
import Derived.KernelRfl
namespace Go.Proofs.Ytdaeajonhfkpaaa
/- THE CELL 'sum', in the pinned program and in every row, IS THE sha256 OF THE DUMP (.gsa) THAT YtdaeajonhfkpaaaProg.lean LOADS. Nothing in Lean hashes anything: it is a label: what it is worth is what the hold of that sum in a sandbox is worth. -/
noncomputable def Try.pinned : Pinned := { name := "ytdaeajonhfkpaaa", sum := "e62638def67d848370a51d9c59988b7d6badabdf48c95d2e5fde9395858e08b4", checked := Try.checked }
namespace Rows
def none {H : Type} : Left H := { results := [], args := [] }

/-- 'congresslaw14.LossyTells': WHATEVER THE INPUT: true; the input reads as it did. -/
def lossyTellsSpec : ChangeSpec := { name := "lossyTells", fn := fun _ => fun
  | [d1, d2, d3] => { results := [.lit (.bool true)], args := [d1, d2, d3] }
  | _ => none }
def lossyTellsRow : OpenClaim := { program := "ytdaeajonhfkpaaa", sum := "e62638def67d848370a51d9c59988b7d6badabdf48c95d2e5fde9395858e08b4", func := "congress/congresslaw14.LossyTells", spec := "lossyTells", apart := false }
def LossyTellsSaid : Prop := lossyTellsRow.holds Try.pinned (OpenSpec.ofChange lossyTellsSpec)

/-- ITS FALSE NEIGHBOUR: 'it returns false'. Refute it at one input. -/
def lossyTellsWrong : ChangeSpec := { name := "lossyTells", fn := fun _ => fun
  | [d1, d2, d3] => { results := [.lit (.bool false)], args := [d1, d2, d3] }
  | _ => none }
def LossyTellsWrongFalsely : Prop := lossyTellsRow.holds Try.pinned (OpenSpec.ofChange lossyTellsWrong)

/-- 'congresslaw14.LossyBlind': WHATEVER THE INPUT: true; the input reads as it did. -/
def lossyBlindSpec : ChangeSpec := { name := "lossyBlind", fn := fun _ => fun
  | [d1, d2, d3] => { results := [.lit (.bool true)], args := [d1, d2, d3] }
  | _ => none }
def lossyBlindRow : OpenClaim := { program := "ytdaeajonhfkpaaa", sum := "e62638def67d848370a51d9c59988b7d6badabdf48c95d2e5fde9395858e08b4", func := "congress/congresslaw14.LossyBlind", spec := "lossyBlind", apart := false }
def LossyBlindSaid : Prop := lossyBlindRow.holds Try.pinned (OpenSpec.ofChange lossyBlindSpec)

/-- ITS FALSE NEIGHBOUR: 'it returns false'. Refute it at one input. -/
def lossyBlindWrong : ChangeSpec := { name := "lossyBlind", fn := fun _ => fun
  | [d1, d2, d3] => { results := [.lit (.bool false)], args := [d1, d2, d3] }
  | _ => none }
def LossyBlindWrongFalsely : Prop := lossyBlindRow.holds Try.pinned (OpenSpec.ofChange lossyBlindWrong)

/-- 'congresslaw14.LossyOrder': WHATEVER THE INPUT: true; the input reads as it did. -/
def lossyOrderSpec : ChangeSpec := { name := "lossyOrder", fn := fun _ => fun
  | [d1, d2, d3] => { results := [.lit (.bool true)], args := [d1, d2, d3] }
  | _ => none }
def lossyOrderRow : OpenClaim := { program := "ytdaeajonhfkpaaa", sum := "e62638def67d848370a51d9c59988b7d6badabdf48c95d2e5fde9395858e08b4", func := "congress/congresslaw14.LossyOrder", spec := "lossyOrder", apart := false }
def LossyOrderSaid : Prop := lossyOrderRow.holds Try.pinned (OpenSpec.ofChange lossyOrderSpec)

/-- ITS FALSE NEIGHBOUR: 'it returns false'. Refute it at one input. -/
def lossyOrderWrong : ChangeSpec := { name := "lossyOrder", fn := fun _ => fun
  | [d1, d2, d3] => { results := [.lit (.bool false)], args := [d1, d2, d3] }
  | _ => none }
def LossyOrderWrongFalsely : Prop := lossyOrderRow.holds Try.pinned (OpenSpec.ofChange lossyOrderWrong)

/-- 'congresslaw14.LossyTurned': WHATEVER THE INPUT: true; the input reads as it did. -/
def lossyTurnedSpec : ChangeSpec := { name := "lossyTurned", fn := fun _ => fun
  | [d1, d2, d3] => { results := [.lit (.bool true)], args := [d1, d2, d3] }
  | _ => none }
def lossyTurnedRow : OpenClaim := { program := "ytdaeajonhfkpaaa", sum := "e62638def67d848370a51d9c59988b7d6badabdf48c95d2e5fde9395858e08b4", func := "congress/congresslaw14.LossyTurned", spec := "lossyTurned", apart := false }
def LossyTurnedSaid : Prop := lossyTurnedRow.holds Try.pinned (OpenSpec.ofChange lossyTurnedSpec)

/-- ITS FALSE NEIGHBOUR: 'it returns false'. Refute it at one input. -/
def lossyTurnedWrong : ChangeSpec := { name := "lossyTurned", fn := fun _ => fun
  | [d1, d2, d3] => { results := [.lit (.bool false)], args := [d1, d2, d3] }
  | _ => none }
def LossyTurnedWrongFalsely : Prop := lossyTurnedRow.holds Try.pinned (OpenSpec.ofChange lossyTurnedWrong)

/-- 'congresslaw14.LossyPuts': WHATEVER THE INPUT: true; the input reads as it did. -/
def lossyPutsSpec : ChangeSpec := { name := "lossyPuts", fn := fun _ => fun
  | [d1, d2, d3] => { results := [.lit (.bool true)], args := [d1, d2, d3] }
  | _ => none }
def lossyPutsRow : OpenClaim := { program := "ytdaeajonhfkpaaa", sum := "e62638def67d848370a51d9c59988b7d6badabdf48c95d2e5fde9395858e08b4", func := "congress/congresslaw14.LossyPuts", spec := "lossyPuts", apart := false }
def LossyPutsSaid : Prop := lossyPutsRow.holds Try.pinned (OpenSpec.ofChange lossyPutsSpec)

/-- ITS FALSE NEIGHBOUR: 'it returns false'. Refute it at one input. -/
def lossyPutsWrong : ChangeSpec := { name := "lossyPuts", fn := fun _ => fun
  | [d1, d2, d3] => { results := [.lit (.bool false)], args := [d1, d2, d3] }
  | _ => none }
def LossyPutsWrongFalsely : Prop := lossyPutsRow.holds Try.pinned (OpenSpec.ofChange lossyPutsWrong)

/- THE SECOND FORM. 'bulk': how many values and letters a reading holds, each counted each time it is reached (what is shared counts as often as it is met; a slice's spare places count too). A statement '..UptoSaid' is the law's where the arguments, and the package variables that the reading takes, are together of bulk at most 1048576: NARROWER than '..Said'. Prove '..Said' where nothing that the law and all that it calls make is longer than what came in: it says more and counts as full. Else prove '..UptoSaid'. A law counts once. -/
mutual
def uptoBulk {H : Type} : DataW H → Nat
  | .lit (.string bytes) => bytes.length + 1
  | .lit _ => 1
  | .nil => 1
  | .ptr d => uptoBulk d + 1
  | .slice elems spare => uptoBulkAll elems + uptoBulkAll spare + 1
  | .agg parts => uptoBulkAll parts + 1
  | .iface _ d => uptoBulk d + 1
  | .map entries => uptoBulkEntries entries + 1
  | .held _ => 1
def uptoBulkAll {H : Type} : List (DataW H) → Nat
  | [] => 0
  | d :: r => uptoBulk d + uptoBulkAll r
def uptoBulkEntries {H : Type} : List (Lit × DataW H) → Nat
  | [] => 0
  | x :: r => uptoBulkEntry x + uptoBulkEntries r
def uptoBulkEntry {H : Type} : Lit × DataW H → Nat
  | (.string bytes, d) => bytes.length + uptoBulk d + 1
  | (_, d) => uptoBulk d + 1
 end
def uptoSmall : (H : Type) → List (DataW H) → Bool := fun _ ds => decide (uptoBulkAll ds ≤ 1048576)
def OpenSpec.upto (s : _root_.Go.ChangeSpec) : _root_.Go.OpenSpec := { _root_.Go.OpenSpec.ofChange s with cond := some uptoSmall }

/-- 'congresslaw14.LossyTells', WHERE WHAT IT READS IS OF BULK AT MOST 1048576: true; the input reads as it did. -/
def lossyTellsUptoRow : OpenClaim := { program := "ytdaeajonhfkpaaa", sum := "e62638def67d848370a51d9c59988b7d6badabdf48c95d2e5fde9395858e08b4", func := "congress/congresslaw14.LossyTells", spec := "lossyTells", apart := false, narrowed := true }
def LossyTellsUptoSaid : Prop := lossyTellsUptoRow.holds Try.pinned (OpenSpec.upto lossyTellsSpec)

/-- 'congresslaw14.LossyBlind', WHERE WHAT IT READS IS OF BULK AT MOST 1048576: true; the input reads as it did. -/
def lossyBlindUptoRow : OpenClaim := { program := "ytdaeajonhfkpaaa", sum := "e62638def67d848370a51d9c59988b7d6badabdf48c95d2e5fde9395858e08b4", func := "congress/congresslaw14.LossyBlind", spec := "lossyBlind", apart := false, narrowed := true }
def LossyBlindUptoSaid : Prop := lossyBlindUptoRow.holds Try.pinned (OpenSpec.upto lossyBlindSpec)

/-- 'congresslaw14.LossyOrder', WHERE WHAT IT READS IS OF BULK AT MOST 1048576: true; the input reads as it did. -/
def lossyOrderUptoRow : OpenClaim := { program := "ytdaeajonhfkpaaa", sum := "e62638def67d848370a51d9c59988b7d6badabdf48c95d2e5fde9395858e08b4", func := "congress/congresslaw14.LossyOrder", spec := "lossyOrder", apart := false, narrowed := true }
def LossyOrderUptoSaid : Prop := lossyOrderUptoRow.holds Try.pinned (OpenSpec.upto lossyOrderSpec)

/-- 'congresslaw14.LossyTurned', WHERE WHAT IT READS IS OF BULK AT MOST 1048576: true; the input reads as it did. -/
def lossyTurnedUptoRow : OpenClaim := { program := "ytdaeajonhfkpaaa", sum := "e62638def67d848370a51d9c59988b7d6badabdf48c95d2e5fde9395858e08b4", func := "congress/congresslaw14.LossyTurned", spec := "lossyTurned", apart := false, narrowed := true }
def LossyTurnedUptoSaid : Prop := lossyTurnedUptoRow.holds Try.pinned (OpenSpec.upto lossyTurnedSpec)

/-- 'congresslaw14.LossyPuts', WHERE WHAT IT READS IS OF BULK AT MOST 1048576: true; the input reads as it did. -/
def lossyPutsUptoRow : OpenClaim := { program := "ytdaeajonhfkpaaa", sum := "e62638def67d848370a51d9c59988b7d6badabdf48c95d2e5fde9395858e08b4", func := "congress/congresslaw14.LossyPuts", spec := "lossyPuts", apart := false, narrowed := true }
def LossyPutsUptoSaid : Prop := lossyPutsUptoRow.holds Try.pinned (OpenSpec.upto lossyPutsSpec)

end Rows
end Go.Proofs.Ytdaeajonhfkpaaa
