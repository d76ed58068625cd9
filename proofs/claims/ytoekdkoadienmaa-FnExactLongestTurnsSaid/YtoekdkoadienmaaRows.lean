/-
  No cell of these rows narrows 'for every input' (looked for: loops, veiled, ifaces, maps, wideKeys, modest, calm, conditions, laid).
  DERIVED. THE GIVEN ROWS OF THIS SEAT. 11 by the template 'for every input the law returns true; each argument reads behind the call as it read before'; 0 by the template 'total and deterministic' (their statements: YtoekdkoadienmaaTotals.lean).
  GIVEN WITH THE SEED: the statements are not yours to turn. If you find one false, say at which input.
  Laid BY PROGRAM, IN A SANDBOX (cutbox-rows.mjs): the forced cells as the released guide's own fill.sh prints them over the translation 04da438c98347723… (all of the seat's roots in one cut). By AI agents, Wed Nov 11 2026. No macro, syntax, notation, axiom, sorry.
-/
import Derived.Test.YtoekdkoadienmaaChecked
import GoSem.Claim
import GoSem.ClaimJoined
import GoSem.ClaimMapViews
import Derived.JoinedTies
import Derived.KernelRfl
namespace Go.Proofs.Ytoekdkoadienmaa
/- THE CELL 'sum', in the pinned program and in every row, IS THE sha256 OF THE DUMP (.gsa) THAT YtoekdkoadienmaaProg.lean LOADS. Nothing in Lean hashes anything: it is a label: what it is worth is what the hold of that sum in a sandbox is worth. -/
noncomputable def Try.pinned : Pinned := { name := "ytoekdkoadienmaa", sum := "04da438c98347723c15fa6f60776679c6f9ea98d955818c7b778a3df8c0c9cde", checked := Try.checked }
namespace Rows
def none {H : Type} : Left H := { results := [], args := [] }

/-- 'laws.FnExactIsStopper': WHATEVER THE INPUT: true; the input reads as it did. -/
def fnExactIsStopperSpec : ChangeSpec := { name := "fnExactIsStopper", fn := fun _ => fun
  | [d] => { results := [.lit (.bool true)], args := [d] }
  | _ => none }
def fnExactIsStopperRow : OpenClaim := { program := "ytoekdkoadienmaa", sum := "04da438c98347723c15fa6f60776679c6f9ea98d955818c7b778a3df8c0c9cde", func := "loop.example/g00868/laws.FnExactIsStopper", spec := "fnExactIsStopper", unfollowed := true, recurses := true, apart := false }
def FnExactIsStopperSaid : Prop := fnExactIsStopperRow.holds Try.pinned (OpenSpec.ofChange fnExactIsStopperSpec)

/-- ITS FALSE NEIGHBOUR: 'it returns false'. Refute it at one input. -/
def fnExactIsStopperWrong : ChangeSpec := { name := "fnExactIsStopper", fn := fun _ => fun
  | [d] => { results := [.lit (.bool false)], args := [d] }
  | _ => none }
def FnExactIsStopperWrongFalsely : Prop := fnExactIsStopperRow.holds Try.pinned (OpenSpec.ofChange fnExactIsStopperWrong)

/-- 'laws.FnExactLongestTurns': WHATEVER THE INPUT: true; the input reads as it did. -/
def fnExactLongestTurnsSpec : ChangeSpec := { name := "fnExactLongestTurns", fn := fun _ => fun
  | [d1, d2, d3] => { results := [.lit (.bool true)], args := [d1, d2, d3] }
  | _ => none }
def fnExactLongestTurnsRow : OpenClaim := { program := "ytoekdkoadienmaa", sum := "04da438c98347723c15fa6f60776679c6f9ea98d955818c7b778a3df8c0c9cde", func := "loop.example/g00868/laws.FnExactLongestTurns", spec := "fnExactLongestTurns", unfollowed := true, recurses := true, apart := false }
def FnExactLongestTurnsSaid : Prop := fnExactLongestTurnsRow.holds Try.pinned (OpenSpec.ofChange fnExactLongestTurnsSpec)

/-- ITS FALSE NEIGHBOUR: 'it returns false'. Refute it at one input. -/
def fnExactLongestTurnsWrong : ChangeSpec := { name := "fnExactLongestTurns", fn := fun _ => fun
  | [d1, d2, d3] => { results := [.lit (.bool false)], args := [d1, d2, d3] }
  | _ => none }
def FnExactLongestTurnsWrongFalsely : Prop := fnExactLongestTurnsRow.holds Try.pinned (OpenSpec.ofChange fnExactLongestTurnsWrong)

/-- 'laws.FnExactWinIn': WHATEVER THE INPUT: true; the input reads as it did. -/
def fnExactWinInSpec : ChangeSpec := { name := "fnExactWinIn", fn := fun _ => fun
  | [d1, d2, d3] => { results := [.lit (.bool true)], args := [d1, d2, d3] }
  | _ => none }
def fnExactWinInRow : OpenClaim := { program := "ytoekdkoadienmaa", sum := "04da438c98347723c15fa6f60776679c6f9ea98d955818c7b778a3df8c0c9cde", func := "loop.example/g00868/laws.FnExactWinIn", spec := "fnExactWinIn", apart := false }
def FnExactWinInSaid : Prop := fnExactWinInRow.holds Try.pinned (OpenSpec.ofChange fnExactWinInSpec)

/-- ITS FALSE NEIGHBOUR: 'it returns false'. Refute it at one input. -/
def fnExactWinInWrong : ChangeSpec := { name := "fnExactWinIn", fn := fun _ => fun
  | [d1, d2, d3] => { results := [.lit (.bool false)], args := [d1, d2, d3] }
  | _ => none }
def FnExactWinInWrongFalsely : Prop := fnExactWinInRow.holds Try.pinned (OpenSpec.ofChange fnExactWinInWrong)

/-- 'laws.FnExactLoopOutcome': WHATEVER THE INPUT: true; the input reads as it did. -/
def fnExactLoopOutcomeSpec : ChangeSpec := { name := "fnExactLoopOutcome", fn := fun _ => fun
  | [d1, d2, d3] => { results := [.lit (.bool true)], args := [d1, d2, d3] }
  | _ => none }
def fnExactLoopOutcomeRow : OpenClaim := { program := "ytoekdkoadienmaa", sum := "04da438c98347723c15fa6f60776679c6f9ea98d955818c7b778a3df8c0c9cde", func := "loop.example/g00868/laws.FnExactLoopOutcome", spec := "fnExactLoopOutcome", apart := false }
def FnExactLoopOutcomeSaid : Prop := fnExactLoopOutcomeRow.holds Try.pinned (OpenSpec.ofChange fnExactLoopOutcomeSpec)

/-- ITS FALSE NEIGHBOUR: 'it returns false'. Refute it at one input. -/
def fnExactLoopOutcomeWrong : ChangeSpec := { name := "fnExactLoopOutcome", fn := fun _ => fun
  | [d1, d2, d3] => { results := [.lit (.bool false)], args := [d1, d2, d3] }
  | _ => none }
def FnExactLoopOutcomeWrongFalsely : Prop := fnExactLoopOutcomeRow.holds Try.pinned (OpenSpec.ofChange fnExactLoopOutcomeWrong)

/-- 'laws.FnExactHoldsOut': WHATEVER THE INPUT: true; the input reads as it did. -/
def fnExactHoldsOutSpec : ChangeSpec := { name := "fnExactHoldsOut", fn := fun _ => fun
  | [d1, d2, d3, d4] => { results := [.lit (.bool true)], args := [d1, d2, d3, d4] }
  | _ => none }
def fnExactHoldsOutRow : OpenClaim := { program := "ytoekdkoadienmaa", sum := "04da438c98347723c15fa6f60776679c6f9ea98d955818c7b778a3df8c0c9cde", func := "loop.example/g00868/laws.FnExactHoldsOut", spec := "fnExactHoldsOut", apart := false }
def FnExactHoldsOutSaid : Prop := fnExactHoldsOutRow.holds Try.pinned (OpenSpec.ofChange fnExactHoldsOutSpec)

/-- ITS FALSE NEIGHBOUR: 'it returns false'. Refute it at one input. -/
def fnExactHoldsOutWrong : ChangeSpec := { name := "fnExactHoldsOut", fn := fun _ => fun
  | [d1, d2, d3, d4] => { results := [.lit (.bool false)], args := [d1, d2, d3, d4] }
  | _ => none }
def FnExactHoldsOutWrongFalsely : Prop := fnExactHoldsOutRow.holds Try.pinned (OpenSpec.ofChange fnExactHoldsOutWrong)

/-- 'laws.FnExactLoopTable': WHATEVER THE INPUT: true; the input reads as it did. -/
def fnExactLoopTableSpec : ChangeSpec := { name := "fnExactLoopTable", fn := fun _ => fun
  | [d] => { results := [.lit (.bool true)], args := [d] }
  | _ => none }
def fnExactLoopTableRow : OpenClaim := { program := "ytoekdkoadienmaa", sum := "04da438c98347723c15fa6f60776679c6f9ea98d955818c7b778a3df8c0c9cde", func := "loop.example/g00868/laws.FnExactLoopTable", spec := "fnExactLoopTable", apart := false }
def FnExactLoopTableSaid : Prop := fnExactLoopTableRow.holds Try.pinned (OpenSpec.ofChange fnExactLoopTableSpec)

/-- ITS FALSE NEIGHBOUR: 'it returns false'. Refute it at one input. -/
def fnExactLoopTableWrong : ChangeSpec := { name := "fnExactLoopTable", fn := fun _ => fun
  | [d] => { results := [.lit (.bool false)], args := [d] }
  | _ => none }
def FnExactLoopTableWrongFalsely : Prop := fnExactLoopTableRow.holds Try.pinned (OpenSpec.ofChange fnExactLoopTableWrong)

/-- 'laws.FnExactLoopMove': WHATEVER THE INPUT: true; the input reads as it did. -/
def fnExactLoopMoveSpec : ChangeSpec := { name := "fnExactLoopMove", fn := fun _ => fun
  | [d1, d2, d3] => { results := [.lit (.bool true)], args := [d1, d2, d3] }
  | _ => none }
def fnExactLoopMoveRow : OpenClaim := { program := "ytoekdkoadienmaa", sum := "04da438c98347723c15fa6f60776679c6f9ea98d955818c7b778a3df8c0c9cde", func := "loop.example/g00868/laws.FnExactLoopMove", spec := "fnExactLoopMove", apart := false }
def FnExactLoopMoveSaid : Prop := fnExactLoopMoveRow.holds Try.pinned (OpenSpec.ofChange fnExactLoopMoveSpec)

/-- ITS FALSE NEIGHBOUR: 'it returns false'. Refute it at one input. -/
def fnExactLoopMoveWrong : ChangeSpec := { name := "fnExactLoopMove", fn := fun _ => fun
  | [d1, d2, d3] => { results := [.lit (.bool false)], args := [d1, d2, d3] }
  | _ => none }
def FnExactLoopMoveWrongFalsely : Prop := fnExactLoopMoveRow.holds Try.pinned (OpenSpec.ofChange fnExactLoopMoveWrong)

/-- 'laws.FnLoops': WHATEVER THE INPUT: true; the input reads as it did. -/
def fnLoopsSpec : ChangeSpec := { name := "fnLoops", fn := fun _ => fun
  | [d] => { results := [.lit (.bool true)], args := [d] }
  | _ => none }
def fnLoopsRow : OpenClaim := { program := "ytoekdkoadienmaa", sum := "04da438c98347723c15fa6f60776679c6f9ea98d955818c7b778a3df8c0c9cde", func := "loop.example/g00868/laws.FnLoops", spec := "fnLoops", apart := false }
def FnLoopsSaid : Prop := fnLoopsRow.holds Try.pinned (OpenSpec.ofChange fnLoopsSpec)

/-- ITS FALSE NEIGHBOUR: 'it returns false'. Refute it at one input. -/
def fnLoopsWrong : ChangeSpec := { name := "fnLoops", fn := fun _ => fun
  | [d] => { results := [.lit (.bool false)], args := [d] }
  | _ => none }
def FnLoopsWrongFalsely : Prop := fnLoopsRow.holds Try.pinned (OpenSpec.ofChange fnLoopsWrong)

/-- 'laws.FnHolding': WHATEVER THE INPUT: true; the input reads as it did. -/
def fnHoldingSpec : ChangeSpec := { name := "fnHolding", fn := fun _ => fun
  | [d] => { results := [.lit (.bool true)], args := [d] }
  | _ => none }
def fnHoldingRow : OpenClaim := { program := "ytoekdkoadienmaa", sum := "04da438c98347723c15fa6f60776679c6f9ea98d955818c7b778a3df8c0c9cde", func := "loop.example/g00868/laws.FnHolding", spec := "fnHolding", apart := false }
def FnHoldingSaid : Prop := fnHoldingRow.holds Try.pinned (OpenSpec.ofChange fnHoldingSpec)

/-- ITS FALSE NEIGHBOUR: 'it returns false'. Refute it at one input. -/
def fnHoldingWrong : ChangeSpec := { name := "fnHolding", fn := fun _ => fun
  | [d] => { results := [.lit (.bool false)], args := [d] }
  | _ => none }
def FnHoldingWrongFalsely : Prop := fnHoldingRow.holds Try.pinned (OpenSpec.ofChange fnHoldingWrong)

/-- 'laws.FnLoopMoves': WHATEVER THE INPUT: true; the input reads as it did. -/
def fnLoopMovesSpec : ChangeSpec := { name := "fnLoopMoves", fn := fun _ => fun
  | [d] => { results := [.lit (.bool true)], args := [d] }
  | _ => none }
def fnLoopMovesRow : OpenClaim := { program := "ytoekdkoadienmaa", sum := "04da438c98347723c15fa6f60776679c6f9ea98d955818c7b778a3df8c0c9cde", func := "loop.example/g00868/laws.FnLoopMoves", spec := "fnLoopMoves", apart := false }
def FnLoopMovesSaid : Prop := fnLoopMovesRow.holds Try.pinned (OpenSpec.ofChange fnLoopMovesSpec)

/-- ITS FALSE NEIGHBOUR: 'it returns false'. Refute it at one input. -/
def fnLoopMovesWrong : ChangeSpec := { name := "fnLoopMoves", fn := fun _ => fun
  | [d] => { results := [.lit (.bool false)], args := [d] }
  | _ => none }
def FnLoopMovesWrongFalsely : Prop := fnLoopMovesRow.holds Try.pinned (OpenSpec.ofChange fnLoopMovesWrong)

/-- 'laws.FnTurns': WHATEVER THE INPUT: true; the input reads as it did. -/
def fnTurnsSpec : ChangeSpec := { name := "fnTurns", fn := fun _ => fun
  | [d] => { results := [.lit (.bool true)], args := [d] }
  | _ => none }
def fnTurnsRow : OpenClaim := { program := "ytoekdkoadienmaa", sum := "04da438c98347723c15fa6f60776679c6f9ea98d955818c7b778a3df8c0c9cde", func := "loop.example/g00868/laws.FnTurns", spec := "fnTurns", unfollowed := true, recurses := true, apart := false }
def FnTurnsSaid : Prop := fnTurnsRow.holds Try.pinned (OpenSpec.ofChange fnTurnsSpec)

/-- ITS FALSE NEIGHBOUR: 'it returns false'. Refute it at one input. -/
def fnTurnsWrong : ChangeSpec := { name := "fnTurns", fn := fun _ => fun
  | [d] => { results := [.lit (.bool false)], args := [d] }
  | _ => none }
def FnTurnsWrongFalsely : Prop := fnTurnsRow.holds Try.pinned (OpenSpec.ofChange fnTurnsWrong)

/- THE SECOND FORM. 'bulk': how many values and letters a reading holds, each counted each time it is reached (what is shared counts as often as it is met; a slice's spare places count too). A statement '..UptoSaid' is the law's where the arguments, and the package variables that the reading takes, are together of bulk at most 1048576: NARROWER than '..Said'. Prove '..Said' where nothing that the law and all that it calls make is longer than what came in: it says more and counts as full. Else prove '..UptoSaid'. A law counts once. -/
mutual
def uptoBulk {H : Type} : DataW H → Nat
  | .lit (.string bytes) => bytes.length + 1
  | .lit _ => 1
  | .nil => 1
  | .ptr d => uptoBulk d + 1
  | .slice elems spare => uptoBulkAll elems + uptoBulkAll spare + 1
  | .agg parts => uptoBulkAll parts + 1
  | .iface _ d => uptoBulk d + 1
  | .map entries => uptoBulkEntries entries + 1
  | .held _ => 1
def uptoBulkAll {H : Type} : List (DataW H) → Nat
  | [] => 0
  | d :: r => uptoBulk d + uptoBulkAll r
def uptoBulkEntries {H : Type} : List (Lit × DataW H) → Nat
  | [] => 0
  | x :: r => uptoBulkEntry x + uptoBulkEntries r
def uptoBulkEntry {H : Type} : Lit × DataW H → Nat
  | (.string bytes, d) => bytes.length + uptoBulk d + 1
  | (_, d) => uptoBulk d + 1
 end
def uptoSmall : (H : Type) → List (DataW H) → Bool := fun _ ds => decide (uptoBulkAll ds ≤ 1048576)
def OpenSpec.upto (s : _root_.Go.ChangeSpec) : _root_.Go.OpenSpec := { _root_.Go.OpenSpec.ofChange s with cond := some uptoSmall }

/-- 'laws.FnExactIsStopper', WHERE WHAT IT READS IS OF BULK AT MOST 1048576: true; the input reads as it did. -/
def fnExactIsStopperUptoRow : OpenClaim := { program := "ytoekdkoadienmaa", sum := "04da438c98347723c15fa6f60776679c6f9ea98d955818c7b778a3df8c0c9cde", func := "loop.example/g00868/laws.FnExactIsStopper", spec := "fnExactIsStopper", unfollowed := true, recurses := true, apart := false, narrowed := true }
def FnExactIsStopperUptoSaid : Prop := fnExactIsStopperUptoRow.holds Try.pinned (OpenSpec.upto fnExactIsStopperSpec)

/-- 'laws.FnExactLongestTurns', WHERE WHAT IT READS IS OF BULK AT MOST 1048576: true; the input reads as it did. -/
def fnExactLongestTurnsUptoRow : OpenClaim := { program := "ytoekdkoadienmaa", sum := "04da438c98347723c15fa6f60776679c6f9ea98d955818c7b778a3df8c0c9cde", func := "loop.example/g00868/laws.FnExactLongestTurns", spec := "fnExactLongestTurns", unfollowed := true, recurses := true, apart := false, narrowed := true }
def FnExactLongestTurnsUptoSaid : Prop := fnExactLongestTurnsUptoRow.holds Try.pinned (OpenSpec.upto fnExactLongestTurnsSpec)

/-- 'laws.FnExactWinIn', WHERE WHAT IT READS IS OF BULK AT MOST 1048576: true; the input reads as it did. -/
def fnExactWinInUptoRow : OpenClaim := { program := "ytoekdkoadienmaa", sum := "04da438c98347723c15fa6f60776679c6f9ea98d955818c7b778a3df8c0c9cde", func := "loop.example/g00868/laws.FnExactWinIn", spec := "fnExactWinIn", apart := false, narrowed := true }
def FnExactWinInUptoSaid : Prop := fnExactWinInUptoRow.holds Try.pinned (OpenSpec.upto fnExactWinInSpec)

/-- 'laws.FnExactLoopOutcome', WHERE WHAT IT READS IS OF BULK AT MOST 1048576: true; the input reads as it did. -/
def fnExactLoopOutcomeUptoRow : OpenClaim := { program := "ytoekdkoadienmaa", sum := "04da438c98347723c15fa6f60776679c6f9ea98d955818c7b778a3df8c0c9cde", func := "loop.example/g00868/laws.FnExactLoopOutcome", spec := "fnExactLoopOutcome", apart := false, narrowed := true }
def FnExactLoopOutcomeUptoSaid : Prop := fnExactLoopOutcomeUptoRow.holds Try.pinned (OpenSpec.upto fnExactLoopOutcomeSpec)

/-- 'laws.FnExactHoldsOut', WHERE WHAT IT READS IS OF BULK AT MOST 1048576: true; the input reads as it did. -/
def fnExactHoldsOutUptoRow : OpenClaim := { program := "ytoekdkoadienmaa", sum := "04da438c98347723c15fa6f60776679c6f9ea98d955818c7b778a3df8c0c9cde", func := "loop.example/g00868/laws.FnExactHoldsOut", spec := "fnExactHoldsOut", apart := false, narrowed := true }
def FnExactHoldsOutUptoSaid : Prop := fnExactHoldsOutUptoRow.holds Try.pinned (OpenSpec.upto fnExactHoldsOutSpec)

/-- 'laws.FnExactLoopTable', WHERE WHAT IT READS IS OF BULK AT MOST 1048576: true; the input reads as it did. -/
def fnExactLoopTableUptoRow : OpenClaim := { program := "ytoekdkoadienmaa", sum := "04da438c98347723c15fa6f60776679c6f9ea98d955818c7b778a3df8c0c9cde", func := "loop.example/g00868/laws.FnExactLoopTable", spec := "fnExactLoopTable", apart := false, narrowed := true }
def FnExactLoopTableUptoSaid : Prop := fnExactLoopTableUptoRow.holds Try.pinned (OpenSpec.upto fnExactLoopTableSpec)

/-- 'laws.FnExactLoopMove', WHERE WHAT IT READS IS OF BULK AT MOST 1048576: true; the input reads as it did. -/
def fnExactLoopMoveUptoRow : OpenClaim := { program := "ytoekdkoadienmaa", sum := "04da438c98347723c15fa6f60776679c6f9ea98d955818c7b778a3df8c0c9cde", func := "loop.example/g00868/laws.FnExactLoopMove", spec := "fnExactLoopMove", apart := false, narrowed := true }
def FnExactLoopMoveUptoSaid : Prop := fnExactLoopMoveUptoRow.holds Try.pinned (OpenSpec.upto fnExactLoopMoveSpec)

/-- 'laws.FnLoops', WHERE WHAT IT READS IS OF BULK AT MOST 1048576: true; the input reads as it did. -/
def fnLoopsUptoRow : OpenClaim := { program := "ytoekdkoadienmaa", sum := "04da438c98347723c15fa6f60776679c6f9ea98d955818c7b778a3df8c0c9cde", func := "loop.example/g00868/laws.FnLoops", spec := "fnLoops", apart := false, narrowed := true }
def FnLoopsUptoSaid : Prop := fnLoopsUptoRow.holds Try.pinned (OpenSpec.upto fnLoopsSpec)

/-- 'laws.FnHolding', WHERE WHAT IT READS IS OF BULK AT MOST 1048576: true; the input reads as it did. -/
def fnHoldingUptoRow : OpenClaim := { program := "ytoekdkoadienmaa", sum := "04da438c98347723c15fa6f60776679c6f9ea98d955818c7b778a3df8c0c9cde", func := "loop.example/g00868/laws.FnHolding", spec := "fnHolding", apart := false, narrowed := true }
def FnHoldingUptoSaid : Prop := fnHoldingUptoRow.holds Try.pinned (OpenSpec.upto fnHoldingSpec)

/-- 'laws.FnLoopMoves', WHERE WHAT IT READS IS OF BULK AT MOST 1048576: true; the input reads as it did. -/
def fnLoopMovesUptoRow : OpenClaim := { program := "ytoekdkoadienmaa", sum := "04da438c98347723c15fa6f60776679c6f9ea98d955818c7b778a3df8c0c9cde", func := "loop.example/g00868/laws.FnLoopMoves", spec := "fnLoopMoves", apart := false, narrowed := true }
def FnLoopMovesUptoSaid : Prop := fnLoopMovesUptoRow.holds Try.pinned (OpenSpec.upto fnLoopMovesSpec)

/-- 'laws.FnTurns', WHERE WHAT IT READS IS OF BULK AT MOST 1048576: true; the input reads as it did. -/
def fnTurnsUptoRow : OpenClaim := { program := "ytoekdkoadienmaa", sum := "04da438c98347723c15fa6f60776679c6f9ea98d955818c7b778a3df8c0c9cde", func := "loop.example/g00868/laws.FnTurns", spec := "fnTurns", unfollowed := true, recurses := true, apart := false, narrowed := true }
def FnTurnsUptoSaid : Prop := fnTurnsUptoRow.holds Try.pinned (OpenSpec.upto fnTurnsSpec)

end Rows
end Go.Proofs.Ytoekdkoadienmaa
