/-
  No cell of these rows narrows 'for every input' (looked for: loops, veiled, ifaces, maps, wideKeys, modest, calm, conditions, laid).
  DERIVED. THE GIVEN ROWS OF THIS SEAT. 11 by the template 'for every input the law returns true; each argument reads behind the call as it read before'; 0 by the template 'total and deterministic' (their statements: YtdignmbeiohhiaaTotals.lean).
  GIVEN WITH THE SEED: the statements are not yours to turn. If you find one false, say at which input.
  Laid BY PROGRAM, IN A SANDBOX (cutbox-rows.mjs): the forced cells as the released guide's own fill.sh prints them over the translation a1ac576ca89155e4… (all of the seat's roots in one cut). By AI agents, Wed Nov 11 2026. No macro, syntax, notation, axiom, sorry.
-/
import Derived.Test.YtdignmbeiohhiaaChecked
import GoSem.Claim
import GoSem.ClaimJoined
import GoSem.ClaimMapViews
import Derived.JoinedTies
import Derived.KernelRfl
namespace Go.Proofs.Ytdignmbeiohhiaa
/- THE CELL 'sum', in the pinned program and in every row, IS THE sha256 OF THE DUMP (.gsa) THAT YtdignmbeiohhiaaProg.lean LOADS. Nothing in Lean hashes anything: it is a label: what it is worth is what the hold of that sum in a sandbox is worth. -/
noncomputable def Try.pinned : Pinned := { name := "ytdignmbeiohhiaa", sum := "a1ac576ca89155e447cb753ffcaf1cfd5c80524c5b30b663c69b222a5cd8df87", checked := Try.checked }
namespace Rows
def none {H : Type} : Left H := { results := [], args := [] }

/-- 'laws.FnExactPutRow': WHATEVER THE INPUT: true; the input reads as it did. -/
def fnExactPutRowSpec : ChangeSpec := { name := "fnExactPutRow", fn := fun _ => fun
  | [d1, d2] => { results := [.lit (.bool true)], args := [d1, d2] }
  | _ => none }
def fnExactPutRowRow : OpenClaim := { program := "ytdignmbeiohhiaa", sum := "a1ac576ca89155e447cb753ffcaf1cfd5c80524c5b30b663c69b222a5cd8df87", func := "loop.example/g00868/laws.FnExactPutRow", spec := "fnExactPutRow", inPlace := ["internal/bytealg.IndexByteString", "internal/bytealg.abigen_runtime_cmpstring", "slices.overlaps[loop.example/g00868/impl.Row]"], unfollowed := true, recurses := true, apart := false }
def FnExactPutRowSaid : Prop := fnExactPutRowRow.holds Try.pinned (OpenSpec.ofChange fnExactPutRowSpec)

/-- ITS FALSE NEIGHBOUR: 'it returns false'. Refute it at one input. -/
def fnExactPutRowWrong : ChangeSpec := { name := "fnExactPutRow", fn := fun _ => fun
  | [d1, d2] => { results := [.lit (.bool false)], args := [d1, d2] }
  | _ => none }
def FnExactPutRowWrongFalsely : Prop := fnExactPutRowRow.holds Try.pinned (OpenSpec.ofChange fnExactPutRowWrong)

/-- 'laws.FnExactMergeRows': WHATEVER THE INPUT: true; the input reads as it did. -/
def fnExactMergeRowsSpec : ChangeSpec := { name := "fnExactMergeRows", fn := fun _ => fun
  | [d1, d2] => { results := [.lit (.bool true)], args := [d1, d2] }
  | _ => none }
def fnExactMergeRowsRow : OpenClaim := { program := "ytdignmbeiohhiaa", sum := "a1ac576ca89155e447cb753ffcaf1cfd5c80524c5b30b663c69b222a5cd8df87", func := "loop.example/g00868/laws.FnExactMergeRows", spec := "fnExactMergeRows", inPlace := ["internal/bytealg.IndexByteString", "internal/bytealg.abigen_runtime_cmpstring", "slices.overlaps[loop.example/g00868/impl.Row]"], unfollowed := true, recurses := true, apart := false }
def FnExactMergeRowsSaid : Prop := fnExactMergeRowsRow.holds Try.pinned (OpenSpec.ofChange fnExactMergeRowsSpec)

/-- ITS FALSE NEIGHBOUR: 'it returns false'. Refute it at one input. -/
def fnExactMergeRowsWrong : ChangeSpec := { name := "fnExactMergeRows", fn := fun _ => fun
  | [d1, d2] => { results := [.lit (.bool false)], args := [d1, d2] }
  | _ => none }
def FnExactMergeRowsWrongFalsely : Prop := fnExactMergeRowsRow.holds Try.pinned (OpenSpec.ofChange fnExactMergeRowsWrong)

/-- 'laws.FnRows': WHATEVER THE INPUT: true; the input reads as it did. -/
def fnRowsSpec : ChangeSpec := { name := "fnRows", fn := fun _ => fun
  | [d] => { results := [.lit (.bool true)], args := [d] }
  | _ => none }
def fnRowsRow : OpenClaim := { program := "ytdignmbeiohhiaa", sum := "a1ac576ca89155e447cb753ffcaf1cfd5c80524c5b30b663c69b222a5cd8df87", func := "loop.example/g00868/laws.FnRows", spec := "fnRows", inPlace := ["internal/bytealg.IndexByteString", "internal/bytealg.abigen_runtime_cmpstring", "slices.overlaps[loop.example/g00868/impl.Row]", "internal/bytealg.IndexString"], unfollowed := true, recurses := true, named := ["internal/bytealg.MaxLen"], apart := false }
def FnRowsSaid : Prop := fnRowsRow.holds Try.pinned (OpenSpec.ofChange fnRowsSpec)

/-- ITS FALSE NEIGHBOUR: 'it returns false'. Refute it at one input. -/
def fnRowsWrong : ChangeSpec := { name := "fnRows", fn := fun _ => fun
  | [d] => { results := [.lit (.bool false)], args := [d] }
  | _ => none }
def FnRowsWrongFalsely : Prop := fnRowsRow.holds Try.pinned (OpenSpec.ofChange fnRowsWrong)

/-- 'laws.FnMerged': WHATEVER THE INPUT: true; the input reads as it did. -/
def fnMergedSpec : ChangeSpec := { name := "fnMerged", fn := fun _ => fun
  | [d] => { results := [.lit (.bool true)], args := [d] }
  | _ => none }
def fnMergedRow : OpenClaim := { program := "ytdignmbeiohhiaa", sum := "a1ac576ca89155e447cb753ffcaf1cfd5c80524c5b30b663c69b222a5cd8df87", func := "loop.example/g00868/laws.FnMerged", spec := "fnMerged", inPlace := ["internal/bytealg.IndexByteString", "internal/bytealg.abigen_runtime_cmpstring", "slices.overlaps[loop.example/g00868/impl.Row]"], unfollowed := true, recurses := true, apart := false }
def FnMergedSaid : Prop := fnMergedRow.holds Try.pinned (OpenSpec.ofChange fnMergedSpec)

/-- ITS FALSE NEIGHBOUR: 'it returns false'. Refute it at one input. -/
def fnMergedWrong : ChangeSpec := { name := "fnMerged", fn := fun _ => fun
  | [d] => { results := [.lit (.bool false)], args := [d] }
  | _ => none }
def FnMergedWrongFalsely : Prop := fnMergedRow.holds Try.pinned (OpenSpec.ofChange fnMergedWrong)

/-- 'laws.FnExactGoodForm': WHATEVER THE INPUT: true; the input reads as it did. -/
def fnExactGoodFormSpec : ChangeSpec := { name := "fnExactGoodForm", fn := fun _ => fun
  | [d] => { results := [.lit (.bool true)], args := [d] }
  | _ => none }
def fnExactGoodFormRow : OpenClaim := { program := "ytdignmbeiohhiaa", sum := "a1ac576ca89155e447cb753ffcaf1cfd5c80524c5b30b663c69b222a5cd8df87", func := "loop.example/g00868/laws.FnExactGoodForm", spec := "fnExactGoodForm", apart := false }
def FnExactGoodFormSaid : Prop := fnExactGoodFormRow.holds Try.pinned (OpenSpec.ofChange fnExactGoodFormSpec)

/-- ITS FALSE NEIGHBOUR: 'it returns false'. Refute it at one input. -/
def fnExactGoodFormWrong : ChangeSpec := { name := "fnExactGoodForm", fn := fun _ => fun
  | [d] => { results := [.lit (.bool false)], args := [d] }
  | _ => none }
def FnExactGoodFormWrongFalsely : Prop := fnExactGoodFormRow.holds Try.pinned (OpenSpec.ofChange fnExactGoodFormWrong)

/-- 'laws.FnExactBornOf': WHATEVER THE INPUT: true; the input reads as it did. -/
def fnExactBornOfSpec : ChangeSpec := { name := "fnExactBornOf", fn := fun _ => fun
  | [d] => { results := [.lit (.bool true)], args := [d] }
  | _ => none }
def fnExactBornOfRow : OpenClaim := { program := "ytdignmbeiohhiaa", sum := "a1ac576ca89155e447cb753ffcaf1cfd5c80524c5b30b663c69b222a5cd8df87", func := "loop.example/g00868/laws.FnExactBornOf", spec := "fnExactBornOf", apart := false }
def FnExactBornOfSaid : Prop := fnExactBornOfRow.holds Try.pinned (OpenSpec.ofChange fnExactBornOfSpec)

/-- ITS FALSE NEIGHBOUR: 'it returns false'. Refute it at one input. -/
def fnExactBornOfWrong : ChangeSpec := { name := "fnExactBornOf", fn := fun _ => fun
  | [d] => { results := [.lit (.bool false)], args := [d] }
  | _ => none }
def FnExactBornOfWrongFalsely : Prop := fnExactBornOfRow.holds Try.pinned (OpenSpec.ofChange fnExactBornOfWrong)

/-- 'laws.FnExactWinsMoving': WHATEVER THE INPUT: true; the input reads as it did. -/
def fnExactWinsMovingSpec : ChangeSpec := { name := "fnExactWinsMoving", fn := fun _ => fun
  | [d1, d2] => { results := [.lit (.bool true)], args := [d1, d2] }
  | _ => none }
def fnExactWinsMovingRow : OpenClaim := { program := "ytdignmbeiohhiaa", sum := "a1ac576ca89155e447cb753ffcaf1cfd5c80524c5b30b663c69b222a5cd8df87", func := "loop.example/g00868/laws.FnExactWinsMoving", spec := "fnExactWinsMoving", apart := false }
def FnExactWinsMovingSaid : Prop := fnExactWinsMovingRow.holds Try.pinned (OpenSpec.ofChange fnExactWinsMovingSpec)

/-- ITS FALSE NEIGHBOUR: 'it returns false'. Refute it at one input. -/
def fnExactWinsMovingWrong : ChangeSpec := { name := "fnExactWinsMoving", fn := fun _ => fun
  | [d1, d2] => { results := [.lit (.bool false)], args := [d1, d2] }
  | _ => none }
def FnExactWinsMovingWrongFalsely : Prop := fnExactWinsMovingRow.holds Try.pinned (OpenSpec.ofChange fnExactWinsMovingWrong)

/-- 'laws.FnExactOutcomeOf': WHATEVER THE INPUT: true; the input reads as it did. -/
def fnExactOutcomeOfSpec : ChangeSpec := { name := "fnExactOutcomeOf", fn := fun _ => fun
  | [d] => { results := [.lit (.bool true)], args := [d] }
  | _ => none }
def fnExactOutcomeOfRow : OpenClaim := { program := "ytdignmbeiohhiaa", sum := "a1ac576ca89155e447cb753ffcaf1cfd5c80524c5b30b663c69b222a5cd8df87", func := "loop.example/g00868/laws.FnExactOutcomeOf", spec := "fnExactOutcomeOf", apart := false }
def FnExactOutcomeOfSaid : Prop := fnExactOutcomeOfRow.holds Try.pinned (OpenSpec.ofChange fnExactOutcomeOfSpec)

/-- ITS FALSE NEIGHBOUR: 'it returns false'. Refute it at one input. -/
def fnExactOutcomeOfWrong : ChangeSpec := { name := "fnExactOutcomeOf", fn := fun _ => fun
  | [d] => { results := [.lit (.bool false)], args := [d] }
  | _ => none }
def FnExactOutcomeOfWrongFalsely : Prop := fnExactOutcomeOfRow.holds Try.pinned (OpenSpec.ofChange fnExactOutcomeOfWrong)

/-- 'laws.FnExactGoodTable': WHATEVER THE INPUT: true; the input reads as it did. -/
def fnExactGoodTableSpec : ChangeSpec := { name := "fnExactGoodTable", fn := fun _ => fun
  | [d] => { results := [.lit (.bool true)], args := [d] }
  | _ => none }
def fnExactGoodTableRow : OpenClaim := { program := "ytdignmbeiohhiaa", sum := "a1ac576ca89155e447cb753ffcaf1cfd5c80524c5b30b663c69b222a5cd8df87", func := "loop.example/g00868/laws.FnExactGoodTable", spec := "fnExactGoodTable", apart := false }
def FnExactGoodTableSaid : Prop := fnExactGoodTableRow.holds Try.pinned (OpenSpec.ofChange fnExactGoodTableSpec)

/-- ITS FALSE NEIGHBOUR: 'it returns false'. Refute it at one input. -/
def fnExactGoodTableWrong : ChangeSpec := { name := "fnExactGoodTable", fn := fun _ => fun
  | [d] => { results := [.lit (.bool false)], args := [d] }
  | _ => none }
def FnExactGoodTableWrongFalsely : Prop := fnExactGoodTableRow.holds Try.pinned (OpenSpec.ofChange fnExactGoodTableWrong)

/-- 'laws.FnExactPartAt': WHATEVER THE INPUT: true; the input reads as it did. -/
def fnExactPartAtSpec : ChangeSpec := { name := "fnExactPartAt", fn := fun _ => fun
  | [d1, d2] => { results := [.lit (.bool true)], args := [d1, d2] }
  | _ => none }
def fnExactPartAtRow : OpenClaim := { program := "ytdignmbeiohhiaa", sum := "a1ac576ca89155e447cb753ffcaf1cfd5c80524c5b30b663c69b222a5cd8df87", func := "loop.example/g00868/laws.FnExactPartAt", spec := "fnExactPartAt", apart := false }
def FnExactPartAtSaid : Prop := fnExactPartAtRow.holds Try.pinned (OpenSpec.ofChange fnExactPartAtSpec)

/-- ITS FALSE NEIGHBOUR: 'it returns false'. Refute it at one input. -/
def fnExactPartAtWrong : ChangeSpec := { name := "fnExactPartAt", fn := fun _ => fun
  | [d1, d2] => { results := [.lit (.bool false)], args := [d1, d2] }
  | _ => none }
def FnExactPartAtWrongFalsely : Prop := fnExactPartAtRow.holds Try.pinned (OpenSpec.ofChange fnExactPartAtWrong)

/-- 'laws.FnExactWinningMoves': WHATEVER THE INPUT: true; the input reads as it did. -/
def fnExactWinningMovesSpec : ChangeSpec := { name := "fnExactWinningMoves", fn := fun _ => fun
  | [d1, d2] => { results := [.lit (.bool true)], args := [d1, d2] }
  | _ => none }
def fnExactWinningMovesRow : OpenClaim := { program := "ytdignmbeiohhiaa", sum := "a1ac576ca89155e447cb753ffcaf1cfd5c80524c5b30b663c69b222a5cd8df87", func := "loop.example/g00868/laws.FnExactWinningMoves", spec := "fnExactWinningMoves", apart := false }
def FnExactWinningMovesSaid : Prop := fnExactWinningMovesRow.holds Try.pinned (OpenSpec.ofChange fnExactWinningMovesSpec)

/-- ITS FALSE NEIGHBOUR: 'it returns false'. Refute it at one input. -/
def fnExactWinningMovesWrong : ChangeSpec := { name := "fnExactWinningMoves", fn := fun _ => fun
  | [d1, d2] => { results := [.lit (.bool false)], args := [d1, d2] }
  | _ => none }
def FnExactWinningMovesWrongFalsely : Prop := fnExactWinningMovesRow.holds Try.pinned (OpenSpec.ofChange fnExactWinningMovesWrong)

/- THE SECOND FORM. 'bulk': how many values and letters a reading holds, each counted each time it is reached (what is shared counts as often as it is met; a slice's spare places count too). A statement '..UptoSaid' is the law's where the arguments, and the package variables that the reading takes, are together of bulk at most 1048576: NARROWER than '..Said'. Prove '..Said' where nothing that the law and all that it calls make is longer than what came in: it says more and counts as full. Else prove '..UptoSaid'. A law counts once. -/
mutual
def uptoBulk {H : Type} : DataW H → Nat
  | .lit (.string bytes) => bytes.length + 1
  | .lit _ => 1
  | .nil => 1
  | .ptr d => uptoBulk d + 1
  | .slice elems spare => uptoBulkAll elems + uptoBulkAll spare + 1
  | .agg parts => uptoBulkAll parts + 1
  | .iface _ d => uptoBulk d + 1
  | .map entries => uptoBulkEntries entries + 1
  | .held _ => 1
def uptoBulkAll {H : Type} : List (DataW H) → Nat
  | [] => 0
  | d :: r => uptoBulk d + uptoBulkAll r
def uptoBulkEntries {H : Type} : List (Lit × DataW H) → Nat
  | [] => 0
  | x :: r => uptoBulkEntry x + uptoBulkEntries r
def uptoBulkEntry {H : Type} : Lit × DataW H → Nat
  | (.string bytes, d) => bytes.length + uptoBulk d + 1
  | (_, d) => uptoBulk d + 1
 end
def uptoSmall : (H : Type) → List (DataW H) → Bool := fun _ ds => decide (uptoBulkAll ds ≤ 1048576)
def OpenSpec.upto (s : _root_.Go.ChangeSpec) : _root_.Go.OpenSpec := { _root_.Go.OpenSpec.ofChange s with cond := some uptoSmall }

/-- 'laws.FnExactPutRow', WHERE WHAT IT READS IS OF BULK AT MOST 1048576: true; the input reads as it did. -/
def fnExactPutRowUptoRow : OpenClaim := { program := "ytdignmbeiohhiaa", sum := "a1ac576ca89155e447cb753ffcaf1cfd5c80524c5b30b663c69b222a5cd8df87", func := "loop.example/g00868/laws.FnExactPutRow", spec := "fnExactPutRow", inPlace := ["internal/bytealg.IndexByteString", "internal/bytealg.abigen_runtime_cmpstring", "slices.overlaps[loop.example/g00868/impl.Row]"], unfollowed := true, recurses := true, apart := false, narrowed := true }
def FnExactPutRowUptoSaid : Prop := fnExactPutRowUptoRow.holds Try.pinned (OpenSpec.upto fnExactPutRowSpec)

/-- 'laws.FnExactMergeRows', WHERE WHAT IT READS IS OF BULK AT MOST 1048576: true; the input reads as it did. -/
def fnExactMergeRowsUptoRow : OpenClaim := { program := "ytdignmbeiohhiaa", sum := "a1ac576ca89155e447cb753ffcaf1cfd5c80524c5b30b663c69b222a5cd8df87", func := "loop.example/g00868/laws.FnExactMergeRows", spec := "fnExactMergeRows", inPlace := ["internal/bytealg.IndexByteString", "internal/bytealg.abigen_runtime_cmpstring", "slices.overlaps[loop.example/g00868/impl.Row]"], unfollowed := true, recurses := true, apart := false, narrowed := true }
def FnExactMergeRowsUptoSaid : Prop := fnExactMergeRowsUptoRow.holds Try.pinned (OpenSpec.upto fnExactMergeRowsSpec)

/-- 'laws.FnRows', WHERE WHAT IT READS IS OF BULK AT MOST 1048576: true; the input reads as it did. -/
def fnRowsUptoRow : OpenClaim := { program := "ytdignmbeiohhiaa", sum := "a1ac576ca89155e447cb753ffcaf1cfd5c80524c5b30b663c69b222a5cd8df87", func := "loop.example/g00868/laws.FnRows", spec := "fnRows", inPlace := ["internal/bytealg.IndexByteString", "internal/bytealg.abigen_runtime_cmpstring", "slices.overlaps[loop.example/g00868/impl.Row]", "internal/bytealg.IndexString"], unfollowed := true, recurses := true, named := ["internal/bytealg.MaxLen"], apart := false, narrowed := true }
def FnRowsUptoSaid : Prop := fnRowsUptoRow.holds Try.pinned (OpenSpec.upto fnRowsSpec)

/-- 'laws.FnMerged', WHERE WHAT IT READS IS OF BULK AT MOST 1048576: true; the input reads as it did. -/
def fnMergedUptoRow : OpenClaim := { program := "ytdignmbeiohhiaa", sum := "a1ac576ca89155e447cb753ffcaf1cfd5c80524c5b30b663c69b222a5cd8df87", func := "loop.example/g00868/laws.FnMerged", spec := "fnMerged", inPlace := ["internal/bytealg.IndexByteString", "internal/bytealg.abigen_runtime_cmpstring", "slices.overlaps[loop.example/g00868/impl.Row]"], unfollowed := true, recurses := true, apart := false, narrowed := true }
def FnMergedUptoSaid : Prop := fnMergedUptoRow.holds Try.pinned (OpenSpec.upto fnMergedSpec)

/-- 'laws.FnExactGoodForm', WHERE WHAT IT READS IS OF BULK AT MOST 1048576: true; the input reads as it did. -/
def fnExactGoodFormUptoRow : OpenClaim := { program := "ytdignmbeiohhiaa", sum := "a1ac576ca89155e447cb753ffcaf1cfd5c80524c5b30b663c69b222a5cd8df87", func := "loop.example/g00868/laws.FnExactGoodForm", spec := "fnExactGoodForm", apart := false, narrowed := true }
def FnExactGoodFormUptoSaid : Prop := fnExactGoodFormUptoRow.holds Try.pinned (OpenSpec.upto fnExactGoodFormSpec)

/-- 'laws.FnExactBornOf', WHERE WHAT IT READS IS OF BULK AT MOST 1048576: true; the input reads as it did. -/
def fnExactBornOfUptoRow : OpenClaim := { program := "ytdignmbeiohhiaa", sum := "a1ac576ca89155e447cb753ffcaf1cfd5c80524c5b30b663c69b222a5cd8df87", func := "loop.example/g00868/laws.FnExactBornOf", spec := "fnExactBornOf", apart := false, narrowed := true }
def FnExactBornOfUptoSaid : Prop := fnExactBornOfUptoRow.holds Try.pinned (OpenSpec.upto fnExactBornOfSpec)

/-- 'laws.FnExactWinsMoving', WHERE WHAT IT READS IS OF BULK AT MOST 1048576: true; the input reads as it did. -/
def fnExactWinsMovingUptoRow : OpenClaim := { program := "ytdignmbeiohhiaa", sum := "a1ac576ca89155e447cb753ffcaf1cfd5c80524c5b30b663c69b222a5cd8df87", func := "loop.example/g00868/laws.FnExactWinsMoving", spec := "fnExactWinsMoving", apart := false, narrowed := true }
def FnExactWinsMovingUptoSaid : Prop := fnExactWinsMovingUptoRow.holds Try.pinned (OpenSpec.upto fnExactWinsMovingSpec)

/-- 'laws.FnExactOutcomeOf', WHERE WHAT IT READS IS OF BULK AT MOST 1048576: true; the input reads as it did. -/
def fnExactOutcomeOfUptoRow : OpenClaim := { program := "ytdignmbeiohhiaa", sum := "a1ac576ca89155e447cb753ffcaf1cfd5c80524c5b30b663c69b222a5cd8df87", func := "loop.example/g00868/laws.FnExactOutcomeOf", spec := "fnExactOutcomeOf", apart := false, narrowed := true }
def FnExactOutcomeOfUptoSaid : Prop := fnExactOutcomeOfUptoRow.holds Try.pinned (OpenSpec.upto fnExactOutcomeOfSpec)

/-- 'laws.FnExactGoodTable', WHERE WHAT IT READS IS OF BULK AT MOST 1048576: true; the input reads as it did. -/
def fnExactGoodTableUptoRow : OpenClaim := { program := "ytdignmbeiohhiaa", sum := "a1ac576ca89155e447cb753ffcaf1cfd5c80524c5b30b663c69b222a5cd8df87", func := "loop.example/g00868/laws.FnExactGoodTable", spec := "fnExactGoodTable", apart := false, narrowed := true }
def FnExactGoodTableUptoSaid : Prop := fnExactGoodTableUptoRow.holds Try.pinned (OpenSpec.upto fnExactGoodTableSpec)

/-- 'laws.FnExactPartAt', WHERE WHAT IT READS IS OF BULK AT MOST 1048576: true; the input reads as it did. -/
def fnExactPartAtUptoRow : OpenClaim := { program := "ytdignmbeiohhiaa", sum := "a1ac576ca89155e447cb753ffcaf1cfd5c80524c5b30b663c69b222a5cd8df87", func := "loop.example/g00868/laws.FnExactPartAt", spec := "fnExactPartAt", apart := false, narrowed := true }
def FnExactPartAtUptoSaid : Prop := fnExactPartAtUptoRow.holds Try.pinned (OpenSpec.upto fnExactPartAtSpec)

/-- 'laws.FnExactWinningMoves', WHERE WHAT IT READS IS OF BULK AT MOST 1048576: true; the input reads as it did. -/
def fnExactWinningMovesUptoRow : OpenClaim := { program := "ytdignmbeiohhiaa", sum := "a1ac576ca89155e447cb753ffcaf1cfd5c80524c5b30b663c69b222a5cd8df87", func := "loop.example/g00868/laws.FnExactWinningMoves", spec := "fnExactWinningMoves", apart := false, narrowed := true }
def FnExactWinningMovesUptoSaid : Prop := fnExactWinningMovesUptoRow.holds Try.pinned (OpenSpec.upto fnExactWinningMovesSpec)

end Rows
end Go.Proofs.Ytdignmbeiohhiaa
