/-
  No cell of these rows narrows 'for every input' (looked for: loops, veiled, ifaces, maps, wideKeys, modest, calm, conditions, laid).
  DERIVED. THE GIVEN ROWS OF THIS SEAT. 10 by the template 'for every input the law returns true; each argument reads behind the call as it read before'; 0 by the template 'total and deterministic' (their statements: YtmalajoglcpijaaTotals.lean).
  GIVEN WITH THE SEED: the statements are not yours to turn. If you find one false, say at which input.
  Laid BY PROGRAM, IN A SANDBOX (cutbox-rows.mjs): the forced cells as the released guide's own fill.sh prints them over the translation fb2a3563de25e0fe… (all of the seat's roots in one cut). By AI agents, Wed Nov 11 2026. No macro, syntax, notation, axiom, sorry.
-/
import Derived.Test.YtmalajoglcpijaaChecked
import GoSem.Claim
import GoSem.ClaimJoined
import GoSem.ClaimMapViews
import Derived.JoinedTies
import Derived.KernelRfl
namespace Go.Proofs.Ytmalajoglcpijaa
/- THE CELL 'sum', in the pinned program and in every row, IS THE sha256 OF THE DUMP (.gsa) THAT YtmalajoglcpijaaProg.lean LOADS. Nothing in Lean hashes anything: it is a label: what it is worth is what the hold of that sum in a sandbox is worth. -/
noncomputable def Try.pinned : Pinned := { name := "ytmalajoglcpijaa", sum := "fb2a3563de25e0fee692e9803456c644e9d0395e6c27305b6073976fa6637f61", checked := Try.checked }
namespace Rows
def none {H : Type} : Left H := { results := [], args := [] }

/-- 'laws.FnExactJoinLoops': WHATEVER THE INPUT: true; the input reads as it did. -/
def fnExactJoinLoopsSpec : ChangeSpec := { name := "fnExactJoinLoops", fn := fun _ => fun
  | [d1, d2] => { results := [.lit (.bool true)], args := [d1, d2] }
  | _ => none }
def fnExactJoinLoopsRow : OpenClaim := { program := "ytmalajoglcpijaa", sum := "fb2a3563de25e0fee692e9803456c644e9d0395e6c27305b6073976fa6637f61", func := "loop.example/g00868/laws.FnExactJoinLoops", spec := "fnExactJoinLoops", recurses := true, apart := false }
def FnExactJoinLoopsSaid : Prop := fnExactJoinLoopsRow.holds Try.pinned (OpenSpec.ofChange fnExactJoinLoopsSpec)

/-- ITS FALSE NEIGHBOUR: 'it returns false'. Refute it at one input. -/
def fnExactJoinLoopsWrong : ChangeSpec := { name := "fnExactJoinLoops", fn := fun _ => fun
  | [d1, d2] => { results := [.lit (.bool false)], args := [d1, d2] }
  | _ => none }
def FnExactJoinLoopsWrongFalsely : Prop := fnExactJoinLoopsRow.holds Try.pinned (OpenSpec.ofChange fnExactJoinLoopsWrong)

/-- 'laws.FnExactHoldTable': WHATEVER THE INPUT: true; the input reads as it did. -/
def fnExactHoldTableSpec : ChangeSpec := { name := "fnExactHoldTable", fn := fun _ => fun
  | [d1, d2] => { results := [.lit (.bool true)], args := [d1, d2] }
  | _ => none }
def fnExactHoldTableRow : OpenClaim := { program := "ytmalajoglcpijaa", sum := "fb2a3563de25e0fee692e9803456c644e9d0395e6c27305b6073976fa6637f61", func := "loop.example/g00868/laws.FnExactHoldTable", spec := "fnExactHoldTable", unfollowed := true, recurses := true, apart := false }
def FnExactHoldTableSaid : Prop := fnExactHoldTableRow.holds Try.pinned (OpenSpec.ofChange fnExactHoldTableSpec)

/-- ITS FALSE NEIGHBOUR: 'it returns false'. Refute it at one input. -/
def fnExactHoldTableWrong : ChangeSpec := { name := "fnExactHoldTable", fn := fun _ => fun
  | [d1, d2] => { results := [.lit (.bool false)], args := [d1, d2] }
  | _ => none }
def FnExactHoldTableWrongFalsely : Prop := fnExactHoldTableRow.holds Try.pinned (OpenSpec.ofChange fnExactHoldTableWrong)

/-- 'laws.FnExactStopAtLeast': WHATEVER THE INPUT: true; the input reads as it did. -/
def fnExactStopAtLeastSpec : ChangeSpec := { name := "fnExactStopAtLeast", fn := fun _ => fun
  | [d1, d2, d3, d4] => { results := [.lit (.bool true)], args := [d1, d2, d3, d4] }
  | _ => none }
def fnExactStopAtLeastRow : OpenClaim := { program := "ytmalajoglcpijaa", sum := "fb2a3563de25e0fee692e9803456c644e9d0395e6c27305b6073976fa6637f61", func := "loop.example/g00868/laws.FnExactStopAtLeast", spec := "fnExactStopAtLeast", unfollowed := true, recurses := true, apart := false }
def FnExactStopAtLeastSaid : Prop := fnExactStopAtLeastRow.holds Try.pinned (OpenSpec.ofChange fnExactStopAtLeastSpec)

/-- ITS FALSE NEIGHBOUR: 'it returns false'. Refute it at one input. -/
def fnExactStopAtLeastWrong : ChangeSpec := { name := "fnExactStopAtLeast", fn := fun _ => fun
  | [d1, d2, d3, d4] => { results := [.lit (.bool false)], args := [d1, d2, d3, d4] }
  | _ => none }
def FnExactStopAtLeastWrongFalsely : Prop := fnExactStopAtLeastRow.holds Try.pinned (OpenSpec.ofChange fnExactStopAtLeastWrong)

/-- 'laws.FnExactStopSame': WHATEVER THE INPUT: true; the input reads as it did. -/
def fnExactStopSameSpec : ChangeSpec := { name := "fnExactStopSame", fn := fun _ => fun
  | [d1, d2, d3, d4] => { results := [.lit (.bool true)], args := [d1, d2, d3, d4] }
  | _ => none }
def fnExactStopSameRow : OpenClaim := { program := "ytmalajoglcpijaa", sum := "fb2a3563de25e0fee692e9803456c644e9d0395e6c27305b6073976fa6637f61", func := "loop.example/g00868/laws.FnExactStopSame", spec := "fnExactStopSame", unfollowed := true, recurses := true, apart := false }
def FnExactStopSameSaid : Prop := fnExactStopSameRow.holds Try.pinned (OpenSpec.ofChange fnExactStopSameSpec)

/-- ITS FALSE NEIGHBOUR: 'it returns false'. Refute it at one input. -/
def fnExactStopSameWrong : ChangeSpec := { name := "fnExactStopSame", fn := fun _ => fun
  | [d1, d2, d3, d4] => { results := [.lit (.bool false)], args := [d1, d2, d3, d4] }
  | _ => none }
def FnExactStopSameWrongFalsely : Prop := fnExactStopSameRow.holds Try.pinned (OpenSpec.ofChange fnExactStopSameWrong)

/-- 'laws.FnExactPlacesAlike': WHATEVER THE INPUT: true; the input reads as it did. -/
def fnExactPlacesAlikeSpec : ChangeSpec := { name := "fnExactPlacesAlike", fn := fun _ => fun
  | [d] => { results := [.lit (.bool true)], args := [d] }
  | _ => none }
def fnExactPlacesAlikeRow : OpenClaim := { program := "ytmalajoglcpijaa", sum := "fb2a3563de25e0fee692e9803456c644e9d0395e6c27305b6073976fa6637f61", func := "loop.example/g00868/laws.FnExactPlacesAlike", spec := "fnExactPlacesAlike", unfollowed := true, recurses := true, apart := false }
def FnExactPlacesAlikeSaid : Prop := fnExactPlacesAlikeRow.holds Try.pinned (OpenSpec.ofChange fnExactPlacesAlikeSpec)

/-- ITS FALSE NEIGHBOUR: 'it returns false'. Refute it at one input. -/
def fnExactPlacesAlikeWrong : ChangeSpec := { name := "fnExactPlacesAlike", fn := fun _ => fun
  | [d] => { results := [.lit (.bool false)], args := [d] }
  | _ => none }
def FnExactPlacesAlikeWrongFalsely : Prop := fnExactPlacesAlikeRow.holds Try.pinned (OpenSpec.ofChange fnExactPlacesAlikeWrong)

/-- 'laws.FnStopOver': WHATEVER THE INPUT: true; the input reads as it did. -/
def fnStopOverSpec : ChangeSpec := { name := "fnStopOver", fn := fun _ => fun
  | [d] => { results := [.lit (.bool true)], args := [d] }
  | _ => none }
def fnStopOverRow : OpenClaim := { program := "ytmalajoglcpijaa", sum := "fb2a3563de25e0fee692e9803456c644e9d0395e6c27305b6073976fa6637f61", func := "loop.example/g00868/laws.FnStopOver", spec := "fnStopOver", unfollowed := true, recurses := true, apart := false }
def FnStopOverSaid : Prop := fnStopOverRow.holds Try.pinned (OpenSpec.ofChange fnStopOverSpec)

/-- ITS FALSE NEIGHBOUR: 'it returns false'. Refute it at one input. -/
def fnStopOverWrong : ChangeSpec := { name := "fnStopOver", fn := fun _ => fun
  | [d] => { results := [.lit (.bool false)], args := [d] }
  | _ => none }
def FnStopOverWrongFalsely : Prop := fnStopOverRow.holds Try.pinned (OpenSpec.ofChange fnStopOverWrong)

/-- 'laws.FnHoldTables': WHATEVER THE INPUT: true; the input reads as it did. -/
def fnHoldTablesSpec : ChangeSpec := { name := "fnHoldTables", fn := fun _ => fun
  | [d] => { results := [.lit (.bool true)], args := [d] }
  | _ => none }
def fnHoldTablesRow : OpenClaim := { program := "ytmalajoglcpijaa", sum := "fb2a3563de25e0fee692e9803456c644e9d0395e6c27305b6073976fa6637f61", func := "loop.example/g00868/laws.FnHoldTables", spec := "fnHoldTables", unfollowed := true, recurses := true, apart := false }
def FnHoldTablesSaid : Prop := fnHoldTablesRow.holds Try.pinned (OpenSpec.ofChange fnHoldTablesSpec)

/-- ITS FALSE NEIGHBOUR: 'it returns false'. Refute it at one input. -/
def fnHoldTablesWrong : ChangeSpec := { name := "fnHoldTables", fn := fun _ => fun
  | [d] => { results := [.lit (.bool false)], args := [d] }
  | _ => none }
def FnHoldTablesWrongFalsely : Prop := fnHoldTablesRow.holds Try.pinned (OpenSpec.ofChange fnHoldTablesWrong)

/-- 'laws.FnExactReachedFrom': WHATEVER THE INPUT: true; the input reads as it did. -/
def fnExactReachedFromSpec : ChangeSpec := { name := "fnExactReachedFrom", fn := fun _ => fun
  | [d1, d2] => { results := [.lit (.bool true)], args := [d1, d2] }
  | _ => none }
def fnExactReachedFromRow : OpenClaim := { program := "ytmalajoglcpijaa", sum := "fb2a3563de25e0fee692e9803456c644e9d0395e6c27305b6073976fa6637f61", func := "loop.example/g00868/laws.FnExactReachedFrom", spec := "fnExactReachedFrom", recurses := true, apart := false }
def FnExactReachedFromSaid : Prop := fnExactReachedFromRow.holds Try.pinned (OpenSpec.ofChange fnExactReachedFromSpec)

/-- ITS FALSE NEIGHBOUR: 'it returns false'. Refute it at one input. -/
def fnExactReachedFromWrong : ChangeSpec := { name := "fnExactReachedFrom", fn := fun _ => fun
  | [d1, d2] => { results := [.lit (.bool false)], args := [d1, d2] }
  | _ => none }
def FnExactReachedFromWrongFalsely : Prop := fnExactReachedFromRow.holds Try.pinned (OpenSpec.ofChange fnExactReachedFromWrong)

/-- 'laws.FnExactPruneLoop': WHATEVER THE INPUT: true; the input reads as it did. -/
def fnExactPruneLoopSpec : ChangeSpec := { name := "fnExactPruneLoop", fn := fun _ => fun
  | [d1, d2] => { results := [.lit (.bool true)], args := [d1, d2] }
  | _ => none }
def fnExactPruneLoopRow : OpenClaim := { program := "ytmalajoglcpijaa", sum := "fb2a3563de25e0fee692e9803456c644e9d0395e6c27305b6073976fa6637f61", func := "loop.example/g00868/laws.FnExactPruneLoop", spec := "fnExactPruneLoop", recurses := true, apart := false }
def FnExactPruneLoopSaid : Prop := fnExactPruneLoopRow.holds Try.pinned (OpenSpec.ofChange fnExactPruneLoopSpec)

/-- ITS FALSE NEIGHBOUR: 'it returns false'. Refute it at one input. -/
def fnExactPruneLoopWrong : ChangeSpec := { name := "fnExactPruneLoop", fn := fun _ => fun
  | [d1, d2] => { results := [.lit (.bool false)], args := [d1, d2] }
  | _ => none }
def FnExactPruneLoopWrongFalsely : Prop := fnExactPruneLoopRow.holds Try.pinned (OpenSpec.ofChange fnExactPruneLoopWrong)

/-- 'laws.FnPruned': WHATEVER THE INPUT: true; the input reads as it did. -/
def fnPrunedSpec : ChangeSpec := { name := "fnPruned", fn := fun _ => fun
  | [d] => { results := [.lit (.bool true)], args := [d] }
  | _ => none }
def fnPrunedRow : OpenClaim := { program := "ytmalajoglcpijaa", sum := "fb2a3563de25e0fee692e9803456c644e9d0395e6c27305b6073976fa6637f61", func := "loop.example/g00868/laws.FnPruned", spec := "fnPruned", recurses := true, apart := false }
def FnPrunedSaid : Prop := fnPrunedRow.holds Try.pinned (OpenSpec.ofChange fnPrunedSpec)

/-- ITS FALSE NEIGHBOUR: 'it returns false'. Refute it at one input. -/
def fnPrunedWrong : ChangeSpec := { name := "fnPruned", fn := fun _ => fun
  | [d] => { results := [.lit (.bool false)], args := [d] }
  | _ => none }
def FnPrunedWrongFalsely : Prop := fnPrunedRow.holds Try.pinned (OpenSpec.ofChange fnPrunedWrong)

/- THE SECOND FORM. 'bulk': how many values and letters a reading holds, each counted each time it is reached (what is shared counts as often as it is met; a slice's spare places count too). A statement '..UptoSaid' is the law's where the arguments, and the package variables that the reading takes, are together of bulk at most 1048576: NARROWER than '..Said'. Prove '..Said' where nothing that the law and all that it calls make is longer than what came in: it says more and counts as full. Else prove '..UptoSaid'. A law counts once. -/
mutual
def uptoBulk {H : Type} : DataW H → Nat
  | .lit (.string bytes) => bytes.length + 1
  | .lit _ => 1
  | .nil => 1
  | .ptr d => uptoBulk d + 1
  | .slice elems spare => uptoBulkAll elems + uptoBulkAll spare + 1
  | .agg parts => uptoBulkAll parts + 1
  | .iface _ d => uptoBulk d + 1
  | .map entries => uptoBulkEntries entries + 1
  | .held _ => 1
def uptoBulkAll {H : Type} : List (DataW H) → Nat
  | [] => 0
  | d :: r => uptoBulk d + uptoBulkAll r
def uptoBulkEntries {H : Type} : List (Lit × DataW H) → Nat
  | [] => 0
  | x :: r => uptoBulkEntry x + uptoBulkEntries r
def uptoBulkEntry {H : Type} : Lit × DataW H → Nat
  | (.string bytes, d) => bytes.length + uptoBulk d + 1
  | (_, d) => uptoBulk d + 1
 end
def uptoSmall : (H : Type) → List (DataW H) → Bool := fun _ ds => decide (uptoBulkAll ds ≤ 1048576)
def OpenSpec.upto (s : _root_.Go.ChangeSpec) : _root_.Go.OpenSpec := { _root_.Go.OpenSpec.ofChange s with cond := some uptoSmall }

/-- 'laws.FnExactJoinLoops', WHERE WHAT IT READS IS OF BULK AT MOST 1048576: true; the input reads as it did. -/
def fnExactJoinLoopsUptoRow : OpenClaim := { program := "ytmalajoglcpijaa", sum := "fb2a3563de25e0fee692e9803456c644e9d0395e6c27305b6073976fa6637f61", func := "loop.example/g00868/laws.FnExactJoinLoops", spec := "fnExactJoinLoops", recurses := true, apart := false, narrowed := true }
def FnExactJoinLoopsUptoSaid : Prop := fnExactJoinLoopsUptoRow.holds Try.pinned (OpenSpec.upto fnExactJoinLoopsSpec)

/-- 'laws.FnExactHoldTable', WHERE WHAT IT READS IS OF BULK AT MOST 1048576: true; the input reads as it did. -/
def fnExactHoldTableUptoRow : OpenClaim := { program := "ytmalajoglcpijaa", sum := "fb2a3563de25e0fee692e9803456c644e9d0395e6c27305b6073976fa6637f61", func := "loop.example/g00868/laws.FnExactHoldTable", spec := "fnExactHoldTable", unfollowed := true, recurses := true, apart := false, narrowed := true }
def FnExactHoldTableUptoSaid : Prop := fnExactHoldTableUptoRow.holds Try.pinned (OpenSpec.upto fnExactHoldTableSpec)

/-- 'laws.FnExactStopAtLeast', WHERE WHAT IT READS IS OF BULK AT MOST 1048576: true; the input reads as it did. -/
def fnExactStopAtLeastUptoRow : OpenClaim := { program := "ytmalajoglcpijaa", sum := "fb2a3563de25e0fee692e9803456c644e9d0395e6c27305b6073976fa6637f61", func := "loop.example/g00868/laws.FnExactStopAtLeast", spec := "fnExactStopAtLeast", unfollowed := true, recurses := true, apart := false, narrowed := true }
def FnExactStopAtLeastUptoSaid : Prop := fnExactStopAtLeastUptoRow.holds Try.pinned (OpenSpec.upto fnExactStopAtLeastSpec)

/-- 'laws.FnExactStopSame', WHERE WHAT IT READS IS OF BULK AT MOST 1048576: true; the input reads as it did. -/
def fnExactStopSameUptoRow : OpenClaim := { program := "ytmalajoglcpijaa", sum := "fb2a3563de25e0fee692e9803456c644e9d0395e6c27305b6073976fa6637f61", func := "loop.example/g00868/laws.FnExactStopSame", spec := "fnExactStopSame", unfollowed := true, recurses := true, apart := false, narrowed := true }
def FnExactStopSameUptoSaid : Prop := fnExactStopSameUptoRow.holds Try.pinned (OpenSpec.upto fnExactStopSameSpec)

/-- 'laws.FnExactPlacesAlike', WHERE WHAT IT READS IS OF BULK AT MOST 1048576: true; the input reads as it did. -/
def fnExactPlacesAlikeUptoRow : OpenClaim := { program := "ytmalajoglcpijaa", sum := "fb2a3563de25e0fee692e9803456c644e9d0395e6c27305b6073976fa6637f61", func := "loop.example/g00868/laws.FnExactPlacesAlike", spec := "fnExactPlacesAlike", unfollowed := true, recurses := true, apart := false, narrowed := true }
def FnExactPlacesAlikeUptoSaid : Prop := fnExactPlacesAlikeUptoRow.holds Try.pinned (OpenSpec.upto fnExactPlacesAlikeSpec)

/-- 'laws.FnStopOver', WHERE WHAT IT READS IS OF BULK AT MOST 1048576: true; the input reads as it did. -/
def fnStopOverUptoRow : OpenClaim := { program := "ytmalajoglcpijaa", sum := "fb2a3563de25e0fee692e9803456c644e9d0395e6c27305b6073976fa6637f61", func := "loop.example/g00868/laws.FnStopOver", spec := "fnStopOver", unfollowed := true, recurses := true, apart := false, narrowed := true }
def FnStopOverUptoSaid : Prop := fnStopOverUptoRow.holds Try.pinned (OpenSpec.upto fnStopOverSpec)

/-- 'laws.FnHoldTables', WHERE WHAT IT READS IS OF BULK AT MOST 1048576: true; the input reads as it did. -/
def fnHoldTablesUptoRow : OpenClaim := { program := "ytmalajoglcpijaa", sum := "fb2a3563de25e0fee692e9803456c644e9d0395e6c27305b6073976fa6637f61", func := "loop.example/g00868/laws.FnHoldTables", spec := "fnHoldTables", unfollowed := true, recurses := true, apart := false, narrowed := true }
def FnHoldTablesUptoSaid : Prop := fnHoldTablesUptoRow.holds Try.pinned (OpenSpec.upto fnHoldTablesSpec)

/-- 'laws.FnExactReachedFrom', WHERE WHAT IT READS IS OF BULK AT MOST 1048576: true; the input reads as it did. -/
def fnExactReachedFromUptoRow : OpenClaim := { program := "ytmalajoglcpijaa", sum := "fb2a3563de25e0fee692e9803456c644e9d0395e6c27305b6073976fa6637f61", func := "loop.example/g00868/laws.FnExactReachedFrom", spec := "fnExactReachedFrom", recurses := true, apart := false, narrowed := true }
def FnExactReachedFromUptoSaid : Prop := fnExactReachedFromUptoRow.holds Try.pinned (OpenSpec.upto fnExactReachedFromSpec)

/-- 'laws.FnExactPruneLoop', WHERE WHAT IT READS IS OF BULK AT MOST 1048576: true; the input reads as it did. -/
def fnExactPruneLoopUptoRow : OpenClaim := { program := "ytmalajoglcpijaa", sum := "fb2a3563de25e0fee692e9803456c644e9d0395e6c27305b6073976fa6637f61", func := "loop.example/g00868/laws.FnExactPruneLoop", spec := "fnExactPruneLoop", recurses := true, apart := false, narrowed := true }
def FnExactPruneLoopUptoSaid : Prop := fnExactPruneLoopUptoRow.holds Try.pinned (OpenSpec.upto fnExactPruneLoopSpec)

/-- 'laws.FnPruned', WHERE WHAT IT READS IS OF BULK AT MOST 1048576: true; the input reads as it did. -/
def fnPrunedUptoRow : OpenClaim := { program := "ytmalajoglcpijaa", sum := "fb2a3563de25e0fee692e9803456c644e9d0395e6c27305b6073976fa6637f61", func := "loop.example/g00868/laws.FnPruned", spec := "fnPruned", recurses := true, apart := false, narrowed := true }
def FnPrunedUptoSaid : Prop := fnPrunedUptoRow.holds Try.pinned (OpenSpec.upto fnPrunedSpec)

end Rows
end Go.Proofs.Ytmalajoglcpijaa
