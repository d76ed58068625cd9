/-
  No cell of these rows narrows 'for every input' (looked for: loops, veiled, ifaces, maps, wideKeys, modest, calm, conditions, laid).
  DERIVED. THE GIVEN ROWS OF THIS SEAT. 11 by the template 'for every input the law returns true; each argument reads behind the call as it read before'; 0 by the template 'total and deterministic' (their statements: YthbnjmcehpmliaaTotals.lean).
  GIVEN WITH THE SEED: the statements are not yours to turn. If you find one false, say at which input.
  Laid BY PROGRAM, IN A SANDBOX (cutbox-rows.mjs): the forced cells as the released guide's own fill.sh prints them over the translation b3c7730f600a7daf… (all of the seat's roots in one cut). By AI agents, Wed Nov 11 2026. No macro, syntax, notation, axiom, sorry.
-/
import Derived.Test.YthbnjmcehpmliaaChecked
import GoSem.Claim
import GoSem.ClaimJoined
import GoSem.ClaimMapViews
import Derived.JoinedTies
import Derived.KernelRfl
namespace Go.Proofs.Ythbnjmcehpmliaa
/- THE CELL 'sum', in the pinned program and in every row, IS THE sha256 OF THE DUMP (.gsa) THAT YthbnjmcehpmliaaProg.lean LOADS. Nothing in Lean hashes anything: it is a label: what it is worth is what the hold of that sum in a sandbox is worth. -/
noncomputable def Try.pinned : Pinned := { name := "ythbnjmcehpmliaa", sum := "b3c7730f600a7daf16cde04c93ad55484aef78ceb4d426670f7888240b91d417", checked := Try.checked }
namespace Rows
def none {H : Type} : Left H := { results := [], args := [] }

/-- 'laws.FnExactGoodRows': WHATEVER THE INPUT: true; the input reads as it did. -/
def fnExactGoodRowsSpec : ChangeSpec := { name := "fnExactGoodRows", fn := fun _ => fun
  | [d] => { results := [.lit (.bool true)], args := [d] }
  | _ => none }
def fnExactGoodRowsRow : OpenClaim := { program := "ythbnjmcehpmliaa", sum := "b3c7730f600a7daf16cde04c93ad55484aef78ceb4d426670f7888240b91d417", func := "loop.example/g00868/laws.FnExactGoodRows", spec := "fnExactGoodRows", inPlace := ["internal/bytealg.IndexByteString"], apart := false }
def FnExactGoodRowsSaid : Prop := fnExactGoodRowsRow.holds Try.pinned (OpenSpec.ofChange fnExactGoodRowsSpec)

/-- ITS FALSE NEIGHBOUR: 'it returns false'. Refute it at one input. -/
def fnExactGoodRowsWrong : ChangeSpec := { name := "fnExactGoodRows", fn := fun _ => fun
  | [d] => { results := [.lit (.bool false)], args := [d] }
  | _ => none }
def FnExactGoodRowsWrongFalsely : Prop := fnExactGoodRowsRow.holds Try.pinned (OpenSpec.ofChange fnExactGoodRowsWrong)

/-- 'laws.FnExactRowsText': WHATEVER THE INPUT: true; the input reads as it did. -/
def fnExactRowsTextSpec : ChangeSpec := { name := "fnExactRowsText", fn := fun _ => fun
  | [d] => { results := [.lit (.bool true)], args := [d] }
  | _ => none }
def fnExactRowsTextRow : OpenClaim := { program := "ythbnjmcehpmliaa", sum := "b3c7730f600a7daf16cde04c93ad55484aef78ceb4d426670f7888240b91d417", func := "loop.example/g00868/laws.FnExactRowsText", spec := "fnExactRowsText", inPlace := ["internal/bytealg.IndexByteString"], apart := false }
def FnExactRowsTextSaid : Prop := fnExactRowsTextRow.holds Try.pinned (OpenSpec.ofChange fnExactRowsTextSpec)

/-- ITS FALSE NEIGHBOUR: 'it returns false'. Refute it at one input. -/
def fnExactRowsTextWrong : ChangeSpec := { name := "fnExactRowsText", fn := fun _ => fun
  | [d] => { results := [.lit (.bool false)], args := [d] }
  | _ => none }
def FnExactRowsTextWrongFalsely : Prop := fnExactRowsTextRow.holds Try.pinned (OpenSpec.ofChange fnExactRowsTextWrong)

/-- 'laws.FnExactFindRow': WHATEVER THE INPUT: true; the input reads as it did. -/
def fnExactFindRowSpec : ChangeSpec := { name := "fnExactFindRow", fn := fun _ => fun
  | [d1, d2] => { results := [.lit (.bool true)], args := [d1, d2] }
  | _ => none }
def fnExactFindRowRow : OpenClaim := { program := "ythbnjmcehpmliaa", sum := "b3c7730f600a7daf16cde04c93ad55484aef78ceb4d426670f7888240b91d417", func := "loop.example/g00868/laws.FnExactFindRow", spec := "fnExactFindRow", inPlace := ["internal/bytealg.IndexByteString", "internal/bytealg.abigen_runtime_cmpstring"], unfollowed := true, recurses := true, apart := false }
def FnExactFindRowSaid : Prop := fnExactFindRowRow.holds Try.pinned (OpenSpec.ofChange fnExactFindRowSpec)

/-- ITS FALSE NEIGHBOUR: 'it returns false'. Refute it at one input. -/
def fnExactFindRowWrong : ChangeSpec := { name := "fnExactFindRow", fn := fun _ => fun
  | [d1, d2] => { results := [.lit (.bool false)], args := [d1, d2] }
  | _ => none }
def FnExactFindRowWrongFalsely : Prop := fnExactFindRowRow.holds Try.pinned (OpenSpec.ofChange fnExactFindRowWrong)

/-- 'laws.FnExactRowsWith': WHATEVER THE INPUT: true; the input reads as it did. -/
def fnExactRowsWithSpec : ChangeSpec := { name := "fnExactRowsWith", fn := fun _ => fun
  | [d1, d2] => { results := [.lit (.bool true)], args := [d1, d2] }
  | _ => none }
def fnExactRowsWithRow : OpenClaim := { program := "ythbnjmcehpmliaa", sum := "b3c7730f600a7daf16cde04c93ad55484aef78ceb4d426670f7888240b91d417", func := "loop.example/g00868/laws.FnExactRowsWith", spec := "fnExactRowsWith", inPlace := ["internal/bytealg.IndexByteString"], apart := false }
def FnExactRowsWithSaid : Prop := fnExactRowsWithRow.holds Try.pinned (OpenSpec.ofChange fnExactRowsWithSpec)

/-- ITS FALSE NEIGHBOUR: 'it returns false'. Refute it at one input. -/
def fnExactRowsWithWrong : ChangeSpec := { name := "fnExactRowsWith", fn := fun _ => fun
  | [d1, d2] => { results := [.lit (.bool false)], args := [d1, d2] }
  | _ => none }
def FnExactRowsWithWrongFalsely : Prop := fnExactRowsWithRow.holds Try.pinned (OpenSpec.ofChange fnExactRowsWithWrong)

/-- 'laws.FnExactDropRow': WHATEVER THE INPUT: true; the input reads as it did. -/
def fnExactDropRowSpec : ChangeSpec := { name := "fnExactDropRow", fn := fun _ => fun
  | [d1, d2] => { results := [.lit (.bool true)], args := [d1, d2] }
  | _ => none }
def fnExactDropRowRow : OpenClaim := { program := "ythbnjmcehpmliaa", sum := "b3c7730f600a7daf16cde04c93ad55484aef78ceb4d426670f7888240b91d417", func := "loop.example/g00868/laws.FnExactDropRow", spec := "fnExactDropRow", inPlace := ["internal/bytealg.IndexByteString", "internal/bytealg.abigen_runtime_cmpstring"], unfollowed := true, recurses := true, apart := false }
def FnExactDropRowSaid : Prop := fnExactDropRowRow.holds Try.pinned (OpenSpec.ofChange fnExactDropRowSpec)

/-- ITS FALSE NEIGHBOUR: 'it returns false'. Refute it at one input. -/
def fnExactDropRowWrong : ChangeSpec := { name := "fnExactDropRow", fn := fun _ => fun
  | [d1, d2] => { results := [.lit (.bool false)], args := [d1, d2] }
  | _ => none }
def FnExactDropRowWrongFalsely : Prop := fnExactDropRowRow.holds Try.pinned (OpenSpec.ofChange fnExactDropRowWrong)

/-- 'laws.FnExactReadRows': WHATEVER THE INPUT: true; the input reads as it did. -/
def fnExactReadRowsSpec : ChangeSpec := { name := "fnExactReadRows", fn := fun _ => fun
  | [d] => { results := [.lit (.bool true)], args := [d] }
  | _ => none }
def fnExactReadRowsRow : OpenClaim := { program := "ythbnjmcehpmliaa", sum := "b3c7730f600a7daf16cde04c93ad55484aef78ceb4d426670f7888240b91d417", func := "loop.example/g00868/laws.FnExactReadRows", spec := "fnExactReadRows", inPlace := ["internal/bytealg.IndexByteString", "internal/bytealg.IndexString"], named := ["internal/bytealg.MaxLen"], apart := false }
def FnExactReadRowsSaid : Prop := fnExactReadRowsRow.holds Try.pinned (OpenSpec.ofChange fnExactReadRowsSpec)

/-- ITS FALSE NEIGHBOUR: 'it returns false'. Refute it at one input. -/
def fnExactReadRowsWrong : ChangeSpec := { name := "fnExactReadRows", fn := fun _ => fun
  | [d] => { results := [.lit (.bool false)], args := [d] }
  | _ => none }
def FnExactReadRowsWrongFalsely : Prop := fnExactReadRowsRow.holds Try.pinned (OpenSpec.ofChange fnExactReadRowsWrong)

/-- 'laws.FnExactPutRow': WHATEVER THE INPUT: true; the input reads as it did. -/
def fnExactPutRowSpec : ChangeSpec := { name := "fnExactPutRow", fn := fun _ => fun
  | [d1, d2] => { results := [.lit (.bool true)], args := [d1, d2] }
  | _ => none }
def fnExactPutRowRow : OpenClaim := { program := "ythbnjmcehpmliaa", sum := "b3c7730f600a7daf16cde04c93ad55484aef78ceb4d426670f7888240b91d417", func := "loop.example/g00868/laws.FnExactPutRow", spec := "fnExactPutRow", inPlace := ["internal/bytealg.IndexByteString", "internal/bytealg.abigen_runtime_cmpstring", "slices.overlaps[loop.example/g00868/impl.Row]"], unfollowed := true, recurses := true, apart := false }
def FnExactPutRowSaid : Prop := fnExactPutRowRow.holds Try.pinned (OpenSpec.ofChange fnExactPutRowSpec)

/-- ITS FALSE NEIGHBOUR: 'it returns false'. Refute it at one input. -/
def fnExactPutRowWrong : ChangeSpec := { name := "fnExactPutRow", fn := fun _ => fun
  | [d1, d2] => { results := [.lit (.bool false)], args := [d1, d2] }
  | _ => none }
def FnExactPutRowWrongFalsely : Prop := fnExactPutRowRow.holds Try.pinned (OpenSpec.ofChange fnExactPutRowWrong)

/-- 'laws.FnExactMergeRows': WHATEVER THE INPUT: true; the input reads as it did. -/
def fnExactMergeRowsSpec : ChangeSpec := { name := "fnExactMergeRows", fn := fun _ => fun
  | [d1, d2] => { results := [.lit (.bool true)], args := [d1, d2] }
  | _ => none }
def fnExactMergeRowsRow : OpenClaim := { program := "ythbnjmcehpmliaa", sum := "b3c7730f600a7daf16cde04c93ad55484aef78ceb4d426670f7888240b91d417", func := "loop.example/g00868/laws.FnExactMergeRows", spec := "fnExactMergeRows", inPlace := ["internal/bytealg.IndexByteString", "internal/bytealg.abigen_runtime_cmpstring", "slices.overlaps[loop.example/g00868/impl.Row]"], unfollowed := true, recurses := true, apart := false }
def FnExactMergeRowsSaid : Prop := fnExactMergeRowsRow.holds Try.pinned (OpenSpec.ofChange fnExactMergeRowsSpec)

/-- ITS FALSE NEIGHBOUR: 'it returns false'. Refute it at one input. -/
def fnExactMergeRowsWrong : ChangeSpec := { name := "fnExactMergeRows", fn := fun _ => fun
  | [d1, d2] => { results := [.lit (.bool false)], args := [d1, d2] }
  | _ => none }
def FnExactMergeRowsWrongFalsely : Prop := fnExactMergeRowsRow.holds Try.pinned (OpenSpec.ofChange fnExactMergeRowsWrong)

/-- 'laws.FnRows': WHATEVER THE INPUT: true; the input reads as it did. -/
def fnRowsSpec : ChangeSpec := { name := "fnRows", fn := fun _ => fun
  | [d] => { results := [.lit (.bool true)], args := [d] }
  | _ => none }
def fnRowsRow : OpenClaim := { program := "ythbnjmcehpmliaa", sum := "b3c7730f600a7daf16cde04c93ad55484aef78ceb4d426670f7888240b91d417", func := "loop.example/g00868/laws.FnRows", spec := "fnRows", inPlace := ["internal/bytealg.IndexByteString", "internal/bytealg.abigen_runtime_cmpstring", "slices.overlaps[loop.example/g00868/impl.Row]", "internal/bytealg.IndexString"], unfollowed := true, recurses := true, named := ["internal/bytealg.MaxLen"], apart := false }
def FnRowsSaid : Prop := fnRowsRow.holds Try.pinned (OpenSpec.ofChange fnRowsSpec)

/-- ITS FALSE NEIGHBOUR: 'it returns false'. Refute it at one input. -/
def fnRowsWrong : ChangeSpec := { name := "fnRows", fn := fun _ => fun
  | [d] => { results := [.lit (.bool false)], args := [d] }
  | _ => none }
def FnRowsWrongFalsely : Prop := fnRowsRow.holds Try.pinned (OpenSpec.ofChange fnRowsWrong)

/-- 'laws.FnExactUnlikeRows': WHATEVER THE INPUT: true; the input reads as it did. -/
def fnExactUnlikeRowsSpec : ChangeSpec := { name := "fnExactUnlikeRows", fn := fun _ => fun
  | [d1, d2] => { results := [.lit (.bool true)], args := [d1, d2] }
  | _ => none }
def fnExactUnlikeRowsRow : OpenClaim := { program := "ythbnjmcehpmliaa", sum := "b3c7730f600a7daf16cde04c93ad55484aef78ceb4d426670f7888240b91d417", func := "loop.example/g00868/laws.FnExactUnlikeRows", spec := "fnExactUnlikeRows", inPlace := ["internal/bytealg.IndexByteString", "internal/bytealg.abigen_runtime_cmpstring"], unfollowed := true, recurses := true, apart := false }
def FnExactUnlikeRowsSaid : Prop := fnExactUnlikeRowsRow.holds Try.pinned (OpenSpec.ofChange fnExactUnlikeRowsSpec)

/-- ITS FALSE NEIGHBOUR: 'it returns false'. Refute it at one input. -/
def fnExactUnlikeRowsWrong : ChangeSpec := { name := "fnExactUnlikeRows", fn := fun _ => fun
  | [d1, d2] => { results := [.lit (.bool false)], args := [d1, d2] }
  | _ => none }
def FnExactUnlikeRowsWrongFalsely : Prop := fnExactUnlikeRowsRow.holds Try.pinned (OpenSpec.ofChange fnExactUnlikeRowsWrong)

/-- 'laws.FnMerged': WHATEVER THE INPUT: true; the input reads as it did. -/
def fnMergedSpec : ChangeSpec := { name := "fnMerged", fn := fun _ => fun
  | [d] => { results := [.lit (.bool true)], args := [d] }
  | _ => none }
def fnMergedRow : OpenClaim := { program := "ythbnjmcehpmliaa", sum := "b3c7730f600a7daf16cde04c93ad55484aef78ceb4d426670f7888240b91d417", func := "loop.example/g00868/laws.FnMerged", spec := "fnMerged", inPlace := ["internal/bytealg.IndexByteString", "internal/bytealg.abigen_runtime_cmpstring", "slices.overlaps[loop.example/g00868/impl.Row]"], unfollowed := true, recurses := true, apart := false }
def FnMergedSaid : Prop := fnMergedRow.holds Try.pinned (OpenSpec.ofChange fnMergedSpec)

/-- ITS FALSE NEIGHBOUR: 'it returns false'. Refute it at one input. -/
def fnMergedWrong : ChangeSpec := { name := "fnMerged", fn := fun _ => fun
  | [d] => { results := [.lit (.bool false)], args := [d] }
  | _ => none }
def FnMergedWrongFalsely : Prop := fnMergedRow.holds Try.pinned (OpenSpec.ofChange fnMergedWrong)

/- THE SECOND FORM. 'bulk': how many values and letters a reading holds, each counted each time it is reached (what is shared counts as often as it is met; a slice's spare places count too). A statement '..UptoSaid' is the law's where the arguments, and the package variables that the reading takes, are together of bulk at most 1048576: NARROWER than '..Said'. Prove '..Said' where nothing that the law and all that it calls make is longer than what came in: it says more and counts as full. Else prove '..UptoSaid'. A law counts once. -/
mutual
def uptoBulk {H : Type} : DataW H → Nat
  | .lit (.string bytes) => bytes.length + 1
  | .lit _ => 1
  | .nil => 1
  | .ptr d => uptoBulk d + 1
  | .slice elems spare => uptoBulkAll elems + uptoBulkAll spare + 1
  | .agg parts => uptoBulkAll parts + 1
  | .iface _ d => uptoBulk d + 1
  | .map entries => uptoBulkEntries entries + 1
  | .held _ => 1
def uptoBulkAll {H : Type} : List (DataW H) → Nat
  | [] => 0
  | d :: r => uptoBulk d + uptoBulkAll r
def uptoBulkEntries {H : Type} : List (Lit × DataW H) → Nat
  | [] => 0
  | x :: r => uptoBulkEntry x + uptoBulkEntries r
def uptoBulkEntry {H : Type} : Lit × DataW H → Nat
  | (.string bytes, d) => bytes.length + uptoBulk d + 1
  | (_, d) => uptoBulk d + 1
 end
def uptoSmall : (H : Type) → List (DataW H) → Bool := fun _ ds => decide (uptoBulkAll ds ≤ 1048576)
def OpenSpec.upto (s : _root_.Go.ChangeSpec) : _root_.Go.OpenSpec := { _root_.Go.OpenSpec.ofChange s with cond := some uptoSmall }

/-- 'laws.FnExactGoodRows', WHERE WHAT IT READS IS OF BULK AT MOST 1048576: true; the input reads as it did. -/
def fnExactGoodRowsUptoRow : OpenClaim := { program := "ythbnjmcehpmliaa", sum := "b3c7730f600a7daf16cde04c93ad55484aef78ceb4d426670f7888240b91d417", func := "loop.example/g00868/laws.FnExactGoodRows", spec := "fnExactGoodRows", inPlace := ["internal/bytealg.IndexByteString"], apart := false, narrowed := true }
def FnExactGoodRowsUptoSaid : Prop := fnExactGoodRowsUptoRow.holds Try.pinned (OpenSpec.upto fnExactGoodRowsSpec)

/-- 'laws.FnExactRowsText', WHERE WHAT IT READS IS OF BULK AT MOST 1048576: true; the input reads as it did. -/
def fnExactRowsTextUptoRow : OpenClaim := { program := "ythbnjmcehpmliaa", sum := "b3c7730f600a7daf16cde04c93ad55484aef78ceb4d426670f7888240b91d417", func := "loop.example/g00868/laws.FnExactRowsText", spec := "fnExactRowsText", inPlace := ["internal/bytealg.IndexByteString"], apart := false, narrowed := true }
def FnExactRowsTextUptoSaid : Prop := fnExactRowsTextUptoRow.holds Try.pinned (OpenSpec.upto fnExactRowsTextSpec)

/-- 'laws.FnExactFindRow', WHERE WHAT IT READS IS OF BULK AT MOST 1048576: true; the input reads as it did. -/
def fnExactFindRowUptoRow : OpenClaim := { program := "ythbnjmcehpmliaa", sum := "b3c7730f600a7daf16cde04c93ad55484aef78ceb4d426670f7888240b91d417", func := "loop.example/g00868/laws.FnExactFindRow", spec := "fnExactFindRow", inPlace := ["internal/bytealg.IndexByteString", "internal/bytealg.abigen_runtime_cmpstring"], unfollowed := true, recurses := true, apart := false, narrowed := true }
def FnExactFindRowUptoSaid : Prop := fnExactFindRowUptoRow.holds Try.pinned (OpenSpec.upto fnExactFindRowSpec)

/-- 'laws.FnExactRowsWith', WHERE WHAT IT READS IS OF BULK AT MOST 1048576: true; the input reads as it did. -/
def fnExactRowsWithUptoRow : OpenClaim := { program := "ythbnjmcehpmliaa", sum := "b3c7730f600a7daf16cde04c93ad55484aef78ceb4d426670f7888240b91d417", func := "loop.example/g00868/laws.FnExactRowsWith", spec := "fnExactRowsWith", inPlace := ["internal/bytealg.IndexByteString"], apart := false, narrowed := true }
def FnExactRowsWithUptoSaid : Prop := fnExactRowsWithUptoRow.holds Try.pinned (OpenSpec.upto fnExactRowsWithSpec)

/-- 'laws.FnExactDropRow', WHERE WHAT IT READS IS OF BULK AT MOST 1048576: true; the input reads as it did. -/
def fnExactDropRowUptoRow : OpenClaim := { program := "ythbnjmcehpmliaa", sum := "b3c7730f600a7daf16cde04c93ad55484aef78ceb4d426670f7888240b91d417", func := "loop.example/g00868/laws.FnExactDropRow", spec := "fnExactDropRow", inPlace := ["internal/bytealg.IndexByteString", "internal/bytealg.abigen_runtime_cmpstring"], unfollowed := true, recurses := true, apart := false, narrowed := true }
def FnExactDropRowUptoSaid : Prop := fnExactDropRowUptoRow.holds Try.pinned (OpenSpec.upto fnExactDropRowSpec)

/-- 'laws.FnExactReadRows', WHERE WHAT IT READS IS OF BULK AT MOST 1048576: true; the input reads as it did. -/
def fnExactReadRowsUptoRow : OpenClaim := { program := "ythbnjmcehpmliaa", sum := "b3c7730f600a7daf16cde04c93ad55484aef78ceb4d426670f7888240b91d417", func := "loop.example/g00868/laws.FnExactReadRows", spec := "fnExactReadRows", inPlace := ["internal/bytealg.IndexByteString", "internal/bytealg.IndexString"], named := ["internal/bytealg.MaxLen"], apart := false, narrowed := true }
def FnExactReadRowsUptoSaid : Prop := fnExactReadRowsUptoRow.holds Try.pinned (OpenSpec.upto fnExactReadRowsSpec)

/-- 'laws.FnExactPutRow', WHERE WHAT IT READS IS OF BULK AT MOST 1048576: true; the input reads as it did. -/
def fnExactPutRowUptoRow : OpenClaim := { program := "ythbnjmcehpmliaa", sum := "b3c7730f600a7daf16cde04c93ad55484aef78ceb4d426670f7888240b91d417", func := "loop.example/g00868/laws.FnExactPutRow", spec := "fnExactPutRow", inPlace := ["internal/bytealg.IndexByteString", "internal/bytealg.abigen_runtime_cmpstring", "slices.overlaps[loop.example/g00868/impl.Row]"], unfollowed := true, recurses := true, apart := false, narrowed := true }
def FnExactPutRowUptoSaid : Prop := fnExactPutRowUptoRow.holds Try.pinned (OpenSpec.upto fnExactPutRowSpec)

/-- 'laws.FnExactMergeRows', WHERE WHAT IT READS IS OF BULK AT MOST 1048576: true; the input reads as it did. -/
def fnExactMergeRowsUptoRow : OpenClaim := { program := "ythbnjmcehpmliaa", sum := "b3c7730f600a7daf16cde04c93ad55484aef78ceb4d426670f7888240b91d417", func := "loop.example/g00868/laws.FnExactMergeRows", spec := "fnExactMergeRows", inPlace := ["internal/bytealg.IndexByteString", "internal/bytealg.abigen_runtime_cmpstring", "slices.overlaps[loop.example/g00868/impl.Row]"], unfollowed := true, recurses := true, apart := false, narrowed := true }
def FnExactMergeRowsUptoSaid : Prop := fnExactMergeRowsUptoRow.holds Try.pinned (OpenSpec.upto fnExactMergeRowsSpec)

/-- 'laws.FnRows', WHERE WHAT IT READS IS OF BULK AT MOST 1048576: true; the input reads as it did. -/
def fnRowsUptoRow : OpenClaim := { program := "ythbnjmcehpmliaa", sum := "b3c7730f600a7daf16cde04c93ad55484aef78ceb4d426670f7888240b91d417", func := "loop.example/g00868/laws.FnRows", spec := "fnRows", inPlace := ["internal/bytealg.IndexByteString", "internal/bytealg.abigen_runtime_cmpstring", "slices.overlaps[loop.example/g00868/impl.Row]", "internal/bytealg.IndexString"], unfollowed := true, recurses := true, named := ["internal/bytealg.MaxLen"], apart := false, narrowed := true }
def FnRowsUptoSaid : Prop := fnRowsUptoRow.holds Try.pinned (OpenSpec.upto fnRowsSpec)

/-- 'laws.FnExactUnlikeRows', WHERE WHAT IT READS IS OF BULK AT MOST 1048576: true; the input reads as it did. -/
def fnExactUnlikeRowsUptoRow : OpenClaim := { program := "ythbnjmcehpmliaa", sum := "b3c7730f600a7daf16cde04c93ad55484aef78ceb4d426670f7888240b91d417", func := "loop.example/g00868/laws.FnExactUnlikeRows", spec := "fnExactUnlikeRows", inPlace := ["internal/bytealg.IndexByteString", "internal/bytealg.abigen_runtime_cmpstring"], unfollowed := true, recurses := true, apart := false, narrowed := true }
def FnExactUnlikeRowsUptoSaid : Prop := fnExactUnlikeRowsUptoRow.holds Try.pinned (OpenSpec.upto fnExactUnlikeRowsSpec)

/-- 'laws.FnMerged', WHERE WHAT IT READS IS OF BULK AT MOST 1048576: true; the input reads as it did. -/
def fnMergedUptoRow : OpenClaim := { program := "ythbnjmcehpmliaa", sum := "b3c7730f600a7daf16cde04c93ad55484aef78ceb4d426670f7888240b91d417", func := "loop.example/g00868/laws.FnMerged", spec := "fnMerged", inPlace := ["internal/bytealg.IndexByteString", "internal/bytealg.abigen_runtime_cmpstring", "slices.overlaps[loop.example/g00868/impl.Row]"], unfollowed := true, recurses := true, apart := false, narrowed := true }
def FnMergedUptoSaid : Prop := fnMergedUptoRow.holds Try.pinned (OpenSpec.upto fnMergedSpec)

end Rows
end Go.Proofs.Ythbnjmcehpmliaa
