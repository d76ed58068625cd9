/-
  No cell of these rows narrows 'for every input' (looked for: loops, veiled, ifaces, maps, wideKeys, modest, calm, conditions, laid).
  DERIVED. THE GIVEN ROWS OF THIS SEAT. 6 by the template 'for every input the law returns true; each argument reads behind the call as it read before'; 0 by the template 'total and deterministic' (their statements: YtpbokegnbipbjaaTotals.lean).
  GIVEN WITH THE SEED: the statements are not yours to turn. If you find one false, say at which input.
  Laid BY PROGRAM, IN A SANDBOX (cutbox-rows.mjs): the forced cells as the released guide's own fill.sh prints them over the translation 8c5cef2aea47eb55… (all of the seat's roots in one cut). By AI agents, Wed Nov 11 2026. No macro, syntax, notation, axiom, sorry.
-/
import Derived.Test.YtpbokegnbipbjaaChecked
import GoSem.Claim
import GoSem.ClaimJoined
import GoSem.ClaimMapViews
import Derived.JoinedTies
import Derived.KernelRfl
namespace Go.Proofs.Ytpbokegnbipbjaa
/- THE CELL 'sum', in the pinned program and in every row, IS THE sha256 OF THE DUMP (.gsa) THAT YtpbokegnbipbjaaProg.lean LOADS. Nothing in Lean hashes anything: it is a label: what it is worth is what the hold of that sum in a sandbox is worth. -/
noncomputable def Try.pinned : Pinned := { name := "ytpbokegnbipbjaa", sum := "8c5cef2aea47eb554b1920cdeb077d8ce6fc74b8428f8e158615ffd7daf858d4", checked := Try.checked }
namespace Rows
def none {H : Type} : Left H := { results := [], args := [] }

/-- 'laws.FnExactGoodLoop': WHATEVER THE INPUT: true; the input reads as it did. -/
def fnExactGoodLoopSpec : ChangeSpec := { name := "fnExactGoodLoop", fn := fun _ => fun
  | [d] => { results := [.lit (.bool true)], args := [d] }
  | _ => none }
def fnExactGoodLoopRow : OpenClaim := { program := "ytpbokegnbipbjaa", sum := "8c5cef2aea47eb554b1920cdeb077d8ce6fc74b8428f8e158615ffd7daf858d4", func := "loop.example/g00868/laws.FnExactGoodLoop", spec := "fnExactGoodLoop", apart := false }
def FnExactGoodLoopSaid : Prop := fnExactGoodLoopRow.holds Try.pinned (OpenSpec.ofChange fnExactGoodLoopSpec)

/-- ITS FALSE NEIGHBOUR: 'it returns false'. Refute it at one input. -/
def fnExactGoodLoopWrong : ChangeSpec := { name := "fnExactGoodLoop", fn := fun _ => fun
  | [d] => { results := [.lit (.bool false)], args := [d] }
  | _ => none }
def FnExactGoodLoopWrongFalsely : Prop := fnExactGoodLoopRow.holds Try.pinned (OpenSpec.ofChange fnExactGoodLoopWrong)

/-- 'laws.FnExactGoodRows': WHATEVER THE INPUT: true; the input reads as it did. -/
def fnExactGoodRowsSpec : ChangeSpec := { name := "fnExactGoodRows", fn := fun _ => fun
  | [d] => { results := [.lit (.bool true)], args := [d] }
  | _ => none }
def fnExactGoodRowsRow : OpenClaim := { program := "ytpbokegnbipbjaa", sum := "8c5cef2aea47eb554b1920cdeb077d8ce6fc74b8428f8e158615ffd7daf858d4", func := "loop.example/g00868/laws.FnExactGoodRows", spec := "fnExactGoodRows", inPlace := ["internal/bytealg.IndexByteString"], apart := false }
def FnExactGoodRowsSaid : Prop := fnExactGoodRowsRow.holds Try.pinned (OpenSpec.ofChange fnExactGoodRowsSpec)

/-- ITS FALSE NEIGHBOUR: 'it returns false'. Refute it at one input. -/
def fnExactGoodRowsWrong : ChangeSpec := { name := "fnExactGoodRows", fn := fun _ => fun
  | [d] => { results := [.lit (.bool false)], args := [d] }
  | _ => none }
def FnExactGoodRowsWrongFalsely : Prop := fnExactGoodRowsRow.holds Try.pinned (OpenSpec.ofChange fnExactGoodRowsWrong)

/-- 'laws.FnExactRowsText': WHATEVER THE INPUT: true; the input reads as it did. -/
def fnExactRowsTextSpec : ChangeSpec := { name := "fnExactRowsText", fn := fun _ => fun
  | [d] => { results := [.lit (.bool true)], args := [d] }
  | _ => none }
def fnExactRowsTextRow : OpenClaim := { program := "ytpbokegnbipbjaa", sum := "8c5cef2aea47eb554b1920cdeb077d8ce6fc74b8428f8e158615ffd7daf858d4", func := "loop.example/g00868/laws.FnExactRowsText", spec := "fnExactRowsText", inPlace := ["internal/bytealg.IndexByteString"], apart := false }
def FnExactRowsTextSaid : Prop := fnExactRowsTextRow.holds Try.pinned (OpenSpec.ofChange fnExactRowsTextSpec)

/-- ITS FALSE NEIGHBOUR: 'it returns false'. Refute it at one input. -/
def fnExactRowsTextWrong : ChangeSpec := { name := "fnExactRowsText", fn := fun _ => fun
  | [d] => { results := [.lit (.bool false)], args := [d] }
  | _ => none }
def FnExactRowsTextWrongFalsely : Prop := fnExactRowsTextRow.holds Try.pinned (OpenSpec.ofChange fnExactRowsTextWrong)

/-- 'laws.FnExactFindRow': WHATEVER THE INPUT: true; the input reads as it did. -/
def fnExactFindRowSpec : ChangeSpec := { name := "fnExactFindRow", fn := fun _ => fun
  | [d1, d2] => { results := [.lit (.bool true)], args := [d1, d2] }
  | _ => none }
def fnExactFindRowRow : OpenClaim := { program := "ytpbokegnbipbjaa", sum := "8c5cef2aea47eb554b1920cdeb077d8ce6fc74b8428f8e158615ffd7daf858d4", func := "loop.example/g00868/laws.FnExactFindRow", spec := "fnExactFindRow", inPlace := ["internal/bytealg.IndexByteString", "internal/bytealg.abigen_runtime_cmpstring"], unfollowed := true, recurses := true, apart := false }
def FnExactFindRowSaid : Prop := fnExactFindRowRow.holds Try.pinned (OpenSpec.ofChange fnExactFindRowSpec)

/-- ITS FALSE NEIGHBOUR: 'it returns false'. Refute it at one input. -/
def fnExactFindRowWrong : ChangeSpec := { name := "fnExactFindRow", fn := fun _ => fun
  | [d1, d2] => { results := [.lit (.bool false)], args := [d1, d2] }
  | _ => none }
def FnExactFindRowWrongFalsely : Prop := fnExactFindRowRow.holds Try.pinned (OpenSpec.ofChange fnExactFindRowWrong)

/-- 'laws.FnExactRowsWith': WHATEVER THE INPUT: true; the input reads as it did. -/
def fnExactRowsWithSpec : ChangeSpec := { name := "fnExactRowsWith", fn := fun _ => fun
  | [d1, d2] => { results := [.lit (.bool true)], args := [d1, d2] }
  | _ => none }
def fnExactRowsWithRow : OpenClaim := { program := "ytpbokegnbipbjaa", sum := "8c5cef2aea47eb554b1920cdeb077d8ce6fc74b8428f8e158615ffd7daf858d4", func := "loop.example/g00868/laws.FnExactRowsWith", spec := "fnExactRowsWith", inPlace := ["internal/bytealg.IndexByteString"], apart := false }
def FnExactRowsWithSaid : Prop := fnExactRowsWithRow.holds Try.pinned (OpenSpec.ofChange fnExactRowsWithSpec)

/-- ITS FALSE NEIGHBOUR: 'it returns false'. Refute it at one input. -/
def fnExactRowsWithWrong : ChangeSpec := { name := "fnExactRowsWith", fn := fun _ => fun
  | [d1, d2] => { results := [.lit (.bool false)], args := [d1, d2] }
  | _ => none }
def FnExactRowsWithWrongFalsely : Prop := fnExactRowsWithRow.holds Try.pinned (OpenSpec.ofChange fnExactRowsWithWrong)

/-- 'laws.FnExactTurnLoop': WHATEVER THE INPUT: true; the input reads as it did. -/
def fnExactTurnLoopSpec : ChangeSpec := { name := "fnExactTurnLoop", fn := fun _ => fun
  | [d] => { results := [.lit (.bool true)], args := [d] }
  | _ => none }
def fnExactTurnLoopRow : OpenClaim := { program := "ytpbokegnbipbjaa", sum := "8c5cef2aea47eb554b1920cdeb077d8ce6fc74b8428f8e158615ffd7daf858d4", func := "loop.example/g00868/laws.FnExactTurnLoop", spec := "fnExactTurnLoop", apart := false }
def FnExactTurnLoopSaid : Prop := fnExactTurnLoopRow.holds Try.pinned (OpenSpec.ofChange fnExactTurnLoopSpec)

/-- ITS FALSE NEIGHBOUR: 'it returns false'. Refute it at one input. -/
def fnExactTurnLoopWrong : ChangeSpec := { name := "fnExactTurnLoop", fn := fun _ => fun
  | [d] => { results := [.lit (.bool false)], args := [d] }
  | _ => none }
def FnExactTurnLoopWrongFalsely : Prop := fnExactTurnLoopRow.holds Try.pinned (OpenSpec.ofChange fnExactTurnLoopWrong)

/- THE SECOND FORM. 'bulk': how many values and letters a reading holds, each counted each time it is reached (what is shared counts as often as it is met; a slice's spare places count too). A statement '..UptoSaid' is the law's where the arguments, and the package variables that the reading takes, are together of bulk at most 1048576: NARROWER than '..Said'. Prove '..Said' where nothing that the law and all that it calls make is longer than what came in: it says more and counts as full. Else prove '..UptoSaid'. A law counts once. -/
mutual
def uptoBulk {H : Type} : DataW H → Nat
  | .lit (.string bytes) => bytes.length + 1
  | .lit _ => 1
  | .nil => 1
  | .ptr d => uptoBulk d + 1
  | .slice elems spare => uptoBulkAll elems + uptoBulkAll spare + 1
  | .agg parts => uptoBulkAll parts + 1
  | .iface _ d => uptoBulk d + 1
  | .map entries => uptoBulkEntries entries + 1
  | .held _ => 1
def uptoBulkAll {H : Type} : List (DataW H) → Nat
  | [] => 0
  | d :: r => uptoBulk d + uptoBulkAll r
def uptoBulkEntries {H : Type} : List (Lit × DataW H) → Nat
  | [] => 0
  | x :: r => uptoBulkEntry x + uptoBulkEntries r
def uptoBulkEntry {H : Type} : Lit × DataW H → Nat
  | (.string bytes, d) => bytes.length + uptoBulk d + 1
  | (_, d) => uptoBulk d + 1
 end
def uptoSmall : (H : Type) → List (DataW H) → Bool := fun _ ds => decide (uptoBulkAll ds ≤ 1048576)
def OpenSpec.upto (s : _root_.Go.ChangeSpec) : _root_.Go.OpenSpec := { _root_.Go.OpenSpec.ofChange s with cond := some uptoSmall }

/-- 'laws.FnExactGoodLoop', WHERE WHAT IT READS IS OF BULK AT MOST 1048576: true; the input reads as it did. -/
def fnExactGoodLoopUptoRow : OpenClaim := { program := "ytpbokegnbipbjaa", sum := "8c5cef2aea47eb554b1920cdeb077d8ce6fc74b8428f8e158615ffd7daf858d4", func := "loop.example/g00868/laws.FnExactGoodLoop", spec := "fnExactGoodLoop", apart := false, narrowed := true }
def FnExactGoodLoopUptoSaid : Prop := fnExactGoodLoopUptoRow.holds Try.pinned (OpenSpec.upto fnExactGoodLoopSpec)

/-- 'laws.FnExactGoodRows', WHERE WHAT IT READS IS OF BULK AT MOST 1048576: true; the input reads as it did. -/
def fnExactGoodRowsUptoRow : OpenClaim := { program := "ytpbokegnbipbjaa", sum := "8c5cef2aea47eb554b1920cdeb077d8ce6fc74b8428f8e158615ffd7daf858d4", func := "loop.example/g00868/laws.FnExactGoodRows", spec := "fnExactGoodRows", inPlace := ["internal/bytealg.IndexByteString"], apart := false, narrowed := true }
def FnExactGoodRowsUptoSaid : Prop := fnExactGoodRowsUptoRow.holds Try.pinned (OpenSpec.upto fnExactGoodRowsSpec)

/-- 'laws.FnExactRowsText', WHERE WHAT IT READS IS OF BULK AT MOST 1048576: true; the input reads as it did. -/
def fnExactRowsTextUptoRow : OpenClaim := { program := "ytpbokegnbipbjaa", sum := "8c5cef2aea47eb554b1920cdeb077d8ce6fc74b8428f8e158615ffd7daf858d4", func := "loop.example/g00868/laws.FnExactRowsText", spec := "fnExactRowsText", inPlace := ["internal/bytealg.IndexByteString"], apart := false, narrowed := true }
def FnExactRowsTextUptoSaid : Prop := fnExactRowsTextUptoRow.holds Try.pinned (OpenSpec.upto fnExactRowsTextSpec)

/-- 'laws.FnExactFindRow', WHERE WHAT IT READS IS OF BULK AT MOST 1048576: true; the input reads as it did. -/
def fnExactFindRowUptoRow : OpenClaim := { program := "ytpbokegnbipbjaa", sum := "8c5cef2aea47eb554b1920cdeb077d8ce6fc74b8428f8e158615ffd7daf858d4", func := "loop.example/g00868/laws.FnExactFindRow", spec := "fnExactFindRow", inPlace := ["internal/bytealg.IndexByteString", "internal/bytealg.abigen_runtime_cmpstring"], unfollowed := true, recurses := true, apart := false, narrowed := true }
def FnExactFindRowUptoSaid : Prop := fnExactFindRowUptoRow.holds Try.pinned (OpenSpec.upto fnExactFindRowSpec)

/-- 'laws.FnExactRowsWith', WHERE WHAT IT READS IS OF BULK AT MOST 1048576: true; the input reads as it did. -/
def fnExactRowsWithUptoRow : OpenClaim := { program := "ytpbokegnbipbjaa", sum := "8c5cef2aea47eb554b1920cdeb077d8ce6fc74b8428f8e158615ffd7daf858d4", func := "loop.example/g00868/laws.FnExactRowsWith", spec := "fnExactRowsWith", inPlace := ["internal/bytealg.IndexByteString"], apart := false, narrowed := true }
def FnExactRowsWithUptoSaid : Prop := fnExactRowsWithUptoRow.holds Try.pinned (OpenSpec.upto fnExactRowsWithSpec)

/-- 'laws.FnExactTurnLoop', WHERE WHAT IT READS IS OF BULK AT MOST 1048576: true; the input reads as it did. -/
def fnExactTurnLoopUptoRow : OpenClaim := { program := "ytpbokegnbipbjaa", sum := "8c5cef2aea47eb554b1920cdeb077d8ce6fc74b8428f8e158615ffd7daf858d4", func := "loop.example/g00868/laws.FnExactTurnLoop", spec := "fnExactTurnLoop", apart := false, narrowed := true }
def FnExactTurnLoopUptoSaid : Prop := fnExactTurnLoopUptoRow.holds Try.pinned (OpenSpec.upto fnExactTurnLoopSpec)

end Rows
end Go.Proofs.Ytpbokegnbipbjaa
