/-
  No cell of these rows narrows 'for every input' (looked for: loops, veiled, ifaces, maps, wideKeys, modest, calm, conditions, laid).
  DERIVED. THE GIVEN ROWS OF THIS SEAT. 5 by the template 'for every input the law returns true; each argument reads behind the call as it read before'; 0 by the template 'total and deterministic' (their statements: YtmfbcipjknjicaaTotals.lean).
  GIVEN WITH THE SEED: the statements are not yours to turn. If you find one false, say at which input.
  Laid BY PROGRAM, IN A SANDBOX (cutbox-rows.mjs): the forced cells as the released guide's own fill.sh prints them over the translation ab7d622d72ba2fbe… (all of the seat's roots in one cut). By AI agents, Wed Nov 11 2026. No macro, syntax, notation, axiom, sorry.
-/
import Derived.Test.YtmfbcipjknjicaaChecked
import GoSem.Claim
import GoSem.ClaimJoined
import GoSem.ClaimMapViews
import Derived.JoinedTies
import Derived.KernelRfl
namespace Go.Proofs.Ytmfbcipjknjicaa
/- THE CELL 'sum', in the pinned program and in every row, IS THE sha256 OF THE DUMP (.gsa) THAT YtmfbcipjknjicaaProg.lean LOADS. Nothing in Lean hashes anything: it is a label: what it is worth is what the hold of that sum in a sandbox is worth. -/
noncomputable def Try.pinned : Pinned := { name := "ytmfbcipjknjicaa", sum := "ab7d622d72ba2fbee83a8033711db0623618cf6c3d62b38580cd309e174d254f", checked := Try.checked }
namespace Rows
def none {H : Type} : Left H := { results := [], args := [] }

/-- 'laws.FnMisere': WHATEVER THE INPUT: true; the input reads as it did. -/
def fnMisereSpec : ChangeSpec := { name := "fnMisere", fn := fun _ => fun
  | [d] => { results := [.lit (.bool true)], args := [d] }
  | _ => none }
def fnMisereRow : OpenClaim := { program := "ytmfbcipjknjicaa", sum := "ab7d622d72ba2fbee83a8033711db0623618cf6c3d62b38580cd309e174d254f", func := "loop.example/g00868/laws.FnMisere", spec := "fnMisere", unfollowed := true, recurses := true, apart := false }
def FnMisereSaid : Prop := fnMisereRow.holds Try.pinned (OpenSpec.ofChange fnMisereSpec)

/-- ITS FALSE NEIGHBOUR: 'it returns false'. Refute it at one input. -/
def fnMisereWrong : ChangeSpec := { name := "fnMisere", fn := fun _ => fun
  | [d] => { results := [.lit (.bool false)], args := [d] }
  | _ => none }
def FnMisereWrongFalsely : Prop := fnMisereRow.holds Try.pinned (OpenSpec.ofChange fnMisereWrong)

/-- 'laws.FnExactGenus': WHATEVER THE INPUT: true; the input reads as it did. -/
def fnExactGenusSpec : ChangeSpec := { name := "fnExactGenus", fn := fun _ => fun
  | [d1, d2] => { results := [.lit (.bool true)], args := [d1, d2] }
  | _ => none }
def fnExactGenusRow : OpenClaim := { program := "ytmfbcipjknjicaa", sum := "ab7d622d72ba2fbee83a8033711db0623618cf6c3d62b38580cd309e174d254f", func := "loop.example/g00868/laws.FnExactGenus", spec := "fnExactGenus", unfollowed := true, recurses := true, apart := false }
def FnExactGenusSaid : Prop := fnExactGenusRow.holds Try.pinned (OpenSpec.ofChange fnExactGenusSpec)

/-- ITS FALSE NEIGHBOUR: 'it returns false'. Refute it at one input. -/
def fnExactGenusWrong : ChangeSpec := { name := "fnExactGenus", fn := fun _ => fun
  | [d1, d2] => { results := [.lit (.bool false)], args := [d1, d2] }
  | _ => none }
def FnExactGenusWrongFalsely : Prop := fnExactGenusRow.holds Try.pinned (OpenSpec.ofChange fnExactGenusWrong)

/-- 'laws.FnExactClassSum': WHATEVER THE INPUT: true; the input reads as it did. -/
def fnExactClassSumSpec : ChangeSpec := { name := "fnExactClassSum", fn := fun _ => fun
  | [d1, d2, d3, d4] => { results := [.lit (.bool true)], args := [d1, d2, d3, d4] }
  | _ => none }
def fnExactClassSumRow : OpenClaim := { program := "ytmfbcipjknjicaa", sum := "ab7d622d72ba2fbee83a8033711db0623618cf6c3d62b38580cd309e174d254f", func := "loop.example/g00868/laws.FnExactClassSum", spec := "fnExactClassSum", unfollowed := true, recurses := true, apart := false }
def FnExactClassSumSaid : Prop := fnExactClassSumRow.holds Try.pinned (OpenSpec.ofChange fnExactClassSumSpec)

/-- ITS FALSE NEIGHBOUR: 'it returns false'. Refute it at one input. -/
def fnExactClassSumWrong : ChangeSpec := { name := "fnExactClassSum", fn := fun _ => fun
  | [d1, d2, d3, d4] => { results := [.lit (.bool false)], args := [d1, d2, d3, d4] }
  | _ => none }
def FnExactClassSumWrongFalsely : Prop := fnExactClassSumRow.holds Try.pinned (OpenSpec.ofChange fnExactClassSumWrong)

/-- 'laws.FnMisereValues': WHATEVER THE INPUT: true; the input reads as it did. -/
def fnMisereValuesSpec : ChangeSpec := { name := "fnMisereValues", fn := fun _ => fun
  | [d] => { results := [.lit (.bool true)], args := [d] }
  | _ => none }
def fnMisereValuesRow : OpenClaim := { program := "ytmfbcipjknjicaa", sum := "ab7d622d72ba2fbee83a8033711db0623618cf6c3d62b38580cd309e174d254f", func := "loop.example/g00868/laws.FnMisereValues", spec := "fnMisereValues", unfollowed := true, recurses := true, apart := false }
def FnMisereValuesSaid : Prop := fnMisereValuesRow.holds Try.pinned (OpenSpec.ofChange fnMisereValuesSpec)

/-- ITS FALSE NEIGHBOUR: 'it returns false'. Refute it at one input. -/
def fnMisereValuesWrong : ChangeSpec := { name := "fnMisereValues", fn := fun _ => fun
  | [d] => { results := [.lit (.bool false)], args := [d] }
  | _ => none }
def FnMisereValuesWrongFalsely : Prop := fnMisereValuesRow.holds Try.pinned (OpenSpec.ofChange fnMisereValuesWrong)

/-- 'laws.FnMiserePlay': WHATEVER THE INPUT: true; the input reads as it did. -/
def fnMiserePlaySpec : ChangeSpec := { name := "fnMiserePlay", fn := fun _ => fun
  | [d] => { results := [.lit (.bool true)], args := [d] }
  | _ => none }
def fnMiserePlayRow : OpenClaim := { program := "ytmfbcipjknjicaa", sum := "ab7d622d72ba2fbee83a8033711db0623618cf6c3d62b38580cd309e174d254f", func := "loop.example/g00868/laws.FnMiserePlay", spec := "fnMiserePlay", unfollowed := true, recurses := true, apart := false }
def FnMiserePlaySaid : Prop := fnMiserePlayRow.holds Try.pinned (OpenSpec.ofChange fnMiserePlaySpec)

/-- ITS FALSE NEIGHBOUR: 'it returns false'. Refute it at one input. -/
def fnMiserePlayWrong : ChangeSpec := { name := "fnMiserePlay", fn := fun _ => fun
  | [d] => { results := [.lit (.bool false)], args := [d] }
  | _ => none }
def FnMiserePlayWrongFalsely : Prop := fnMiserePlayRow.holds Try.pinned (OpenSpec.ofChange fnMiserePlayWrong)

/- THE SECOND FORM. 'bulk': how many values and letters a reading holds, each counted each time it is reached (what is shared counts as often as it is met; a slice's spare places count too). A statement '..UptoSaid' is the law's where the arguments, and the package variables that the reading takes, are together of bulk at most 1048576: NARROWER than '..Said'. Prove '..Said' where nothing that the law and all that it calls make is longer than what came in: it says more and counts as full. Else prove '..UptoSaid'. A law counts once. -/
mutual
def uptoBulk {H : Type} : DataW H → Nat
  | .lit (.string bytes) => bytes.length + 1
  | .lit _ => 1
  | .nil => 1
  | .ptr d => uptoBulk d + 1
  | .slice elems spare => uptoBulkAll elems + uptoBulkAll spare + 1
  | .agg parts => uptoBulkAll parts + 1
  | .iface _ d => uptoBulk d + 1
  | .map entries => uptoBulkEntries entries + 1
  | .held _ => 1
def uptoBulkAll {H : Type} : List (DataW H) → Nat
  | [] => 0
  | d :: r => uptoBulk d + uptoBulkAll r
def uptoBulkEntries {H : Type} : List (Lit × DataW H) → Nat
  | [] => 0
  | x :: r => uptoBulkEntry x + uptoBulkEntries r
def uptoBulkEntry {H : Type} : Lit × DataW H → Nat
  | (.string bytes, d) => bytes.length + uptoBulk d + 1
  | (_, d) => uptoBulk d + 1
 end
def uptoSmall : (H : Type) → List (DataW H) → Bool := fun _ ds => decide (uptoBulkAll ds ≤ 1048576)
def OpenSpec.upto (s : _root_.Go.ChangeSpec) : _root_.Go.OpenSpec := { _root_.Go.OpenSpec.ofChange s with cond := some uptoSmall }

/-- 'laws.FnMisere', WHERE WHAT IT READS IS OF BULK AT MOST 1048576: true; the input reads as it did. -/
def fnMisereUptoRow : OpenClaim := { program := "ytmfbcipjknjicaa", sum := "ab7d622d72ba2fbee83a8033711db0623618cf6c3d62b38580cd309e174d254f", func := "loop.example/g00868/laws.FnMisere", spec := "fnMisere", unfollowed := true, recurses := true, apart := false, narrowed := true }
def FnMisereUptoSaid : Prop := fnMisereUptoRow.holds Try.pinned (OpenSpec.upto fnMisereSpec)

/-- 'laws.FnExactGenus', WHERE WHAT IT READS IS OF BULK AT MOST 1048576: true; the input reads as it did. -/
def fnExactGenusUptoRow : OpenClaim := { program := "ytmfbcipjknjicaa", sum := "ab7d622d72ba2fbee83a8033711db0623618cf6c3d62b38580cd309e174d254f", func := "loop.example/g00868/laws.FnExactGenus", spec := "fnExactGenus", unfollowed := true, recurses := true, apart := false, narrowed := true }
def FnExactGenusUptoSaid : Prop := fnExactGenusUptoRow.holds Try.pinned (OpenSpec.upto fnExactGenusSpec)

/-- 'laws.FnExactClassSum', WHERE WHAT IT READS IS OF BULK AT MOST 1048576: true; the input reads as it did. -/
def fnExactClassSumUptoRow : OpenClaim := { program := "ytmfbcipjknjicaa", sum := "ab7d622d72ba2fbee83a8033711db0623618cf6c3d62b38580cd309e174d254f", func := "loop.example/g00868/laws.FnExactClassSum", spec := "fnExactClassSum", unfollowed := true, recurses := true, apart := false, narrowed := true }
def FnExactClassSumUptoSaid : Prop := fnExactClassSumUptoRow.holds Try.pinned (OpenSpec.upto fnExactClassSumSpec)

/-- 'laws.FnMisereValues', WHERE WHAT IT READS IS OF BULK AT MOST 1048576: true; the input reads as it did. -/
def fnMisereValuesUptoRow : OpenClaim := { program := "ytmfbcipjknjicaa", sum := "ab7d622d72ba2fbee83a8033711db0623618cf6c3d62b38580cd309e174d254f", func := "loop.example/g00868/laws.FnMisereValues", spec := "fnMisereValues", unfollowed := true, recurses := true, apart := false, narrowed := true }
def FnMisereValuesUptoSaid : Prop := fnMisereValuesUptoRow.holds Try.pinned (OpenSpec.upto fnMisereValuesSpec)

/-- 'laws.FnMiserePlay', WHERE WHAT IT READS IS OF BULK AT MOST 1048576: true; the input reads as it did. -/
def fnMiserePlayUptoRow : OpenClaim := { program := "ytmfbcipjknjicaa", sum := "ab7d622d72ba2fbee83a8033711db0623618cf6c3d62b38580cd309e174d254f", func := "loop.example/g00868/laws.FnMiserePlay", spec := "fnMiserePlay", unfollowed := true, recurses := true, apart := false, narrowed := true }
def FnMiserePlayUptoSaid : Prop := fnMiserePlayUptoRow.holds Try.pinned (OpenSpec.upto fnMiserePlaySpec)

end Rows
end Go.Proofs.Ytmfbcipjknjicaa
