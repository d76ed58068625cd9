/-
  No cell of these rows narrows 'for every input' (looked for: loops, veiled, ifaces, maps, wideKeys, modest, calm, conditions, laid).
  DERIVED. THE GIVEN ROWS OF THIS SEAT. 3 by the template 'for every input the law returns true; each argument reads behind the call as it read before'; 0 by the template 'total and deterministic' (their statements: YtmplelnodamedaaTotals.lean).
  GIVEN WITH THE SEED: the statements are not yours to turn. If you find one false, say at which input.
  Laid BY PROGRAM, IN A SANDBOX (cutbox-rows.mjs): the forced cells as the released guide's own fill.sh prints them over the translation bd54d4572203088f… (all of the seat's roots in one cut). By AI agents, Wed Nov 11 2026. No macro, syntax, notation, axiom, sorry.
-/
import Derived.Test.YtmplelnodamedaaChecked
import GoSem.Claim
import GoSem.ClaimJoined
import GoSem.ClaimMapViews
import Derived.JoinedTies
import Derived.KernelRfl
namespace Go.Proofs.Ytmplelnodamedaa
/- THE CELL 'sum', in the pinned program and in every row, IS THE sha256 OF THE DUMP (.gsa) THAT YtmplelnodamedaaProg.lean LOADS. Nothing in Lean hashes anything: it is a label: what it is worth is what the hold of that sum in a sandbox is worth. -/
noncomputable def Try.pinned : Pinned := { name := "ytmplelnodamedaa", sum := "bd54d4572203088f0fe0c1d7046dd929527f4fe756cfd7534af87eb45b3c3509", checked := Try.checked }
namespace Rows
def none {H : Type} : Left H := { results := [], args := [] }

/-- 'laws.FnPruned': WHATEVER THE INPUT: true; the input reads as it did. -/
def fnPrunedSpec : ChangeSpec := { name := "fnPruned", fn := fun _ => fun
  | [d] => { results := [.lit (.bool true)], args := [d] }
  | _ => none }
def fnPrunedRow : OpenClaim := { program := "ytmplelnodamedaa", sum := "bd54d4572203088f0fe0c1d7046dd929527f4fe756cfd7534af87eb45b3c3509", func := "loop.example/g00868/laws.FnPruned", spec := "fnPruned", recurses := true, apart := false }
def FnPrunedSaid : Prop := fnPrunedRow.holds Try.pinned (OpenSpec.ofChange fnPrunedSpec)

/-- ITS FALSE NEIGHBOUR: 'it returns false'. Refute it at one input. -/
def fnPrunedWrong : ChangeSpec := { name := "fnPruned", fn := fun _ => fun
  | [d] => { results := [.lit (.bool false)], args := [d] }
  | _ => none }
def FnPrunedWrongFalsely : Prop := fnPrunedRow.holds Try.pinned (OpenSpec.ofChange fnPrunedWrong)

/-- 'laws.FnTurns': WHATEVER THE INPUT: true; the input reads as it did. -/
def fnTurnsSpec : ChangeSpec := { name := "fnTurns", fn := fun _ => fun
  | [d] => { results := [.lit (.bool true)], args := [d] }
  | _ => none }
def fnTurnsRow : OpenClaim := { program := "ytmplelnodamedaa", sum := "bd54d4572203088f0fe0c1d7046dd929527f4fe756cfd7534af87eb45b3c3509", func := "loop.example/g00868/laws.FnTurns", spec := "fnTurns", unfollowed := true, recurses := true, apart := false }
def FnTurnsSaid : Prop := fnTurnsRow.holds Try.pinned (OpenSpec.ofChange fnTurnsSpec)

/-- ITS FALSE NEIGHBOUR: 'it returns false'. Refute it at one input. -/
def fnTurnsWrong : ChangeSpec := { name := "fnTurns", fn := fun _ => fun
  | [d] => { results := [.lit (.bool false)], args := [d] }
  | _ => none }
def FnTurnsWrongFalsely : Prop := fnTurnsRow.holds Try.pinned (OpenSpec.ofChange fnTurnsWrong)

/-- 'laws.FnExactJoinLoops': WHATEVER THE INPUT: true; the input reads as it did. -/
def fnExactJoinLoopsSpec : ChangeSpec := { name := "fnExactJoinLoops", fn := fun _ => fun
  | [d1, d2] => { results := [.lit (.bool true)], args := [d1, d2] }
  | _ => none }
def fnExactJoinLoopsRow : OpenClaim := { program := "ytmplelnodamedaa", sum := "bd54d4572203088f0fe0c1d7046dd929527f4fe756cfd7534af87eb45b3c3509", func := "loop.example/g00868/laws.FnExactJoinLoops", spec := "fnExactJoinLoops", recurses := true, apart := false }
def FnExactJoinLoopsSaid : Prop := fnExactJoinLoopsRow.holds Try.pinned (OpenSpec.ofChange fnExactJoinLoopsSpec)

/-- ITS FALSE NEIGHBOUR: 'it returns false'. Refute it at one input. -/
def fnExactJoinLoopsWrong : ChangeSpec := { name := "fnExactJoinLoops", fn := fun _ => fun
  | [d1, d2] => { results := [.lit (.bool false)], args := [d1, d2] }
  | _ => none }
def FnExactJoinLoopsWrongFalsely : Prop := fnExactJoinLoopsRow.holds Try.pinned (OpenSpec.ofChange fnExactJoinLoopsWrong)

/- THE SECOND FORM. 'bulk': how many values and letters a reading holds, each counted each time it is reached (what is shared counts as often as it is met; a slice's spare places count too). A statement '..UptoSaid' is the law's where the arguments, and the package variables that the reading takes, are together of bulk at most 1048576: NARROWER than '..Said'. Prove '..Said' where nothing that the law and all that it calls make is longer than what came in: it says more and counts as full. Else prove '..UptoSaid'. A law counts once. -/
mutual
def uptoBulk {H : Type} : DataW H → Nat
  | .lit (.string bytes) => bytes.length + 1
  | .lit _ => 1
  | .nil => 1
  | .ptr d => uptoBulk d + 1
  | .slice elems spare => uptoBulkAll elems + uptoBulkAll spare + 1
  | .agg parts => uptoBulkAll parts + 1
  | .iface _ d => uptoBulk d + 1
  | .map entries => uptoBulkEntries entries + 1
  | .held _ => 1
def uptoBulkAll {H : Type} : List (DataW H) → Nat
  | [] => 0
  | d :: r => uptoBulk d + uptoBulkAll r
def uptoBulkEntries {H : Type} : List (Lit × DataW H) → Nat
  | [] => 0
  | x :: r => uptoBulkEntry x + uptoBulkEntries r
def uptoBulkEntry {H : Type} : Lit × DataW H → Nat
  | (.string bytes, d) => bytes.length + uptoBulk d + 1
  | (_, d) => uptoBulk d + 1
 end
def uptoSmall : (H : Type) → List (DataW H) → Bool := fun _ ds => decide (uptoBulkAll ds ≤ 1048576)
def OpenSpec.upto (s : _root_.Go.ChangeSpec) : _root_.Go.OpenSpec := { _root_.Go.OpenSpec.ofChange s with cond := some uptoSmall }

/-- 'laws.FnPruned', WHERE WHAT IT READS IS OF BULK AT MOST 1048576: true; the input reads as it did. -/
def fnPrunedUptoRow : OpenClaim := { program := "ytmplelnodamedaa", sum := "bd54d4572203088f0fe0c1d7046dd929527f4fe756cfd7534af87eb45b3c3509", func := "loop.example/g00868/laws.FnPruned", spec := "fnPruned", recurses := true, apart := false, narrowed := true }
def FnPrunedUptoSaid : Prop := fnPrunedUptoRow.holds Try.pinned (OpenSpec.upto fnPrunedSpec)

/-- 'laws.FnTurns', WHERE WHAT IT READS IS OF BULK AT MOST 1048576: true; the input reads as it did. -/
def fnTurnsUptoRow : OpenClaim := { program := "ytmplelnodamedaa", sum := "bd54d4572203088f0fe0c1d7046dd929527f4fe756cfd7534af87eb45b3c3509", func := "loop.example/g00868/laws.FnTurns", spec := "fnTurns", unfollowed := true, recurses := true, apart := false, narrowed := true }
def FnTurnsUptoSaid : Prop := fnTurnsUptoRow.holds Try.pinned (OpenSpec.upto fnTurnsSpec)

/-- 'laws.FnExactJoinLoops', WHERE WHAT IT READS IS OF BULK AT MOST 1048576: true; the input reads as it did. -/
def fnExactJoinLoopsUptoRow : OpenClaim := { program := "ytmplelnodamedaa", sum := "bd54d4572203088f0fe0c1d7046dd929527f4fe756cfd7534af87eb45b3c3509", func := "loop.example/g00868/laws.FnExactJoinLoops", spec := "fnExactJoinLoops", recurses := true, apart := false, narrowed := true }
def FnExactJoinLoopsUptoSaid : Prop := fnExactJoinLoopsUptoRow.holds Try.pinned (OpenSpec.upto fnExactJoinLoopsSpec)

end Rows
end Go.Proofs.Ytmplelnodamedaa
