/-
  DERIVED. GIVEN WITH THE SEED: THE CARDS: each row of YtpcckakchpblcaaDoorRows.lean that lists a variable, with what it lists TIED to the program's text (the seventh form; the later family's looks); each row that meets fmt, with fmt's text TOLD by the authors' own Lean function (tested against real Go, not proved from fmt's source: count such statements apart). THE CARD IS WHAT COUNTS. Prove the row's statement (the work); the ties are given (YtpcckakchpblcaaDoorTie.lean); close each card by the builder's one call (the guide's Derived/Test/ToyasCard.lean, 'card_holds'). Laid BY PROGRAM, IN A SANDBOX (cutbox-door.mjs). By AI agents, Wed Nov 11 2026. No macro, syntax, notation, axiom, sorry.
-/
import Derived.Test.YtpcckakchpblcaaDoorRows
import GoSem.ClaimSeven
namespace Go.Proofs.YtpcckakchpblcaaDoor
namespace Rows

/-- THE TIED CARD OF 'laws.FnExactLoopText'. -/
def fnExactLoopTextCard : Claim7 := { stood := { row := fnExactLoopTextRow, standIns := [], harness := (true, "55bc9d6dc8805fed71e2bba5fbeb6115e1ccb7329ff810385d365a808d729a91"), looks := true }, kinds := [], alts := [], laidByText := true, laidKinds := [.data, .data, .data], laidTests := true, laidLooks := .later }
def FnExactLoopTextCardSaid : Prop := Claim7.holds Tryd.pinned (.plain (OpenSpec.ofChange fnExactLoopTextSpec)) fnExactLoopTextCard

/-- THE TIED CARD OF 'laws.FnExactReadLoop'. -/
def fnExactReadLoopCard : Claim7 := { stood := { row := fnExactReadLoopRow, standIns := [], harness := (true, "55bc9d6dc8805fed71e2bba5fbeb6115e1ccb7329ff810385d365a808d729a91"), looks := true }, kinds := [], alts := [], laidByText := true, laidKinds := [.data, .data, .data, .data, .sentinel, .sentinel, .pinned], laidTests := true, laidLooks := .later }
def FnExactReadLoopCardSaid : Prop := Claim7.holds Tryd.pinned (.plain (OpenSpec.ofChange fnExactReadLoopSpec)) fnExactReadLoopCard

/-- THE TIED CARD OF 'laws.FnExactNamedLoop'. -/
def fnExactNamedLoopCard : Claim7 := { stood := { row := fnExactNamedLoopRow, standIns := [], harness := (true, "55bc9d6dc8805fed71e2bba5fbeb6115e1ccb7329ff810385d365a808d729a91"), looks := true }, kinds := [], alts := [], laidByText := true, laidKinds := [.data, .data, .data, .data, .sentinel, .sentinel, .pinned], laidTests := true, laidLooks := .later }
def FnExactNamedLoopCardSaid : Prop := Claim7.holds Tryd.pinned (.plain (OpenSpec.ofChange fnExactNamedLoopSpec)) fnExactNamedLoopCard

/-- THE TIED CARD OF 'laws.FnExactDominoMoves'. -/
def fnExactDominoMovesCard : Claim7 := { stood := { row := fnExactDominoMovesRow, standIns := [], harness := (true, "55bc9d6dc8805fed71e2bba5fbeb6115e1ccb7329ff810385d365a808d729a91"), looks := true }, kinds := [], alts := [], laidByText := true, laidKinds := [.data, .pinned], laidTests := true, laidLooks := .later }
def FnExactDominoMovesCardSaid : Prop := Claim7.holds Tryd.pinned (.plain (OpenSpec.ofChange fnExactDominoMovesSpec)) fnExactDominoMovesCard

/-- THE SECOND FORM's CARD OF 'laws.FnExactLoopText'. -/
def fnExactLoopTextUptoCard : Claim7 := { stood := { row := fnExactLoopTextUptoRow, standIns := [], harness := (true, "55bc9d6dc8805fed71e2bba5fbeb6115e1ccb7329ff810385d365a808d729a91"), looks := true }, kinds := [], alts := [], laidByText := true, laidKinds := [.data, .data, .data], laidTests := true, laidLooks := .later }
def FnExactLoopTextUptoCardSaid : Prop := Claim7.holds Tryd.pinned (.plain (OpenSpec.upto fnExactLoopTextSpec)) fnExactLoopTextUptoCard

/-- THE SECOND FORM's CARD OF 'laws.FnExactReadLoop'. -/
def fnExactReadLoopUptoCard : Claim7 := { stood := { row := fnExactReadLoopUptoRow, standIns := [], harness := (true, "55bc9d6dc8805fed71e2bba5fbeb6115e1ccb7329ff810385d365a808d729a91"), looks := true }, kinds := [], alts := [], laidByText := true, laidKinds := [.data, .data, .data, .data, .sentinel, .sentinel, .pinned], laidTests := true, laidLooks := .later }
def FnExactReadLoopUptoCardSaid : Prop := Claim7.holds Tryd.pinned (.plain (OpenSpec.upto fnExactReadLoopSpec)) fnExactReadLoopUptoCard

/-- THE SECOND FORM's CARD OF 'laws.FnExactNamedLoop'. -/
def fnExactNamedLoopUptoCard : Claim7 := { stood := { row := fnExactNamedLoopUptoRow, standIns := [], harness := (true, "55bc9d6dc8805fed71e2bba5fbeb6115e1ccb7329ff810385d365a808d729a91"), looks := true }, kinds := [], alts := [], laidByText := true, laidKinds := [.data, .data, .data, .data, .sentinel, .sentinel, .pinned], laidTests := true, laidLooks := .later }
def FnExactNamedLoopUptoCardSaid : Prop := Claim7.holds Tryd.pinned (.plain (OpenSpec.upto fnExactNamedLoopSpec)) fnExactNamedLoopUptoCard

/-- THE SECOND FORM's CARD OF 'laws.FnExactDominoMoves'. -/
def fnExactDominoMovesUptoCard : Claim7 := { stood := { row := fnExactDominoMovesUptoRow, standIns := [], harness := (true, "55bc9d6dc8805fed71e2bba5fbeb6115e1ccb7329ff810385d365a808d729a91"), looks := true }, kinds := [], alts := [], laidByText := true, laidKinds := [.data, .pinned], laidTests := true, laidLooks := .later }
def FnExactDominoMovesUptoCardSaid : Prop := Claim7.holds Tryd.pinned (.plain (OpenSpec.upto fnExactDominoMovesSpec)) fnExactDominoMovesUptoCard
end Rows
end Go.Proofs.YtpcckakchpblcaaDoor
