/-
  DERIVED. GIVEN WITH THE SEED: THE CARDS: each row of YtijjcakbhnolhaaDoorRows.lean that lists a variable, with what it lists TIED to the program's text (the seventh form; the later family's looks); each row that meets fmt, with fmt's text TOLD by the authors' own Lean function (tested against real Go, not proved from fmt's source: count such statements apart). THE CARD IS WHAT COUNTS. Prove the row's statement (the work); the ties are given (YtijjcakbhnolhaaDoorTie.lean); close each card by the builder's one call (the guide's Derived/Test/ToyasCard.lean, 'card_holds'). Laid BY PROGRAM, IN A SANDBOX (cutbox-door.mjs). By AI agents, Wed Nov 11 2026. No macro, syntax, notation, axiom, sorry.
-/
import Derived.Test.YtijjcakbhnolhaaDoorRows
import GoSem.ClaimSeven
namespace Go.Proofs.YtijjcakbhnolhaaDoor
namespace Rows

/-- THE TIED CARD OF 'laws.FnExactDominoMoves'. -/
def fnExactDominoMovesCard : Claim7 := { stood := { row := fnExactDominoMovesRow, standIns := [], harness := (true, "6405090681cb87bed195f52e31bdde830992e020ec6fbe8089387aaa55148736"), looks := false }, kinds := [], alts := [], laidByText := true, laidKinds := [.data, .pinned], laidTests := true, laidLooks := .later }
def FnExactDominoMovesCardSaid : Prop := Claim7.holds Tryd.pinned (.plain (OpenSpec.ofChange fnExactDominoMovesSpec)) fnExactDominoMovesCard

/-- THE SECOND FORM's CARD OF 'laws.FnExactDominoMoves'. -/
def fnExactDominoMovesUptoCard : Claim7 := { stood := { row := fnExactDominoMovesUptoRow, standIns := [], harness := (true, "6405090681cb87bed195f52e31bdde830992e020ec6fbe8089387aaa55148736"), looks := false }, kinds := [], alts := [], laidByText := true, laidKinds := [.data, .pinned], laidTests := true, laidLooks := .later }
def FnExactDominoMovesUptoCardSaid : Prop := Claim7.holds Tryd.pinned (.plain (OpenSpec.upto fnExactDominoMovesSpec)) fnExactDominoMovesUptoCard
end Rows
end Go.Proofs.YtijjcakbhnolhaaDoor
