/-
  DERIVED. GIVEN WITH THE SEED: THE CARDS: each row of YtpcckakchpblcaaGreatDoorRows.lean that lists a variable, with what it lists TIED to the program's text (the seventh form; the later family's looks); each row that meets fmt, with fmt's text TOLD by the authors' own Lean function (tested against real Go, not proved from fmt's source: count such statements apart). THE CARD IS WHAT COUNTS. Prove the row's statement (the work); the ties are given (YtpcckakchpblcaaGreatDoorTie.lean); close each card by the builder's one call (the guide's Derived/Test/ToyasCard.lean, 'card_holds'). Laid BY PROGRAM, IN A SANDBOX (cutbox-door.mjs). By AI agents, Wed Nov 11 2026. No macro, syntax, notation, axiom, sorry.
-/
import Derived.Test.YtpcckakchpblcaaGreatDoorRows
import GoSem.ClaimSeven
namespace Go.Proofs.YtpcckakchpblcaaGreatDoor
namespace Rows

/-- THE TIED CARD OF 'laws.FnLoopTexts'. -/
def fnLoopTextsCard : Claim7 := { stood := { row := fnLoopTextsRow, standIns := [], harness := (true, "ad2d4264fb6ea46751bb90b8b4442dd2033029a210b5cf9e07734a799730933f"), looks := true }, kinds := [], alts := [], laidByText := true, laidKinds := [.data, .data, .data, .data, .sentinel, .sentinel, .pinned], laidTests := true, laidLooks := .later }
def FnLoopTextsCardSaid : Prop := Claim7.holds Tryz.pinned (.plain (OpenSpec.ofChange fnLoopTextsSpec)) fnLoopTextsCard

/-- THE TIED CARD OF 'laws.FnStoppers'. -/
def fnStoppersCard : Claim7 := { stood := { row := fnStoppersRow, standIns := [], harness := (true, "ad2d4264fb6ea46751bb90b8b4442dd2033029a210b5cf9e07734a799730933f"), looks := true }, kinds := [], alts := [], laidByText := true, laidKinds := [.data, .data, .data, .data, .sentinel, .sentinel, .pinned], laidTests := true, laidLooks := .later }
def FnStoppersCardSaid : Prop := Claim7.holds Tryz.pinned (.plain (OpenSpec.ofChange fnStoppersSpec)) fnStoppersCard

/-- THE SECOND FORM's CARD OF 'laws.FnLoopTexts'. -/
def fnLoopTextsUptoCard : Claim7 := { stood := { row := fnLoopTextsUptoRow, standIns := [], harness := (true, "ad2d4264fb6ea46751bb90b8b4442dd2033029a210b5cf9e07734a799730933f"), looks := true }, kinds := [], alts := [], laidByText := true, laidKinds := [.data, .data, .data, .data, .sentinel, .sentinel, .pinned], laidTests := true, laidLooks := .later }
def FnLoopTextsUptoCardSaid : Prop := Claim7.holds Tryz.pinned (.plain (OpenSpec.upto fnLoopTextsSpec)) fnLoopTextsUptoCard

/-- THE SECOND FORM's CARD OF 'laws.FnStoppers'. -/
def fnStoppersUptoCard : Claim7 := { stood := { row := fnStoppersUptoRow, standIns := [], harness := (true, "ad2d4264fb6ea46751bb90b8b4442dd2033029a210b5cf9e07734a799730933f"), looks := true }, kinds := [], alts := [], laidByText := true, laidKinds := [.data, .data, .data, .data, .sentinel, .sentinel, .pinned], laidTests := true, laidLooks := .later }
def FnStoppersUptoCardSaid : Prop := Claim7.holds Tryz.pinned (.plain (OpenSpec.upto fnStoppersSpec)) fnStoppersUptoCard
end Rows
end Go.Proofs.YtpcckakchpblcaaGreatDoor
