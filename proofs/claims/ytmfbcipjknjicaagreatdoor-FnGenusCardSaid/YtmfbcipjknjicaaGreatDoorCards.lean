/-
  DERIVED. GIVEN WITH THE SEED: THE CARDS: each row of YtmfbcipjknjicaaGreatDoorRows.lean that lists a variable, with what it lists TIED to the program's text (the seventh form; the later family's looks); each row that meets fmt, with fmt's text TOLD by the authors' own Lean function (tested against real Go, not proved from fmt's source: count such statements apart). THE CARD IS WHAT COUNTS. Prove the row's statement (the work); the ties are given (YtmfbcipjknjicaaGreatDoorTie.lean); close each card by the builder's one call (the guide's Derived/Test/ToyasCard.lean, 'card_holds'). Laid BY PROGRAM, IN A SANDBOX (cutbox-door.mjs). By AI agents, Wed Nov 11 2026. No macro, syntax, notation, axiom, sorry.
-/
import Derived.Test.YtmfbcipjknjicaaGreatDoorRows
import GoSem.ClaimSeven
namespace Go.Proofs.YtmfbcipjknjicaaGreatDoor
namespace Rows

/-- THE TIED CARD OF 'laws.FnQuotients'. -/
def fnQuotientsCard : Claim7 := { stood := { row := fnQuotientsRow, standIns := [], harness := (true, "e0b31971bc4db8a2284720ec797a50c62c4ee0f7c18a1c83c8c2eca26e538bc0"), looks := false }, kinds := [], alts := [], laidByText := true, laidKinds := [.data, .data, .data], laidTests := true, laidLooks := .later }
def FnQuotientsCardSaid : Prop := Claim7.holds Tryz.pinned (.plain (OpenSpec.ofChange fnQuotientsSpec)) fnQuotientsCard

/-- THE TIED CARD OF 'laws.FnGenus'. -/
def fnGenusCard : Claim7 := { stood := { row := fnGenusRow, standIns := [], harness := (true, "e0b31971bc4db8a2284720ec797a50c62c4ee0f7c18a1c83c8c2eca26e538bc0"), looks := false }, kinds := [], alts := [], laidByText := true, laidKinds := [.data, .data, .data], laidTests := true, laidLooks := .later }
def FnGenusCardSaid : Prop := Claim7.holds Tryz.pinned (.plain (OpenSpec.ofChange fnGenusSpec)) fnGenusCard

/-- THE TIED CARD OF 'laws.FnExactQuotientText'. -/
def fnExactQuotientTextCard : Claim7 := { stood := { row := fnExactQuotientTextRow, standIns := [], harness := (true, "e0b31971bc4db8a2284720ec797a50c62c4ee0f7c18a1c83c8c2eca26e538bc0"), looks := false }, kinds := [], alts := [], laidByText := true, laidKinds := [.data, .data, .data], laidTests := true, laidLooks := .later }
def FnExactQuotientTextCardSaid : Prop := Claim7.holds Tryz.pinned (.plain (OpenSpec.ofChange fnExactQuotientTextSpec)) fnExactQuotientTextCard

/-- THE SECOND FORM's CARD OF 'laws.FnQuotients'. -/
def fnQuotientsUptoCard : Claim7 := { stood := { row := fnQuotientsUptoRow, standIns := [], harness := (true, "e0b31971bc4db8a2284720ec797a50c62c4ee0f7c18a1c83c8c2eca26e538bc0"), looks := false }, kinds := [], alts := [], laidByText := true, laidKinds := [.data, .data, .data], laidTests := true, laidLooks := .later }
def FnQuotientsUptoCardSaid : Prop := Claim7.holds Tryz.pinned (.plain (OpenSpec.upto fnQuotientsSpec)) fnQuotientsUptoCard

/-- THE SECOND FORM's CARD OF 'laws.FnGenus'. -/
def fnGenusUptoCard : Claim7 := { stood := { row := fnGenusUptoRow, standIns := [], harness := (true, "e0b31971bc4db8a2284720ec797a50c62c4ee0f7c18a1c83c8c2eca26e538bc0"), looks := false }, kinds := [], alts := [], laidByText := true, laidKinds := [.data, .data, .data], laidTests := true, laidLooks := .later }
def FnGenusUptoCardSaid : Prop := Claim7.holds Tryz.pinned (.plain (OpenSpec.upto fnGenusSpec)) fnGenusUptoCard

/-- THE SECOND FORM's CARD OF 'laws.FnExactQuotientText'. -/
def fnExactQuotientTextUptoCard : Claim7 := { stood := { row := fnExactQuotientTextUptoRow, standIns := [], harness := (true, "e0b31971bc4db8a2284720ec797a50c62c4ee0f7c18a1c83c8c2eca26e538bc0"), looks := false }, kinds := [], alts := [], laidByText := true, laidKinds := [.data, .data, .data], laidTests := true, laidLooks := .later }
def FnExactQuotientTextUptoCardSaid : Prop := Claim7.holds Tryz.pinned (.plain (OpenSpec.upto fnExactQuotientTextSpec)) fnExactQuotientTextUptoCard
end Rows
end Go.Proofs.YtmfbcipjknjicaaGreatDoor
