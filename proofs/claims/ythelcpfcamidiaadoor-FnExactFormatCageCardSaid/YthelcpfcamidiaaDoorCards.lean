/-
  DERIVED. GIVEN WITH THE SEED: THE CARDS: each row of YthelcpfcamidiaaDoorRows.lean that lists a variable, with what it lists TIED to the program's text (the seventh form; the later family's looks); each row that meets fmt, with fmt's text TOLD by the authors' own Lean function (tested against real Go, not proved from fmt's source: count such statements apart). THE CARD IS WHAT COUNTS. Prove the row's statement (the work); the ties are given (YthelcpfcamidiaaDoorTie.lean); close each card by the builder's one call (the guide's Derived/Test/ToyasCard.lean, 'card_holds'). Laid BY PROGRAM, IN A SANDBOX (cutbox-door.mjs). By AI agents, Wed Nov 11 2026. No macro, syntax, notation, axiom, sorry.
-/
import Derived.Test.YthelcpfcamidiaaDoorRows
import GoSem.ClaimSeven
namespace Go.Proofs.YthelcpfcamidiaaDoor
namespace Rows

/-- THE TIED CARD OF 'laws.FnExactFormatCage'. -/
def fnExactFormatCageCard : Claim7 := { stood := { row := fnExactFormatCageRow, standIns := [], harness := (true, "123c1cbef9ce94d571edd5c1620491e116ef38b3defb55f8aba8cca5296cba28"), looks := false }, kinds := [], alts := [], laidByText := true, laidKinds := [.data, .data, .data], laidTests := true, laidLooks := .later }
def FnExactFormatCageCardSaid : Prop := Claim7.holds Tryd.pinned (.plain (OpenSpec.ofChange fnExactFormatCageSpec)) fnExactFormatCageCard

/-- THE SECOND FORM's CARD OF 'laws.FnExactFormatCage'. -/
def fnExactFormatCageUptoCard : Claim7 := { stood := { row := fnExactFormatCageUptoRow, standIns := [], harness := (true, "123c1cbef9ce94d571edd5c1620491e116ef38b3defb55f8aba8cca5296cba28"), looks := false }, kinds := [], alts := [], laidByText := true, laidKinds := [.data, .data, .data], laidTests := true, laidLooks := .later }
def FnExactFormatCageUptoCardSaid : Prop := Claim7.holds Tryd.pinned (.plain (OpenSpec.upto fnExactFormatCageSpec)) fnExactFormatCageUptoCard
end Rows
end Go.Proofs.YthelcpfcamidiaaDoor
