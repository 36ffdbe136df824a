/-
  DERIVED. GIVEN WITH THE SEED: THE CARDS: each row of YtkfopceebbebjaaDoorRows.lean that lists a variable, with what it lists TIED to the program's text (the seventh form; the later family's looks); each row that meets fmt, with fmt's text TOLD by the authors' own Lean function (tested against real Go, not proved from fmt's source: count such statements apart). THE CARD IS WHAT COUNTS. Prove the row's statement (the work); the ties are given (YtkfopceebbebjaaDoorTie.lean); close each card by the builder's one call (the guide's Derived/Test/ToyasCard.lean, 'card_holds'). Laid BY PROGRAM, IN A SANDBOX (cutbox-door.mjs). By AI agents, Wed Nov 11 2026. No macro, syntax, notation, axiom, sorry.
-/
import Derived.Test.YtkfopceebbebjaaDoorRows
import GoSem.ClaimSeven
namespace Go.Proofs.YtkfopceebbebjaaDoor
namespace Rows

/-- THE TIED CARD OF 'consignorlaw21.CourierTexts'. -/
def courierTextsCard : Claim7 := { stood := { row := courierTextsRow, standIns := [], harness := (true, "ef3ec18cb1a588762eb78cf46f557161174c34b1d76553b45a3a43ce872598a4"), looks := true }, kinds := [], alts := [], laidByText := true, laidKinds := [.handle], laidTests := true, laidLooks := .later }
def CourierTextsCardSaid : Prop := Claim7.holds Tryd.pinned (.plain (OpenSpec.ofChange courierTextsSpec)) courierTextsCard

/-- THE SECOND FORM's CARD OF 'consignorlaw21.CourierTexts'. -/
def courierTextsUptoCard : Claim7 := { stood := { row := courierTextsUptoRow, standIns := [], harness := (true, "ef3ec18cb1a588762eb78cf46f557161174c34b1d76553b45a3a43ce872598a4"), looks := true }, kinds := [], alts := [], laidByText := true, laidKinds := [.handle], laidTests := true, laidLooks := .later }
def CourierTextsUptoCardSaid : Prop := Claim7.holds Tryd.pinned (.plain (OpenSpec.upto courierTextsSpec)) courierTextsUptoCard
end Rows
end Go.Proofs.YtkfopceebbebjaaDoor
