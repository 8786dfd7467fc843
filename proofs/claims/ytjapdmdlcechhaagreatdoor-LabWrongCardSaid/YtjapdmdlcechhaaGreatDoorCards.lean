/-
  DERIVED. GIVEN WITH THE SEED: THE CARDS: each row of YtjapdmdlcechhaaGreatDoorRows.lean that lists a variable, with what it lists TIED to the program's text (the seventh form; the later family's looks); each row that meets fmt, with fmt's text TOLD by the authors' own Lean function (tested against real Go, not proved from fmt's source: count such statements apart). THE CARD IS WHAT COUNTS. Prove the row's statement (the work); the ties are given (YtjapdmdlcechhaaGreatDoorTie.lean); close each card by the builder's one call (the guide's Derived/Test/ToyasCard.lean, 'card_holds'). Laid BY PROGRAM, IN A SANDBOX (cutbox-door.mjs). By AI agents, Wed Nov 11 2026. No macro, syntax, notation, axiom, sorry.
-/
import Derived.Test.YtjapdmdlcechhaaGreatDoorRows
import GoSem.ClaimSeven
namespace Go.Proofs.YtjapdmdlcechhaaGreatDoor
namespace Rows

/-- THE TIED CARD OF 'savanttop.TopPlain'. -/
def topPlainCard : Claim7 := { stood := { row := topPlainRow, standIns := [], harness := (true, "92766c9f07f105980cfd16d06733abaa19b266a48f195e2da708ecdf1689b6e1"), looks := true }, kinds := [], alts := [], laidByText := true, laidKinds := [.data, .data, .data, .sentinel, .sentinel], laidTests := true, laidLooks := .later }
def TopPlainCardSaid : Prop := Claim7.holds Tryz.pinned (.plain (OpenSpec.ofChange topPlainSpec)) topPlainCard

/-- THE TIED CARD OF 'savantlaw21.LabWrong'. -/
def labWrongCard : Claim7 := { stood := { row := labWrongRow, standIns := [], harness := (true, "92766c9f07f105980cfd16d06733abaa19b266a48f195e2da708ecdf1689b6e1"), looks := true }, kinds := [], alts := [], laidByText := true, laidKinds := [.data, .data, .data, .data, .sentinel, .sentinel, .pinned], laidTests := true, laidLooks := .later }
def LabWrongCardSaid : Prop := Claim7.holds Tryz.pinned (.plain (OpenSpec.ofChange labWrongSpec)) labWrongCard

/-- THE SECOND FORM's CARD OF 'savanttop.TopPlain'. -/
def topPlainUptoCard : Claim7 := { stood := { row := topPlainUptoRow, standIns := [], harness := (true, "92766c9f07f105980cfd16d06733abaa19b266a48f195e2da708ecdf1689b6e1"), looks := true }, kinds := [], alts := [], laidByText := true, laidKinds := [.data, .data, .data, .sentinel, .sentinel], laidTests := true, laidLooks := .later }
def TopPlainUptoCardSaid : Prop := Claim7.holds Tryz.pinned (.plain (OpenSpec.upto topPlainSpec)) topPlainUptoCard

/-- THE SECOND FORM's CARD OF 'savantlaw21.LabWrong'. -/
def labWrongUptoCard : Claim7 := { stood := { row := labWrongUptoRow, standIns := [], harness := (true, "92766c9f07f105980cfd16d06733abaa19b266a48f195e2da708ecdf1689b6e1"), looks := true }, kinds := [], alts := [], laidByText := true, laidKinds := [.data, .data, .data, .data, .sentinel, .sentinel, .pinned], laidTests := true, laidLooks := .later }
def LabWrongUptoCardSaid : Prop := Claim7.holds Tryz.pinned (.plain (OpenSpec.upto labWrongSpec)) labWrongUptoCard
end Rows
end Go.Proofs.YtjapdmdlcechhaaGreatDoor
