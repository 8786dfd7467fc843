/-
  DERIVED. GIVEN WITH THE SEED: THE CARDS: each row of YtnodmhkacfcmfaaGreatDoorRows.lean that lists a variable, with what it lists TIED to the program's text (the seventh form; the later family's looks); each row that meets fmt, with fmt's text TOLD by the authors' own Lean function (tested against real Go, not proved from fmt's source: count such statements apart). THE CARD IS WHAT COUNTS. Prove the row's statement (the work); the ties are given (YtnodmhkacfcmfaaGreatDoorTie.lean); close each card by the builder's one call (the guide's Derived/Test/ToyasCard.lean, 'card_holds'). Laid BY PROGRAM, IN A SANDBOX (cutbox-door.mjs). By AI agents, Wed Nov 11 2026. No macro, syntax, notation, axiom, sorry.
-/
import Derived.Test.YtnodmhkacfcmfaaGreatDoorRows
import GoSem.ClaimSeven
namespace Go.Proofs.YtnodmhkacfcmfaaGreatDoor
namespace Rows

/-- THE TIED CARD OF 'savantlaw15.EvalFree'. -/
def evalFreeCard : Claim7 := { stood := { row := evalFreeRow, standIns := [], harness := (true, "2630178a57497ec3c1284727815d02b0ba80c3de8559587113968afbe5110be3"), looks := true }, kinds := [], alts := [], laidByText := true, laidKinds := [.data, .data, .data, .sentinel, .sentinel], laidTests := true, laidLooks := .later }
def EvalFreeCardSaid : Prop := Claim7.holds Tryz.pinned (.plain (OpenSpec.ofChange evalFreeSpec)) evalFreeCard

/-- THE SECOND FORM's CARD OF 'savantlaw15.EvalFree'. -/
def evalFreeUptoCard : Claim7 := { stood := { row := evalFreeUptoRow, standIns := [], harness := (true, "2630178a57497ec3c1284727815d02b0ba80c3de8559587113968afbe5110be3"), looks := true }, kinds := [], alts := [], laidByText := true, laidKinds := [.data, .data, .data, .sentinel, .sentinel], laidTests := true, laidLooks := .later }
def EvalFreeUptoCardSaid : Prop := Claim7.holds Tryz.pinned (.plain (OpenSpec.upto evalFreeSpec)) evalFreeUptoCard
end Rows
end Go.Proofs.YtnodmhkacfcmfaaGreatDoor
