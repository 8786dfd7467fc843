/-
  DERIVED. GIVEN WITH THE SEED: THE CARDS: each row of YtjfghnkmladbkaaGreatDoorRows.lean that lists a variable, with what it lists TIED to the program's text (the seventh form; the later family's looks); each row that meets fmt, with fmt's text TOLD by the authors' own Lean function (tested against real Go, not proved from fmt's source: count such statements apart). THE CARD IS WHAT COUNTS. Prove the row's statement (the work); the ties are given (YtjfghnkmladbkaaGreatDoorTie.lean); close each card by the builder's one call (the guide's Derived/Test/ToyasCard.lean, 'card_holds'). Laid BY PROGRAM, IN A SANDBOX (cutbox-door.mjs). By AI agents, Wed Nov 11 2026. No macro, syntax, notation, axiom, sorry.
-/
import Derived.Test.YtjfghnkmladbkaaGreatDoorRows
import GoSem.ClaimSeven
namespace Go.Proofs.YtjfghnkmladbkaaGreatDoor
namespace Rows

/-- THE TIED CARD OF 'savantlaw12.FcPutsTerms'. -/
def fcPutsTermsCard : Claim7 := { stood := { row := fcPutsTermsRow, standIns := [], harness := (true, "aef621ac9192f1c97c022e7ad9f99f3dad908f8823d13b5532d0722d6253f575"), looks := true }, kinds := [], alts := [], laidByText := true, laidKinds := [.data, .data, .data, .sentinel, .sentinel], laidTests := true, laidLooks := .later }
def FcPutsTermsCardSaid : Prop := Claim7.holds Tryz.pinned (.plain (OpenSpec.ofChange fcPutsTermsSpec)) fcPutsTermsCard

/-- THE TIED CARD OF 'savantlaw12.FcPutsProofs'. -/
def fcPutsProofsCard : Claim7 := { stood := { row := fcPutsProofsRow, standIns := [], harness := (true, "aef621ac9192f1c97c022e7ad9f99f3dad908f8823d13b5532d0722d6253f575"), looks := true }, kinds := [], alts := [], laidByText := true, laidKinds := [.data, .data, .data, .sentinel, .sentinel], laidTests := true, laidLooks := .later }
def FcPutsProofsCardSaid : Prop := Claim7.holds Tryz.pinned (.plain (OpenSpec.ofChange fcPutsProofsSpec)) fcPutsProofsCard

/-- THE TIED CARD OF 'savantlaw11.DeclsPlays'. -/
def declsPlaysCard : Claim7 := { stood := { row := declsPlaysRow, standIns := [], harness := (true, "aef621ac9192f1c97c022e7ad9f99f3dad908f8823d13b5532d0722d6253f575"), looks := true }, kinds := [], alts := [], laidByText := true, laidKinds := [.data, .data, .data, .sentinel, .sentinel], laidTests := true, laidLooks := .later }
def DeclsPlaysCardSaid : Prop := Claim7.holds Tryz.pinned (.plain (OpenSpec.ofChange declsPlaysSpec)) declsPlaysCard

/-- THE TIED CARD OF 'savantlaw11.DeclsSignatures'. -/
def declsSignaturesCard : Claim7 := { stood := { row := declsSignaturesRow, standIns := [], harness := (true, "aef621ac9192f1c97c022e7ad9f99f3dad908f8823d13b5532d0722d6253f575"), looks := true }, kinds := [], alts := [], laidByText := true, laidKinds := [.data, .data, .data, .sentinel, .sentinel], laidTests := true, laidLooks := .later }
def DeclsSignaturesCardSaid : Prop := Claim7.holds Tryz.pinned (.plain (OpenSpec.ofChange declsSignaturesSpec)) declsSignaturesCard

/-- THE TIED CARD OF 'savantlaw11.DeclsTypes'. -/
def declsTypesCard : Claim7 := { stood := { row := declsTypesRow, standIns := [], harness := (true, "aef621ac9192f1c97c022e7ad9f99f3dad908f8823d13b5532d0722d6253f575"), looks := true }, kinds := [], alts := [], laidByText := true, laidKinds := [.data, .data, .data, .sentinel, .sentinel], laidTests := true, laidLooks := .later }
def DeclsTypesCardSaid : Prop := Claim7.holds Tryz.pinned (.plain (OpenSpec.ofChange declsTypesSpec)) declsTypesCard

/-- THE TIED CARD OF 'savantlaw11.DeclsWhole'. -/
def declsWholeCard : Claim7 := { stood := { row := declsWholeRow, standIns := [], harness := (true, "aef621ac9192f1c97c022e7ad9f99f3dad908f8823d13b5532d0722d6253f575"), looks := true }, kinds := [], alts := [], laidByText := true, laidKinds := [.data, .data, .data, .sentinel, .sentinel], laidTests := true, laidLooks := .later }
def DeclsWholeCardSaid : Prop := Claim7.holds Tryz.pinned (.plain (OpenSpec.ofChange declsWholeSpec)) declsWholeCard

/-- THE SECOND FORM's CARD OF 'savantlaw12.FcPutsTerms'. -/
def fcPutsTermsUptoCard : Claim7 := { stood := { row := fcPutsTermsUptoRow, standIns := [], harness := (true, "aef621ac9192f1c97c022e7ad9f99f3dad908f8823d13b5532d0722d6253f575"), looks := true }, kinds := [], alts := [], laidByText := true, laidKinds := [.data, .data, .data, .sentinel, .sentinel], laidTests := true, laidLooks := .later }
def FcPutsTermsUptoCardSaid : Prop := Claim7.holds Tryz.pinned (.plain (OpenSpec.upto fcPutsTermsSpec)) fcPutsTermsUptoCard

/-- THE SECOND FORM's CARD OF 'savantlaw12.FcPutsProofs'. -/
def fcPutsProofsUptoCard : Claim7 := { stood := { row := fcPutsProofsUptoRow, standIns := [], harness := (true, "aef621ac9192f1c97c022e7ad9f99f3dad908f8823d13b5532d0722d6253f575"), looks := true }, kinds := [], alts := [], laidByText := true, laidKinds := [.data, .data, .data, .sentinel, .sentinel], laidTests := true, laidLooks := .later }
def FcPutsProofsUptoCardSaid : Prop := Claim7.holds Tryz.pinned (.plain (OpenSpec.upto fcPutsProofsSpec)) fcPutsProofsUptoCard

/-- THE SECOND FORM's CARD OF 'savantlaw11.DeclsPlays'. -/
def declsPlaysUptoCard : Claim7 := { stood := { row := declsPlaysUptoRow, standIns := [], harness := (true, "aef621ac9192f1c97c022e7ad9f99f3dad908f8823d13b5532d0722d6253f575"), looks := true }, kinds := [], alts := [], laidByText := true, laidKinds := [.data, .data, .data, .sentinel, .sentinel], laidTests := true, laidLooks := .later }
def DeclsPlaysUptoCardSaid : Prop := Claim7.holds Tryz.pinned (.plain (OpenSpec.upto declsPlaysSpec)) declsPlaysUptoCard

/-- THE SECOND FORM's CARD OF 'savantlaw11.DeclsSignatures'. -/
def declsSignaturesUptoCard : Claim7 := { stood := { row := declsSignaturesUptoRow, standIns := [], harness := (true, "aef621ac9192f1c97c022e7ad9f99f3dad908f8823d13b5532d0722d6253f575"), looks := true }, kinds := [], alts := [], laidByText := true, laidKinds := [.data, .data, .data, .sentinel, .sentinel], laidTests := true, laidLooks := .later }
def DeclsSignaturesUptoCardSaid : Prop := Claim7.holds Tryz.pinned (.plain (OpenSpec.upto declsSignaturesSpec)) declsSignaturesUptoCard

/-- THE SECOND FORM's CARD OF 'savantlaw11.DeclsTypes'. -/
def declsTypesUptoCard : Claim7 := { stood := { row := declsTypesUptoRow, standIns := [], harness := (true, "aef621ac9192f1c97c022e7ad9f99f3dad908f8823d13b5532d0722d6253f575"), looks := true }, kinds := [], alts := [], laidByText := true, laidKinds := [.data, .data, .data, .sentinel, .sentinel], laidTests := true, laidLooks := .later }
def DeclsTypesUptoCardSaid : Prop := Claim7.holds Tryz.pinned (.plain (OpenSpec.upto declsTypesSpec)) declsTypesUptoCard

/-- THE SECOND FORM's CARD OF 'savantlaw11.DeclsWhole'. -/
def declsWholeUptoCard : Claim7 := { stood := { row := declsWholeUptoRow, standIns := [], harness := (true, "aef621ac9192f1c97c022e7ad9f99f3dad908f8823d13b5532d0722d6253f575"), looks := true }, kinds := [], alts := [], laidByText := true, laidKinds := [.data, .data, .data, .sentinel, .sentinel], laidTests := true, laidLooks := .later }
def DeclsWholeUptoCardSaid : Prop := Claim7.holds Tryz.pinned (.plain (OpenSpec.upto declsWholeSpec)) declsWholeUptoCard
end Rows
end Go.Proofs.YtjfghnkmladbkaaGreatDoor
