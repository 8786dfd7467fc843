/-
  DERIVED. GIVEN WITH THE SEED: THE CARDS: each row of YtofblkofhgbefaaGreatDoorRows.lean that lists a variable, with what it lists TIED to the program's text (the seventh form; the later family's looks); each row that meets fmt, with fmt's text TOLD by the authors' own Lean function (tested against real Go, not proved from fmt's source: count such statements apart). THE CARD IS WHAT COUNTS. Prove the row's statement (the work); the ties are given (YtofblkofhgbefaaGreatDoorTie.lean); close each card by the builder's one call (the guide's Derived/Test/ToyasCard.lean, 'card_holds'). Laid BY PROGRAM, IN A SANDBOX (cutbox-door.mjs). By AI agents, Wed Nov 11 2026. No macro, syntax, notation, axiom, sorry.
-/
import Derived.Test.YtofblkofhgbefaaGreatDoorRows
import GoSem.ClaimSeven
namespace Go.Proofs.YtofblkofhgbefaaGreatDoor
namespace Rows

/-- THE TIED CARD OF 'savantlaw12.FcReads'. -/
def fcReadsCard : Claim7 := { stood := { row := fcReadsRow, standIns := [], harness := (true, "27e577081f3723af76f5c755106d9c5616a44a70a7156d79ba09a50de91ad58d"), looks := true }, kinds := [], alts := [], laidByText := true, laidKinds := [.data, .data, .data, .sentinel, .sentinel], laidTests := true, laidLooks := .later }
def FcReadsCardSaid : Prop := Claim7.holds Tryz.pinned (.plain (OpenSpec.ofChange fcReadsSpec)) fcReadsCard

/-- THE TIED CARD OF 'savantlaw12.FcTerms'. -/
def fcTermsCard : Claim7 := { stood := { row := fcTermsRow, standIns := [], harness := (true, "27e577081f3723af76f5c755106d9c5616a44a70a7156d79ba09a50de91ad58d"), looks := true }, kinds := [], alts := [], laidByText := true, laidKinds := [.data, .data, .data, .sentinel, .sentinel], laidTests := true, laidLooks := .later }
def FcTermsCardSaid : Prop := Claim7.holds Tryz.pinned (.plain (OpenSpec.ofChange fcTermsSpec)) fcTermsCard

/-- THE TIED CARD OF 'savantlaw14.EraseTerms'. -/
def eraseTermsCard : Claim7 := { stood := { row := eraseTermsRow, standIns := [], harness := (true, "27e577081f3723af76f5c755106d9c5616a44a70a7156d79ba09a50de91ad58d"), looks := true }, kinds := [], alts := [], laidByText := true, laidKinds := [.data, .data, .data, .sentinel, .sentinel], laidTests := true, laidLooks := .later }
def EraseTermsCardSaid : Prop := Claim7.holds Tryz.pinned (.plain (OpenSpec.ofChange eraseTermsSpec)) eraseTermsCard

/-- THE TIED CARD OF 'savantlaw14.EraseSources'. -/
def eraseSourcesCard : Claim7 := { stood := { row := eraseSourcesRow, standIns := [], harness := (true, "27e577081f3723af76f5c755106d9c5616a44a70a7156d79ba09a50de91ad58d"), looks := true }, kinds := [], alts := [], laidByText := true, laidKinds := [.data, .data, .data, .sentinel, .sentinel], laidTests := true, laidLooks := .later }
def EraseSourcesCardSaid : Prop := Claim7.holds Tryz.pinned (.plain (OpenSpec.ofChange eraseSourcesSpec)) eraseSourcesCard

/-- THE TIED CARD OF 'savantlaw14.EraseSmaller'. -/
def eraseSmallerCard : Claim7 := { stood := { row := eraseSmallerRow, standIns := [], harness := (true, "27e577081f3723af76f5c755106d9c5616a44a70a7156d79ba09a50de91ad58d"), looks := true }, kinds := [], alts := [], laidByText := true, laidKinds := [.data, .data, .data, .sentinel, .sentinel], laidTests := true, laidLooks := .later }
def EraseSmallerCardSaid : Prop := Claim7.holds Tryz.pinned (.plain (OpenSpec.ofChange eraseSmallerSpec)) eraseSmallerCard

/-- THE TIED CARD OF 'savantlaw12.FcPutsTerms'. -/
def fcPutsTermsCard : Claim7 := { stood := { row := fcPutsTermsRow, standIns := [], harness := (true, "27e577081f3723af76f5c755106d9c5616a44a70a7156d79ba09a50de91ad58d"), looks := true }, kinds := [], alts := [], laidByText := true, laidKinds := [.data, .data, .data, .sentinel, .sentinel], laidTests := true, laidLooks := .later }
def FcPutsTermsCardSaid : Prop := Claim7.holds Tryz.pinned (.plain (OpenSpec.ofChange fcPutsTermsSpec)) fcPutsTermsCard

/-- THE TIED CARD OF 'savantlaw12.FcPutsProofs'. -/
def fcPutsProofsCard : Claim7 := { stood := { row := fcPutsProofsRow, standIns := [], harness := (true, "27e577081f3723af76f5c755106d9c5616a44a70a7156d79ba09a50de91ad58d"), looks := true }, kinds := [], alts := [], laidByText := true, laidKinds := [.data, .data, .data, .sentinel, .sentinel], laidTests := true, laidLooks := .later }
def FcPutsProofsCardSaid : Prop := Claim7.holds Tryz.pinned (.plain (OpenSpec.ofChange fcPutsProofsSpec)) fcPutsProofsCard

/-- THE SECOND FORM's CARD OF 'savantlaw12.FcReads'. -/
def fcReadsUptoCard : Claim7 := { stood := { row := fcReadsUptoRow, standIns := [], harness := (true, "27e577081f3723af76f5c755106d9c5616a44a70a7156d79ba09a50de91ad58d"), looks := true }, kinds := [], alts := [], laidByText := true, laidKinds := [.data, .data, .data, .sentinel, .sentinel], laidTests := true, laidLooks := .later }
def FcReadsUptoCardSaid : Prop := Claim7.holds Tryz.pinned (.plain (OpenSpec.upto fcReadsSpec)) fcReadsUptoCard

/-- THE SECOND FORM's CARD OF 'savantlaw12.FcTerms'. -/
def fcTermsUptoCard : Claim7 := { stood := { row := fcTermsUptoRow, standIns := [], harness := (true, "27e577081f3723af76f5c755106d9c5616a44a70a7156d79ba09a50de91ad58d"), looks := true }, kinds := [], alts := [], laidByText := true, laidKinds := [.data, .data, .data, .sentinel, .sentinel], laidTests := true, laidLooks := .later }
def FcTermsUptoCardSaid : Prop := Claim7.holds Tryz.pinned (.plain (OpenSpec.upto fcTermsSpec)) fcTermsUptoCard

/-- THE SECOND FORM's CARD OF 'savantlaw14.EraseTerms'. -/
def eraseTermsUptoCard : Claim7 := { stood := { row := eraseTermsUptoRow, standIns := [], harness := (true, "27e577081f3723af76f5c755106d9c5616a44a70a7156d79ba09a50de91ad58d"), looks := true }, kinds := [], alts := [], laidByText := true, laidKinds := [.data, .data, .data, .sentinel, .sentinel], laidTests := true, laidLooks := .later }
def EraseTermsUptoCardSaid : Prop := Claim7.holds Tryz.pinned (.plain (OpenSpec.upto eraseTermsSpec)) eraseTermsUptoCard

/-- THE SECOND FORM's CARD OF 'savantlaw14.EraseSources'. -/
def eraseSourcesUptoCard : Claim7 := { stood := { row := eraseSourcesUptoRow, standIns := [], harness := (true, "27e577081f3723af76f5c755106d9c5616a44a70a7156d79ba09a50de91ad58d"), looks := true }, kinds := [], alts := [], laidByText := true, laidKinds := [.data, .data, .data, .sentinel, .sentinel], laidTests := true, laidLooks := .later }
def EraseSourcesUptoCardSaid : Prop := Claim7.holds Tryz.pinned (.plain (OpenSpec.upto eraseSourcesSpec)) eraseSourcesUptoCard

/-- THE SECOND FORM's CARD OF 'savantlaw14.EraseSmaller'. -/
def eraseSmallerUptoCard : Claim7 := { stood := { row := eraseSmallerUptoRow, standIns := [], harness := (true, "27e577081f3723af76f5c755106d9c5616a44a70a7156d79ba09a50de91ad58d"), looks := true }, kinds := [], alts := [], laidByText := true, laidKinds := [.data, .data, .data, .sentinel, .sentinel], laidTests := true, laidLooks := .later }
def EraseSmallerUptoCardSaid : Prop := Claim7.holds Tryz.pinned (.plain (OpenSpec.upto eraseSmallerSpec)) eraseSmallerUptoCard

/-- THE SECOND FORM's CARD OF 'savantlaw12.FcPutsTerms'. -/
def fcPutsTermsUptoCard : Claim7 := { stood := { row := fcPutsTermsUptoRow, standIns := [], harness := (true, "27e577081f3723af76f5c755106d9c5616a44a70a7156d79ba09a50de91ad58d"), looks := true }, kinds := [], alts := [], laidByText := true, laidKinds := [.data, .data, .data, .sentinel, .sentinel], laidTests := true, laidLooks := .later }
def FcPutsTermsUptoCardSaid : Prop := Claim7.holds Tryz.pinned (.plain (OpenSpec.upto fcPutsTermsSpec)) fcPutsTermsUptoCard

/-- THE SECOND FORM's CARD OF 'savantlaw12.FcPutsProofs'. -/
def fcPutsProofsUptoCard : Claim7 := { stood := { row := fcPutsProofsUptoRow, standIns := [], harness := (true, "27e577081f3723af76f5c755106d9c5616a44a70a7156d79ba09a50de91ad58d"), looks := true }, kinds := [], alts := [], laidByText := true, laidKinds := [.data, .data, .data, .sentinel, .sentinel], laidTests := true, laidLooks := .later }
def FcPutsProofsUptoCardSaid : Prop := Claim7.holds Tryz.pinned (.plain (OpenSpec.upto fcPutsProofsSpec)) fcPutsProofsUptoCard
end Rows
end Go.Proofs.YtofblkofhgbefaaGreatDoor
