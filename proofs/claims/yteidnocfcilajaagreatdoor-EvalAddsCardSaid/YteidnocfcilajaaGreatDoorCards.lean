/-
  DERIVED. GIVEN WITH THE SEED: THE CARDS: each row of YteidnocfcilajaaGreatDoorRows.lean that lists a variable, with what it lists TIED to the program's text (the seventh form; the later family's looks); each row that meets fmt, with fmt's text TOLD by the authors' own Lean function (tested against real Go, not proved from fmt's source: count such statements apart). THE CARD IS WHAT COUNTS. Prove the row's statement (the work); the ties are given (YteidnocfcilajaaGreatDoorTie.lean); close each card by the builder's one call (the guide's Derived/Test/ToyasCard.lean, 'card_holds'). Laid BY PROGRAM, IN A SANDBOX (cutbox-door.mjs). By AI agents, Wed Nov 11 2026. No macro, syntax, notation, axiom, sorry.
-/
import Derived.Test.YteidnocfcilajaaGreatDoorRows
import GoSem.ClaimSeven
namespace Go.Proofs.YteidnocfcilajaaGreatDoor
namespace Rows

/-- THE TIED CARD OF 'savantlaw08.SyntaxReads'. -/
def syntaxReadsCard : Claim7 := { stood := { row := syntaxReadsRow, standIns := [], harness := (true, "46edd0fc9264848bb0a54edaff019cfb84f1b3f2819b85e1c564120842db1a40"), looks := true }, kinds := [], alts := [], laidByText := true, laidKinds := [.data, .data, .data, .sentinel, .sentinel], laidTests := true, laidLooks := .later }
def SyntaxReadsCardSaid : Prop := Claim7.holds Tryz.pinned (.plain (OpenSpec.ofChange syntaxReadsSpec)) syntaxReadsCard

/-- THE TIED CARD OF 'savantlaw08.SyntaxExprs'. -/
def syntaxExprsCard : Claim7 := { stood := { row := syntaxExprsRow, standIns := [], harness := (true, "46edd0fc9264848bb0a54edaff019cfb84f1b3f2819b85e1c564120842db1a40"), looks := true }, kinds := [], alts := [], laidByText := true, laidKinds := [.data, .data, .data, .sentinel, .sentinel], laidTests := true, laidLooks := .later }
def SyntaxExprsCardSaid : Prop := Claim7.holds Tryz.pinned (.plain (OpenSpec.ofChange syntaxExprsSpec)) syntaxExprsCard

/-- THE TIED CARD OF 'savantlaw09.ScopeTells'. -/
def scopeTellsCard : Claim7 := { stood := { row := scopeTellsRow, standIns := [], harness := (true, "46edd0fc9264848bb0a54edaff019cfb84f1b3f2819b85e1c564120842db1a40"), looks := true }, kinds := [], alts := [], laidByText := true, laidKinds := [.data, .data, .data, .sentinel, .sentinel], laidTests := true, laidLooks := .later }
def ScopeTellsCardSaid : Prop := Claim7.holds Tryz.pinned (.plain (OpenSpec.ofChange scopeTellsSpec)) scopeTellsCard

/-- THE TIED CARD OF 'savantlaw09.ScopeChecks'. -/
def scopeChecksCard : Claim7 := { stood := { row := scopeChecksRow, standIns := [], harness := (true, "46edd0fc9264848bb0a54edaff019cfb84f1b3f2819b85e1c564120842db1a40"), looks := true }, kinds := [], alts := [], laidByText := true, laidKinds := [.data, .data, .data, .sentinel, .sentinel], laidTests := true, laidLooks := .later }
def ScopeChecksCardSaid : Prop := Claim7.holds Tryz.pinned (.plain (OpenSpec.ofChange scopeChecksSpec)) scopeChecksCard

/-- THE TIED CARD OF 'savantlaw09.ScopeDeclares'. -/
def scopeDeclaresCard : Claim7 := { stood := { row := scopeDeclaresRow, standIns := [], harness := (true, "46edd0fc9264848bb0a54edaff019cfb84f1b3f2819b85e1c564120842db1a40"), looks := true }, kinds := [], alts := [], laidByText := true, laidKinds := [.data, .data, .data, .sentinel, .sentinel], laidTests := true, laidLooks := .later }
def ScopeDeclaresCardSaid : Prop := Claim7.holds Tryz.pinned (.plain (OpenSpec.ofChange scopeDeclaresSpec)) scopeDeclaresCard

/-- THE TIED CARD OF 'savantlaw09.ScopeRenamed'. -/
def scopeRenamedCard : Claim7 := { stood := { row := scopeRenamedRow, standIns := [], harness := (true, "46edd0fc9264848bb0a54edaff019cfb84f1b3f2819b85e1c564120842db1a40"), looks := true }, kinds := [], alts := [], laidByText := true, laidKinds := [.data, .data, .data, .sentinel, .sentinel], laidTests := true, laidLooks := .later }
def ScopeRenamedCardSaid : Prop := Claim7.holds Tryz.pinned (.plain (OpenSpec.ofChange scopeRenamedSpec)) scopeRenamedCard

/-- THE TIED CARD OF 'savantlaw09.ScopeLet'. -/
def scopeLetCard : Claim7 := { stood := { row := scopeLetRow, standIns := [], harness := (true, "46edd0fc9264848bb0a54edaff019cfb84f1b3f2819b85e1c564120842db1a40"), looks := true }, kinds := [], alts := [], laidByText := true, laidKinds := [.data, .data, .data, .sentinel, .sentinel], laidTests := true, laidLooks := .later }
def ScopeLetCardSaid : Prop := Claim7.holds Tryz.pinned (.plain (OpenSpec.ofChange scopeLetSpec)) scopeLetCard

/-- THE TIED CARD OF 'savantlaw08.SyntaxData'. -/
def syntaxDataCard : Claim7 := { stood := { row := syntaxDataRow, standIns := [], harness := (true, "46edd0fc9264848bb0a54edaff019cfb84f1b3f2819b85e1c564120842db1a40"), looks := true }, kinds := [], alts := [], laidByText := true, laidKinds := [.data, .data, .data, .sentinel, .sentinel], laidTests := true, laidLooks := .later }
def SyntaxDataCardSaid : Prop := Claim7.holds Tryz.pinned (.plain (OpenSpec.ofChange syntaxDataSpec)) syntaxDataCard

/-- THE TIED CARD OF 'savantlaw15.EvalPuts'. -/
def evalPutsCard : Claim7 := { stood := { row := evalPutsRow, standIns := [], harness := (true, "46edd0fc9264848bb0a54edaff019cfb84f1b3f2819b85e1c564120842db1a40"), looks := true }, kinds := [], alts := [], laidByText := true, laidKinds := [.data, .data, .data, .sentinel, .sentinel], laidTests := true, laidLooks := .later }
def EvalPutsCardSaid : Prop := Claim7.holds Tryz.pinned (.plain (OpenSpec.ofChange evalPutsSpec)) evalPutsCard

/-- THE TIED CARD OF 'savantlaw15.EvalFast'. -/
def evalFastCard : Claim7 := { stood := { row := evalFastRow, standIns := [], harness := (true, "46edd0fc9264848bb0a54edaff019cfb84f1b3f2819b85e1c564120842db1a40"), looks := true }, kinds := [], alts := [], laidByText := true, laidKinds := [.data, .data, .data, .sentinel, .sentinel], laidTests := true, laidLooks := .later }
def EvalFastCardSaid : Prop := Claim7.holds Tryz.pinned (.plain (OpenSpec.ofChange evalFastSpec)) evalFastCard

/-- THE TIED CARD OF 'savantlaw15.EvalAdds'. -/
def evalAddsCard : Claim7 := { stood := { row := evalAddsRow, standIns := [], harness := (true, "46edd0fc9264848bb0a54edaff019cfb84f1b3f2819b85e1c564120842db1a40"), looks := true }, kinds := [], alts := [], laidByText := true, laidKinds := [.data, .data, .data, .sentinel, .sentinel], laidTests := true, laidLooks := .later }
def EvalAddsCardSaid : Prop := Claim7.holds Tryz.pinned (.plain (OpenSpec.ofChange evalAddsSpec)) evalAddsCard

/-- THE TIED CARD OF 'savantlaw15.EvalSteps'. -/
def evalStepsCard : Claim7 := { stood := { row := evalStepsRow, standIns := [], harness := (true, "46edd0fc9264848bb0a54edaff019cfb84f1b3f2819b85e1c564120842db1a40"), looks := true }, kinds := [], alts := [], laidByText := true, laidKinds := [.data, .data, .data, .sentinel, .sentinel], laidTests := true, laidLooks := .later }
def EvalStepsCardSaid : Prop := Claim7.holds Tryz.pinned (.plain (OpenSpec.ofChange evalStepsSpec)) evalStepsCard

/-- THE SECOND FORM's CARD OF 'savantlaw08.SyntaxReads'. -/
def syntaxReadsUptoCard : Claim7 := { stood := { row := syntaxReadsUptoRow, standIns := [], harness := (true, "46edd0fc9264848bb0a54edaff019cfb84f1b3f2819b85e1c564120842db1a40"), looks := true }, kinds := [], alts := [], laidByText := true, laidKinds := [.data, .data, .data, .sentinel, .sentinel], laidTests := true, laidLooks := .later }
def SyntaxReadsUptoCardSaid : Prop := Claim7.holds Tryz.pinned (.plain (OpenSpec.upto syntaxReadsSpec)) syntaxReadsUptoCard

/-- THE SECOND FORM's CARD OF 'savantlaw08.SyntaxExprs'. -/
def syntaxExprsUptoCard : Claim7 := { stood := { row := syntaxExprsUptoRow, standIns := [], harness := (true, "46edd0fc9264848bb0a54edaff019cfb84f1b3f2819b85e1c564120842db1a40"), looks := true }, kinds := [], alts := [], laidByText := true, laidKinds := [.data, .data, .data, .sentinel, .sentinel], laidTests := true, laidLooks := .later }
def SyntaxExprsUptoCardSaid : Prop := Claim7.holds Tryz.pinned (.plain (OpenSpec.upto syntaxExprsSpec)) syntaxExprsUptoCard

/-- THE SECOND FORM's CARD OF 'savantlaw09.ScopeTells'. -/
def scopeTellsUptoCard : Claim7 := { stood := { row := scopeTellsUptoRow, standIns := [], harness := (true, "46edd0fc9264848bb0a54edaff019cfb84f1b3f2819b85e1c564120842db1a40"), looks := true }, kinds := [], alts := [], laidByText := true, laidKinds := [.data, .data, .data, .sentinel, .sentinel], laidTests := true, laidLooks := .later }
def ScopeTellsUptoCardSaid : Prop := Claim7.holds Tryz.pinned (.plain (OpenSpec.upto scopeTellsSpec)) scopeTellsUptoCard

/-- THE SECOND FORM's CARD OF 'savantlaw09.ScopeChecks'. -/
def scopeChecksUptoCard : Claim7 := { stood := { row := scopeChecksUptoRow, standIns := [], harness := (true, "46edd0fc9264848bb0a54edaff019cfb84f1b3f2819b85e1c564120842db1a40"), looks := true }, kinds := [], alts := [], laidByText := true, laidKinds := [.data, .data, .data, .sentinel, .sentinel], laidTests := true, laidLooks := .later }
def ScopeChecksUptoCardSaid : Prop := Claim7.holds Tryz.pinned (.plain (OpenSpec.upto scopeChecksSpec)) scopeChecksUptoCard

/-- THE SECOND FORM's CARD OF 'savantlaw09.ScopeDeclares'. -/
def scopeDeclaresUptoCard : Claim7 := { stood := { row := scopeDeclaresUptoRow, standIns := [], harness := (true, "46edd0fc9264848bb0a54edaff019cfb84f1b3f2819b85e1c564120842db1a40"), looks := true }, kinds := [], alts := [], laidByText := true, laidKinds := [.data, .data, .data, .sentinel, .sentinel], laidTests := true, laidLooks := .later }
def ScopeDeclaresUptoCardSaid : Prop := Claim7.holds Tryz.pinned (.plain (OpenSpec.upto scopeDeclaresSpec)) scopeDeclaresUptoCard

/-- THE SECOND FORM's CARD OF 'savantlaw09.ScopeRenamed'. -/
def scopeRenamedUptoCard : Claim7 := { stood := { row := scopeRenamedUptoRow, standIns := [], harness := (true, "46edd0fc9264848bb0a54edaff019cfb84f1b3f2819b85e1c564120842db1a40"), looks := true }, kinds := [], alts := [], laidByText := true, laidKinds := [.data, .data, .data, .sentinel, .sentinel], laidTests := true, laidLooks := .later }
def ScopeRenamedUptoCardSaid : Prop := Claim7.holds Tryz.pinned (.plain (OpenSpec.upto scopeRenamedSpec)) scopeRenamedUptoCard

/-- THE SECOND FORM's CARD OF 'savantlaw09.ScopeLet'. -/
def scopeLetUptoCard : Claim7 := { stood := { row := scopeLetUptoRow, standIns := [], harness := (true, "46edd0fc9264848bb0a54edaff019cfb84f1b3f2819b85e1c564120842db1a40"), looks := true }, kinds := [], alts := [], laidByText := true, laidKinds := [.data, .data, .data, .sentinel, .sentinel], laidTests := true, laidLooks := .later }
def ScopeLetUptoCardSaid : Prop := Claim7.holds Tryz.pinned (.plain (OpenSpec.upto scopeLetSpec)) scopeLetUptoCard

/-- THE SECOND FORM's CARD OF 'savantlaw08.SyntaxData'. -/
def syntaxDataUptoCard : Claim7 := { stood := { row := syntaxDataUptoRow, standIns := [], harness := (true, "46edd0fc9264848bb0a54edaff019cfb84f1b3f2819b85e1c564120842db1a40"), looks := true }, kinds := [], alts := [], laidByText := true, laidKinds := [.data, .data, .data, .sentinel, .sentinel], laidTests := true, laidLooks := .later }
def SyntaxDataUptoCardSaid : Prop := Claim7.holds Tryz.pinned (.plain (OpenSpec.upto syntaxDataSpec)) syntaxDataUptoCard

/-- THE SECOND FORM's CARD OF 'savantlaw15.EvalPuts'. -/
def evalPutsUptoCard : Claim7 := { stood := { row := evalPutsUptoRow, standIns := [], harness := (true, "46edd0fc9264848bb0a54edaff019cfb84f1b3f2819b85e1c564120842db1a40"), looks := true }, kinds := [], alts := [], laidByText := true, laidKinds := [.data, .data, .data, .sentinel, .sentinel], laidTests := true, laidLooks := .later }
def EvalPutsUptoCardSaid : Prop := Claim7.holds Tryz.pinned (.plain (OpenSpec.upto evalPutsSpec)) evalPutsUptoCard

/-- THE SECOND FORM's CARD OF 'savantlaw15.EvalFast'. -/
def evalFastUptoCard : Claim7 := { stood := { row := evalFastUptoRow, standIns := [], harness := (true, "46edd0fc9264848bb0a54edaff019cfb84f1b3f2819b85e1c564120842db1a40"), looks := true }, kinds := [], alts := [], laidByText := true, laidKinds := [.data, .data, .data, .sentinel, .sentinel], laidTests := true, laidLooks := .later }
def EvalFastUptoCardSaid : Prop := Claim7.holds Tryz.pinned (.plain (OpenSpec.upto evalFastSpec)) evalFastUptoCard

/-- THE SECOND FORM's CARD OF 'savantlaw15.EvalAdds'. -/
def evalAddsUptoCard : Claim7 := { stood := { row := evalAddsUptoRow, standIns := [], harness := (true, "46edd0fc9264848bb0a54edaff019cfb84f1b3f2819b85e1c564120842db1a40"), looks := true }, kinds := [], alts := [], laidByText := true, laidKinds := [.data, .data, .data, .sentinel, .sentinel], laidTests := true, laidLooks := .later }
def EvalAddsUptoCardSaid : Prop := Claim7.holds Tryz.pinned (.plain (OpenSpec.upto evalAddsSpec)) evalAddsUptoCard

/-- THE SECOND FORM's CARD OF 'savantlaw15.EvalSteps'. -/
def evalStepsUptoCard : Claim7 := { stood := { row := evalStepsUptoRow, standIns := [], harness := (true, "46edd0fc9264848bb0a54edaff019cfb84f1b3f2819b85e1c564120842db1a40"), looks := true }, kinds := [], alts := [], laidByText := true, laidKinds := [.data, .data, .data, .sentinel, .sentinel], laidTests := true, laidLooks := .later }
def EvalStepsUptoCardSaid : Prop := Claim7.holds Tryz.pinned (.plain (OpenSpec.upto evalStepsSpec)) evalStepsUptoCard
end Rows
end Go.Proofs.YteidnocfcilajaaGreatDoor
