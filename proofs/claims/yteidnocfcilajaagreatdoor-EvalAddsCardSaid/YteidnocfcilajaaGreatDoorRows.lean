/-
  NARROWER THAN 'FOR EVERY INPUT', by the rows' own cells (each row's printed sentence says how): SyntaxReads: laid · SyntaxExprs: laid · ScopeTells: laid · ScopeChecks: laid · ScopeDeclares: laid · ScopeRenamed: laid · ScopeLet: laid · SyntaxData: laid · EvalPuts: laid · EvalFast: laid · EvalAdds: laid · EvalSteps: laid.
  DERIVED. THE GIVEN ROWS OF THIS SEAT. 12 by the template 'for every input the law returns true; each argument reads behind the call as it read before'; 0 by the template 'total and deterministic' (their statements: YteidnocfcilajaaGreatDoorTotals.lean).
  GIVEN WITH THE SEED: the statements are not yours to turn. If you find one false, say at which input.
  Laid BY PROGRAM, IN A SANDBOX (cutbox-rows.mjs): the forced cells as the released guide's own fill.sh prints them over the translation 90872ba656d9d2dc… (all of the seat's roots in one cut). By AI agents, Wed Nov 11 2026. No macro, syntax, notation, axiom, sorry.
-/
import Derived.Test.YteidnocfcilajaaGreatDoorChecked
import GoSem.Claim
import GoSem.ClaimJoined
import GoSem.ClaimMapViews
import Derived.JoinedTies
import Derived.KernelRfl
namespace Go.Proofs.YteidnocfcilajaaGreatDoor
/- THE CELL 'sum', in the pinned program and in every row, IS THE sha256 OF THE DUMP (.gsa) THAT YteidnocfcilajaaGreatDoorProg.lean LOADS. Nothing in Lean hashes anything: it is a label: what it is worth is what the hold of that sum in a sandbox is worth. -/
noncomputable def Tryz.pinned : Pinned := { name := "yteidnocfcilajaagreatdoor", sum := "90872ba656d9d2dc1b929e52286473aa548c1d3ae94831e076a4458ec6250987", checked := Tryz.checked }
namespace Rows
def none {H : Type} : Left H := { results := [], args := [] }

/- WHAT THE LISTED PACKAGE-LEVEL VARIABLES READ AS WHEN THE CALL BEGINS. Each datum BY PROGRAM (the guide's laid-datum.mjs) off the statement by which the dump's own 'gosem.cut.vars' lays the variable. In a bare row this is a premise. The card (YteidnocfcilajaaGreatDoorCards.lean) ties it to the program's text. -/
def laid_math_bits_deBruijn32tab {H : Type} : DataW H := .agg [.lit (.int .u8 0), .lit (.int .u8 1), .lit (.int .u8 28), .lit (.int .u8 2), .lit (.int .u8 29), .lit (.int .u8 14), .lit (.int .u8 24), .lit (.int .u8 3), .lit (.int .u8 30), .lit (.int .u8 22), .lit (.int .u8 20), .lit (.int .u8 15), .lit (.int .u8 25), .lit (.int .u8 17), .lit (.int .u8 4), .lit (.int .u8 8), .lit (.int .u8 31), .lit (.int .u8 27), .lit (.int .u8 13), .lit (.int .u8 23), .lit (.int .u8 21), .lit (.int .u8 19), .lit (.int .u8 16), .lit (.int .u8 7), .lit (.int .u8 26), .lit (.int .u8 12), .lit (.int .u8 18), .lit (.int .u8 6), .lit (.int .u8 11), .lit (.int .u8 5), .lit (.int .u8 10), .lit (.int .u8 9)]
def laid_math_bits_deBruijn64tab {H : Type} : DataW H := .agg [.lit (.int .u8 0), .lit (.int .u8 1), .lit (.int .u8 56), .lit (.int .u8 2), .lit (.int .u8 57), .lit (.int .u8 49), .lit (.int .u8 28), .lit (.int .u8 3), .lit (.int .u8 61), .lit (.int .u8 58), .lit (.int .u8 42), .lit (.int .u8 50), .lit (.int .u8 38), .lit (.int .u8 29), .lit (.int .u8 17), .lit (.int .u8 4), .lit (.int .u8 62), .lit (.int .u8 47), .lit (.int .u8 59), .lit (.int .u8 36), .lit (.int .u8 45), .lit (.int .u8 43), .lit (.int .u8 51), .lit (.int .u8 22), .lit (.int .u8 53), .lit (.int .u8 39), .lit (.int .u8 33), .lit (.int .u8 30), .lit (.int .u8 24), .lit (.int .u8 18), .lit (.int .u8 12), .lit (.int .u8 5), .lit (.int .u8 63), .lit (.int .u8 55), .lit (.int .u8 48), .lit (.int .u8 27), .lit (.int .u8 60), .lit (.int .u8 41), .lit (.int .u8 37), .lit (.int .u8 16), .lit (.int .u8 46), .lit (.int .u8 35), .lit (.int .u8 44), .lit (.int .u8 21), .lit (.int .u8 52), .lit (.int .u8 32), .lit (.int .u8 23), .lit (.int .u8 11), .lit (.int .u8 54), .lit (.int .u8 26), .lit (.int .u8 40), .lit (.int .u8 15), .lit (.int .u8 34), .lit (.int .u8 20), .lit (.int .u8 31), .lit (.int .u8 10), .lit (.int .u8 25), .lit (.int .u8 14), .lit (.int .u8 19), .lit (.int .u8 9), .lit (.int .u8 13), .lit (.int .u8 8), .lit (.int .u8 7), .lit (.int .u8 6)]
def laid_internal_strconv_uint64pow10 {H : Type} : DataW H := .agg [.lit (.int .u64 1), .lit (.int .u64 10), .lit (.int .u64 100), .lit (.int .u64 1000), .lit (.int .u64 10000), .lit (.int .u64 100000), .lit (.int .u64 1000000), .lit (.int .u64 10000000), .lit (.int .u64 100000000), .lit (.int .u64 1000000000), .lit (.int .u64 10000000000), .lit (.int .u64 100000000000), .lit (.int .u64 1000000000000), .lit (.int .u64 10000000000000), .lit (.int .u64 100000000000000), .lit (.int .u64 1000000000000000), .lit (.int .u64 10000000000000000), .lit (.int .u64 100000000000000000), .lit (.int .u64 1000000000000000000), .lit (.int .u64 10000000000000000000)]
def laid_strconv_ErrRange {H : Type} : DataW H := .iface "*errors.errorString" (.ptr (.agg [.lit (.string [118, 97, 108, 117, 101, 32, 111, 117, 116, 32, 111, 102, 32, 114, 97, 110, 103, 101])]))
def laid_strconv_ErrSyntax {H : Type} : DataW H := .iface "*errors.errorString" (.ptr (.agg [.lit (.string [105, 110, 118, 97, 108, 105, 100, 32, 115, 121, 110, 116, 97, 120])]))

/-- 'savantlaw08.SyntaxReads': WHATEVER THE INPUT: true; the input reads as it did. -/
def syntaxReadsSpec : ChangeSpec := { name := "syntaxReads", fn := fun _ => fun
  | [d] => { results := [.lit (.bool true)], args := [d] }
  | _ => none }
def syntaxReadsRow : OpenClaim := { program := "yteidnocfcilajaagreatdoor", sum := "90872ba656d9d2dc1b929e52286473aa548c1d3ae94831e076a4458ec6250987", func := "savant/savantlaw08.SyntaxReads", spec := "syntaxReads", inPlace := ["internal/bytealg.IndexByteString", "internal/abi.NoEscape", "internal/bytealg.MakeNoZero"], unfollowed := true, recurses := true, named := ["strconv.ErrSyntax", "strconv.ErrRange", "internal/strconv.uint64pow10", "math/bits.deBruijn32tab", "math/bits.deBruijn64tab"], apart := false, laid := [("math/bits.deBruijn32tab", laid_math_bits_deBruijn32tab), ("math/bits.deBruijn64tab", laid_math_bits_deBruijn64tab), ("internal/strconv.uint64pow10", laid_internal_strconv_uint64pow10), ("strconv.ErrRange", laid_strconv_ErrRange), ("strconv.ErrSyntax", laid_strconv_ErrSyntax)] }
def SyntaxReadsSaid : Prop := syntaxReadsRow.holds Tryz.pinned (OpenSpec.ofChange syntaxReadsSpec)

/-- ITS FALSE NEIGHBOUR: 'it returns false'. Refute it at one input. -/
def syntaxReadsWrong : ChangeSpec := { name := "syntaxReads", fn := fun _ => fun
  | [d] => { results := [.lit (.bool false)], args := [d] }
  | _ => none }
def SyntaxReadsWrongFalsely : Prop := syntaxReadsRow.holds Tryz.pinned (OpenSpec.ofChange syntaxReadsWrong)

/-- 'savantlaw08.SyntaxExprs': WHATEVER THE INPUT: true; the input reads as it did. -/
def syntaxExprsSpec : ChangeSpec := { name := "syntaxExprs", fn := fun _ => fun
  | [d] => { results := [.lit (.bool true)], args := [d] }
  | _ => none }
def syntaxExprsRow : OpenClaim := { program := "yteidnocfcilajaagreatdoor", sum := "90872ba656d9d2dc1b929e52286473aa548c1d3ae94831e076a4458ec6250987", func := "savant/savantlaw08.SyntaxExprs", spec := "syntaxExprs", inPlace := ["internal/bytealg.IndexByteString", "internal/abi.NoEscape", "internal/bytealg.MakeNoZero"], unfollowed := true, recurses := true, named := ["strconv.ErrSyntax", "strconv.ErrRange", "internal/strconv.uint64pow10", "math/bits.deBruijn32tab", "math/bits.deBruijn64tab"], apart := false, laid := [("math/bits.deBruijn32tab", laid_math_bits_deBruijn32tab), ("math/bits.deBruijn64tab", laid_math_bits_deBruijn64tab), ("internal/strconv.uint64pow10", laid_internal_strconv_uint64pow10), ("strconv.ErrRange", laid_strconv_ErrRange), ("strconv.ErrSyntax", laid_strconv_ErrSyntax)] }
def SyntaxExprsSaid : Prop := syntaxExprsRow.holds Tryz.pinned (OpenSpec.ofChange syntaxExprsSpec)

/-- ITS FALSE NEIGHBOUR: 'it returns false'. Refute it at one input. -/
def syntaxExprsWrong : ChangeSpec := { name := "syntaxExprs", fn := fun _ => fun
  | [d] => { results := [.lit (.bool false)], args := [d] }
  | _ => none }
def SyntaxExprsWrongFalsely : Prop := syntaxExprsRow.holds Tryz.pinned (OpenSpec.ofChange syntaxExprsWrong)

/-- 'savantlaw09.ScopeTells': WHATEVER THE INPUT: true; the input reads as it did. -/
def scopeTellsSpec : ChangeSpec := { name := "scopeTells", fn := fun _ => fun
  | [d] => { results := [.lit (.bool true)], args := [d] }
  | _ => none }
def scopeTellsRow : OpenClaim := { program := "yteidnocfcilajaagreatdoor", sum := "90872ba656d9d2dc1b929e52286473aa548c1d3ae94831e076a4458ec6250987", func := "savant/savantlaw09.ScopeTells", spec := "scopeTells", inPlace := ["internal/bytealg.IndexByteString", "maps.clone"], unfollowed := true, recurses := true, named := ["strconv.ErrSyntax", "strconv.ErrRange", "internal/strconv.uint64pow10", "math/bits.deBruijn32tab", "math/bits.deBruijn64tab"], apart := false, laid := [("math/bits.deBruijn32tab", laid_math_bits_deBruijn32tab), ("math/bits.deBruijn64tab", laid_math_bits_deBruijn64tab), ("internal/strconv.uint64pow10", laid_internal_strconv_uint64pow10), ("strconv.ErrRange", laid_strconv_ErrRange), ("strconv.ErrSyntax", laid_strconv_ErrSyntax)] }
def ScopeTellsSaid : Prop := scopeTellsRow.holds Tryz.pinned (OpenSpec.ofChange scopeTellsSpec)

/-- ITS FALSE NEIGHBOUR: 'it returns false'. Refute it at one input. -/
def scopeTellsWrong : ChangeSpec := { name := "scopeTells", fn := fun _ => fun
  | [d] => { results := [.lit (.bool false)], args := [d] }
  | _ => none }
def ScopeTellsWrongFalsely : Prop := scopeTellsRow.holds Tryz.pinned (OpenSpec.ofChange scopeTellsWrong)

/-- 'savantlaw09.ScopeChecks': WHATEVER THE INPUT: true; the input reads as it did. -/
def scopeChecksSpec : ChangeSpec := { name := "scopeChecks", fn := fun _ => fun
  | [d] => { results := [.lit (.bool true)], args := [d] }
  | _ => none }
def scopeChecksRow : OpenClaim := { program := "yteidnocfcilajaagreatdoor", sum := "90872ba656d9d2dc1b929e52286473aa548c1d3ae94831e076a4458ec6250987", func := "savant/savantlaw09.ScopeChecks", spec := "scopeChecks", inPlace := ["internal/bytealg.IndexByteString", "maps.clone"], unfollowed := true, recurses := true, named := ["strconv.ErrSyntax", "strconv.ErrRange", "internal/strconv.uint64pow10", "math/bits.deBruijn32tab", "math/bits.deBruijn64tab"], apart := false, laid := [("math/bits.deBruijn32tab", laid_math_bits_deBruijn32tab), ("math/bits.deBruijn64tab", laid_math_bits_deBruijn64tab), ("internal/strconv.uint64pow10", laid_internal_strconv_uint64pow10), ("strconv.ErrRange", laid_strconv_ErrRange), ("strconv.ErrSyntax", laid_strconv_ErrSyntax)] }
def ScopeChecksSaid : Prop := scopeChecksRow.holds Tryz.pinned (OpenSpec.ofChange scopeChecksSpec)

/-- ITS FALSE NEIGHBOUR: 'it returns false'. Refute it at one input. -/
def scopeChecksWrong : ChangeSpec := { name := "scopeChecks", fn := fun _ => fun
  | [d] => { results := [.lit (.bool false)], args := [d] }
  | _ => none }
def ScopeChecksWrongFalsely : Prop := scopeChecksRow.holds Tryz.pinned (OpenSpec.ofChange scopeChecksWrong)

/-- 'savantlaw09.ScopeDeclares': WHATEVER THE INPUT: true; the input reads as it did. -/
def scopeDeclaresSpec : ChangeSpec := { name := "scopeDeclares", fn := fun _ => fun
  | [d] => { results := [.lit (.bool true)], args := [d] }
  | _ => none }
def scopeDeclaresRow : OpenClaim := { program := "yteidnocfcilajaagreatdoor", sum := "90872ba656d9d2dc1b929e52286473aa548c1d3ae94831e076a4458ec6250987", func := "savant/savantlaw09.ScopeDeclares", spec := "scopeDeclares", inPlace := ["internal/bytealg.IndexByteString", "maps.clone"], unfollowed := true, recurses := true, named := ["strconv.ErrSyntax", "strconv.ErrRange", "internal/strconv.uint64pow10", "math/bits.deBruijn32tab", "math/bits.deBruijn64tab"], apart := false, laid := [("math/bits.deBruijn32tab", laid_math_bits_deBruijn32tab), ("math/bits.deBruijn64tab", laid_math_bits_deBruijn64tab), ("internal/strconv.uint64pow10", laid_internal_strconv_uint64pow10), ("strconv.ErrRange", laid_strconv_ErrRange), ("strconv.ErrSyntax", laid_strconv_ErrSyntax)] }
def ScopeDeclaresSaid : Prop := scopeDeclaresRow.holds Tryz.pinned (OpenSpec.ofChange scopeDeclaresSpec)

/-- ITS FALSE NEIGHBOUR: 'it returns false'. Refute it at one input. -/
def scopeDeclaresWrong : ChangeSpec := { name := "scopeDeclares", fn := fun _ => fun
  | [d] => { results := [.lit (.bool false)], args := [d] }
  | _ => none }
def ScopeDeclaresWrongFalsely : Prop := scopeDeclaresRow.holds Tryz.pinned (OpenSpec.ofChange scopeDeclaresWrong)

/-- 'savantlaw09.ScopeRenamed': WHATEVER THE INPUT: true; the input reads as it did. -/
def scopeRenamedSpec : ChangeSpec := { name := "scopeRenamed", fn := fun _ => fun
  | [d1, d2, d3] => { results := [.lit (.bool true)], args := [d1, d2, d3] }
  | _ => none }
def scopeRenamedRow : OpenClaim := { program := "yteidnocfcilajaagreatdoor", sum := "90872ba656d9d2dc1b929e52286473aa548c1d3ae94831e076a4458ec6250987", func := "savant/savantlaw09.ScopeRenamed", spec := "scopeRenamed", inPlace := ["internal/bytealg.IndexByteString", "maps.clone"], unfollowed := true, recurses := true, named := ["strconv.ErrSyntax", "strconv.ErrRange", "internal/strconv.uint64pow10", "math/bits.deBruijn32tab", "math/bits.deBruijn64tab"], apart := false, laid := [("math/bits.deBruijn32tab", laid_math_bits_deBruijn32tab), ("math/bits.deBruijn64tab", laid_math_bits_deBruijn64tab), ("internal/strconv.uint64pow10", laid_internal_strconv_uint64pow10), ("strconv.ErrRange", laid_strconv_ErrRange), ("strconv.ErrSyntax", laid_strconv_ErrSyntax)] }
def ScopeRenamedSaid : Prop := scopeRenamedRow.holds Tryz.pinned (OpenSpec.ofChange scopeRenamedSpec)

/-- ITS FALSE NEIGHBOUR: 'it returns false'. Refute it at one input. -/
def scopeRenamedWrong : ChangeSpec := { name := "scopeRenamed", fn := fun _ => fun
  | [d1, d2, d3] => { results := [.lit (.bool false)], args := [d1, d2, d3] }
  | _ => none }
def ScopeRenamedWrongFalsely : Prop := scopeRenamedRow.holds Tryz.pinned (OpenSpec.ofChange scopeRenamedWrong)

/-- 'savantlaw09.ScopeLet': WHATEVER THE INPUT: true; the input reads as it did. -/
def scopeLetSpec : ChangeSpec := { name := "scopeLet", fn := fun _ => fun
  | [d1, d2] => { results := [.lit (.bool true)], args := [d1, d2] }
  | _ => none }
def scopeLetRow : OpenClaim := { program := "yteidnocfcilajaagreatdoor", sum := "90872ba656d9d2dc1b929e52286473aa548c1d3ae94831e076a4458ec6250987", func := "savant/savantlaw09.ScopeLet", spec := "scopeLet", inPlace := ["internal/bytealg.IndexByteString", "maps.clone"], unfollowed := true, recurses := true, named := ["strconv.ErrSyntax", "strconv.ErrRange", "internal/strconv.uint64pow10", "math/bits.deBruijn32tab", "math/bits.deBruijn64tab"], apart := false, laid := [("math/bits.deBruijn32tab", laid_math_bits_deBruijn32tab), ("math/bits.deBruijn64tab", laid_math_bits_deBruijn64tab), ("internal/strconv.uint64pow10", laid_internal_strconv_uint64pow10), ("strconv.ErrRange", laid_strconv_ErrRange), ("strconv.ErrSyntax", laid_strconv_ErrSyntax)] }
def ScopeLetSaid : Prop := scopeLetRow.holds Tryz.pinned (OpenSpec.ofChange scopeLetSpec)

/-- ITS FALSE NEIGHBOUR: 'it returns false'. Refute it at one input. -/
def scopeLetWrong : ChangeSpec := { name := "scopeLet", fn := fun _ => fun
  | [d1, d2] => { results := [.lit (.bool false)], args := [d1, d2] }
  | _ => none }
def ScopeLetWrongFalsely : Prop := scopeLetRow.holds Tryz.pinned (OpenSpec.ofChange scopeLetWrong)

/-- 'savantlaw08.SyntaxData': WHATEVER THE INPUT: true; the input reads as it did. -/
def syntaxDataSpec : ChangeSpec := { name := "syntaxData", fn := fun _ => fun
  | [d1, d2, d3] => { results := [.lit (.bool true)], args := [d1, d2, d3] }
  | _ => none }
def syntaxDataRow : OpenClaim := { program := "yteidnocfcilajaagreatdoor", sum := "90872ba656d9d2dc1b929e52286473aa548c1d3ae94831e076a4458ec6250987", func := "savant/savantlaw08.SyntaxData", spec := "syntaxData", inPlace := ["internal/bytealg.IndexByteString", "internal/abi.NoEscape", "internal/bytealg.MakeNoZero", "maps.clone"], unfollowed := true, recurses := true, named := ["strconv.ErrSyntax", "strconv.ErrRange", "internal/strconv.uint64pow10", "math/bits.deBruijn32tab", "math/bits.deBruijn64tab"], apart := false, laid := [("math/bits.deBruijn32tab", laid_math_bits_deBruijn32tab), ("math/bits.deBruijn64tab", laid_math_bits_deBruijn64tab), ("internal/strconv.uint64pow10", laid_internal_strconv_uint64pow10), ("strconv.ErrRange", laid_strconv_ErrRange), ("strconv.ErrSyntax", laid_strconv_ErrSyntax)] }
def SyntaxDataSaid : Prop := syntaxDataRow.holds Tryz.pinned (OpenSpec.ofChange syntaxDataSpec)

/-- ITS FALSE NEIGHBOUR: 'it returns false'. Refute it at one input. -/
def syntaxDataWrong : ChangeSpec := { name := "syntaxData", fn := fun _ => fun
  | [d1, d2, d3] => { results := [.lit (.bool false)], args := [d1, d2, d3] }
  | _ => none }
def SyntaxDataWrongFalsely : Prop := syntaxDataRow.holds Tryz.pinned (OpenSpec.ofChange syntaxDataWrong)

/-- 'savantlaw15.EvalPuts': WHATEVER THE INPUT: true; the input reads as it did. -/
def evalPutsSpec : ChangeSpec := { name := "evalPuts", fn := fun _ => fun
  | [d1, d2, d3] => { results := [.lit (.bool true)], args := [d1, d2, d3] }
  | _ => none }
def evalPutsRow : OpenClaim := { program := "yteidnocfcilajaagreatdoor", sum := "90872ba656d9d2dc1b929e52286473aa548c1d3ae94831e076a4458ec6250987", func := "savant/savantlaw15.EvalPuts", spec := "evalPuts", inPlace := ["internal/bytealg.IndexByteString", "internal/abi.NoEscape", "internal/bytealg.MakeNoZero"], unfollowed := true, recurses := true, named := ["strconv.ErrSyntax", "strconv.ErrRange", "internal/strconv.uint64pow10", "math/bits.deBruijn32tab", "math/bits.deBruijn64tab"], apart := false, laid := [("math/bits.deBruijn32tab", laid_math_bits_deBruijn32tab), ("math/bits.deBruijn64tab", laid_math_bits_deBruijn64tab), ("internal/strconv.uint64pow10", laid_internal_strconv_uint64pow10), ("strconv.ErrRange", laid_strconv_ErrRange), ("strconv.ErrSyntax", laid_strconv_ErrSyntax)] }
def EvalPutsSaid : Prop := evalPutsRow.holds Tryz.pinned (OpenSpec.ofChange evalPutsSpec)

/-- ITS FALSE NEIGHBOUR: 'it returns false'. Refute it at one input. -/
def evalPutsWrong : ChangeSpec := { name := "evalPuts", fn := fun _ => fun
  | [d1, d2, d3] => { results := [.lit (.bool false)], args := [d1, d2, d3] }
  | _ => none }
def EvalPutsWrongFalsely : Prop := evalPutsRow.holds Tryz.pinned (OpenSpec.ofChange evalPutsWrong)

/-- 'savantlaw15.EvalFast': WHATEVER THE INPUT: true; the input reads as it did. -/
def evalFastSpec : ChangeSpec := { name := "evalFast", fn := fun _ => fun
  | [d1, d2, d3] => { results := [.lit (.bool true)], args := [d1, d2, d3] }
  | _ => none }
def evalFastRow : OpenClaim := { program := "yteidnocfcilajaagreatdoor", sum := "90872ba656d9d2dc1b929e52286473aa548c1d3ae94831e076a4458ec6250987", func := "savant/savantlaw15.EvalFast", spec := "evalFast", inPlace := ["internal/bytealg.IndexByteString", "internal/abi.NoEscape", "internal/bytealg.MakeNoZero"], unfollowed := true, recurses := true, named := ["strconv.ErrSyntax", "strconv.ErrRange", "internal/strconv.uint64pow10", "math/bits.deBruijn32tab", "math/bits.deBruijn64tab"], apart := false, laid := [("math/bits.deBruijn32tab", laid_math_bits_deBruijn32tab), ("math/bits.deBruijn64tab", laid_math_bits_deBruijn64tab), ("internal/strconv.uint64pow10", laid_internal_strconv_uint64pow10), ("strconv.ErrRange", laid_strconv_ErrRange), ("strconv.ErrSyntax", laid_strconv_ErrSyntax)] }
def EvalFastSaid : Prop := evalFastRow.holds Tryz.pinned (OpenSpec.ofChange evalFastSpec)

/-- ITS FALSE NEIGHBOUR: 'it returns false'. Refute it at one input. -/
def evalFastWrong : ChangeSpec := { name := "evalFast", fn := fun _ => fun
  | [d1, d2, d3] => { results := [.lit (.bool false)], args := [d1, d2, d3] }
  | _ => none }
def EvalFastWrongFalsely : Prop := evalFastRow.holds Tryz.pinned (OpenSpec.ofChange evalFastWrong)

/-- 'savantlaw15.EvalAdds': WHATEVER THE INPUT: true; the input reads as it did. -/
def evalAddsSpec : ChangeSpec := { name := "evalAdds", fn := fun _ => fun
  | [d1, d2] => { results := [.lit (.bool true)], args := [d1, d2] }
  | _ => none }
def evalAddsRow : OpenClaim := { program := "yteidnocfcilajaagreatdoor", sum := "90872ba656d9d2dc1b929e52286473aa548c1d3ae94831e076a4458ec6250987", func := "savant/savantlaw15.EvalAdds", spec := "evalAdds", inPlace := ["internal/bytealg.IndexByteString", "internal/abi.NoEscape", "internal/bytealg.MakeNoZero"], unfollowed := true, recurses := true, named := ["strconv.ErrSyntax", "strconv.ErrRange", "internal/strconv.uint64pow10", "math/bits.deBruijn32tab", "math/bits.deBruijn64tab"], apart := false, laid := [("math/bits.deBruijn32tab", laid_math_bits_deBruijn32tab), ("math/bits.deBruijn64tab", laid_math_bits_deBruijn64tab), ("internal/strconv.uint64pow10", laid_internal_strconv_uint64pow10), ("strconv.ErrRange", laid_strconv_ErrRange), ("strconv.ErrSyntax", laid_strconv_ErrSyntax)] }
def EvalAddsSaid : Prop := evalAddsRow.holds Tryz.pinned (OpenSpec.ofChange evalAddsSpec)

/-- ITS FALSE NEIGHBOUR: 'it returns false'. Refute it at one input. -/
def evalAddsWrong : ChangeSpec := { name := "evalAdds", fn := fun _ => fun
  | [d1, d2] => { results := [.lit (.bool false)], args := [d1, d2] }
  | _ => none }
def EvalAddsWrongFalsely : Prop := evalAddsRow.holds Tryz.pinned (OpenSpec.ofChange evalAddsWrong)

/-- 'savantlaw15.EvalSteps': WHATEVER THE INPUT: true; the input reads as it did. -/
def evalStepsSpec : ChangeSpec := { name := "evalSteps", fn := fun _ => fun
  | [d1, d2] => { results := [.lit (.bool true)], args := [d1, d2] }
  | _ => none }
def evalStepsRow : OpenClaim := { program := "yteidnocfcilajaagreatdoor", sum := "90872ba656d9d2dc1b929e52286473aa548c1d3ae94831e076a4458ec6250987", func := "savant/savantlaw15.EvalSteps", spec := "evalSteps", inPlace := ["internal/bytealg.IndexByteString", "internal/abi.NoEscape", "internal/bytealg.MakeNoZero"], unfollowed := true, recurses := true, named := ["strconv.ErrSyntax", "strconv.ErrRange", "internal/strconv.uint64pow10", "math/bits.deBruijn32tab", "math/bits.deBruijn64tab"], apart := false, laid := [("math/bits.deBruijn32tab", laid_math_bits_deBruijn32tab), ("math/bits.deBruijn64tab", laid_math_bits_deBruijn64tab), ("internal/strconv.uint64pow10", laid_internal_strconv_uint64pow10), ("strconv.ErrRange", laid_strconv_ErrRange), ("strconv.ErrSyntax", laid_strconv_ErrSyntax)] }
def EvalStepsSaid : Prop := evalStepsRow.holds Tryz.pinned (OpenSpec.ofChange evalStepsSpec)

/-- ITS FALSE NEIGHBOUR: 'it returns false'. Refute it at one input. -/
def evalStepsWrong : ChangeSpec := { name := "evalSteps", fn := fun _ => fun
  | [d1, d2] => { results := [.lit (.bool false)], args := [d1, d2] }
  | _ => none }
def EvalStepsWrongFalsely : Prop := evalStepsRow.holds Tryz.pinned (OpenSpec.ofChange evalStepsWrong)

/- THE SECOND FORM. 'bulk': how many values and letters a reading holds, each counted each time it is reached (what is shared counts as often as it is met; a slice's spare places count too). A statement '..UptoSaid' is the law's where the arguments, and the package variables that the reading takes, are together of bulk at most 1048576: NARROWER than '..Said'. Prove '..Said' where nothing that the law and all that it calls make is longer than what came in: it says more and counts as full. Else prove '..UptoSaid'. A law counts once. -/
mutual
def uptoBulk {H : Type} : DataW H → Nat
  | .lit (.string bytes) => bytes.length + 1
  | .lit _ => 1
  | .nil => 1
  | .ptr d => uptoBulk d + 1
  | .slice elems spare => uptoBulkAll elems + uptoBulkAll spare + 1
  | .agg parts => uptoBulkAll parts + 1
  | .iface _ d => uptoBulk d + 1
  | .map entries => uptoBulkEntries entries + 1
  | .held _ => 1
def uptoBulkAll {H : Type} : List (DataW H) → Nat
  | [] => 0
  | d :: r => uptoBulk d + uptoBulkAll r
def uptoBulkEntries {H : Type} : List (Lit × DataW H) → Nat
  | [] => 0
  | x :: r => uptoBulkEntry x + uptoBulkEntries r
def uptoBulkEntry {H : Type} : Lit × DataW H → Nat
  | (.string bytes, d) => bytes.length + uptoBulk d + 1
  | (_, d) => uptoBulk d + 1
 end
def uptoSmall : (H : Type) → List (DataW H) → Bool := fun _ ds => decide (uptoBulkAll ds ≤ 1048576)
def OpenSpec.upto (s : _root_.Go.ChangeSpec) : _root_.Go.OpenSpec := { _root_.Go.OpenSpec.ofChange s with cond := some uptoSmall }

/-- 'savantlaw08.SyntaxReads', WHERE WHAT IT READS IS OF BULK AT MOST 1048576: true; the input reads as it did. -/
def syntaxReadsUptoRow : OpenClaim := { program := "yteidnocfcilajaagreatdoor", sum := "90872ba656d9d2dc1b929e52286473aa548c1d3ae94831e076a4458ec6250987", func := "savant/savantlaw08.SyntaxReads", spec := "syntaxReads", inPlace := ["internal/bytealg.IndexByteString", "internal/abi.NoEscape", "internal/bytealg.MakeNoZero"], unfollowed := true, recurses := true, named := ["strconv.ErrSyntax", "strconv.ErrRange", "internal/strconv.uint64pow10", "math/bits.deBruijn32tab", "math/bits.deBruijn64tab"], apart := false, laid := [("math/bits.deBruijn32tab", laid_math_bits_deBruijn32tab), ("math/bits.deBruijn64tab", laid_math_bits_deBruijn64tab), ("internal/strconv.uint64pow10", laid_internal_strconv_uint64pow10), ("strconv.ErrRange", laid_strconv_ErrRange), ("strconv.ErrSyntax", laid_strconv_ErrSyntax)], narrowed := true }
def SyntaxReadsUptoSaid : Prop := syntaxReadsUptoRow.holds Tryz.pinned (OpenSpec.upto syntaxReadsSpec)

/-- 'savantlaw08.SyntaxExprs', WHERE WHAT IT READS IS OF BULK AT MOST 1048576: true; the input reads as it did. -/
def syntaxExprsUptoRow : OpenClaim := { program := "yteidnocfcilajaagreatdoor", sum := "90872ba656d9d2dc1b929e52286473aa548c1d3ae94831e076a4458ec6250987", func := "savant/savantlaw08.SyntaxExprs", spec := "syntaxExprs", inPlace := ["internal/bytealg.IndexByteString", "internal/abi.NoEscape", "internal/bytealg.MakeNoZero"], unfollowed := true, recurses := true, named := ["strconv.ErrSyntax", "strconv.ErrRange", "internal/strconv.uint64pow10", "math/bits.deBruijn32tab", "math/bits.deBruijn64tab"], apart := false, laid := [("math/bits.deBruijn32tab", laid_math_bits_deBruijn32tab), ("math/bits.deBruijn64tab", laid_math_bits_deBruijn64tab), ("internal/strconv.uint64pow10", laid_internal_strconv_uint64pow10), ("strconv.ErrRange", laid_strconv_ErrRange), ("strconv.ErrSyntax", laid_strconv_ErrSyntax)], narrowed := true }
def SyntaxExprsUptoSaid : Prop := syntaxExprsUptoRow.holds Tryz.pinned (OpenSpec.upto syntaxExprsSpec)

/-- 'savantlaw09.ScopeTells', WHERE WHAT IT READS IS OF BULK AT MOST 1048576: true; the input reads as it did. -/
def scopeTellsUptoRow : OpenClaim := { program := "yteidnocfcilajaagreatdoor", sum := "90872ba656d9d2dc1b929e52286473aa548c1d3ae94831e076a4458ec6250987", func := "savant/savantlaw09.ScopeTells", spec := "scopeTells", inPlace := ["internal/bytealg.IndexByteString", "maps.clone"], unfollowed := true, recurses := true, named := ["strconv.ErrSyntax", "strconv.ErrRange", "internal/strconv.uint64pow10", "math/bits.deBruijn32tab", "math/bits.deBruijn64tab"], apart := false, laid := [("math/bits.deBruijn32tab", laid_math_bits_deBruijn32tab), ("math/bits.deBruijn64tab", laid_math_bits_deBruijn64tab), ("internal/strconv.uint64pow10", laid_internal_strconv_uint64pow10), ("strconv.ErrRange", laid_strconv_ErrRange), ("strconv.ErrSyntax", laid_strconv_ErrSyntax)], narrowed := true }
def ScopeTellsUptoSaid : Prop := scopeTellsUptoRow.holds Tryz.pinned (OpenSpec.upto scopeTellsSpec)

/-- 'savantlaw09.ScopeChecks', WHERE WHAT IT READS IS OF BULK AT MOST 1048576: true; the input reads as it did. -/
def scopeChecksUptoRow : OpenClaim := { program := "yteidnocfcilajaagreatdoor", sum := "90872ba656d9d2dc1b929e52286473aa548c1d3ae94831e076a4458ec6250987", func := "savant/savantlaw09.ScopeChecks", spec := "scopeChecks", inPlace := ["internal/bytealg.IndexByteString", "maps.clone"], unfollowed := true, recurses := true, named := ["strconv.ErrSyntax", "strconv.ErrRange", "internal/strconv.uint64pow10", "math/bits.deBruijn32tab", "math/bits.deBruijn64tab"], apart := false, laid := [("math/bits.deBruijn32tab", laid_math_bits_deBruijn32tab), ("math/bits.deBruijn64tab", laid_math_bits_deBruijn64tab), ("internal/strconv.uint64pow10", laid_internal_strconv_uint64pow10), ("strconv.ErrRange", laid_strconv_ErrRange), ("strconv.ErrSyntax", laid_strconv_ErrSyntax)], narrowed := true }
def ScopeChecksUptoSaid : Prop := scopeChecksUptoRow.holds Tryz.pinned (OpenSpec.upto scopeChecksSpec)

/-- 'savantlaw09.ScopeDeclares', WHERE WHAT IT READS IS OF BULK AT MOST 1048576: true; the input reads as it did. -/
def scopeDeclaresUptoRow : OpenClaim := { program := "yteidnocfcilajaagreatdoor", sum := "90872ba656d9d2dc1b929e52286473aa548c1d3ae94831e076a4458ec6250987", func := "savant/savantlaw09.ScopeDeclares", spec := "scopeDeclares", inPlace := ["internal/bytealg.IndexByteString", "maps.clone"], unfollowed := true, recurses := true, named := ["strconv.ErrSyntax", "strconv.ErrRange", "internal/strconv.uint64pow10", "math/bits.deBruijn32tab", "math/bits.deBruijn64tab"], apart := false, laid := [("math/bits.deBruijn32tab", laid_math_bits_deBruijn32tab), ("math/bits.deBruijn64tab", laid_math_bits_deBruijn64tab), ("internal/strconv.uint64pow10", laid_internal_strconv_uint64pow10), ("strconv.ErrRange", laid_strconv_ErrRange), ("strconv.ErrSyntax", laid_strconv_ErrSyntax)], narrowed := true }
def ScopeDeclaresUptoSaid : Prop := scopeDeclaresUptoRow.holds Tryz.pinned (OpenSpec.upto scopeDeclaresSpec)

/-- 'savantlaw09.ScopeRenamed', WHERE WHAT IT READS IS OF BULK AT MOST 1048576: true; the input reads as it did. -/
def scopeRenamedUptoRow : OpenClaim := { program := "yteidnocfcilajaagreatdoor", sum := "90872ba656d9d2dc1b929e52286473aa548c1d3ae94831e076a4458ec6250987", func := "savant/savantlaw09.ScopeRenamed", spec := "scopeRenamed", inPlace := ["internal/bytealg.IndexByteString", "maps.clone"], unfollowed := true, recurses := true, named := ["strconv.ErrSyntax", "strconv.ErrRange", "internal/strconv.uint64pow10", "math/bits.deBruijn32tab", "math/bits.deBruijn64tab"], apart := false, laid := [("math/bits.deBruijn32tab", laid_math_bits_deBruijn32tab), ("math/bits.deBruijn64tab", laid_math_bits_deBruijn64tab), ("internal/strconv.uint64pow10", laid_internal_strconv_uint64pow10), ("strconv.ErrRange", laid_strconv_ErrRange), ("strconv.ErrSyntax", laid_strconv_ErrSyntax)], narrowed := true }
def ScopeRenamedUptoSaid : Prop := scopeRenamedUptoRow.holds Tryz.pinned (OpenSpec.upto scopeRenamedSpec)

/-- 'savantlaw09.ScopeLet', WHERE WHAT IT READS IS OF BULK AT MOST 1048576: true; the input reads as it did. -/
def scopeLetUptoRow : OpenClaim := { program := "yteidnocfcilajaagreatdoor", sum := "90872ba656d9d2dc1b929e52286473aa548c1d3ae94831e076a4458ec6250987", func := "savant/savantlaw09.ScopeLet", spec := "scopeLet", inPlace := ["internal/bytealg.IndexByteString", "maps.clone"], unfollowed := true, recurses := true, named := ["strconv.ErrSyntax", "strconv.ErrRange", "internal/strconv.uint64pow10", "math/bits.deBruijn32tab", "math/bits.deBruijn64tab"], apart := false, laid := [("math/bits.deBruijn32tab", laid_math_bits_deBruijn32tab), ("math/bits.deBruijn64tab", laid_math_bits_deBruijn64tab), ("internal/strconv.uint64pow10", laid_internal_strconv_uint64pow10), ("strconv.ErrRange", laid_strconv_ErrRange), ("strconv.ErrSyntax", laid_strconv_ErrSyntax)], narrowed := true }
def ScopeLetUptoSaid : Prop := scopeLetUptoRow.holds Tryz.pinned (OpenSpec.upto scopeLetSpec)

/-- 'savantlaw08.SyntaxData', WHERE WHAT IT READS IS OF BULK AT MOST 1048576: true; the input reads as it did. -/
def syntaxDataUptoRow : OpenClaim := { program := "yteidnocfcilajaagreatdoor", sum := "90872ba656d9d2dc1b929e52286473aa548c1d3ae94831e076a4458ec6250987", func := "savant/savantlaw08.SyntaxData", spec := "syntaxData", inPlace := ["internal/bytealg.IndexByteString", "internal/abi.NoEscape", "internal/bytealg.MakeNoZero", "maps.clone"], unfollowed := true, recurses := true, named := ["strconv.ErrSyntax", "strconv.ErrRange", "internal/strconv.uint64pow10", "math/bits.deBruijn32tab", "math/bits.deBruijn64tab"], apart := false, laid := [("math/bits.deBruijn32tab", laid_math_bits_deBruijn32tab), ("math/bits.deBruijn64tab", laid_math_bits_deBruijn64tab), ("internal/strconv.uint64pow10", laid_internal_strconv_uint64pow10), ("strconv.ErrRange", laid_strconv_ErrRange), ("strconv.ErrSyntax", laid_strconv_ErrSyntax)], narrowed := true }
def SyntaxDataUptoSaid : Prop := syntaxDataUptoRow.holds Tryz.pinned (OpenSpec.upto syntaxDataSpec)

/-- 'savantlaw15.EvalPuts', WHERE WHAT IT READS IS OF BULK AT MOST 1048576: true; the input reads as it did. -/
def evalPutsUptoRow : OpenClaim := { program := "yteidnocfcilajaagreatdoor", sum := "90872ba656d9d2dc1b929e52286473aa548c1d3ae94831e076a4458ec6250987", func := "savant/savantlaw15.EvalPuts", spec := "evalPuts", inPlace := ["internal/bytealg.IndexByteString", "internal/abi.NoEscape", "internal/bytealg.MakeNoZero"], unfollowed := true, recurses := true, named := ["strconv.ErrSyntax", "strconv.ErrRange", "internal/strconv.uint64pow10", "math/bits.deBruijn32tab", "math/bits.deBruijn64tab"], apart := false, laid := [("math/bits.deBruijn32tab", laid_math_bits_deBruijn32tab), ("math/bits.deBruijn64tab", laid_math_bits_deBruijn64tab), ("internal/strconv.uint64pow10", laid_internal_strconv_uint64pow10), ("strconv.ErrRange", laid_strconv_ErrRange), ("strconv.ErrSyntax", laid_strconv_ErrSyntax)], narrowed := true }
def EvalPutsUptoSaid : Prop := evalPutsUptoRow.holds Tryz.pinned (OpenSpec.upto evalPutsSpec)

/-- 'savantlaw15.EvalFast', WHERE WHAT IT READS IS OF BULK AT MOST 1048576: true; the input reads as it did. -/
def evalFastUptoRow : OpenClaim := { program := "yteidnocfcilajaagreatdoor", sum := "90872ba656d9d2dc1b929e52286473aa548c1d3ae94831e076a4458ec6250987", func := "savant/savantlaw15.EvalFast", spec := "evalFast", inPlace := ["internal/bytealg.IndexByteString", "internal/abi.NoEscape", "internal/bytealg.MakeNoZero"], unfollowed := true, recurses := true, named := ["strconv.ErrSyntax", "strconv.ErrRange", "internal/strconv.uint64pow10", "math/bits.deBruijn32tab", "math/bits.deBruijn64tab"], apart := false, laid := [("math/bits.deBruijn32tab", laid_math_bits_deBruijn32tab), ("math/bits.deBruijn64tab", laid_math_bits_deBruijn64tab), ("internal/strconv.uint64pow10", laid_internal_strconv_uint64pow10), ("strconv.ErrRange", laid_strconv_ErrRange), ("strconv.ErrSyntax", laid_strconv_ErrSyntax)], narrowed := true }
def EvalFastUptoSaid : Prop := evalFastUptoRow.holds Tryz.pinned (OpenSpec.upto evalFastSpec)

/-- 'savantlaw15.EvalAdds', WHERE WHAT IT READS IS OF BULK AT MOST 1048576: true; the input reads as it did. -/
def evalAddsUptoRow : OpenClaim := { program := "yteidnocfcilajaagreatdoor", sum := "90872ba656d9d2dc1b929e52286473aa548c1d3ae94831e076a4458ec6250987", func := "savant/savantlaw15.EvalAdds", spec := "evalAdds", inPlace := ["internal/bytealg.IndexByteString", "internal/abi.NoEscape", "internal/bytealg.MakeNoZero"], unfollowed := true, recurses := true, named := ["strconv.ErrSyntax", "strconv.ErrRange", "internal/strconv.uint64pow10", "math/bits.deBruijn32tab", "math/bits.deBruijn64tab"], apart := false, laid := [("math/bits.deBruijn32tab", laid_math_bits_deBruijn32tab), ("math/bits.deBruijn64tab", laid_math_bits_deBruijn64tab), ("internal/strconv.uint64pow10", laid_internal_strconv_uint64pow10), ("strconv.ErrRange", laid_strconv_ErrRange), ("strconv.ErrSyntax", laid_strconv_ErrSyntax)], narrowed := true }
def EvalAddsUptoSaid : Prop := evalAddsUptoRow.holds Tryz.pinned (OpenSpec.upto evalAddsSpec)

/-- 'savantlaw15.EvalSteps', WHERE WHAT IT READS IS OF BULK AT MOST 1048576: true; the input reads as it did. -/
def evalStepsUptoRow : OpenClaim := { program := "yteidnocfcilajaagreatdoor", sum := "90872ba656d9d2dc1b929e52286473aa548c1d3ae94831e076a4458ec6250987", func := "savant/savantlaw15.EvalSteps", spec := "evalSteps", inPlace := ["internal/bytealg.IndexByteString", "internal/abi.NoEscape", "internal/bytealg.MakeNoZero"], unfollowed := true, recurses := true, named := ["strconv.ErrSyntax", "strconv.ErrRange", "internal/strconv.uint64pow10", "math/bits.deBruijn32tab", "math/bits.deBruijn64tab"], apart := false, laid := [("math/bits.deBruijn32tab", laid_math_bits_deBruijn32tab), ("math/bits.deBruijn64tab", laid_math_bits_deBruijn64tab), ("internal/strconv.uint64pow10", laid_internal_strconv_uint64pow10), ("strconv.ErrRange", laid_strconv_ErrRange), ("strconv.ErrSyntax", laid_strconv_ErrSyntax)], narrowed := true }
def EvalStepsUptoSaid : Prop := evalStepsUptoRow.holds Tryz.pinned (OpenSpec.upto evalStepsSpec)

end Rows
end Go.Proofs.YteidnocfcilajaaGreatDoor
