/- That the row goes by the program's text; no condition. -/
import Derived.Test.YtjapdmdlcechhaaGreatDoorCards
import Derived.Test.YtjapdmdlcechhaaGreatDoorTie
import Derived.Test.YtjapdmdlcechhaaGreatDoorChecked
import Derived.ProofKit
import Derived.LaidMore
import Derived.OpenShut
import Derived.Deep.DeepHandedRow
import Derived.Lib.LaidTab
import Derived.Stop.LaidErr
import Derived.SevenTiedAt
import Derived.ShutString
import Derived.Shelf.Vars
import Derived.Lay
namespace Go.Proofs.YtjapdmdlcechhaaGreatDoor
open Go.ChangeShapes Go.WideShapes Go.ChangeAt Go.RowKit
open Go.ChangeMaps (open_string shut_string)
set_option maxRecDepth 100000

theorem goesAt_of_none {P : Program} {n : String} (h : P.funcs.any Func.goes = false) : P.goesAt .entering n = false := by
  have hg : ∀ f : FuncId, P.goes f = false := by
    intro f
    unfold Program.goes
    rw [h, Bool.and_false, Bool.or_false]
    refine Bool.eq_false_iff.2 fun hc => ?_
    obtain ⟨g, _, hg⟩ := List.any_eq_true.1 hc
    obtain ⟨fn, hfn, hgo⟩ := (Option.any_eq_true _ _).1 hg
    have := Array.any_eq_true'.2 ⟨fn, Array.mem_of_getElem? hfn, hgo⟩
    rw [h] at this; cases this
  unfold Program.goesAt Program.goesFrom
  cases P.funcNamed n <;> simp [hg]
theorem prog_goes : Tryz.pinned.checked.prog.funcs.any Func.goes = false := by kernel_rfl
theorem labWrong_goes : false = Rows.labWrongRow.goesBy Tryz.pinned.checked.prog :=
  (show Tryz.pinned.checked.prog.goesAt .entering _ = false from goesAt_of_none prog_goes).symm
end Go.Proofs.YtjapdmdlcechhaaGreatDoor
