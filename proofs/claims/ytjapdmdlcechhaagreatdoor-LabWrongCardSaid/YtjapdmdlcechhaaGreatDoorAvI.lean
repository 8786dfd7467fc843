/- Closed facts of the row LabWrong; no condition. -/
import Derived.Test.YtjapdmdlcechhaaGreatDoorCards
import Derived.Test.YtjapdmdlcechhaaGreatDoorTie
import Derived.Test.YtjapdmdlcechhaaGreatDoorChecked
import Derived.ProofKit
import Derived.LaidMore
import Derived.OpenShut
import Derived.Deep.DeepHandedRow
import Derived.Lib.LaidTab
import Derived.Stop.LaidErr
import Derived.SevenTiedAt
import Derived.ShutString
import Derived.Shelf.Vars
import Derived.Lay
namespace Go.Proofs.YtjapdmdlcechhaaGreatDoor
open Go.ChangeShapes Go.WideShapes Go.ChangeAt Go.RowKit
open Go.ChangeMaps (open_string shut_string)
set_option maxRecDepth 100000

theorem labWrong_inPlace : (Rows.labWrongRow.inPlace == Tryz.pinned.checked.prog.inPlace 4) = true := by kernel_rfl
theorem labWrong_unfollowed : (Rows.labWrongRow.unfollowed == Tryz.pinned.checked.prog.unfollowed 4) = true := by kernel_rfl
theorem labWrong_recurses : (Rows.labWrongRow.recurses == Tryz.pinned.checked.prog.recurses 4) = true := by kernel_rfl
theorem labWrong_named : (Rows.labWrongRow.named == Tryz.pinned.checked.prog.varsNamed 4) = true := by kernel_rfl
theorem labWrong_facts : joinedFacts Tryz.pinned.checked.prog 4 Tryz.f4 (OpenSpec.ofChange Rows.labWrongSpec).bare Rows.labWrongRow = true := by
  unfold joinedFacts
  rw [labWrong_inPlace, labWrong_unfollowed, labWrong_recurses, labWrong_named]
  kernel_rfl
theorem labWrong_wrap : Tryz.f4.isWrapper Tryz.pinned.checked.prog Rows.labWrongRow.wrapper Rows.labWrongRow.mainSum := by
  unfold Func.isWrapper; first | (rw [if_pos (by decide +kernel)]; kernel_rfl) | (rw [if_neg (by decide +kernel)]; exact ⟨rfl, rfl⟩)
theorem labWrong_wf : Rows.labWrongRow.wfByText (OpenSpec.ofChange Rows.labWrongSpec) = true := by kernel_rfl
theorem labWrong_main : Tryz.pinned.checked.prog.mainIs = some (true, "92766c9f07f105980cfd16d06733abaa19b266a48f195e2da708ecdf1689b6e1".toList) := by kernel_rfl
theorem labWrong_funcNamed : Tryz.pinned.checked.prog.funcNamed Rows.labWrongRow.func = some 4 := by kernel_rfl
theorem labWrong_looks : true = Tryz.pinned.checked.prog.looks [] := by kernel_rfl
end Go.Proofs.YtjapdmdlcechhaaGreatDoor
