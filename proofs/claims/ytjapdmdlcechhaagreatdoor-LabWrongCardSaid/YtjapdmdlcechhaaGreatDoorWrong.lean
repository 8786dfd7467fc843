/- For every input the law LabWrong returns true; no condition. -/
import Derived.Test.YtjapdmdlcechhaaGreatDoorAvH
import Derived.Test.YtjapdmdlcechhaaGreatDoorAvI
import Derived.Test.YtjapdmdlcechhaaGreatDoorAvJ
namespace Go.Proofs.YtjapdmdlcechhaaGreatDoor
open Go.ChangeShapes Go.WideShapes Go.ChangeAt Go.RowKit
open Go.ChangeMaps (open_string shut_string)
set_option maxRecDepth 100000

theorem labWrong_said : Rows.LabWrongSaid :=
  OpenClaim.holds_of_cond 4 Tryz.f4 rfl rfl rfl rfl rfl rfl rfl ⟨rfl, rfl, rfl, rfl, rfl⟩ rfl rfl rfl rfl rfl labWrong_funcNamed Tryz.func4 labWrong_facts
    (of_decide_eq_true (by kernel_rfl)) labWrong_wrap
    (fun os started H enc _ F => by rw [OpenClaim.pre_eq_preRow]; exact labWrong_lifted os started H enc F)
theorem labWrong_plain (f : FuncId) (fn : Func) (hf : Tryz.pinned.checked.prog.funcNamed "savant/savantlaw21.LabWrong" = some f) (hfn : Tryz.pinned.checked.prog.funcs[f]? = some fn) :
    true = Tryz.pinned.checked.prog.looks [] ∧ ∀ (j : Nat) t, fn.params[j]? = some t → Tryz.pinned.checked.prog.wantsStandIn t = false := by
  obtain rfl : f = 4 := Option.some.inj ((show Tryz.prog.funcNamed "savant/savantlaw21.LabWrong" = some 4 by kernel_rfl).symm.trans hf) |>.symm
  obtain rfl : fn = Tryz.f4 := (Option.some.inj (Tryz.func4.symm.trans hfn)).symm
  refine ⟨labWrong_looks, fun j t ht => ?_⟩
  rw [Tryz.params4] at ht
  have hm : t ∈ [3, 3, 9] := by simpa using Array.mem_of_getElem? ht
  have hall : ([3, 3, 9].all fun u => !Tryz.prog.wantsStandIn u) = true := by kernel_rfl
  exact (show Tryz.prog.wantsStandIn t = false by simpa using List.all_eq_true.1 hall t hm)
theorem labWrong_card : Rows.LabWrongCardSaid :=
  Claim7.holds_tied_plain_at .later [] _ _ _ _ labWrong_said (fun _ h => by cases h) labWrong_wf (fun _ h => by cases h) labWrong_row_tie rfl ⟨rfl, rfl⟩ labWrong_main rfl labWrong_plain labWrong_goes
end Go.Proofs.YtjapdmdlcechhaaGreatDoor
