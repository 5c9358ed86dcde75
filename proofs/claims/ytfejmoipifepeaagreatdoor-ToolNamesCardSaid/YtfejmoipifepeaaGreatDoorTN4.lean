/- ToolNames: for every name the law returns true, and it reads behind the call as before. -/
import Derived.Test.YtfejmoipifepeaaGreatDoorTN3
import Derived.Test.YtfejmoipifepeaaGreatDoorFF8
set_option linter.unusedSimpArgs false
set_option linter.unusedVariables false
set_option linter.unusedSectionVars false
namespace Go.Proofs.YtfejmoipifepeaaGreatDoor
open Go
theorem tn_named8 : Tryz.prog.funcNamed "seabag/seabaglaw23.ToolNames" = some 8 := by kernel_rfl
theorem tn_inst8 : Tryz.f8.isInstance Tryz.prog Rows.toolNamesRow.origin Rows.toolNamesRow.targs := of_decide_eq_true (by kernel_rfl)
theorem tn_wrap8 : Tryz.f8.isWrapper Tryz.prog Rows.toolNamesRow.wrapper Rows.toolNamesRow.mainSum := by
  unfold Func.isWrapper
  first | (rw [if_pos (by decide +kernel)]; kernel_rfl) | (rw [if_neg (by decide +kernel)]; exact ⟨rfl, rfl⟩)
theorem tn_holds : Rows.ToolNamesSaid :=
  OpenClaim.holds_of_wide (p := Tryz.pinned) 8 Tryz.f8 rfl rfl rfl rfl rfl rfl rfl ⟨rfl, rfl, rfl, rfl, rfl⟩ rfl rfl rfl rfl rfl tn_named8 Tryz.func8 facts8 tn_inst8 tn_wrap8
    (fun os started H enc _ => tn_lifted os started H enc)
end Go.Proofs.YtfejmoipifepeaaGreatDoor
