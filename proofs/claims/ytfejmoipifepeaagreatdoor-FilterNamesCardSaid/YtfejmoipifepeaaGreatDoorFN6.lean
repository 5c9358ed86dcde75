/- FilterNames: the card. -/
import Derived.Test.YtfejmoipifepeaaGreatDoorFN5
import Derived.Test.YtfejmoipifepeaaGreatDoorFF4
set_option linter.unusedSimpArgs false
set_option linter.unusedVariables false
set_option linter.unusedSectionVars false
namespace Go.Proofs.YtfejmoipifepeaaGreatDoor
open Go
theorem fn_named4 : Tryz.prog.funcNamed "seabag/seabaglaw22.FilterNames" = some 4 := by kernel_rfl
theorem fn_inst4 : Tryz.f4.isInstance Tryz.prog Rows.filterNamesRow.origin Rows.filterNamesRow.targs := of_decide_eq_true (by kernel_rfl)
theorem fn_wrap4 : Tryz.f4.isWrapper Tryz.prog Rows.filterNamesRow.wrapper Rows.filterNamesRow.mainSum := by
  unfold Func.isWrapper
  first | (rw [if_pos (by decide +kernel)]; kernel_rfl) | (rw [if_neg (by decide +kernel)]; exact ⟨rfl, rfl⟩)
theorem fn_holds : Rows.FilterNamesSaid :=
  OpenClaim.holds_of_wide (p := Tryz.pinned) 4 Tryz.f4 rfl rfl rfl rfl rfl rfl rfl ⟨rfl, rfl, rfl, rfl, rfl⟩ rfl rfl rfl rfl rfl fn_named4 Tryz.func4 facts4 fn_inst4 fn_wrap4
    (fun os started H enc _ => fn_lifted os started H enc)
end Go.Proofs.YtfejmoipifepeaaGreatDoor
