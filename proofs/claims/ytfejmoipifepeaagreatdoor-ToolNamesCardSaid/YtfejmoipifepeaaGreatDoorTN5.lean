/- ToolNames: for every name the law returns true, and it reads behind the call as before; the listed variables are tied to the text. -/
import Derived.Test.YtfejmoipifepeaaGreatDoorTN4
set_option linter.unusedSimpArgs false
set_option linter.unusedVariables false
set_option linter.unusedSectionVars false
namespace Go.Proofs.YtfejmoipifepeaaGreatDoor
open Go
theorem tn_wfText : Rows.toolNamesRow.wfByText (OpenSpec.ofChange Rows.toolNamesSpec) = true := by kernel_rfl
theorem tn_main : Tryz.prog.mainIs = some (true, "4695c7f9a97dd2354fc811bee8fcb7850b7b2d70dc2d00884d7525693dde5314".toList) := by kernel_rfl
theorem tn_looks : true = Tryz.prog.looks [] := by kernel_rfl
theorem tn_standIn : ([9].all fun u => !Tryz.prog.wantsStandIn u) = true := by kernel_rfl
theorem tn_goes : false = Rows.toolNamesRow.goesBy Tryz.prog := by kernel_rfl
theorem toolNames_card : Rows.ToolNamesCardSaid :=
  Claim7.holds_tied_plain_at .later [] [.data, .data, .data, .data, .sentinel, .sentinel, .pinned] true (true, "4695c7f9a97dd2354fc811bee8fcb7850b7b2d70dc2d00884d7525693dde5314") true
    tn_holds (fun _ h => by cases h) tn_wfText (fun _ h => by cases h) toolNames_row_tie rfl ⟨rfl, rfl⟩ tn_main rfl
    (fun f fn hf hfn => by
      obtain rfl : f = 8 := Option.some.inj (tn_named8.symm.trans hf) |>.symm
      obtain rfl : fn = Tryz.f8 := (Option.some.inj (Tryz.func8.symm.trans hfn)).symm
      exact ⟨tn_looks, fun j t ht => by
        rw [show Tryz.pinned.checked.prog = Tryz.prog from rfl]
        rw [Tryz.params8] at ht
        have hm : t ∈ [9] := by simpa using Array.mem_of_getElem? ht
        exact (show Tryz.prog.wantsStandIn t = false by simpa using List.all_eq_true.1 tn_standIn t hm)⟩)
    tn_goes
#print axioms toolNames_card
end Go.Proofs.YtfejmoipifepeaaGreatDoor
