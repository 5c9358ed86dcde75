/- FilterNames: for every name and every list of arguments the law returns true, and both read behind the call as before; the listed variables are tied to the text. -/
import Derived.Test.YtfejmoipifepeaaGreatDoorFN6
set_option linter.unusedSimpArgs false
set_option linter.unusedVariables false
set_option linter.unusedSectionVars false
namespace Go.Proofs.YtfejmoipifepeaaGreatDoor
open Go
theorem fn_wfText : Rows.filterNamesRow.wfByText (OpenSpec.ofChange Rows.filterNamesSpec) = true := by kernel_rfl
theorem fn_main : Tryz.prog.mainIs = some (true, "4695c7f9a97dd2354fc811bee8fcb7850b7b2d70dc2d00884d7525693dde5314".toList) := by kernel_rfl
theorem fn_looks : true = Tryz.prog.looks [] := by kernel_rfl
theorem fn_standIn : ([9, 25].all fun u => !Tryz.prog.wantsStandIn u) = true := by kernel_rfl
theorem fn_goes : false = Rows.filterNamesRow.goesBy Tryz.prog := by kernel_rfl
theorem filterNames_card : Rows.FilterNamesCardSaid :=
  Claim7.holds_tied_plain_at .later [] [.data, .data, .data, .data, .sentinel, .sentinel, .listed, .data, .pinned, .pinned] true (true, "4695c7f9a97dd2354fc811bee8fcb7850b7b2d70dc2d00884d7525693dde5314") true
    fn_holds (fun _ h => by cases h) fn_wfText (fun _ h => by cases h) filterNames_row_tie rfl ⟨rfl, rfl⟩ fn_main rfl
    (fun f fn hf hfn => by
      obtain rfl : f = 4 := Option.some.inj (fn_named4.symm.trans hf) |>.symm
      obtain rfl : fn = Tryz.f4 := (Option.some.inj (Tryz.func4.symm.trans hfn)).symm
      exact ⟨fn_looks, fun j t ht => by
        rw [show Tryz.pinned.checked.prog = Tryz.prog from rfl]
        rw [Tryz.params4] at ht
        have hm : t ∈ [9, 25] := by simpa using Array.mem_of_getElem? ht
        exact (show Tryz.prog.wantsStandIn t = false by simpa using List.all_eq_true.1 fn_standIn t hm)⟩)
    fn_goes
#print axioms filterNames_card
end Go.Proofs.YtfejmoipifepeaaGreatDoor
