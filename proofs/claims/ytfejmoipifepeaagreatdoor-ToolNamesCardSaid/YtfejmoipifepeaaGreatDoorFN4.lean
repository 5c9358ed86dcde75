/- FilterNames: the row. -/
import Derived.Test.YtfejmoipifepeaaGreatDoorFN3
import Derived.SevenTiedAt
import Derived.Test.YtfejmoipifepeaaGreatDoorCards
import Derived.Test.YtfejmoipifepeaaGreatDoorTie
set_option linter.unusedSimpArgs false
set_option linter.unusedVariables false
set_option linter.unusedSectionVars false
namespace Go.Proofs.YtfejmoipifepeaaGreatDoor
open Go Go.Rx Go.ChangeShapes Go.WideShapes Go.ChangeAt Go.RowKit

theorem gAsc : Tryz.prog.globalNamed "strings.asciiSpace" = some 1 := by kernel_rfl
theorem tAsc : (Tryz.prog.globals[1]?).map (·.type) = some 238 := by kernel_rfl
theorem uAsc : Tryz.prog.underlying 238 = some (.array 256 5) := by kernel_rfl
theorem uByte : Tryz.prog.underlying 5 = some (.int .u8) := by kernel_rfl
theorem cByte : Tryz.prog.cellsOf 5 = 1 := by kernel_rfl
theorem cAsc : Tryz.prog.cellsOf 238 = 256 := by kernel_rfl

def ascZ : List Int := (List.range 256).map fun i => if Nat.beq i 32 || (Nat.ble 9 i && Nat.ble i 13) then 1 else 0
theorem asc_data : (Rows.laid_strings_asciiSpace : DataW Unit) = Lib.tabData .u8 ascZ := by kernel_rfl

theorem asc_at {laid : List (String × DataW Unit)} {W : World} (h : laidMet Tryz.prog laid W) (hm : ("strings.asciiSpace", Rows.laid_strings_asciiSpace) ∈ laid) : AscAt W := by
  obtain ⟨g, t, cs, fuel, p, h1, h2, h3, h4⟩ := Lib.laidMet.reads h hm
  obtain rfl := Option.some.inj (gAsc.symm.trans h1)
  obtain rfl := Option.some.inj (tAsc.symm.trans h2)
  rw [asc_data] at h4
  have hcs := Lib.cells_of_tab uAsc uByte cByte cAsc h4
  unfold World.var? at h3
  rw [gAsc] at h3
  simp only [Option.bind_some] at h3
  split at h3
  · rename_i c e fz hc
    cases h3
    refine ⟨_, e, fz, hc, fun i hi => ?_⟩
    rw [← Array.getElem?_toList, hcs]
    simp [ascZ, hi]
  · cases h3

theorem own : ownKnob Tryz.prog.godebug = none := by kernel_rfl
theorem outB : laidOutB Tryz.prog = true := by kernel_rfl

set_option maxRecDepth 100000 in
theorem fn_witness (os : Os) (H : Type) (enc : TypeId × Value → H) : ∃ (w : World) (tape : Tape) (i : Input), w.os = os ∧ (w.forCall tape i).Shaped Tryz.checked.prog ∧ i.vars = [] ∧ Input.okWide Tryz.checked.prog (w.forCall tape i) .any w.heap.size 4 i ∧
      ((Rows.filterNamesSpec.pre enc Tryz.checked.prog Tryz.f4 [] false (w.forCall tape i).memory i.args ∧ (fun w _ => laidMetH Tryz.prog Rows.filterNamesRow.laid w) (w.forCall tape i).memory i.args) ∧ sizedMet enc Tryz.checked.prog Tryz.f4 (OpenSpec.ofChange Rows.filterNamesSpec) false (w.forCall tape i).memory i.args) ∧ ({} : Assume).holds Tryz.checked.prog (lone (Frame.enter Tryz.checked.prog 4 i.args .normal) [] (w.forCall tape i)) :=
  ChangeSpec.witness_shaped (enc := enc) (C := Tryz.checked) (os := os) (X := fun w _ => laidMetH Tryz.prog Rows.filterNamesRow.laid w) false (World.laidAll Tryz.prog os Rows.filterNamesRow.laid) #[.string ⟨#[]⟩, .slice none 0 0] 8 (World.laidAll_os _ _ _)
      (World.shaped_of_ZipB (by kernel_rfl) (by kernel_rfl)) (by kernel_rfl) (by kernel_rfl) (by kernel_rfl)
      (by rw [MakeChecks.laidMetH_plain _ _ _ (by kernel_rfl)]; exact laidMet_laidAll _ (by kernel_rfl) (by kernel_rfl))
end Go.Proofs.YtfejmoipifepeaaGreatDoor
