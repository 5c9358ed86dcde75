/- ToolNames: whatever the input; the witness; the row. -/
import Derived.Test.YtfejmoipifepeaaGreatDoorTN1
import Derived.Test.YtfejmoipifepeaaGreatDoorFN5
set_option linter.unusedSimpArgs false
set_option linter.unusedVariables false
set_option linter.unusedSectionVars false
namespace Go.Proofs.YtfejmoipifepeaaGreatDoor
open Go Go.Rx Go.ChangeShapes Go.WideShapes Go.ChangeAt Go.WideMaps Go.WideElems Go.ChangeMaps Go.RowKit

theorem tn_all {s : List UInt8} (h : s ∈ toolTools) : tnRun [] (.str s) = true := by
  have hs : toolTools = toolTools.take 3 ++ ((toolTools.drop 3).take 3 ++ ((toolTools.drop 6).take 3 ++ toolTools.drop 9)) := by kernel_rfl
  rw [hs] at h
  simp only [List.mem_append] at h
  rcases h with h | h | h | h
  · exact List.all_eq_true.1 tn_1 s h
  · exact List.all_eq_true.1 tn_2 s h
  · exact List.all_eq_true.1 tn_3 s h
  · exact List.all_eq_true.1 tn_4 s h

theorem tn_any (s : ByteArray) (hs : s.size ≤ 9223372036854775807) (w : World) :
    Calls Tryz.prog 8 #[.string s] w fun e w' => e = .returned (.bool true) ∧ RowKit.Below w.heap.size w w' := by
  have hlen : s.data.toList.length = s.size := by rw [Array.length_toList]; rfl
  by_cases h3 : s.data.toList ∈ toolTools
  · have hE := eok2 (r0 := (0, 9223372036854775807)) (r1 := (0, 0)) (ne := []) (s := s.data.toList) (a := none) (len := 0) (cap := 0) (by rw [hlen]; constructor <;> simp only <;> omega) (by constructor <;> simp) (by simp)
    exact run_plain hE 60 8 (args := [.str s.data.toList]) (vals := [.string s]) (by simp [toVs, AV.toV]) (tn_all h3) Tryz.call8 w
  · have hE := eok2 (r0 := (0, 9223372036854775807)) (r1 := (0, 0)) (ne := toolTools) (s := s.data.toList) (a := none) (len := 0) (cap := 0) (by rw [hlen]; constructor <;> simp only <;> omega) (by constructor <;> simp) (fun u hu e => h3 (e ▸ hu))
    exact run_plain hE 60 8 (args := [.scat [.var 0]]) (vals := [.string s]) (by simp [toVs, AV.toV, segs, env2]) tn_none Tryz.call8 w

set_option maxRecDepth 100000 in
theorem tn_witness (os : Os) (H : Type) (enc : TypeId × Value → H) : ∃ (w : World) (tape : Tape) (i : Input), w.os = os ∧ (w.forCall tape i).Shaped Tryz.checked.prog ∧ i.vars = [] ∧ Input.okWide Tryz.checked.prog (w.forCall tape i) .any w.heap.size 8 i ∧
      ((Rows.toolNamesSpec.pre enc Tryz.checked.prog Tryz.f8 [] false (w.forCall tape i).memory i.args ∧ (fun w _ => laidMetH Tryz.prog Rows.toolNamesRow.laid w) (w.forCall tape i).memory i.args) ∧ sizedMet enc Tryz.checked.prog Tryz.f8 (OpenSpec.ofChange Rows.toolNamesSpec) false (w.forCall tape i).memory i.args) ∧ ({} : Assume).holds Tryz.checked.prog (lone (Frame.enter Tryz.checked.prog 8 i.args .normal) [] (w.forCall tape i)) :=
  ChangeSpec.witness_shaped (enc := enc) (C := Tryz.checked) (os := os) (X := fun w _ => laidMetH Tryz.prog Rows.toolNamesRow.laid w) false (World.laidAll Tryz.prog os Rows.toolNamesRow.laid) #[.string ⟨#[]⟩] 8 (World.laidAll_os _ _ _)
      (World.shaped_of_ZipB (by kernel_rfl) (by kernel_rfl)) (by kernel_rfl) (by kernel_rfl) (by kernel_rfl)
      (by rw [MakeChecks.laidMetH_plain _ _ _ (by kernel_rfl)]; exact laidMet_laidAll _ (by kernel_rfl) (by kernel_rfl))
end Go.Proofs.YtfejmoipifepeaaGreatDoor
