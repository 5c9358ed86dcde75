/- FilterNames: the row and the card. -/
import Derived.Test.YtfejmoipifepeaaGreatDoorFN4
import Derived.ChangeMaps5
set_option linter.unusedSimpArgs false
set_option linter.unusedVariables false
set_option linter.unusedSectionVars false
namespace Go.Proofs.YtfejmoipifepeaaGreatDoor
open Go Go.Rx Go.ChangeShapes Go.WideShapes Go.ChangeAt Go.WideMaps Go.WideElems Go.ChangeMaps Go.RowKit

set_option maxRecDepth 100000 in
theorem fn_lifted (os : Os) (started : os.Started) (H : Type) (enc : TypeId × Value → H) :
    ReturnsInHanded {} Tryz.checked os 4 .any (fun w args => (Rows.filterNamesSpec.pre enc Tryz.prog Tryz.f4 [] false w args ∧ laidMetH Tryz.prog Rows.filterNamesRow.laid w) ∧ sizedMet enc Tryz.prog Tryz.f4 (OpenSpec.ofChange Rows.filterNamesSpec) false w args)
      (Rows.filterNamesSpec.post enc Tryz.prog Tryz.f4 false true false false) := by
  refine returnsInHanded_of_change_and (C := Tryz.checked) (X := fun w _ => laidMetH Tryz.prog Rows.filterNamesRow.laid w) (fun _ _ _ hh h => h.of_heap hh) own started (by kernel_rfl) Tryz.func4
    (fn_witness os H enc) ?_
  intro W base args ds gs before hval0 hW _ _ hL _
  have hval : ∀ (j : Nat) t v, Tryz.f4.params[j]? = some t → args[j]? = some v → Value.okWide Tryz.prog W .any base t v := hval0
  have hW' := hW
  obtain ⟨p, q, hA0, hV, rfl, _, _⟩ := hW
  have hA : DataW.TrodAll enc Tryz.prog W 0 (fun _ => true) true Tryz.f4.params.toList args.toList ds p := hA0
  rw [Tryz.params4] at hA hval
  obtain ⟨v0, v1, d0, d1, p0, p1, rfl, rfl, rfl, h0, h1⟩ := trodAll_two hA
  obtain ⟨rfl, rfl⟩ := trodVars_none hV
  obtain ⟨s, rfl, rfl, rfl, hs⟩ := open_string Tryz.underlying9 (hval 0 9 v0 rfl rfl) h0
  simp only [List.append_nil] at hW'
  rw [MakeChecks.laidMetH_plain _ _ _ (by kernel_rfl)] at hL
  have hasc : AscAt W := asc_at hL (by simp [Rows.filterNamesRow])
  have hlt1 : ∀ x ∈ p1, x.block < W.heap.size := fun x hx => by
    obtain ⟨n, hn⟩ := h1
    exact DataW.trod_lt n _ _ _ hn x hx
  have u25 : Tryz.prog.underlying 25 = some (.slice 9) := by kernel_rfl
  obtain ⟨a, len, cap, rfl, hlen⟩ : ∃ a len cap, v1 = .slice a len cap ∧ len ≤ 9223372036854775807 := by
    obtain ⟨a, len, cap, rfl⟩ := okWide_slice u25 (hval 1 25 v1 rfl rfl)
    obtain ⟨n, hn⟩ := h1
    rcases DataW.trod_slice u25 hn with ⟨hc, _⟩ | ⟨a', len', cap', _, _, _, _, hc, _, _, hle, hm, _⟩
    · simp [Value.cells] at hc
      exact ⟨_, _, _, rfl, by omega⟩
    · simp [Value.cells] at hc
      have : cap' ≤ 9223372036854775807 := hm
      exact ⟨_, _, _, rfl, by omega⟩
  refine (fn_any s a len cap hs hlen W hasc).mono fun e W' ⟨he, hb⟩ => ?_
  subst he
  exact ⟨_, rfl, _, _, _, [], p1, [], hW', trodAll_mk1 (shut_bool (by kernel_rfl) _), trodAll_mk2 (shut_string Tryz.underlying9 hs) (hb.trod outB (by kernel_rfl) (of_decide_eq_true (by kernel_rfl)) h1 hlt1), rfl, hb.frame _, fun h => by cases h⟩
end Go.Proofs.YtfejmoipifepeaaGreatDoor
