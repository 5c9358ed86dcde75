/- ToolNames, its runs: runs that need no memory but their own; the runs by the kernel. -/
import Derived.Test.YtfejmoipifepeaaGreatDoorFN2
set_option linter.unusedSimpArgs false
set_option linter.unusedVariables false
set_option linter.unusedSectionVars false
namespace Go.Proofs.YtfejmoipifepeaaGreatDoor
open Go Go.Rx
noncomputable section

/- A run on values that need no memory: it ends in true, and turns nothing that was there. -/
theorem run_plain {G : Cfg} {env : Env} (hE : EOk Tryz.prog env G) (fuel f : Nat) {args : List AV} {vals : List Value} (hv : toVs env (ren0 G.G) args = some vals)
    (hr : isTrue (evalF Tryz.prog G xt fuel f args .nil G.G) = true) (hc : ∀ args w, (callFunc f args).run Tryz.prog w = .ok (.enter f args) w) (w : World) :
    Calls Tryz.prog f vals.toArray w fun e w' => e = .returned (.bool true) ∧ RowKit.Below w.heap.size w w' := by
  obtain ⟨h', n', he⟩ := isTrue_ok hr
  have hnil : ∀ i, (T.nil : T AObj).get i = none := fun i => rfl
  have hrep : Rep env (ren0 G.G) (T.nil : T AObj).get w := ⟨fun i o h => (by rw [hnil] at h; cases h), fun i j p q o o' hi => (by rw [hnil] at hi; cases hi)⟩
  rcases evalF_ok hE progOk fuel f args .nil G.G _ _ _ he (ren0 G.G) w vals hrep (fun g hg => ⟨0, by simp [ren0, hg]⟩) hv (fun i hi _ => by simp [ren0]; omega) with ⟨_, h⟩ | ⟨V, w', h, _⟩
  · refine h.mono fun e w' ⟨V, h1, ρ', h2, h3, h4⟩ => ?_
    subst h1
    simp only [AV.toV] at h2
    cases h2
    exact ⟨rfl, h4.os, h4.tape, h4.output, h4.size, fun b hb => h4.keeps b hb fun ⟨i, o, p, hi, _⟩ => (by rw [hnil] at hi; cases hi)⟩
  · rw [hc] at h; cases h

def tnRun (ne : List (List UInt8)) (a : AV) : Bool := isTrue (evalF Tryz.prog (cfg2 (0, 9223372036854775807) (0, 0) ne) xt 60 8 [a] .nil 12)
theorem tn_none : tnRun toolTools (.scat [.var 0]) = true := by kernel_rfl
theorem tn_1 : ((toolTools.take 3).all fun s => tnRun [] (.str s)) = true := by kernel_rfl
theorem tn_2 : (((toolTools.drop 3).take 3).all fun s => tnRun [] (.str s)) = true := by kernel_rfl
theorem tn_3 : (((toolTools.drop 6).take 3).all fun s => tnRun [] (.str s)) = true := by kernel_rfl
theorem tn_4 : ((toolTools.drop 9).all fun s => tnRun [] (.str s)) = true := by kernel_rfl
end
end Go.Proofs.YtfejmoipifepeaaGreatDoor
