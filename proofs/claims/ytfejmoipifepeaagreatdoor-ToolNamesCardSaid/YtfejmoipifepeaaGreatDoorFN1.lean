/- FN1: what is asked of the program, and a run that ends in true: it returns true and turns nothing. -/
import Derived.Test.YtfejmoipifepeaaGreatDoorProg
import Derived.KernelRfl
import Derived.Test.YtfejmoipifepeaaGreatDoorRxG8
set_option linter.unusedSimpArgs false
set_option linter.unusedVariables false
set_option linter.unusedSectionVars false
open Go Go.Rx
namespace Go.Proofs.YtfejmoipifepeaaGreatDoor
noncomputable section

def xt (f : Nat) : Option Ext := if Nat.beq f 196 then some .indexByte else if Nat.beq f 147 then some .count else if Nat.beq f 284 then some .compare else if Nat.beq f 186 then some .noEscape else none

theorem ext196 : ExtIs Tryz.prog 196 .indexByte := ⟨_, Tryz.func196, by kernel_rfl, by kernel_rfl, by kernel_rfl, by kernel_rfl⟩
theorem ext147 : ExtIs Tryz.prog 147 .count := ⟨_, Tryz.func147, by kernel_rfl, by kernel_rfl, by kernel_rfl, by kernel_rfl⟩
theorem ext284 : ExtIs Tryz.prog 284 .compare := ⟨_, Tryz.func284, by kernel_rfl, by kernel_rfl, by kernel_rfl, by kernel_rfl⟩
theorem ext186 : ExtIs Tryz.prog 186 .noEscape := ⟨_, Tryz.func186, by kernel_rfl, by kernel_rfl, by kernel_rfl, by kernel_rfl⟩

def namesOk (P : Program) : Bool := P.funcs.toList.all fun fn => fn.body.isNone || !(fn.name == "runtime.NumGoroutine")
theorem names_ok : namesOk Tryz.prog = true := by kernel_rfl

theorem progOk : ProgOk Tryz.prog xt where
  orders := by kernel_rfl
  names := fun f fn hf hb => by
    have h := List.all_eq_true.1 names_ok fn (Array.mem_def.1 (Array.mem_of_getElem? hf))
    intro e
    rw [e] at h
    cases hbd : fn.body with
    | none => rw [hbd] at hb; cases hb
    | some c => rw [hbd] at h; simp at h
  ext := fun f x h => by
    unfold xt at h
    split at h
    · rename_i e; have e : f = 196 := by simpa using e
      cases h; subst e; exact ext196
    · split at h
      · rename_i e; have e : f = 147 := by simpa using e
        cases h; subst e; exact ext147
      · split at h
        · rename_i e; have e : f = 284 := by simpa using e
          cases h; subst e; exact ext284
        · split at h
          · rename_i e; have e : f = 186 := by simpa using e
            cases h; subst e; exact ext186
          · cases h

def isTrue : Option (AV × T AObj × Nat) → Bool
  | some (.bool true, _, _) => true
  | _ => false

theorem isTrue_ok {r : Option (AV × T AObj × Nat)} (h : isTrue r = true) : ∃ h' n', r = some (.bool true, h', n') := by
  unfold isTrue at h
  split at h
  · exact ⟨_, _, rfl⟩
  · cases h

def szOf (P : Program) (t : TypeId) : Nat := match P.info? t with
  | some i => i.size
  | none => 0

def ren0 (G : Nat) : Ren := fun i => if i < G then some ⟨i, 0, 0⟩ else none

/- The library's table of the white letters below 128. -/
noncomputable def asc : List AV := (List.range 256).map fun i => .int .u8 (if Nat.beq i 32 || (Nat.ble 9 i && Nat.ble i 13) then 1 else 0)

noncomputable def heap0 : T AObj := match T.put K .nil 1 (some (.rom asc)) with
  | some t => t
  | none => .nil

theorem heap0_get (i : Nat) : heap0.get i = if i = 1 then some (.rom asc) else none := by
  have h : ∃ t, T.put K (.nil : T AObj) 1 (some (.rom asc)) = some t := by
    cases h : T.put K (.nil : T AObj) 1 (some (.rom asc)) with
    | some t => exact ⟨t, rfl⟩
    | none =>
      have k : (T.put K (.nil : T AObj) 1 (some (.rom asc))).isNone = false := by kernel_rfl
      rw [h] at k; cases k
  obtain ⟨t, ht⟩ := h
  have : heap0 = t := by unfold heap0; rw [ht]
  rw [this, T.get_put _ _ _ _ _ ht]
  split
  · rfl
  · rfl

/- What is asked of the world: the table. -/
def AscAt (w : World) : Prop := ∃ c e fz, w.heap[1]? = some (.cells c e fz) ∧ ∀ i, i < 256 → c[i]? = some (.int .u8 (if Nat.beq i 32 || (Nat.ble 9 i && Nat.ble i 13) then 1 else 0))

/- A run on values that need no memory but the table: it ends in true, and turns nothing that was there. -/
theorem run_true {G : Cfg} {env : Env} (hE : EOk Tryz.prog env G) (hG : 1 < G.G) (fuel f : Nat) {args : List AV} {vals : List Value} (hv : toVs env (ren0 G.G) args = some vals)
    (hr : isTrue (evalF Tryz.prog G xt fuel f args heap0 G.G) = true) (hc : ∀ args w, (callFunc f args).run Tryz.prog w = .ok (.enter f args) w) (w : World) (hw : AscAt w) :
    Calls Tryz.prog f vals.toArray w fun e w' => e = .returned (.bool true) ∧ RowKit.Below w.heap.size w w' := by
  obtain ⟨h', n', he⟩ := isTrue_ok hr
  have hr1 : ren0 G.G 1 = some ⟨1, 0, 0⟩ := by simp [ren0, hG]
  have hrep : Rep env (ren0 G.G) heap0.get w := by
    refine ⟨fun i o h => ?_, fun i j p q o o' hi hj _ _ _ => ?_⟩
    · rw [heap0_get] at h
      split at h
      · rename_i e; subst e
        cases h
        obtain ⟨c, e, fz, h1, h2⟩ := hw
        refine ⟨_, _, hr1, h1, c, e, fz, rfl, fun k v hk => ?_⟩
        have hk256 : k < 256 := by
          have := (List.getElem?_eq_some_iff.1 hk).1
          simpa [asc] using this
        simp only [asc, List.map_map, List.getElem?_map, List.getElem?_range hk256, Option.map_some, Function.comp] at hk
        cases hk
        exact ⟨_, rfl, by simpa using h2 k hk256⟩
      · cases h
    · rw [heap0_get] at hi hj
      split at hi
      · split at hj
        · omega
        · cases hj
      · cases hi
  rcases evalF_ok hE progOk fuel f args heap0 G.G _ _ _ he (ren0 G.G) w vals hrep (fun g hg => ⟨0, by simp [ren0, hg]⟩) hv (fun i hi _ => by simp [ren0]; omega) with ⟨_, h⟩ | ⟨V, w', h, _⟩
  · refine h.mono fun e w' ⟨V, h1, ρ', h2, h3, h4⟩ => ?_
    subst h1
    simp only [AV.toV] at h2
    cases h2
    refine ⟨rfl, h4.os, h4.tape, h4.output, h4.size, fun b hb => ?_⟩
    by_cases e : b = 1
    · subst e
      exact (h4.rom 1 asc ⟨1, 0, 0⟩ (by rw [heap0_get]; rfl) hr1).1
    · refine h4.keeps b hb fun ⟨i, o, p, hi, hp, hb⟩ => ?_
      rw [heap0_get] at hi
      split at hi
      · rename_i ei; subst ei
        rw [hr1] at hp; cases hp
        exact e hb.symm
      · cases hi
  · rw [hc] at h; cases h
end
end Go.Proofs.YtfejmoipifepeaaGreatDoor
