/- FilterNames: the runs. -/
import Derived.Test.YtfejmoipifepeaaGreatDoorFN1
set_option linter.unusedSimpArgs false
set_option linter.unusedVariables false
set_option linter.unusedSectionVars false
namespace Go.Proofs.YtfejmoipifepeaaGreatDoor
open Go Go.Rx
noncomputable section

noncomputable def cfg2 (r0 r1 : Int × Int) (ne : List (List UInt8)) : Cfg :=
  { G := 12, rng := fun n => match n with | 0 => some r0 | 1 => some r1 | _ => none, ne := fun n => match n with | 0 => ne | _ => [], sl := fun n => Nat.beq n 1 }

noncomputable def env2 (s : List UInt8) (v : Value) (len : Int) : Env :=
  { val := fun n => match n with | 1 => some v | _ => none, str := fun n => match n with | 0 => some s | _ => none, int := fun n => match n with | 0 => some (s.length : Int) | 1 => some len | _ => none, sz := szOf Tryz.prog }

theorem eok2 {r0 r1 : Int × Int} {ne : List (List UInt8)} {s : List UInt8} {a : Option Addr} {len cap : Nat} (h0 : r0.1 ≤ s.length ∧ (s.length : Int) ≤ r0.2) (h1 : r1.1 ≤ len ∧ (len : Int) ≤ r1.2) (hne : ∀ u ∈ ne, s ≠ u) :
    EOk Tryz.prog (env2 s (.slice a len cap) len) (cfg2 r0 r1 ne) where
  sz := fun t i h => by simp [env2, szOf, h]
  sym := {
    rng := fun n a b h => by
      match n with
      | 0 => simp only [cfg2, Option.some.injEq] at h; subst h; exact ⟨_, rfl, h0⟩
      | 1 => simp only [cfg2, Option.some.injEq] at h; subst h; exact ⟨_, rfl, h1⟩
      | n + 2 => simp [cfg2] at h
    len := fun n u x h k => by
      match n with
      | 0 => simp only [env2, Option.some.injEq] at h k; subst h; exact k.symm
      | n + 1 => simp [env2] at h
    has := fun n u h => by
      match n with
      | 0 => exact ⟨_, rfl⟩
      | n + 1 => simp [env2] at h
    ne := fun n u v h k => by
      match n with
      | 0 => simp only [env2, Option.some.injEq] at h; subst h; exact hne v k
      | n + 1 => simp [env2] at h
    sl := fun n V x h k l => by
      match n with
      | 1 => simp only [env2, Option.some.injEq] at k l; subst k; exact ⟨_, _, _, rfl, l.symm⟩
      | 0 => simp [cfg2] at h
      | n + 2 => simp [cfg2] at h }

noncomputable def filterTools : List (List UInt8) := [[98, 97, 115, 101, 110, 97, 109, 101], [99, 97, 116], [99, 107, 115, 117, 109], [99, 109, 112], [100, 105, 114, 110, 97, 109, 101], [101, 99, 104, 111], [101, 120, 112, 114], [102, 97, 108, 115, 101], [104, 101, 97, 100], [112, 114, 105, 110, 116, 102], [116, 97, 105, 108], [116, 114, 117, 101], [117, 117, 101, 110, 99, 111, 100, 101], [119, 99]]

noncomputable def toolTools : List (List UInt8) := [[91], [99, 104, 109, 111, 100], [99, 112], [108, 110], [108, 115], [109, 107, 100, 105, 114], [109, 118], [112, 119, 100], [114, 109], [114, 109, 100, 105, 114], [116, 101, 115, 116], [117, 117, 100, 101, 99, 111, 100, 101]]

theorem fn_long : isTrue (evalF Tryz.prog (cfg2 (101, 9223372036854775807) (0, 9223372036854775807) []) xt 60 4 [.scat [.var 0], .sym 1] heap0 12) = true := by kernel_rfl
theorem fn_many : isTrue (evalF Tryz.prog (cfg2 (0, 100) (31, 9223372036854775807) []) xt 60 4 [.scat [.var 0], .sym 1] heap0 12) = true := by kernel_rfl
theorem fn_none : isTrue (evalF Tryz.prog (cfg2 (0, 100) (0, 30) filterTools) xt 60 4 [.scat [.var 0], .sym 1] heap0 12) = true := by kernel_rfl
theorem fn_all : (filterTools.all fun s => isTrue (evalF Tryz.prog (cfg2 (0, 100) (0, 30) []) xt 60 4 [.str s, .sym 1] heap0 12)) = true := by kernel_rfl
end
end Go.Proofs.YtfejmoipifepeaaGreatDoor
