/- FilterNames: whatever the input. -/
import Derived.Test.YtfejmoipifepeaaGreatDoorFN2
import Derived.Test.YtfejmoipifepeaaGreatDoorRows
import Derived.WalkKit
import Derived.ProofKit
import Derived.Lib.LaidU8
import Derived.Lay
import Derived.LaidOnce
import Derived.Carry
set_option linter.unusedSimpArgs false
set_option linter.unusedVariables false
set_option linter.unusedSectionVars false
namespace Go.Proofs.YtfejmoipifepeaaGreatDoor
open Go Go.Rx

theorem str_bytes (s : ByteArray) : (ByteArray.mk s.data.toList.toArray) = s := by simp

theorem fn_any (s : ByteArray) (a : Option Addr) (len cap : Nat) (hs : s.size ≤ 9223372036854775807) (hl : len ≤ 9223372036854775807) (w : World) (hw : AscAt w) :
    Calls Tryz.prog 4 #[.string s, .slice a len cap] w fun e w' => e = .returned (.bool true) ∧ RowKit.Below w.heap.size w w' := by
  have hlen : s.data.toList.length = s.size := by rw [Array.length_toList]; rfl
  have hargs : ∀ {r0 r1 : Int × Int} {ne : List (List UInt8)} (_ : EOk Tryz.prog (env2 s.data.toList (.slice a len cap) len) (cfg2 r0 r1 ne)),
      isTrue (evalF Tryz.prog (cfg2 r0 r1 ne) xt 60 4 [.scat [.var 0], .sym 1] heap0 12) = true → Calls Tryz.prog 4 #[.string s, .slice a len cap] w fun e w' => e = .returned (.bool true) ∧ RowKit.Below w.heap.size w w' := by
    intro r0 r1 ne hE hr
    have := run_true hE (show 1 < 12 by omega) 60 4 (args := [.scat [.var 0], .sym 1]) (vals := [.string s, .slice a len cap]) (by simp [toVs, AV.toV, segs, env2, Value.oneCell']) hr Tryz.call4 w hw
    exact this
  by_cases h1 : 100 < s.size
  · exact hargs (eok2 (by rw [hlen]; constructor <;> simp only <;> omega) (by constructor <;> simp only <;> omega) (by simp)) fn_long
  · by_cases h2 : 30 < len
    · exact hargs (eok2 (by rw [hlen]; constructor <;> simp only <;> omega) (by constructor <;> simp only <;> omega) (by simp)) fn_many
    · by_cases h3 : s.data.toList ∈ filterTools
      · have hall := List.all_eq_true.1 fn_all _ h3
        have hE := eok2 (r0 := (0, 100)) (r1 := (0, 30)) (ne := []) (s := s.data.toList) (a := a) (len := len) (cap := cap) (by rw [hlen]; constructor <;> simp only <;> omega) (by constructor <;> simp only <;> omega) (by simp)
        exact run_true hE (show 1 < 12 by omega) 60 4 (args := [.str s.data.toList, .sym 1]) (vals := [.string s, .slice a len cap]) (by simp [toVs, AV.toV, env2, Value.oneCell']) hall Tryz.call4 w hw
      · exact hargs (eok2 (by rw [hlen]; constructor <;> simp only <;> omega) (by constructor <;> simp only <;> omega) (fun u hu e => h3 (e ▸ hu))) fn_none
end Go.Proofs.YtfejmoipifepeaaGreatDoor
