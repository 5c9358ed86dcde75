/- filterNamesSpec: the row's closed facts, one by one. -/
import Derived.Test.YtfejmoipifepeaaGreatDoorRows
import Derived.JoinedOf
set_option linter.unusedSimpArgs false
set_option linter.unusedVariables false
set_option linter.unusedSectionVars false
namespace Go.Proofs.YtfejmoipifepeaaGreatDoor
open Go
theorem clos4 : Tryz.prog.closure 4 = [4, 9, 12, 36, 74, 136, 186, 137, 187, 75, 76, 37, 47, 85, 145, 197, 232, 233, 260, 259, 261, 234, 235, 262, 263, 280, 281, 77, 138, 188, 83, 144, 196, 189, 190, 227, 191, 228, 229, 257, 276, 286, 287, 180, 201, 277, 230, 153, 202, 241, 267, 268, 203, 242, 269, 243, 244, 270, 245, 231, 207, 142, 193, 258, 278, 271, 282, 288, 289, 292, 294, 290, 279, 291, 293, 295, 296, 38, 78, 139, 168, 211, 212, 213, 247, 214, 248, 272, 249, 273, 283, 238, 237, 140, 192, 79, 80, 141, 163, 39, 81, 40, 41, 82, 143, 194, 236, 195, 42, 84, 86, 87, 146, 147, 148, 198, 239, 264, 88, 150, 149, 199, 200, 240, 265, 266, 43, 89, 151, 90, 152, 91, 92, 44, 45, 93, 134, 154, 155, 156, 204, 46, 94, 95, 157, 205, 158, 159, 160, 96, 161, 206, 208, 15, 16] := by kernel_rfl
theorem inPlace4 : Tryz.prog.inPlace 4 = ["internal/abi.NoEscape", "internal/bytealg.MakeNoZero", "internal/bytealg.IndexByteString", "internal/bytealg.IndexString", "internal/bytealg.CountString"] := by
  unfold Program.inPlace
  rw [clos4]
  kernel_rfl
theorem unf4 : Tryz.prog.unfollowed 4 = true := by
  unfold Program.unfollowed
  rw [clos4]
  kernel_rfl
theorem rec4 : Tryz.prog.recurses 4 = true := by
  unfold Program.recurses
  rw [unf4]
  rfl
theorem named4 : Tryz.prog.varsNamed 4 = ["internal/strconv.uint64pow10", "math/bits.deBruijn32tab", "math/bits.deBruijn64tab", "strconv.ErrSyntax", "strconv.ErrRange", "unicode/utf8.first", "unicode/utf8.acceptRanges", "unicode.CaseRanges", "internal/bytealg.MaxLen", "strings.asciiSpace", "unicode.White_Space"] := by
  unfold Program.varsNamed
  rw [clos4]
  kernel_rfl
theorem facts4 : joinedFacts Tryz.prog 4 Tryz.f4 Rows.filterNamesSpec Rows.filterNamesRow = true := by
  unfold joinedFacts
  rw [inPlace4, unf4, rec4, named4]
  kernel_rfl
end Go.Proofs.YtfejmoipifepeaaGreatDoor
