/- toolNamesSpec: the row's closed facts, one by one. -/
import Derived.Test.YtfejmoipifepeaaGreatDoorRows
import Derived.JoinedOf
set_option linter.unusedSimpArgs false
set_option linter.unusedVariables false
set_option linter.unusedSectionVars false
namespace Go.Proofs.YtfejmoipifepeaaGreatDoor
open Go
theorem clos8 : Tryz.prog.closure 8 = [8, 17, 19, 49, 20, 50, 52, 85, 145, 197, 232, 233, 260, 259, 261, 234, 235, 262, 263, 280, 281, 98, 99, 100, 153, 202, 241, 267, 268, 203, 242, 269, 243, 244, 270, 245, 101, 102, 28, 67, 62, 83, 144, 196, 121, 180, 201, 122, 165, 209, 246, 146, 271, 282, 87, 147, 148, 198, 237, 238, 239, 264, 105, 163, 123, 69, 135, 124, 162, 59, 181, 215, 223, 252, 253, 254, 274, 284, 29, 125, 111, 126, 51, 103, 22, 60, 120, 53, 104, 106, 164, 166, 167, 210, 72, 107, 168, 211, 212, 213, 247, 214, 248, 272, 249, 273, 283, 169, 30, 61, 70, 127, 71, 134, 132, 73, 128, 182, 224, 225, 255, 256, 275, 285, 183, 226, 66, 133, 184, 185, 27, 68, 54, 108, 170, 171, 109, 110, 79, 139, 140, 192, 172, 55, 56, 112, 173, 216, 217, 218, 250, 113, 24, 63, 64, 129, 131, 130, 26, 21, 174, 219, 119, 25, 65, 114, 154, 115, 57, 116, 175, 220, 176, 117, 58, 118, 177, 221, 251, 178, 89, 151, 179, 222, 75, 136, 186, 76, 34, 35, 16, 15] := by kernel_rfl
theorem inPlace8 : Tryz.prog.inPlace 8 = ["internal/bytealg.IndexByteString", "internal/bytealg.CountString", "internal/bytealg.IndexString", "internal/bytealg.abigen_runtime_cmpstring", "slices.overlaps[seabag/dir.Entry]", "internal/abi.NoEscape"] := by
  unfold Program.inPlace
  rw [clos8]
  kernel_rfl
theorem unf8 : Tryz.prog.unfollowed 8 = true := by
  unfold Program.unfollowed
  rw [clos8]
  kernel_rfl
theorem rec8 : Tryz.prog.recurses 8 = true := by
  unfold Program.recurses
  rw [unf8]
  rfl
theorem named8 : Tryz.prog.varsNamed 8 = ["internal/strconv.uint64pow10", "math/bits.deBruijn32tab", "math/bits.deBruijn64tab", "strconv.ErrSyntax", "strconv.ErrRange", "unicode/utf8.first", "unicode/utf8.acceptRanges", "internal/bytealg.MaxLen"] := by
  unfold Program.varsNamed
  rw [clos8]
  kernel_rfl
theorem facts8 : joinedFacts Tryz.prog 8 Tryz.f8 Rows.toolNamesSpec Rows.toolNamesRow = true := by
  unfold joinedFacts
  rw [inPlace8, unf8, rec8, named8]
  kernel_rfl
end Go.Proofs.YtfejmoipifepeaaGreatDoor
