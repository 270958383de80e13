/- The row's closed facts. -/
import Derived.Test.YtjneljpbkjhlmaaGreatDoorTie
import Derived.ProofKit
import Derived.Stop.Joined
set_option linter.unusedVariables false
set_option linter.unusedSimpArgs false
set_option linter.unnecessarySimpa false
set_option linter.unusedSectionVars false
set_option maxRecDepth 100000
namespace Go.Proofs.YtjneljpbkjhlmaaGreatDoor
open Go
def clo : List FuncId := [3, 4, 14, 5, 15, 7, 16, 8, 20, 36, 40, 88, 79, 82, 144, 81, 80, 143, 83, 43, 89, 37, 84, 38, 39, 85, 145, 86, 87, 146, 193, 41, 21, 35, 6, 9, 22, 23, 24, 34, 25, 42, 54, 50, 95, 153, 102, 154, 44, 45, 91, 90, 110, 46, 92, 147, 194, 148, 94, 150, 196, 267, 335, 375, 376, 337, 378, 381, 398, 394, 395, 396, 403, 336, 197, 268, 377, 393, 151, 338, 379, 152, 93, 149, 195, 27, 26, 47, 17, 28, 48, 57, 111, 49, 96, 51, 97, 98, 155, 198, 29, 53, 52, 99, 156, 199, 269, 270, 271, 339, 272, 340, 380, 342, 397, 200, 273, 341, 274, 343, 382, 275, 276, 277, 278, 279, 344, 157, 201, 203, 281, 202, 280, 345, 206, 283, 346, 284, 347, 383, 399, 404, 406, 205, 204, 282, 158, 207, 100, 159, 161, 160, 162, 163, 208, 209, 285, 211, 210, 286, 348, 384, 349, 310, 311, 312, 350, 101, 103, 165, 221, 222, 164, 212, 218, 292, 213, 287, 214, 288, 289, 215, 290, 291, 351, 216, 217, 219, 220, 104, 55, 105, 166, 223, 293, 294, 295, 352, 385, 224, 106, 167, 225, 226, 296, 227, 228, 297, 298, 353, 229, 230, 231, 232, 107, 108, 168, 233, 299, 56, 109, 169, 170, 234, 300, 30, 58, 112, 113, 114, 171, 131, 235, 72, 132, 173, 133, 134, 135, 136, 187, 261, 262, 334, 374, 137, 138, 188, 189, 265, 264, 263, 60, 59, 61, 115, 172, 68, 62, 116, 64, 65, 63, 117, 31, 66, 67, 118, 120, 174, 122, 176, 175, 236, 119, 121, 123, 177, 237, 301, 302, 354, 386, 400, 401, 405, 407, 355, 303, 304, 305, 306, 356, 307, 238, 239, 309, 313, 357, 387, 388, 358, 359, 360, 361, 308, 362, 178, 240, 314, 241, 242, 315, 124, 179, 243, 244, 245, 316, 317, 246, 318, 319, 363, 389, 247, 320, 322, 365, 366, 390, 321, 364, 249, 248, 323, 250, 324, 251, 252, 325, 367, 253, 254, 32, 69, 70, 125, 180, 126, 181, 255, 326, 327, 368, 369, 260, 332, 333, 373, 392, 331, 371, 372, 391, 402, 370, 329, 256, 328, 182, 184, 257, 127, 183, 258, 259, 330, 71, 128, 185, 129, 186, 130, 73, 139, 140, 190, 191, 33, 75, 74, 76, 77, 141, 142, 192, 266, 78, 19, 18, 10, 11, 12, 13]
theorem clo3 : Tryz.prog.closure 3 = clo := by kernel_rfl
theorem fInPlace : Rows.schedNoneRow.inPlace = Tryz.prog.inPlace 3 := by
  unfold Program.inPlace; rw [clo3]; kernel_rfl
theorem fUnf : Rows.schedNoneRow.unfollowed = Tryz.prog.unfollowed 3 := by
  unfold Program.unfollowed; rw [clo3]; kernel_rfl
theorem fRec : Rows.schedNoneRow.recurses = Tryz.prog.recurses 3 := by
  unfold Program.recurses; rw [← fUnf]; rfl
theorem fNamed : Rows.schedNoneRow.named = Tryz.prog.varsNamed 3 := by
  unfold Program.varsNamed; rw [clo3]; kernel_rfl
end Go.Proofs.YtjneljpbkjhlmaaGreatDoor
